/- (*Table).Put. No conditions. -/
import Derived.Test.YtojbdaeidbmjgaaTabSet
import Derived.Test.YtojbdaeidbmjgaaTabPure
import Derived.WideMake
import Derived.Deep.DeepCutAuto
namespace Go.Proofs.Ytojbdaeidbmjgaa
set_option linter.unusedVariables false
set_option linter.unusedSimpArgs false
open Go.RowKit Go.Maps
/-- What Put answers, and what it makes of the table. -/
def PutRes (w0 : World) (sb : Nat) (D : DataW Unit) (en : EntL) (fit : Bool) (w : World) (e : Ending) (w' : World) : Prop :=
  Keep sb w w' ∧
    ((fit = false ∧ e = .returned (.tuple #[.int .i64 0, .int .i64 1]) ∧ TabAt w0 w' sb D) ∨
     (fit = true ∧ 1000 ≤ Maps.size D ∧ e = .returned (.tuple #[.int .i64 0, .int .i64 5]) ∧ TabAt w0 w' sb D) ∨
     (fit = true ∧ Maps.size D < 1000 ∧ ∃ h : Nat, LeastFree D h ∧ h ≤ 1000 ∧ e = .returned (.tuple #[.int .i64 h, .int .i64 0]) ∧ TabAt w0 w' sb (D.put (.int .i64 h) (entD en))))
theorem wf_small (k : Nat) (h : k ≤ 2000) : (Lit.int .i64 (k : Int)).wf = true := by
  have e1 : IntKind.i64.min = -9223372036854775808 := rfl
  have e2 : IntKind.i64.max = 9223372036854775807 := rfl
  simp [Lit.wf, e1, e2]
  omega
theorem TabAt.tidy {w0 W : World} {sb : Nat} {D : DataW Unit} (h : TabAt w0 W sb D) : Tidy D := by
  rcases h.fld with ⟨_, rfl⟩ | ⟨bm, n, _, _, _, h4⟩
  · exact tidy_empty
  · exact h4.tidy keyed_int
set_option maxRecDepth 10000 in
set_option maxHeartbeats 3200000 in
theorem put_tab (w0 : World) (sb : Nat) (D : DataW Unit) (num : Int) (b0 b1 b2 b3 : Nat) (hb : W64 [b0, b1, b2, b3]) (w : World) (hT : TabAt w0 w sb D) :
    Calls Try.prog 10 #[.pointer (some ⟨sb, 0, none⟩), .int .i64 num, bitsV b0 b1 b2 b3] w (PutRes w0 sb D ⟨num, b0, b1, b2, b3⟩ (fitsF num b0 b1 b2 b3) w) := by
  obtain ⟨ft, hft⟩ : ∃ q, fitsF num b0 b1 b2 b3 = q := ⟨_, rfl⟩
  have HF := Lib.hid (fun w => fits_calls num b0 b1 b2 b3 hb w)
  have HTI := Lib.hid hT.tidy
  unfold bitsV at HF ⊢
  rw [hft] at HF
  rw [hft]
  have HT := Lib.hid hT
  clear hft hb hT
  go_enter_defers Try.func10, Try.ntmps10
  go_wp2_with fail
  have HB0 := Lib.hid (below_alloc (Below.refl w.heap.size w) (.cells #[.int .u64 (b0 : Nat), .int .u64 (b1 : Nat), .int .u64 (b2 : Nat), .int .u64 (b3 : Nat)] 31))
  have HX0 := Lib.hid (heap_new w (.cells #[.int .u64 (b0 : Nat), .int .u64 (b1 : Nat), .int .u64 (b2 : Nat), .int .u64 (b3 : Nat)] 31))
  generalize w.alloc (.cells #[.int .u64 (b0 : Nat), .int .u64 (b1 : Nat), .int .u64 (b2 : Nat), .int .u64 (b3 : Nat)] 31) = wa at HB0 HX0 ⊢
  refine (HF.out _).mono ?_
  rintro e w1 ⟨rfl, hb1⟩
  have HB1 := Lib.hid (below_then HB0.out hb1)
  have HX1 := Lib.hid (below_heap hb1 HX0.out)
  have HT1 := Lib.hid (HT.out.grow HB1.out)
  clear hb1 HB0 HX0 HF
  cases ft
  · go_wp2
    exact ⟨_, results_tmp2 rfl _ _ _, Keep.of_below HB1.out, .inl ⟨rfl, rfl, HT1.out⟩⟩
  have HH := Lib.hid HT1.out.take
  have c0 := HT1.out.lock
  have f0 := HT1.out.free 0
  have hne : w.heap.size ≠ sb := by have := HT.out.lt; omega
  have HX2 := Lib.hid ((heap_set_other hne 0 (.int .i32 1)).trans HX1.out)
  have HK2 := Lib.hid ((Keep.of_below HB1.out).trans (Keep.of_set sb _ 0 (.int .i32 1)))
  obtain ⟨W2, hW2⟩ : ∃ W, W = w1.setCell ⟨sb, 0, none⟩ (.int .i32 1) := ⟨_, rfl⟩
  rw [← hW2] at HH HX2 HK2
  have HL := Lib.hid ((lock_free ⟨sb, 0, none⟩ _ c0 f0).mono fun e w' (h : _ ∧ _) => (⟨h.1, hW2.trans h.2.symm⟩ : e = .returned (.tuple #[]) ∧ W2 = w'))
  clear c0 f0 hne HX1 HT hW2
  go_wp2_with fail
  refine HL.out.mono ?_
  rintro e w' ⟨rfl, rfl⟩
  clear HL
  have q53 : ∀ (w : World) (r : Option Nat), (binOp .eql 53 (.map r) (.map none)).run Try.prog w = .ok (.bool r.isNone) w := fun w r => run_eql_map_nil w _ _ _ r Try.underlying53
  rcases HH.out.fld with ⟨c2, hD⟩ | ⟨bm, n, c2, hbs, hbase, hown⟩
  case' inl =>
    subst hD
    have hlen : ∀ ty, (Builtin.len_ #[53] ty #[.map none]).run Try.prog W2 = .ok (.int .i64 0) W2 := fun ty => len_nil Try.underlying53 ty
    have hba : Below W2.heap.size W2 (W2.alloc (.map #[] 0)) := below_alloc (Below.refl _ _) _
    have c2a : (W2.alloc (.map #[] 0)).cell? ⟨sb, 2, none⟩ = some (.map none) := (cell_eq (hba.block sb HH.out.lt) 2).trans c2
    have f2a : (W2.alloc (.map #[] 0)).frozen? ⟨sb, 2, none⟩ = false := (frozen_eq (hba.block sb HH.out.lt) 2).trans (HH.out.free 2)
    have hmk := run_makeMap_plain (P := Try.prog) (w := W2) 53
    have c2b : ((W2.alloc (.map #[] 0)).setCell ⟨sb, 2, none⟩ (.map (some W2.heap.size))).cell? ⟨sb, 2, none⟩ = some (.map (some W2.heap.size)) := World.cell?_setCell_same _ ⟨sb, 2, none⟩ _ c2a
    go_upto_region 9 with fail
    have hltW := HH.out.lt
    have HHM := Lib.hid HH.out.made
    have HOWN : Hid (((W2.alloc (.map #[] 0)).setCell ⟨sb, 2, none⟩ (.map (some W2.heap.size))).ownsMap Try.prog 3 entElem W2.heap.size (Maps.size (.map [] : DataW Unit)) (.map [])) :=
      Lib.hid (own_tight ((World.ownsMap_made W2 Try.prog 3 entElem).setCell (a := ⟨sb, 2, none⟩) (by show W2.heap.size ≠ sb; omega) _))
    have HBS : Hid (W2.heap.size ≠ sb) := Lib.hid (by omega)
    have HBASE : Hid (w0.heap.size ≤ W2.heap.size) := Lib.hid HH.out.bel.size
    have HXM := Lib.hid ((heap_set_other (show w.heap.size ≠ sb by have := HT1.out.lt; intro e; rw [e] at HX2; have h1 := HX2.out; have h2 := HH.out.lock; rw [cell_of_heap h1 0] at h2; simp at h2) 2 (.map (some W2.heap.size))).trans (below_heap hba HX2.out))
    have HKM := Lib.hid ((HK2.out.trans (Keep.of_below hba)).trans (Keep.of_set sb _ 2 (.map (some W2.heap.size))))
    have C2M := Lib.hid c2b
    have HSZ : Hid (Maps.size (.map [] : DataW Unit) < 1000) := Lib.hid (by simp [Maps.size])
    clear hlen hba c2a f2a hmk c2b c2 hltW HH HX2 HK2
    generalize hbm : W2.heap.size = bm at *
    generalize ((W2.alloc (.map #[] 0)).setCell ⟨sb, 2, none⟩ (.map (some bm))) = WM at *
    generalize (DataW.map [] : DataW Unit) = D at *
    clear hbm
  case' inr =>
    obtain ⟨sz, hsz⟩ : ∃ s, Maps.size D = s := ⟨_, rfl⟩
    have hlen : ∀ ty, (Builtin.len_ #[53] ty #[.map (some bm)]).run Try.prog W2 = .ok (.int .i64 (sz : Nat)) W2 := fun ty => hsz ▸ hown.len Try.underlying53 ty
    have HSE := Lib.hid hsz
    have HOWN := Lib.hid (own_tight hown)
    have HBS := Lib.hid hbs
    have HBASE := Lib.hid hbase
    have C2M := Lib.hid c2
    clear hsz hbs hbase hown
    by_cases hge : 1000 ≤ sz
    · go_wp2_with fail
      refine leaves_cons (f := 25) (args := #[.pointer (some ⟨sb, 0, none⟩)]) (by simp) (by simp [go_sem]) ?_
      refine (unlock_deferred ⟨sb, 0, none⟩ .returning _ HH.out.lock (HH.out.free 0)).mono ?_
      rintro e u' w'' ⟨rfl, rfl, rfl⟩
      exact ⟨_, results_tmp2 rfl _ _ _, HK2.out.trans (Keep.of_set sb _ 0 _), .inr (.inl ⟨rfl, by rw [HSE.out]; exact hge, rfl, HH.out.letGo⟩)⟩
    go_upto_region 9 with fail
    have HHM := HH
    have HXM := HX2
    have HKM := HK2
    have HSZ : Hid (Maps.size D < 1000) := Lib.hid (by rw [HSE.out]; omega)
    clear hlen c2 HH HX2 HK2 HSE hge
    generalize W2 = WM at *
  all_goals
    have c2 := C2M.out
    have hkey1 : keyOf Try.prog 3 (.int .i64 1) = some (.int .i64 ((1 : Nat) : Int)) := keyOf_int_mk Try.underlying3 (by decide)
    have hown1 := HOWN.out
    go_wp2_with (at_lookup; refine wpList_lookup_own_ok _ rfl _ _ 53 rfl 3 70 keyed_int Try.underlying53 entElem (zero_ent _) (entD zeroE) [] (entElem_mk zeroE) bm (Maps.size D) D rfl hown1 _ _ rfl hkey1 ?_; intro v ps hv; obtain ⟨ent, rfl, hz⟩ := entElem_inv hv; clear hv hz; obtain ⟨en, e0, e1, e2, e3⟩ := ent; simp only [entV])
    clear c2 hkey1 hown1
    have HN := Lib.hid (heap_new WM (.cells #[.int .i64 en, .int .u64 (e0 : Int), .int .u64 (e1 : Int), .int .u64 (e2 : Int), .int .u64 (e3 : Int)] 70))
    have HBN := Lib.hid (below_alloc (Below.refl WM.heap.size WM) (.cells #[.int .i64 en, .int .u64 (e0 : Int), .int .u64 (e1 : Int), .int .u64 (e2 : Int), .int .u64 (e3 : Int)] 70))
    go_loopw [8, 9, 10] (fun h g t wr => ∃ k g0 : Nat, 1 ≤ k ∧ k ≤ 1000 ∧ h = .int .i64 k ∧ g = .pointer (some ⟨g0, 0, none⟩) ∧ t = .bool (Maps.has D (.int .i64 (k : Int))) ∧ Hid (∀ j : Nat, 1 ≤ j → j < k → Maps.has D (.int .i64 (j : Int)) = true) ∧
      Hid (wr.heap[g0]? = some (.cells #[.int .i64 en, .int .u64 (e0 : Int), .int .u64 (e1 : Int), .int .u64 (e2 : Int), .int .u64 (e3 : Int)] 70 (0, 0))) ∧ Hid (Below WM.heap.size WM wr)) (fun h _ _ _ => 1001 - (intOf h).toNat)
    case atStart => exact ⟨1, _, by omega, by omega, rfl, rfl, rfl, Lib.hid (fun j h1 h2 => by omega), HN, HBN⟩
    case round =>
      obtain ⟨k, g0, hk1, hk2, rfl, rfl, rfl, HA, HG, HBW⟩ := hrel
      clear HN HBN
      have c2 : wr.cell? ⟨sb, 2, none⟩ = some (.map (some bm)) := (cell_eq (HBW.out.block sb HHM.out.lt) 2).trans C2M.out
      obtain ⟨tk, htk⟩ : ∃ q, Maps.has D (.int .i64 (k : Int)) = q := ⟨_, rfl⟩
      have HTK := Lib.hid htk
      rw [htk]
      clear htk
      cases tk
      · have hkey : keyOf Try.prog 3 (.int .i64 (k : Int)) = some (.int .i64 (k : Int)) := keyOf_int_mk Try.underlying3 (wf_small k (by omega))
        have HX3 := below_heap HBW.out HXM.out
        have x0 : wr.cell? ⟨w.heap.size, 0, none⟩ = some (.int .u64 b0) := cell_of_heap HX3 0
        have x1 : wr.cell? ⟨w.heap.size, 1, none⟩ = some (.int .u64 b1) := cell_of_heap HX3 1
        have x2 : wr.cell? ⟨w.heap.size, 2, none⟩ = some (.int .u64 b2) := cell_of_heap HX3 2
        have x3 : wr.cell? ⟨w.heap.size, 3, none⟩ = some (.int .u64 b3) := cell_of_heap HX3 3
        have HX4 := Lib.hid HX3
        clear HX3
        go_wp2_with fail
        go_still_tail 8, (by kernel_rfl)
        change wpList _ _ _ _ _ wr.drew
        have hbw : Below WM.heap.size WM wr.drew := HBW.out.drew
        have ho4 : wr.drew.ownsMap Try.prog 3 entElem bm (Maps.size D) D := ownsMap_eq HOWN.out (hbw.block bm HOWN.out.lt)
        have HH4 := Lib.hid (HHM.out.grow hbw)
        have HK4 := Lib.hid (HKM.out.trans (Keep.of_below hbw))
        have C24 := Lib.hid ((cell_eq (hbw.block sb HHM.out.lt) 2).trans C2M.out)
        clear hbw
        go_wp2_with (at_mapUpdate; refine wpList_mapUpdate_in _ rfl _ _ _ 53 rfl 3 70 keyed_int Try.underlying53 entElem bm (Maps.size D) D rfl ho4 (by have := HSZ.out; unfold maxLen; omega) _ _ _ rfl rfl hkey (entD ⟨num, b0, b1, b2, b3⟩) [] (entElem_mk ⟨num, b0, b1, b2, b3⟩) ?_; intro w5 hown5 hturn5)
        have HH5 := HH4.out.turn C24.out HBS.out HBASE.out ho4 hown5 hturn5
        refine leaves_cons (f := 25) (args := #[.pointer (some ⟨sb, 0, none⟩)]) (by simp) (by simp [go_sem]) ?_
        refine (unlock_deferred ⟨sb, 0, none⟩ .returning _ HH5.lock (HH5.free 0)).mono ?_
        rintro e u' w'' ⟨rfl, rfl, rfl⟩
        exact ⟨_, results_tmp2 rfl _ _ _, (HK4.out.trans (Keep.of_turned hturn5 ho4)).trans (Keep.of_set sb _ 0 _), .inr (.inr ⟨rfl, HSZ.out, k, ⟨hk1, HTK.out, HA.out⟩, hk2, rfl, HH5.letGo⟩)⟩
      · have hk3 : k + 1 ≤ 1000 := by
          have := pigeon k D HTI.out (fun j h1 h2 => by
            by_cases e : j = k
            · rw [e]; exact HTK.out
            · exact HA.out j h1 (by omega))
          have := HSZ.out
          omega
        have hkey : keyOf Try.prog 3 (.int .i64 ((k : Int) + 1)) = some (.int .i64 ((k + 1 : Nat) : Int)) := keyOf_int_mk Try.underlying3 (wf_small (k + 1) (by omega))
        have x0 := cell_of_heap HG.out 0
        have x1 := cell_of_heap HG.out 1
        have x2 := cell_of_heap HG.out 2
        have x3 := cell_of_heap HG.out 3
        have x4 := cell_of_heap HG.out 4
        simp at x0 x1 x2 x3 x4
        have hba := below_alloc (Below.refl wr.heap.size wr) (.cells #[.int .i64 en, .int .u64 (e0 : Int), .int .u64 (e1 : Int), .int .u64 (e2 : Int), .int .u64 (e3 : Int)] 70)
        have hown2 := ownsMap_eq HOWN.out ((below_then HBW.out hba).block bm HOWN.out.lt)
        have HN2 := Lib.hid (heap_new wr (.cells #[.int .i64 en, .int .u64 (e0 : Int), .int .u64 (e1 : Int), .int .u64 (e2 : Int), .int .u64 (e3 : Int)] 70))
        have HBN2 := Lib.hid (below_then HBW.out hba)
        have c2' : (wr.alloc (.cells #[.int .i64 en, .int .u64 (e0 : Int), .int .u64 (e1 : Int), .int .u64 (e2 : Int), .int .u64 (e3 : Int)] 70)).cell? ⟨sb, 2, none⟩ = some (.map (some bm)) := (cell_eq (HBN2.out.block sb HHM.out.lt) 2).trans C2M.out
        clear hba
        go_wp2_with (at_lookup; refine wpList_lookup_own_ok _ rfl _ _ 53 rfl 3 70 keyed_int Try.underlying53 entElem (zero_ent _) (entD zeroE) [] (entElem_mk zeroE) bm (Maps.size D) D rfl hown2 _ _ rfl hkey ?_; intro v ps hv; obtain ⟨ent, rfl, hz⟩ := entElem_inv hv; clear hv hz; obtain ⟨en', e0', e1', e2', e3'⟩ := ent; simp only [entV])
        go_roundw
        case rel => exact ⟨k + 1, _, by omega, hk3, by go_num, rfl, rfl, Lib.hid (fun j h1 h2 => by
          by_cases e : j = k
          · rw [e]; exact HTK.out
          · exact HA.out j h1 (by omega)), HN2, HBN2⟩
        case measure => simp [intOf]; omega
end Go.Proofs.Ytojbdaeidbmjgaa
