/- (*Table).Set. No conditions. -/
import Derived.Test.YtojbdaeidbmjgaaTabHeld
import Derived.Test.YtojbdaeidbmjgaaDescFits
namespace Go.Proofs.Ytojbdaeidbmjgaa
set_option linter.unusedVariables false
set_option linter.unusedSimpArgs false
open Go.RowKit Go.Maps
/-- What Set answers, and what it makes of the table. -/
def setErr (fit has : Bool) : Int := if fit then (if has then 0 else 6) else 1
def setD (fit has : Bool) (D : DataW Unit) (x : Int) (e : EntL) : DataW Unit := if fit && has then D.put (.int .i64 x) (entD e) else D
set_option maxRecDepth 10000 in
set_option maxHeartbeats 1600000 in
theorem set_tab (w0 : World) (sb : Nat) (D : DataW Unit) (x num : Int) (b0 b1 b2 b3 : Nat) (hb : W64 [b0, b1, b2, b3]) (w : World) (hT : TabAt w0 w sb D) (hsz : Maps.size D ≤ 1000) (hwx : (Lit.int .i64 x).wf = true) :
    Calls Try.prog 13 #[.pointer (some ⟨sb, 0, none⟩), .int .i64 x, .int .i64 num, bitsV b0 b1 b2 b3] w fun e w' =>
      e = .returned (.int .i64 (setErr (fitsF num b0 b1 b2 b3) (Maps.has D (.int .i64 x)))) ∧ TabAt w0 w' sb (setD (fitsF num b0 b1 b2 b3) (Maps.has D (.int .i64 x)) D x ⟨num, b0, b1, b2, b3⟩) ∧ Keep sb w w' := by
  have hkey := keyOf_int_mk Try.underlying3 hwx
  obtain ⟨ft, hft⟩ : ∃ q, fitsF num b0 b1 b2 b3 = q := ⟨_, rfl⟩
  obtain ⟨hs, hhs⟩ : ∃ q, Maps.has D (.int .i64 x) = q := ⟨_, rfl⟩
  have HF := Lib.hid (fun w => fits_calls num b0 b1 b2 b3 hb w)
  unfold bitsV at HF ⊢
  rw [hft] at HF
  rw [hft, hhs]
  have HT := Lib.hid hT
  have HSZ := Lib.hid hsz
  clear hft hb hT hsz
  go_enter_defers Try.func13, Try.ntmps13
  go_wp2_with fail
  have HB0 := Lib.hid (below_alloc (Below.refl w.heap.size w) (.cells #[.int .u64 (b0 : Nat), .int .u64 (b1 : Nat), .int .u64 (b2 : Nat), .int .u64 (b3 : Nat)] 31))
  have HX0 := Lib.hid (heap_new w (.cells #[.int .u64 (b0 : Nat), .int .u64 (b1 : Nat), .int .u64 (b2 : Nat), .int .u64 (b3 : Nat)] 31))
  generalize w.alloc (.cells #[.int .u64 (b0 : Nat), .int .u64 (b1 : Nat), .int .u64 (b2 : Nat), .int .u64 (b3 : Nat)] 31) = wa at HB0 HX0 ⊢
  refine (HF.out _).mono ?_
  rintro e w1 ⟨rfl, hb1⟩
  have HB1 := Lib.hid (below_then HB0.out hb1)
  have HX1 := Lib.hid (below_heap hb1 HX0.out)
  have HT1 := Lib.hid (HT.out.grow HB1.out)
  clear hb1 HB0 HX0 HF
  cases ft
  · go_wp2
    exact ⟨_, results_tmp rfl _ _ _, rfl, HT1.out, Keep.of_below HB1.out⟩
  · have HH := Lib.hid HT1.out.take
    have c0 := HT1.out.lock
    have f0 := HT1.out.free 0
    rcases HH.out.fld with ⟨c2, hD⟩ | ⟨bm, n, c2, hbs, hbase, hown⟩
    · have hrun := look_nil (P := Try.prog) (w := w1.setCell ⟨sb, 0, none⟩ (.int .i32 1)) (t := 53) true keyed_int Try.underlying53 (zero_ent _) hkey
      have ez : entV zeroE = .agg #[.int .i64 0, .int .u64 0, .int .u64 0, .int .u64 0, .int .u64 0] := rfl
      rw [ez] at hrun
      have hhs' : hs = false := by rw [← hhs, hD]; rfl
      subst hhs'
      clear hD hhs
      go_wp2_with (go_at_call 24; refine (lock_free ⟨sb, 0, none⟩ _ c0 f0).mono ?_; rintro e w' ⟨rfl, rfl⟩)
      have hb3 : Below (w1.setCell ⟨sb, 0, none⟩ (.int .i32 1)).heap.size (w1.setCell ⟨sb, 0, none⟩ (.int .i32 1)) ((w1.setCell ⟨sb, 0, none⟩ (.int .i32 1)).alloc (.cells #[.int .i64 0, .int .u64 0, .int .u64 0, .int .u64 0, .int .u64 0] 70)) := below_alloc (Below.refl _ _) _
      have HH3 := HH.out.grow hb3
      refine leaves_cons (f := 25) (args := #[.pointer (some ⟨sb, 0, none⟩)]) (by simp) (by simp [go_sem]) ?_
      refine (unlock_deferred ⟨sb, 0, none⟩ .returning _ HH3.lock (HH3.free 0)).mono ?_
      rintro e u' w'' ⟨rfl, rfl, rfl⟩
      exact ⟨_, results_tmp rfl _ _ _, rfl, HH3.letGo, (((Keep.of_below HB1.out).trans (Keep.of_set sb _ 0 _)).trans (Keep.of_below hb3)).trans (Keep.of_set sb _ 0 _)⟩
    · have hown1 := own_tight hown
      have HOWN := Lib.hid hown1
      have HBS := Lib.hid hbs
      have HBASE := Lib.hid hbase
      clear hown hbs hbase
      cases hs
      all_goals
        go_wp2_with (first
          | (go_at_call 24; refine (lock_free ⟨sb, 0, none⟩ _ c0 f0).mono ?_; rintro e w' ⟨rfl, rfl⟩)
          | (at_lookup; refine wpList_lookup_own_ok _ rfl _ _ 53 rfl 3 70 keyed_int Try.underlying53 entElem (zero_ent _) (entD zeroE) [] (entElem_mk zeroE) bm (Maps.size D) D rfl hown1 _ _ rfl hkey ?_; rw [hhs]; intro v ps hv; obtain ⟨ent, rfl, hz⟩ := entElem_inv hv; clear hv hz; obtain ⟨en, e0, e1, e2, e3⟩ := ent; simp only [entV]))
      · have hb3 : Below (w1.setCell ⟨sb, 0, none⟩ (.int .i32 1)).heap.size (w1.setCell ⟨sb, 0, none⟩ (.int .i32 1)) ((w1.setCell ⟨sb, 0, none⟩ (.int .i32 1)).alloc (.cells #[.int .i64 en, .int .u64 (e0 : Int), .int .u64 (e1 : Int), .int .u64 (e2 : Int), .int .u64 (e3 : Int)] 70)) := below_alloc (Below.refl _ _) _
        have HH3 := HH.out.grow hb3
        refine leaves_cons (f := 25) (args := #[.pointer (some ⟨sb, 0, none⟩)]) (by simp) (by simp [go_sem]) ?_
        refine (unlock_deferred ⟨sb, 0, none⟩ .returning _ HH3.lock (HH3.free 0)).mono ?_
        rintro e u' w'' ⟨rfl, rfl, rfl⟩
        exact ⟨_, results_tmp rfl _ _ _, rfl, HH3.letGo, (((Keep.of_below HB1.out).trans (Keep.of_set sb _ 0 _)).trans (Keep.of_below hb3)).trans (Keep.of_set sb _ 0 _)⟩
      · have hb3 : Below (w1.setCell ⟨sb, 0, none⟩ (.int .i32 1)).heap.size (w1.setCell ⟨sb, 0, none⟩ (.int .i32 1)) ((w1.setCell ⟨sb, 0, none⟩ (.int .i32 1)).alloc (.cells #[.int .i64 en, .int .u64 (e0 : Int), .int .u64 (e1 : Int), .int .u64 (e2 : Int), .int .u64 (e3 : Int)] 70)) := below_alloc (Below.refl _ _) _
        have HK3 := Lib.hid (((Keep.of_below HB1.out).trans (Keep.of_set sb _ 0 (.int .i32 1))).trans (Keep.of_below hb3))
        have HH3 := Lib.hid (HH.out.grow hb3)
        have HO3 := Lib.hid (ownsMap_eq hown1 (hb3.block bm hown1.lt))
        have C2 := Lib.hid ((cell_eq (hb3.block sb HH.out.lt) 2).trans c2)
        have hne : w.heap.size ≠ sb := by have := HT.out.lt; omega
        have HX3 := Lib.hid (below_heap hb3 ((heap_set_other hne 0 (.int .i32 1)).trans HX1.out))
        clear hb3 c0 f0 c2 hown1
        generalize ((w1.setCell ⟨sb, 0, none⟩ (.int .i32 1)).alloc (.cells #[.int .i64 en, .int .u64 (e0 : Int), .int .u64 (e1 : Int), .int .u64 (e2 : Int), .int .u64 (e3 : Int)] 70)) = W3 at *
        have c2 := C2.out
        have x0 : W3.cell? ⟨w.heap.size, 0, none⟩ = some (.int .u64 b0) := cell_of_heap HX3.out 0
        have x1 : W3.cell? ⟨w.heap.size, 1, none⟩ = some (.int .u64 b1) := cell_of_heap HX3.out 1
        have x2 : W3.cell? ⟨w.heap.size, 2, none⟩ = some (.int .u64 b2) := cell_of_heap HX3.out 2
        have x3 : W3.cell? ⟨w.heap.size, 3, none⟩ = some (.int .u64 b3) := cell_of_heap HX3.out 3
        go_still_tail 8, (by kernel_rfl)
        change wpList _ _ _ _ _ W3.drew
        have ho4 : W3.drew.ownsMap Try.prog 3 entElem bm (Maps.size D) D := HO3.out
        go_wp2_with (at_mapUpdate; refine wpList_mapUpdate_in _ rfl _ _ _ 53 rfl 3 70 keyed_int Try.underlying53 entElem bm (Maps.size D) D rfl ho4 (by have := HSZ.out; unfold maxLen; omega) _ _ _ rfl rfl hkey (entD ⟨num, b0, b1, b2, b3⟩) [] (entElem_mk ⟨num, b0, b1, b2, b3⟩) ?_; intro w5 hown5 hturn5)
        have HH4 : HeldAt w0 W3.drew sb D := HH3.out.grow ((Below.refl W3.heap.size W3).drew)
        have HH5 := HH4.turn C2.out HBS.out HBASE.out ho4 hown5 hturn5
        refine leaves_cons (f := 25) (args := #[.pointer (some ⟨sb, 0, none⟩)]) (by simp) (by simp [go_sem]) ?_
        refine (unlock_deferred ⟨sb, 0, none⟩ .returning _ HH5.lock (HH5.free 0)).mono ?_
        rintro e u' w'' ⟨rfl, rfl, rfl⟩
        exact ⟨_, results_tmp rfl _ _ _, rfl, HH5.letGo, ((HK3.out.trans (Keep.of_below ((Below.refl W3.heap.size W3).drew))).trans (Keep.of_turned hturn5 ho4)).trans (Keep.of_set sb _ 0 _)⟩
end Go.Proofs.Ytojbdaeidbmjgaa
