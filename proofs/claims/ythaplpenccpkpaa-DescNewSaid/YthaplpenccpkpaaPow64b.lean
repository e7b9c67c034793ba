/- The walk over the closure of desc.Powers.make. -/
import Derived.Test.YthaplpenccpkpaaPow64
namespace Go.Proofs.Ythaplpenccpkpaa
open Go.RowKit
/-- The Powers, made: list and greatest coefficient. -/
def PowMade (B : Nat) (w : World) (g b p c : Nat) (d s m : Int) : Prop := ∃ la lc vs gv, PowBox w g b p d s m (.slice la 64 lc) gv ∧ RowsIn B w la 64 lc vs ∧ PowRows w b vs ∧ vs.length = 64 ∧ PowVal w gv (c ^ p - 1)
def slotNat : Value → Nat
  | .int _ n => n.toNat
  | _ => 0
theorem PowBox.cell {w : World} {g b p : Nat} {d s m : Int} {lv gv : Value} (h : PowBox w g b p d s m lv gv) (i : Nat) : w.cell? ⟨g, i, none⟩ = (#[.int .i64 (b : Nat), .int .i64 (p : Nat), .int .u32 d, .int .i32 s, .int .u32 0, .int .i32 m, lv, gv] : Array Value)[i]? := cell_of_heap h i
set_option maxRecDepth 10000 in
set_option maxHeartbeats 1000000 in
theorem addOne_calls (w : World) (a : Addr) (h0 : w.cell? a = some (.int .i32 0)) (h1 : w.frozen? a = false) : Calls Try.prog 91 #[.pointer (some a), .int .i32 1] w
    fun e w' => e = .returned (.int .i32 1) ∧ w' = w.setCell a (.int .i32 1) := by
  have hl := run_call_add (P := Try.prog) Try.func110 (by kernel_rfl) (by kernel_rfl) (by kernel_rfl) .i32 (by kernel_rfl) (y := 1) (s := 1) h0 h1 (by simp [go_sem]; rfl)
  go_enter Try.func91, Try.ntmps91
  go_wp2
  go_ret
  exact ⟨rfl, rfl⟩
set_option maxRecDepth 10000 in
set_option maxHeartbeats 4000000 in
theorem make1_calls (tk : TypeId) (ht1 : tk ≠ 106) (ht2 : tk ≠ 69) (w0 w : World) (g pb b p c : Nat) (tb : Bool) (hb : b = 2 ∨ b = 5 ∨ b = 10) (etb : (((b : Nat) : Int) == 10) = tb) (hc : c = if tb then 10 else 2) (hp : p ≤ 300) (hB : Below w0.heap.size w0 w) (hg : w0.heap.size ≤ g)
    (hpb : w.heap[pb]? = some (.cells #[.pointer (some ⟨g, 0, none⟩)] 67 (0, 0))) (hbox : PowBox w g b p 0 1 0 (.slice none 0 0) (.slice none 0 0)) :
    Calls Try.prog 88 #[.pointer (some ⟨pb, 0, none⟩)] w fun e w' => e = .returned (.tuple #[]) ∧ PowMade w0.heap.size w' g b p c 0 1 1 ∧ Below w0.heap.size w0 w' ∧ KeepsT w w' tk := by
  have HNE := Lib.hid (And.intro ht1 ht2)
  have HT0 : Hid (KeepsT w w tk) := Lib.hid (fun _ _ _ h => h)
  clear ht1 ht2
  have HP := Lib.hid hb
  have HB := Lib.hid hB
  have HBX := Lib.hid hbox
  have HPB := Lib.hid hpb
  have HTB := Lib.hid etb
  clear hb hB hbox hpb etb
  go_enter Try.func88, Try.ntmps88
  go_wp2_with fail
  go_loopw [7] (fun vk wr => ∃ (k : Nat) (la : Option Addr) (lc : Nat) (vs : List Value), vk = .int .i64 (k : Nat) ∧ k ≤ 64 ∧ vs.length = k ∧ wr.heap[pb]? = some (.cells #[.pointer (some ⟨g, 0, none⟩)] 67 (0, 0)) ∧ PowBox wr g b p 0 1 0 (.slice la k lc) (.slice none 0 0) ∧ RowsIn w0.heap.size wr la k lc vs ∧ PowRows wr b vs ∧ Below w0.heap.size w0 wr ∧ KeepsT w wr tk) (fun vk _ => 64 - slotNat vk)
  case atStart => exact ⟨0, none, 0, [], rfl, by omega, rfl, HPB.out, HBX.out, (⟨rfl, .inl ⟨rfl, rfl⟩⟩ : World.ownsRow _ _ _ _ _ _ _), (fun i hi => absurd hi (Nat.not_lt_zero i)), HB.out, HT0.out⟩
  case round =>
    obtain ⟨k, la, lc, vs, rfl, hk, hl, h1, h2, h3, h4, h5, h6⟩ := hrel
    have HT := Lib.hid h6
    clear h6
    have e0 : wr.cell? ⟨pb, 0, none⟩ = some (.pointer (some ⟨g, 0, none⟩)) := cell_of_heap h1 0
    have e1 : wr.cell? ⟨g, 0, none⟩ = some (.int .i64 (b : Nat)) := h2.cell 0
    have HL := Lib.hid hl
    have H1 := Lib.hid h1
    have H2 := Lib.hid h2
    have H3 := Lib.hid h3
    have H4 := Lib.hid h4
    have H5 := Lib.hid h5
    clear hl h1 h2 h3 h4 h5
    by_cases hlt : k < 64
    · have HW := Lib.hid (powerOk_calls wr b k (by omega) HP.out)
      go_wp2_with fail
      refine HW.out.mono ?_
      intro e w2 hn
      obtain ⟨x, rfl, hx, hb2⟩ := natRes2_pow hn (by omega)
      have HX := Lib.hid hx
      have HB2 := Lib.hid hb2
      obtain ⟨xa, xc, zs, rfl, _⟩ := hx
      obtain ⟨lz, hlz⟩ : ∃ l, zs.length = l := ⟨_, rfl⟩
      rw [hlz] at HX ⊢
      have k1 := below_heap hb2 H1.out
      have k2 : PowBox w2 g b p 0 1 0 (.slice la k lc) (.slice none 0 0) := below_heap hb2 H2.out
      have g0 : w2.cell? ⟨pb, 0, none⟩ = some (.pointer (some ⟨g, 0, none⟩)) := cell_of_heap k1 0
      have g6 : w2.cell? ⟨g, 6, none⟩ = some (.slice la k lc) := k2.cell 6
      have gz : ∀ i, w2.frozen? ⟨g, i, none⟩ = false := fun i => free_of_heap k2 i
      have glt : g < w2.heap.size := lt_of_heap k2
      have K1 := Lib.hid k1
      have K2 := Lib.hid k2
      clear k1 k2 hn hb2 hlz
      have b23 : Below w2.heap.size w2 (w2.alloc (.cells #[.slice xa lz xc] 69)).drew := ((Below.refl _ _).alloc (Nat.le_refl _) _).drew
      have HBA := Lib.hid (below_then (below_then H5.out HB2.out) b23)
      have HRA := Lib.hid ((H3.out.keep (keepsT_below _ HB2.out)).keep (keepsT_below _ b23))
      have HXA : Hid ((w2.alloc (.cells #[.slice xa lz xc] 69)).drew.cell? ⟨w2.heap.size, 0, none⟩ = some (.slice xa lz xc)) := Lib.hid (by rw [World.cell?_drew, World.cell?_alloc_new]; rfl)
      have HK2 : Hid (PowBox (w2.alloc (.cells #[.slice xa lz xc] 69)).drew g b p 0 1 0 (.slice la k lc) (.slice none 0 0)) := Lib.hid (below_heap b23 K2.out)
      have HK1 := Lib.hid (below_heap b23 K1.out)
      have HE := Lib.hid (PowRows.snoc ((H4.out.keep (keepsT_below _ HB2.out)).keep (keepsT_below _ b23)) HL.out (HX.out.keep (keepsT_below _ b23)))
      have a0 : (w2.alloc (.cells #[.slice xa lz xc] 69)).drew.cell? ⟨pb, 0, none⟩ = some (.pointer (some ⟨g, 0, none⟩)) := cell_of_heap HK1.out 0
      have a6 : (w2.alloc (.cells #[.slice xa lz xc] 69)).drew.cell? ⟨g, 6, none⟩ = some (.slice la k lc) := HK2.out.cell 6
      have HT2 := Lib.hid ((HT.out.trans (keepsT_below _ HB2.out)).trans (keepsT_below _ b23))
      clear b23
      go_wp2_with fail
      go_region_law (refine step_app_row (w0 := w0) rfl rfl HBA.out (.slice xa lz xc) HRA.out HXA.out rfl (by omega) rfl rfl (fun W a' c' hbW hoW hgW => ?_); have bxW : PowBox W g b p 0 1 0 (.slice la k lc) (.slice none 0 0) := keepsT_grown hgW HRA.out.row (by decide) _ _ _ HK2.out; have q6 : W.cell? ⟨g, 6, none⟩ = some (.slice la k lc) := bxW.cell 6; have qz : W.frozen? ⟨g, 6, none⟩ = false := free_of_heap bxW 6; have q0 : W.cell? ⟨pb, 0, none⟩ = some (.pointer (some ⟨g, 0, none⟩)) := cell_of_heap (keepsT_grown (t := 67) hgW HRA.out.row (by decide) _ _ _ HK1.out) 0; have H6 := Lib.hid bxW; have HBW := Lib.hid hbW; have HOW := Lib.hid hoW; have HGW := Lib.hid hgW; clear hbW hoW hgW bxW)
      all_goals
        go_wp2
        go_roundw
        case rel =>
          refine ⟨k + 1, a', c', vs ++ [.slice xa lz xc], by first | rfl | go_num, by omega, by rw [List.length_append, HL.out]; rfl, ?_, ?_, ?_, ?_, ?_, ?_⟩
          · exact keepsT_set H6.out 6 _ (by decide) _ _ _ (keepsT_grown HGW.out HRA.out.row (by decide) _ _ _ HK1.out)
          · exact heap_set H6.out 6 _
          · exact HOW.out.keep (keepsT_set H6.out 6 _ (by decide))
          · exact (HE.out.keep (keepsT_grown HGW.out HRA.out.row (by decide))).keep (keepsT_set H6.out 6 _ (by decide))
          · exact HBW.out.setCell hg _
          · exact (HT2.out.trans (keepsT_grown HGW.out HRA.out.row HNE.out.2)).trans (keepsT_set H6.out 6 _ HNE.out.1)
        case measure => simp [slotNat]; omega
    · obtain rfl : k = 64 := by omega
      have e2 : wr.cell? ⟨g, 1, none⟩ = some (.int .i64 (p : Nat)) := H2.out.cell 1
      have HWq : Hid (∀ q : Int, (c : Int) = q → Calls Try.prog 60 #[.int .i64 q, .int .i64 (p : Nat)] wr (NatRes2 wr (c ^ p) (p + 1) (.int .i64 0))) := Lib.hid (fun q h => by subst h; exact powerOk_calls wr c p (by omega) (by rw [hc]; cases tb; exact .inl rfl; exact .inr (.inr rfl)))
      have HCF : Hid (tb = false → (c : Int) = 2) := Lib.hid (fun h => by rw [hc, h]; rfl)
      have HCT : Hid (tb = true → (c : Int) = 10) := Lib.hid (fun h => by rw [hc, h]; rfl)
      have HC : Hid (c = 2 ∨ c = 10) := Lib.hid (by rw [hc]; cases tb; exact .inl rfl; exact .inr rfl)
      have htb := HTB.out
      clear hc HTB HP HB HBX HPB
      cases tb
      · go_wp2_with fail
        refine (HWq.out 2 (HCF.out (by trivial))).mono ?_
        clear HWq HCF HCT
        intro e w2 hn
        obtain ⟨x, rfl, hx, hb2⟩ := natRes2_pow hn (by omega)
        have HB2 := Lib.hid hb2
        obtain ⟨xa, xc, zs, rfl, hxo, hxv, hxl⟩ := hx
        have HXO := Lib.hid hxo
        have HXV := Lib.hid hxv
        obtain ⟨lz, hlz⟩ : ∃ l, zs.length = l := ⟨_, rfl⟩
        rw [hlz] at HXO hxl ⊢
        have HK1 := Lib.hid (below_heap hb2 H1.out)
        have HK2 : Hid (PowBox w2 g b p 0 1 0 (.slice la 64 lc) (.slice none 0 0)) := Lib.hid (below_heap hb2 H2.out)
        have a0 : w2.cell? ⟨pb, 0, none⟩ = some (.pointer (some ⟨g, 0, none⟩)) := cell_of_heap HK1.out 0
        have HR2 := Lib.hid (H3.out.keep (keepsT_below _ hb2))
        have HE2 := Lib.hid (H4.out.keep (keepsT_below _ hb2))
        have HB3 := Lib.hid (below_then H5.out hb2)
        have HT3 := Lib.hid (HT.out.trans (keepsT_below _ hb2))
        clear hn hb2 hlz H1 H2 H3 H4 H5 e0 e1 e2 hxo hxv HB2
        have hpl := HXO.out.plain
        have hll : lz ≤ 4398046511104 := by omega
        have g7 : w2.cell? ⟨g, 7, none⟩ = some (.slice none 0 0) := HK2.out.cell 7
        go_wp2_with fail
        go_region_with (first
          | (go_at_call 90; refine (natOf_calls _ 1 (by decide)).mono ?_; rintro e w4 ⟨a4, c4, ys, rfl, r1, r2, r3, r4, r5⟩; have q0 : w4.cell? ⟨pb, 0, none⟩ = some (.pointer (some ⟨g, 0, none⟩)) := cell_of_heap (below_heap r5 HK1.out) 0; have R : Hid (OwnW w2.heap.size w4 a4 ys.length c4 ys ∧ val ys = 1 ∧ Below w2.heap.size w2 w4) := Lib.hid ⟨r1, r2, ⟨r5.os, r5.tape, r5.output, r5.size, r5.block⟩⟩; clear r1 r2 r3 r4 r5)
          | (go_at_call 89; go_must (refine (sub_calls _ xa a4 lz xc _ c4 zs ys (HXO.out.keep R.out.2.2).sl R.out.1.sl hll hpl).mono ?_); go_must (rintro e w5 ⟨a5, c5, us, rfl, r1, r2, r3, r4, r5⟩); go_must (have q50 : w5.cell? ⟨pb, 0, none⟩ = some (.pointer (some ⟨g, 0, none⟩)) := cell_of_heap (below_heap r5 (below_heap R.out.2.2 HK1.out)) 0); go_must (have b5 : PowBox w5 g b p 0 1 0 (.slice la 64 lc) (.slice none 0 0) := below_heap r5 (below_heap R.out.2.2 HK2.out)); have q57 : w5.cell? ⟨g, 7, none⟩ = some (.slice none 0 0) := b5.cell 7; have q5z : w5.frozen? ⟨g, 7, none⟩ = false := free_of_heap b5 7; have B5 := Lib.hid b5; have S := Lib.hid (And.intro r1 (And.intro r2 (And.intro r4 r5))); clear r1 r2 r3 r4 r5 b5))
        all_goals
          have B6 : PowBox (w5.setCell ⟨g, 7, none⟩ (.slice a5 us.length c5)) g b p 0 1 0 (.slice la 64 lc) (.slice a5 us.length c5) := heap_set B5.out 7 _
          have z0 : (w5.setCell ⟨g, 7, none⟩ (.slice a5 us.length c5)).cell? ⟨pb, 0, none⟩ = some (.pointer (some ⟨g, 0, none⟩)) := cell_of_heap (keepsT_set (t := 67) B5.out 7 (.slice a5 us.length c5) (by decide) _ _ _ (below_heap S.out.2.2.2 (below_heap R.out.2.2 HK1.out))) 0
          have z5 : (w5.setCell ⟨g, 7, none⟩ (.slice a5 us.length c5)).cell? ⟨g, 5, none⟩ = some (.int .i32 0) := B6.cell 5
          have zf : (w5.setCell ⟨g, 7, none⟩ (.slice a5 us.length c5)).frozen? ⟨g, 5, none⟩ = false := free_of_heap B6 5
          have HA := Lib.hid (addOne_calls _ _ z5 zf)
          have H6 := Lib.hid B6
          have HQ : Hid (PowVal w5 (.slice a5 us.length c5) (c ^ p - 1)) := Lib.hid ⟨a5, c5, us, rfl, S.out.1.mono (Nat.zero_le _), by rw [S.out.2.1, HXV.out, R.out.2.1], by have := S.out.2.2.1; omega⟩
          have HBB := Lib.hid (below_then (below_then HB3.out R.out.2.2) S.out.2.2.2)
          have HRR := Lib.hid ((HR2.out.keep (keepsT_below _ R.out.2.2)).keep (keepsT_below _ S.out.2.2.2))
          have HEE := Lib.hid ((HE2.out.keep (keepsT_below _ R.out.2.2)).keep (keepsT_below _ S.out.2.2.2))
          clear B6 z5 zf a0 g7
          go_wp2_with fail
          refine HA.out.mono ?_
          rintro e w7 ⟨rfl, rfl⟩
          go_wp2
          go_end0
          have ks : ∀ t, t ≠ 106 → KeepsT w5 ((w5.setCell ⟨g, 7, none⟩ (.slice a5 us.length c5)).setCell ⟨g, 5, none⟩ (.int .i32 1)) t := fun t ht => (keepsT_set B5.out 7 _ ht).trans (keepsT_set H6.out 5 _ ht)
          refine ⟨rfl, ⟨la, lc, vs, .slice a5 us.length c5, heap_set H6.out 5 _, HRR.out.keep (ks _ (by decide)), HEE.out.keep (ks _ (by decide)), HL.out, HQ.out.keep (ks _ (by decide))⟩, (HBB.out.setCell hg _).setCell hg _, ((HT3.out.trans (keepsT_below _ R.out.2.2)).trans (keepsT_below _ S.out.2.2.2)).trans (ks tk HNE.out.1)⟩
      · go_wp2_with fail
        refine (HWq.out 10 (HCT.out (by trivial))).mono ?_
        clear HWq HCF HCT
        intro e w2 hn
        obtain ⟨x, rfl, hx, hb2⟩ := natRes2_pow hn (by omega)
        have HB2 := Lib.hid hb2
        obtain ⟨xa, xc, zs, rfl, hxo, hxv, hxl⟩ := hx
        have HXO := Lib.hid hxo
        have HXV := Lib.hid hxv
        obtain ⟨lz, hlz⟩ : ∃ l, zs.length = l := ⟨_, rfl⟩
        rw [hlz] at HXO hxl ⊢
        have HK1 := Lib.hid (below_heap hb2 H1.out)
        have HK2 : Hid (PowBox w2 g b p 0 1 0 (.slice la 64 lc) (.slice none 0 0)) := Lib.hid (below_heap hb2 H2.out)
        have a0 : w2.cell? ⟨pb, 0, none⟩ = some (.pointer (some ⟨g, 0, none⟩)) := cell_of_heap HK1.out 0
        have HR2 := Lib.hid (H3.out.keep (keepsT_below _ hb2))
        have HE2 := Lib.hid (H4.out.keep (keepsT_below _ hb2))
        have HB3 := Lib.hid (below_then H5.out hb2)
        have HT3 := Lib.hid (HT.out.trans (keepsT_below _ hb2))
        clear hn hb2 hlz H1 H2 H3 H4 H5 e0 e1 e2 hxo hxv HB2
        have hpl := HXO.out.plain
        have hll : lz ≤ 4398046511104 := by omega
        have g7 : w2.cell? ⟨g, 7, none⟩ = some (.slice none 0 0) := HK2.out.cell 7
        go_wp2_with fail
        go_region_with (first
          | (go_at_call 90; refine (natOf_calls _ 1 (by decide)).mono ?_; rintro e w4 ⟨a4, c4, ys, rfl, r1, r2, r3, r4, r5⟩; have q0 : w4.cell? ⟨pb, 0, none⟩ = some (.pointer (some ⟨g, 0, none⟩)) := cell_of_heap (below_heap r5 HK1.out) 0; have R : Hid (OwnW w2.heap.size w4 a4 ys.length c4 ys ∧ val ys = 1 ∧ Below w2.heap.size w2 w4) := Lib.hid ⟨r1, r2, ⟨r5.os, r5.tape, r5.output, r5.size, r5.block⟩⟩; clear r1 r2 r3 r4 r5)
          | (go_at_call 89; go_must (refine (sub_calls _ xa a4 lz xc _ c4 zs ys (HXO.out.keep R.out.2.2).sl R.out.1.sl hll hpl).mono ?_); go_must (rintro e w5 ⟨a5, c5, us, rfl, r1, r2, r3, r4, r5⟩); go_must (have q50 : w5.cell? ⟨pb, 0, none⟩ = some (.pointer (some ⟨g, 0, none⟩)) := cell_of_heap (below_heap r5 (below_heap R.out.2.2 HK1.out)) 0); go_must (have b5 : PowBox w5 g b p 0 1 0 (.slice la 64 lc) (.slice none 0 0) := below_heap r5 (below_heap R.out.2.2 HK2.out)); have q57 : w5.cell? ⟨g, 7, none⟩ = some (.slice none 0 0) := b5.cell 7; have q5z : w5.frozen? ⟨g, 7, none⟩ = false := free_of_heap b5 7; have B5 := Lib.hid b5; have S := Lib.hid (And.intro r1 (And.intro r2 (And.intro r4 r5))); clear r1 r2 r3 r4 r5 b5))
        all_goals
          have B6 : PowBox (w5.setCell ⟨g, 7, none⟩ (.slice a5 us.length c5)) g b p 0 1 0 (.slice la 64 lc) (.slice a5 us.length c5) := heap_set B5.out 7 _
          have z0 : (w5.setCell ⟨g, 7, none⟩ (.slice a5 us.length c5)).cell? ⟨pb, 0, none⟩ = some (.pointer (some ⟨g, 0, none⟩)) := cell_of_heap (keepsT_set (t := 67) B5.out 7 (.slice a5 us.length c5) (by decide) _ _ _ (below_heap S.out.2.2.2 (below_heap R.out.2.2 HK1.out))) 0
          have z5 : (w5.setCell ⟨g, 7, none⟩ (.slice a5 us.length c5)).cell? ⟨g, 5, none⟩ = some (.int .i32 0) := B6.cell 5
          have zf : (w5.setCell ⟨g, 7, none⟩ (.slice a5 us.length c5)).frozen? ⟨g, 5, none⟩ = false := free_of_heap B6 5
          have HA := Lib.hid (addOne_calls _ _ z5 zf)
          have H6 := Lib.hid B6
          have HQ : Hid (PowVal w5 (.slice a5 us.length c5) (c ^ p - 1)) := Lib.hid ⟨a5, c5, us, rfl, S.out.1.mono (Nat.zero_le _), by rw [S.out.2.1, HXV.out, R.out.2.1], by have := S.out.2.2.1; omega⟩
          have HBB := Lib.hid (below_then (below_then HB3.out R.out.2.2) S.out.2.2.2)
          have HRR := Lib.hid ((HR2.out.keep (keepsT_below _ R.out.2.2)).keep (keepsT_below _ S.out.2.2.2))
          have HEE := Lib.hid ((HE2.out.keep (keepsT_below _ R.out.2.2)).keep (keepsT_below _ S.out.2.2.2))
          clear B6 z5 zf a0 g7
          go_wp2_with fail
          refine HA.out.mono ?_
          rintro e w7 ⟨rfl, rfl⟩
          go_wp2
          go_end0
          have ks : ∀ t, t ≠ 106 → KeepsT w5 ((w5.setCell ⟨g, 7, none⟩ (.slice a5 us.length c5)).setCell ⟨g, 5, none⟩ (.int .i32 1)) t := fun t ht => (keepsT_set B5.out 7 _ ht).trans (keepsT_set H6.out 5 _ ht)
          refine ⟨rfl, ⟨la, lc, vs, .slice a5 us.length c5, heap_set H6.out 5 _, HRR.out.keep (ks _ (by decide)), HEE.out.keep (ks _ (by decide)), HL.out, HQ.out.keep (ks _ (by decide))⟩, (HBB.out.setCell hg _).setCell hg _, ((HT3.out.trans (keepsT_below _ R.out.2.2)).trans (keepsT_below _ S.out.2.2.2)).trans (ks tk HNE.out.1)⟩
end Go.Proofs.Ythaplpenccpkpaa
