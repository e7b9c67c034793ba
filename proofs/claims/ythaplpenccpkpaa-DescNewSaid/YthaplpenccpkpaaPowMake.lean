/- desc.Powers.make, Power and Greatest: the first call, and the later ones. -/
import Derived.Test.YthaplpenccpkpaaPow64b
namespace Go.Proofs.Ythaplpenccpkpaa
open Go.RowKit
/-- A Powers that has not been asked yet. -/
def PowNew (w : World) (g b p : Nat) : Prop := PowBox w g b p 0 0 0 (.slice none 0 0) (.slice none 0 0)
theorem alloc_keep {w : World} {k : Nat} {o o' : Obj} (h : w.heap[k]? = some o) : (w.alloc o').heap[k]? = some o := by rw [heap_keep w o' (lt_of_heap h)]; exact h
set_option maxRecDepth 10000 in
set_option maxHeartbeats 2000000 in
/-- make, for the first time. -/
theorem make_first (tk : TypeId) (ht1 : tk ≠ 106) (ht2 : tk ≠ 69) (w0 w : World) (g b p c : Nat) (tb : Bool) (hb : b = 2 ∨ b = 5 ∨ b = 10) (etb : (((b : Nat) : Int) == 10) = tb) (hc : c = if tb then 10 else 2) (hp : p ≤ 300) (hB : Below w0.heap.size w0 w) (hg : w0.heap.size ≤ g) (hN : PowNew w g b p) :
    Calls Try.prog 58 #[.pointer (some ⟨g, 0, none⟩)] w fun e w' => e = .returned (.tuple #[]) ∧ PowMade w0.heap.size w' g b p c 1 0 1 ∧ Below w0.heap.size w0 w' ∧ KeepsT w w' tk := by
  have hN1 : PowNew (w.alloc (.cells #[.pointer (some ⟨g, 0, none⟩)] 67)) g b p := alloc_keep hN
  have hb1 : (w.alloc (.cells #[.pointer (some ⟨g, 0, none⟩)] 67)).heap[w.heap.size]? = some (.cells #[.pointer (some ⟨g, 0, none⟩)] 67 (0, 0)) := heap_new _ _
  have hN2 : PowBox ((w.alloc (.cells #[.pointer (some ⟨g, 0, none⟩)] 67)).setCell ⟨g, 3, none⟩ (.int .i32 1)) g b p 0 1 0 (.slice none 0 0) (.slice none 0 0) := heap_set hN1 3 _
  have hb2 := keepsT_set (t := 67) hN1 3 (.int .i32 1) (by decide) _ _ _ hb1
  have k01 : KeepsT w ((w.alloc (.cells #[.pointer (some ⟨g, 0, none⟩)] 67)).setCell ⟨g, 3, none⟩ (.int .i32 1)) tk := KeepsT.trans (keepsT_below tk ((Below.refl _ _).alloc (Nat.le_refl _) _)) (keepsT_set hN1 3 _ ht1)
  have h1 := make1_calls tk ht1 ht2 w0 _ g w.heap.size b p c tb hb etb hc hp ((hB.alloc hB.size (.cells #[.pointer (some ⟨g, 0, none⟩)] 67)).setCell hg (.int .i32 1)) hg hb2 hN2
  have HD := Lib.hid (do_first #[.pointer (some ⟨w.heap.size, 0, none⟩)] g 2 (w.alloc (.cells #[.pointer (some ⟨g, 0, none⟩)] 67)) (fun w' => PowMade w0.heap.size w' g b p c 0 1 1 ∧ Below w0.heap.size w0 w' ∧ KeepsT w w' tk) (PowBox.cell hN1 2) (PowBox.cell hN1 3) (free_of_heap hN1 3) (h1.mono fun e w' hh => by
    obtain ⟨rfl, hm, hbl, hkt⟩ := hh
    have hkt := k01.trans hkt
    have hm' := hm
    obtain ⟨la, lc, vs, gv, hbx, _⟩ := hm
    exact ⟨rfl, ⟨hbx.cell 2, hbx.cell 3, free_of_heap hbx 2, free_of_heap hbx 3⟩, hm', hbl, hkt⟩))
  have hmf : ∀ (fn : Fn) (first cap : Array Value) (w : World), (Instr.makeFunc fn first cap).run Try.prog w = .ok (.func fn first cap) w := fun _ _ _ _ => rfl
  have HT1 := Lib.hid ht1
  clear hN1 hN2 hb2 h1 hN hb etb hc hp hb1 ht1 ht2 k01
  go_enter Try.func58, Try.ntmps58
  go_wp2_with fail
  refine HD.out.mono ?_
  rintro e w' ⟨rfl, w1, ⟨hm, hbl, hkt⟩, rfl⟩
  have HKT := Lib.hid hkt
  clear hkt
  have HM := Lib.hid hm
  have HBL := Lib.hid hbl
  clear hm hbl HD
  go_wp2
  go_end0
  obtain ⟨la, lc, vs, gv, hbx, hr, he, hl, hv⟩ := HM.out
  have hbx0 : PowBox w1.drew g b p 0 1 1 (.slice la 64 lc) gv := hbx
  have hbx1 : PowBox (w1.drew.setCell ⟨g, 2, none⟩ (.int .u32 1)) g b p 1 1 1 (.slice la 64 lc) gv := heap_set hbx0 2 _
  have hbx2 : PowBox (onceDone w1 g 2) g b p 1 0 1 (.slice la 64 lc) gv := heap_set hbx1 3 _
  have ks : ∀ t, t ≠ 106 → KeepsT w1 (onceDone w1 g 2) t := fun t ht => KeepsT.trans (b := w1.drew.setCell ⟨g, 2, none⟩ (.int .u32 1)) (keepsT_set (w := w1.drew) hbx0 2 _ ht) (keepsT_set hbx1 3 _ ht)
  exact ⟨rfl, ⟨la, lc, vs, gv, hbx2, hr.keep (ks _ (by decide)), he.keep (ks _ (by decide)), hl, hv.keep (ks _ (by decide))⟩, (HBL.out.drew.setCell hg _).setCell hg _, HKT.out.trans (ks tk HT1.out)⟩
set_option maxRecDepth 10000 in
set_option maxHeartbeats 2000000 in
/-- make, again: one new box. -/
theorem make_again (w : World) (g b p : Nat) (m : Int) (lv gv : Value) (hN : PowBox w g b p 1 0 m lv gv) :
    Calls Try.prog 58 #[.pointer (some ⟨g, 0, none⟩)] w fun e w' => e = .returned (.tuple #[]) ∧ Below w.heap.size w w' := by
  have hN1 : PowBox (w.alloc (.cells #[.pointer (some ⟨g, 0, none⟩)] 67)) g b p 1 0 m lv gv := alloc_keep hN
  have HD := Lib.hid (do_done ⟨g, 2, none⟩ 1 (by decide) (.func (.func 88) #[] #[.pointer (some ⟨w.heap.size, 0, none⟩)]) (w.alloc (.cells #[.pointer (some ⟨g, 0, none⟩)] 67)) (hN1.cell 2))
  have hmf : ∀ (fn : Fn) (first cap : Array Value) (w : World), (Instr.makeFunc fn first cap).run Try.prog w = .ok (.func fn first cap) w := fun _ _ _ _ => rfl
  clear hN1 hN
  go_enter Try.func58, Try.ntmps58
  go_wp2_with fail
  refine HD.out.mono ?_
  rintro e w' ⟨rfl, rfl⟩
  go_wp2
  go_end0
  exact ⟨rfl, (Below.refl _ _).alloc (Nat.le_refl _) _⟩
end Go.Proofs.Ythaplpenccpkpaa
