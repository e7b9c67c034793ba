/- DescFits: a pattern fits just if it has no bits beyond the width. No conditions. -/
import Derived.Test.YtojbdaeidbmjgaaDescHolds
import Derived.Test.YtojbdaeidbmjgaaLimbs
import Derived.Deep.RegionHeld3
import Derived.BigQuiet
import Derived.Deep.QuietTactic
namespace Go.Proofs.Ytojbdaeidbmjgaa
open Go.RowKit
theorem below_drewN' {B : Nat} {a w : World} (h : Below B a w) (n : Nat) : Below B a (w.drewN n) := ⟨h.os, h.tape, h.output, h.size, h.block⟩
def fitsF (n : Int) (b0 b1 b2 b3 : Nat) : Bool := isF n && decide ((blen (val [b0, b1, b2, b3]) : Int) ≤ wdF n)
theorem wd_bd (n : Int) (h1 : 1 ≤ n) (h2 : n ≤ 12) : 16 ≤ wdF n ∧ wdF n ≤ 256 := by
  rcases twelve h1 h2 with rfl | rfl | rfl | rfl | rfl | rfl | rfl | rfl | rfl | rfl | rfl | rfl <;> decide
structure OfWidth (n E : Int) (C : Array Value) (wd : Int) : Prop where
  of : ∀ w, Calls Try.prog 35 #[.int .i64 n] w fun e w' => e = .returned (.tuple #[.agg C, .int .i64 E]) ∧ Below w.heap.size w w'
  ref : ∀ w, Calls Try.prog 26 #[.int .i64 n] w fun e w' => e = .returned (.tuple #[.agg C, .int .i64 E]) ∧ Below w.heap.size w w'
  cells : C.size = 10 ∧ C.all (·.oneCell') = true ∧ C[3]? = some (.int .i64 wd)
  fits : ∀ b0 b1 b2 b3, fitsF n b0 b1 b2 b3 = ((E == 0) && decide ((blen (val [b0, b1, b2, b3]) : Int) ≤ wd))
theorem ofWidth (n : Int) : ∃ E C wd, OfWidth n E C wd := by
  by_cases h : 1 ≤ n ∧ n ≤ 12
  · exact ⟨0, infF n, wdF n, fun w => of_calls n w h.1 h.2, fun w => refOf_calls n w h.1 h.2, ⟨rfl, by simp [infF, Value.oneCell'], rfl⟩, fun b0 b1 b2 b3 => by simp [fitsF, isF, h.1, h.2]⟩
  · have hf : isF n = false := by simp [isF]; omega
    exact ⟨1, inf0, 0, fun w => of_none n w (by omega), fun w => refOf_none n w (by omega), ⟨rfl, by simp [inf0, Value.oneCell'], rfl⟩, fun b0 b1 b2 b3 => by simp [fitsF, hf]⟩
set_option maxRecDepth 100000 in
set_option maxHeartbeats 1000000 in
theorem fits_calls (n : Int) (b0 b1 b2 b3 : Nat) (hb : W64 [b0, b1, b2, b3]) (w : World) :
    Calls Try.prog 23 #[.int .i64 n, bitsV b0 b1 b2 b3] w fun e w' => e = .returned (.bool (fitsF n b0 b1 b2 b3)) ∧ Below w.heap.size w w' := by
  obtain ⟨E, C, wd, H⟩ := ofWidth n
  rw [H.fits]
  unfold bitsV
  have hl := fun w => limbsLen_calls w b0 b1 b2 b3 hb
  unfold bitsV at hl
  have HL := Lib.hid hl
  clear hl
  have HC := Lib.hid H.cells
  have HO := Lib.hid H.of
  clear H hb
  generalize blen (val [b0, b1, b2, b3]) = L at HL ⊢
  go_enter Try.func23, Try.ntmps23
  go_wp2_with fail
  have HB0 := Lib.hid (below_alloc (Below.refl w.heap.size w) (.cells #[.int .u64 (b0 : Nat), .int .u64 (b1 : Nat), .int .u64 (b2 : Nat), .int .u64 (b3 : Nat)] 31))
  have HX0 := Lib.hid (heap_new w (.cells #[.int .u64 (b0 : Nat), .int .u64 (b1 : Nat), .int .u64 (b2 : Nat), .int .u64 (b3 : Nat)] 31))
  generalize w.alloc (.cells #[.int .u64 (b0 : Nat), .int .u64 (b1 : Nat), .int .u64 (b2 : Nat), .int .u64 (b3 : Nat)] 31) = w0 at HB0 HX0 ⊢
  refine (HO.out _).mono ?_
  rintro e w1 ⟨rfl, hb1⟩
  have HB1 := Lib.hid (below_then HB0.out hb1)
  have HX1 := Lib.hid (below_heap hb1 HX0.out)
  clear hb1 HB0 HX0 HO
  go_wp2_with (first | ((with_reducible refine gate_store 92 ?_); refine st_box 92 92 HB1.out Try.sizeInfo (fun W2 hB2 hk2 hX2 => ?_) (hn := HC.out.1) (h1 := HC.out.2.1)) | fail)
  have x0 := cell_of_heap (below_heap hk2 HX1.out) 0
  have x1 := cell_of_heap (below_heap hk2 HX1.out) 1
  have x2 := cell_of_heap (below_heap hk2 HX1.out) 2
  have x3 := cell_of_heap (below_heap hk2 HX1.out) 3
  have x4 := (cell_of_heap hX2 3).trans HC.out.2.2
  simp at x0 x1 x2 x3
  have HB2 := Lib.hid hB2
  clear hk2 hX2 hB2 HB1 HX1 HC
  have hB2 := HB2.out
  by_cases hE : E = 0
  · subst hE
    go_region_held3 (fun w' => w'.cell? ⟨w.heap.size, 0, none⟩ = some (.int .u64 (b0 : Nat)) ∧ w'.cell? ⟨w.heap.size, 1, none⟩ = some (.int .u64 (b1 : Nat)) ∧ w'.cell? ⟨w.heap.size, 2, none⟩ = some (.int .u64 (b2 : Nat)) ∧ w'.cell? ⟨w.heap.size, 3, none⟩ = some (.int .u64 (b3 : Nat)) ∧ w'.cell? ⟨w1.heap.size, 3, none⟩ = some (.int .i64 wd) ∧ Below w.heap.size w w')
      (first | exact ⟨x0, x1, x2, x3, x4, hB2.drew⟩ | exact keepB5 (by assumption) hb | assumption)
      (first | (go_at_call 36; refine (HL.out _).mono ?_; rintro e w' ⟨rfl, hb⟩))
    have HF := Lib.hid (‹_ ∧ _ ∧ _ ∧ _ ∧ _ ∧ Below w.heap.size w w'›).2.2.2.2.2
    go_wp2
    go_ret
    exact ⟨by simp, HF.out⟩
  · have e1 : (E == 0) = false := by simp [hE]
    clear hE
    go_quiet (fail)
    go_wp2
    go_ret
    exact ⟨by simp [e1], below_drewN' HB2.out nq⟩
set_option maxRecDepth 100000 in
set_option maxHeartbeats 1000000 in
theorem refFits_calls (n : Int) (b0 b1 b2 b3 : Nat) (hb : W64 [b0, b1, b2, b3]) (w : World) :
    Calls Try.prog 15 #[.int .i64 n, bitsV b0 b1 b2 b3] w fun e w' => e = .returned (.bool (fitsF n b0 b1 b2 b3)) ∧ Below w.heap.size w w' := by
  obtain ⟨E, C, wd, H⟩ := ofWidth n
  rw [H.fits]
  unfold bitsV
  have hl : ∀ W g, W.cell? ⟨g, 0, none⟩ = some (.int .u64 (b0 : Nat)) → W.cell? ⟨g, 1, none⟩ = some (.int .u64 (b1 : Nat)) → W.cell? ⟨g, 2, none⟩ = some (.int .u64 (b2 : Nat)) → W.cell? ⟨g, 3, none⟩ = some (.int .u64 (b3 : Nat)) →
      Calls Try.prog 27 #[.slice (some ⟨g, 0, none⟩) 4 4] W fun e w' => e = .returned (.int .i64 (blen (val [b0, b1, b2, b3]) : Nat)) ∧ w' = W := fun W g h0 h1 h2 h3 =>
    refLen_calls W _ 4 4 [b0, b1, b2, b3] ⟨rfl, by omega, by omega, hb, by simp, fun i hi => ⟨g, 0, rfl, by
      rcases (show i = 0 ∨ i = 1 ∨ i = 2 ∨ i = 3 by omega) with rfl | rfl | rfl | rfl
      · exact h0
      · exact h1
      · exact h2
      · exact h3⟩⟩ (by omega)
  have HL := Lib.hid hl
  clear hl
  have HC := Lib.hid H.cells
  have HO := Lib.hid H.ref
  clear H hb
  generalize blen (val [b0, b1, b2, b3]) = L at HL ⊢
  go_enter Try.func15, Try.ntmps15
  go_wp2_with fail
  have HB0 := Lib.hid (below_alloc (Below.refl w.heap.size w) (.cells #[.int .u64 (b0 : Nat), .int .u64 (b1 : Nat), .int .u64 (b2 : Nat), .int .u64 (b3 : Nat)] 31))
  have HX0 := Lib.hid (heap_new w (.cells #[.int .u64 (b0 : Nat), .int .u64 (b1 : Nat), .int .u64 (b2 : Nat), .int .u64 (b3 : Nat)] 31))
  generalize w.alloc (.cells #[.int .u64 (b0 : Nat), .int .u64 (b1 : Nat), .int .u64 (b2 : Nat), .int .u64 (b3 : Nat)] 31) = w0 at HB0 HX0 ⊢
  refine (HO.out _).mono ?_
  rintro e w1 ⟨rfl, hb1⟩
  have HB1 := Lib.hid (below_then HB0.out hb1)
  have HX1 := Lib.hid (below_heap hb1 HX0.out)
  clear hb1 HB0 HX0 HO
  go_wp2_with (first | ((with_reducible refine gate_store 73 ?_); refine st_box 73 73 HB1.out Try.sizeRefInfo (fun W2 hB2 hk2 hX2 => ?_) (hn := HC.out.1) (h1 := HC.out.2.1)) | fail)
  have x0 := cell_of_heap (below_heap hk2 HX1.out) 0
  have x1 := cell_of_heap (below_heap hk2 HX1.out) 1
  have x2 := cell_of_heap (below_heap hk2 HX1.out) 2
  have x3 := cell_of_heap (below_heap hk2 HX1.out) 3
  have x4 := (cell_of_heap hX2 3).trans HC.out.2.2
  simp at x0 x1 x2 x3
  have HB2 := Lib.hid hB2
  clear hk2 hX2 hB2 HB1 HX1 HC
  have hB2 := HB2.out
  by_cases hE : E = 0
  · subst hE
    have hq : ∀ m, Calls Try.prog 27 #[.slice (some ⟨w.heap.size, 0, none⟩) 4 4] (W2.drewN m) fun e w' => e = .returned (.int .i64 (L : Nat)) ∧ w' = W2.drewN m := fun m => HL.out _ _ x0 x1 x2 x3
    have HQ := Lib.hid hq
    clear hq
    go_quiet ((go_at_call 27; exact Calls.quiet_of_same (HQ.out _)))
    go_wp2
    go_ret
    exact ⟨by simp, below_drewN' HB2.out nq⟩
  · have e1 : (E == 0) = false := by simp [hE]
    clear hE
    go_quiet (fail)
    go_wp2
    go_ret
    exact ⟨by simp [e1], below_drewN' HB2.out nq⟩
end Go.Proofs.Ytojbdaeidbmjgaa
