/- The contract of the reference's Of (caliperref04). No conditions. · DescTells: for every number n the program tells the format that the document has, or none; and the list of all formats is the document's. No conditions. · DescHolds: one format holds another one just if the document says so; it goes through, and each holds itself. No conditions. · DescFits: a pattern fits just if it has no bits beyond the width. No conditions. · The reference's Binary, Good and Bits. No conditions. · binary.and, binary.or; limbs.Shr at four words. No conditions. -/
import Derived.Test.YtpodpdopgdkdkaaGreatDoorMw10
import Derived.Deep.DeepMust
import Derived.StillTailTactics
import Derived.Test.YtpodpdopgdkdkaaGreatDoorMw01
import Derived.Test.YtpodpdopgdkdkaaGreatDoorMw09
import Derived.Deep.RegionHeld3
import Derived.BigQuiet
import Derived.Deep.QuietTactic
set_option linter.unusedVariables false
set_option linter.unusedSimpArgs false
namespace Go.Proofs.YtpodpdopgdkdkaaGreatDoor
open Go.RowKit
theorem Tryz.sizeRefInfo : (Tryz.prog.info? 122).map (·.size) = some 10 := by kernel_rfl
set_option maxRecDepth 100000 in
set_option maxHeartbeats 1000000 in
theorem refOf_calls1 (w : World) :
    Calls Tryz.prog 84 #[.int .i64 1] w fun e w' => e = .returned (.tuple #[.agg (infF 1), .int .i64 0]) ∧ Below w.heap.size w w' := by
  go_enter Tryz.func84, Tryz.ntmps84
  go_wp2
  exact bodyPost_ret (results_ct rfl _ _ w.heap.size 122 (infF 1) _ _ rfl (heap_alloc2_old _ _ _) Tryz.underlying122 rfl Tryz.sizeRefInfo) rfl
    ⟨rfl, below_alloc (below_alloc (Below.refl _ _) _) _⟩
set_option maxRecDepth 100000 in
set_option maxHeartbeats 1000000 in
theorem refOf_calls2 (w : World) :
    Calls Tryz.prog 84 #[.int .i64 2] w fun e w' => e = .returned (.tuple #[.agg (infF 2), .int .i64 0]) ∧ Below w.heap.size w w' := by
  go_enter Tryz.func84, Tryz.ntmps84
  go_wp2
  exact bodyPost_ret (results_ct rfl _ _ w.heap.size 122 (infF 2) _ _ rfl (heap_alloc2_old _ _ _) Tryz.underlying122 rfl Tryz.sizeRefInfo) rfl
    ⟨rfl, below_alloc (below_alloc (Below.refl _ _) _) _⟩
set_option maxRecDepth 100000 in
set_option maxHeartbeats 1000000 in
theorem refOf_calls3 (w : World) :
    Calls Tryz.prog 84 #[.int .i64 3] w fun e w' => e = .returned (.tuple #[.agg (infF 3), .int .i64 0]) ∧ Below w.heap.size w w' := by
  go_enter Tryz.func84, Tryz.ntmps84
  go_wp2
  exact bodyPost_ret (results_ct rfl _ _ w.heap.size 122 (infF 3) _ _ rfl (heap_alloc2_old _ _ _) Tryz.underlying122 rfl Tryz.sizeRefInfo) rfl
    ⟨rfl, below_alloc (below_alloc (Below.refl _ _) _) _⟩
set_option maxRecDepth 100000 in
set_option maxHeartbeats 1000000 in
theorem refOf_calls4 (w : World) :
    Calls Tryz.prog 84 #[.int .i64 4] w fun e w' => e = .returned (.tuple #[.agg (infF 4), .int .i64 0]) ∧ Below w.heap.size w w' := by
  go_enter Tryz.func84, Tryz.ntmps84
  go_wp2
  exact bodyPost_ret (results_ct rfl _ _ w.heap.size 122 (infF 4) _ _ rfl (heap_alloc2_old _ _ _) Tryz.underlying122 rfl Tryz.sizeRefInfo) rfl
    ⟨rfl, below_alloc (below_alloc (Below.refl _ _) _) _⟩
set_option maxRecDepth 100000 in
set_option maxHeartbeats 1000000 in
theorem refOf_calls5 (w : World) :
    Calls Tryz.prog 84 #[.int .i64 5] w fun e w' => e = .returned (.tuple #[.agg (infF 5), .int .i64 0]) ∧ Below w.heap.size w w' := by
  go_enter Tryz.func84, Tryz.ntmps84
  go_wp2
  exact bodyPost_ret (results_ct rfl _ _ w.heap.size 122 (infF 5) _ _ rfl (heap_alloc2_old _ _ _) Tryz.underlying122 rfl Tryz.sizeRefInfo) rfl
    ⟨rfl, below_alloc (below_alloc (Below.refl _ _) _) _⟩
set_option maxRecDepth 100000 in
set_option maxHeartbeats 1000000 in
theorem refOf_calls6 (w : World) :
    Calls Tryz.prog 84 #[.int .i64 6] w fun e w' => e = .returned (.tuple #[.agg (infF 6), .int .i64 0]) ∧ Below w.heap.size w w' := by
  go_enter Tryz.func84, Tryz.ntmps84
  go_wp2
  exact bodyPost_ret (results_ct rfl _ _ w.heap.size 122 (infF 6) _ _ rfl (heap_alloc2_old _ _ _) Tryz.underlying122 rfl Tryz.sizeRefInfo) rfl
    ⟨rfl, below_alloc (below_alloc (Below.refl _ _) _) _⟩
set_option maxRecDepth 100000 in
set_option maxHeartbeats 1000000 in
theorem refOf_calls7 (w : World) :
    Calls Tryz.prog 84 #[.int .i64 7] w fun e w' => e = .returned (.tuple #[.agg (infF 7), .int .i64 0]) ∧ Below w.heap.size w w' := by
  go_enter Tryz.func84, Tryz.ntmps84
  go_wp2
  exact bodyPost_ret (results_ct rfl _ _ w.heap.size 122 (infF 7) _ _ rfl (heap_alloc2_old _ _ _) Tryz.underlying122 rfl Tryz.sizeRefInfo) rfl
    ⟨rfl, below_alloc (below_alloc (Below.refl _ _) _) _⟩
set_option maxRecDepth 100000 in
set_option maxHeartbeats 1000000 in
theorem refOf_calls8 (w : World) :
    Calls Tryz.prog 84 #[.int .i64 8] w fun e w' => e = .returned (.tuple #[.agg (infF 8), .int .i64 0]) ∧ Below w.heap.size w w' := by
  go_enter Tryz.func84, Tryz.ntmps84
  go_wp2
  exact bodyPost_ret (results_ct rfl _ _ w.heap.size 122 (infF 8) _ _ rfl (heap_alloc2_old _ _ _) Tryz.underlying122 rfl Tryz.sizeRefInfo) rfl
    ⟨rfl, below_alloc (below_alloc (Below.refl _ _) _) _⟩
set_option maxRecDepth 100000 in
set_option maxHeartbeats 1000000 in
theorem refOf_calls9 (w : World) :
    Calls Tryz.prog 84 #[.int .i64 9] w fun e w' => e = .returned (.tuple #[.agg (infF 9), .int .i64 0]) ∧ Below w.heap.size w w' := by
  go_enter Tryz.func84, Tryz.ntmps84
  go_wp2
  exact bodyPost_ret (results_ct rfl _ _ w.heap.size 122 (infF 9) _ _ rfl (heap_alloc2_old _ _ _) Tryz.underlying122 rfl Tryz.sizeRefInfo) rfl
    ⟨rfl, below_alloc (below_alloc (Below.refl _ _) _) _⟩
set_option maxRecDepth 100000 in
set_option maxHeartbeats 1000000 in
theorem refOf_calls10 (w : World) :
    Calls Tryz.prog 84 #[.int .i64 10] w fun e w' => e = .returned (.tuple #[.agg (infF 10), .int .i64 0]) ∧ Below w.heap.size w w' := by
  go_enter Tryz.func84, Tryz.ntmps84
  go_wp2
  exact bodyPost_ret (results_ct rfl _ _ w.heap.size 122 (infF 10) _ _ rfl (heap_alloc2_old _ _ _) Tryz.underlying122 rfl Tryz.sizeRefInfo) rfl
    ⟨rfl, below_alloc (below_alloc (Below.refl _ _) _) _⟩
set_option maxRecDepth 100000 in
set_option maxHeartbeats 1000000 in
theorem refOf_calls11 (w : World) :
    Calls Tryz.prog 84 #[.int .i64 11] w fun e w' => e = .returned (.tuple #[.agg (infF 11), .int .i64 0]) ∧ Below w.heap.size w w' := by
  go_enter Tryz.func84, Tryz.ntmps84
  go_wp2
  exact bodyPost_ret (results_ct rfl _ _ w.heap.size 122 (infF 11) _ _ rfl (heap_alloc2_old _ _ _) Tryz.underlying122 rfl Tryz.sizeRefInfo) rfl
    ⟨rfl, below_alloc (below_alloc (Below.refl _ _) _) _⟩
set_option maxRecDepth 100000 in
set_option maxHeartbeats 1000000 in
theorem refOf_calls12 (w : World) :
    Calls Tryz.prog 84 #[.int .i64 12] w fun e w' => e = .returned (.tuple #[.agg (infF 12), .int .i64 0]) ∧ Below w.heap.size w w' := by
  go_enter Tryz.func84, Tryz.ntmps84
  go_wp2
  exact bodyPost_ret (results_ct rfl _ _ w.heap.size 122 (infF 12) _ _ rfl (heap_alloc2_old _ _ _) Tryz.underlying122 rfl Tryz.sizeRefInfo) rfl
    ⟨rfl, below_alloc (below_alloc (Below.refl _ _) _) _⟩

theorem dOf_calls (n : Int) (w : World) (h1 : 1 ≤ n) (h2 : n ≤ 12) :
    Calls Tryz.prog 84 #[.int .i64 n] w fun e w' => e = .returned (.tuple #[.agg (infF n), .int .i64 0]) ∧ Below w.heap.size w w' := by
  rcases twelve h1 h2 with rfl | rfl | rfl | rfl | rfl | rfl | rfl | rfl | rfl | rfl | rfl | rfl
  · exact refOf_calls1 w
  · exact refOf_calls2 w
  · exact refOf_calls3 w
  · exact refOf_calls4 w
  · exact refOf_calls5 w
  · exact refOf_calls6 w
  · exact refOf_calls7 w
  · exact refOf_calls8 w
  · exact refOf_calls9 w
  · exact refOf_calls10 w
  · exact refOf_calls11 w
  · exact refOf_calls12 w

set_option maxHeartbeats 1000000 in
theorem dOf_none (n : Int) (w : World) (h : n < 1 ∨ 12 < n) :
    Calls Tryz.prog 84 #[.int .i64 n] w fun e w' => e = .returned (.tuple #[.agg inf0, .int .i64 1]) ∧ Below w.heap.size w w' := by
  have e1 : (n == 1) = false := beq_eq_false_iff_ne.2 (by omega)
  have e2 : (n == 2) = false := beq_eq_false_iff_ne.2 (by omega)
  have e3 : (n == 3) = false := beq_eq_false_iff_ne.2 (by omega)
  have e4 : (n == 4) = false := beq_eq_false_iff_ne.2 (by omega)
  have e5 : (n == 5) = false := beq_eq_false_iff_ne.2 (by omega)
  have e6 : (n == 6) = false := beq_eq_false_iff_ne.2 (by omega)
  have e7 : (n == 7) = false := beq_eq_false_iff_ne.2 (by omega)
  have e8 : (n == 8) = false := beq_eq_false_iff_ne.2 (by omega)
  have e9 : (n == 9) = false := beq_eq_false_iff_ne.2 (by omega)
  have e10 : (n == 10) = false := beq_eq_false_iff_ne.2 (by omega)
  have e11 : (n == 11) = false := beq_eq_false_iff_ne.2 (by omega)
  have e12 : (n == 12) = false := beq_eq_false_iff_ne.2 (by omega)
  clear h
  go_enter Tryz.func84, Tryz.ntmps84
  go_wp2
  exact bodyPost_ret (results_ct rfl _ _ w.heap.size 122 inf0 _ _ rfl (heap_alloc2_old _ _ _) Tryz.underlying122 rfl Tryz.sizeRefInfo) rfl
    ⟨rfl, below_alloc (below_alloc (Below.refl _ _) _) _⟩
end Go.Proofs.YtpodpdopgdkdkaaGreatDoor
namespace Go.Proofs.YtpodpdopgdkdkaaGreatDoor
open Go.RowKit
section
variable {P : Program} {ops : Array Oper} {rest : List Oper} {Q : Act → Prop} {a : Act} {w : World} {d : Option Tmp} {x : Operand} {T : TypeId} {pos : String} {af : Array Edge} {gd : Option (Nat × Bool)}
/-- In a region that draws: a load of an aggregate out of the middle of a block. -/
theorem still_mid (ty b o : Nat) (cs : List Value) (hc : w.rangeAt b o cs) {D : TypeDesc} (hu : P.underlying ty = some D) {n : Nat} (hi : (P.info? ty).map (·.size) = some n)
    (h : wpStill P ops w Q rest (a.put d (.agg cs.toArray)))
    (hw : Region.wanted { dst := d, op := .load ty x, type := T, pos := pos, after := af, guard := gd } (yielded ops a.tmps) = true := by rfl)
    (hx : a.eval x = .pointer (some ⟨b, o, none⟩) := by rfl) (hd : D.isRow = true := by rfl) (hn : cs.length = n := by rfl) :
    wpStill P ops w Q ({ dst := d, op := .load ty x, type := T, pos := pos, after := af, guard := gd } :: rest) a :=
  wpStill_step fun K hK => by
    rw [if_pos hw]
    have := run_loadAt_mid (P := P) w b o ty cs D hc hu hd (by rw [hi, hn])
    simp only [Oper.still, execOp, hx, Sem.run_bind, this, Result.andThen_ok, Sem.run_pure, Oper.stillUpon_value]
    exact hK _ h
end
set_option maxRecDepth 100000 in
theorem all_range {w : World} {g : Nat} (hg : w.heap[g]? = some (.cells allCells 88)) (k : Nat) (hk : k < 12) : w.rangeAt g (k * 10) (infF ((k : Int) + 1)).toList := by
  intro j v hv
  rw [all_at hg]
  have hj : j < 10 := by
    by_cases h : j < 10
    · exact h
    · rw [List.getElem?_eq_none (by show 10 ≤ j; omega)] at hv; cases hv
  have : ∀ k : Nat, k < 12 → ∀ j : Nat, j < 10 → allCells[k * 10 + j]? = (infF ((k : Int) + 1)).toList[j]? := by
    intro k hk j hj
    rcases (show k = 0 ∨ k = 1 ∨ k = 2 ∨ k = 3 ∨ k = 4 ∨ k = 5 ∨ k = 6 ∨ k = 7 ∨ k = 8 ∨ k = 9 ∨ k = 10 ∨ k = 11 by omega) with rfl | rfl | rfl | rfl | rfl | rfl | rfl | rfl | rfl | rfl | rfl | rfl <;>
    rcases (show j = 0 ∨ j = 1 ∨ j = 2 ∨ j = 3 ∨ j = 4 ∨ j = 5 ∨ j = 6 ∨ j = 7 ∨ j = 8 ∨ j = 9 by omega) with rfl | rfl | rfl | rfl | rfl | rfl | rfl | rfl | rfl | rfl <;> kernel_rfl
  rw [this k hk j hj]; exact hv
theorem row_range {w : World} {g : Nat} {C : Array Value} {t : TypeId} (hg : w.heap[g]? = some (.cells C t (0, 0))) : w.rangeAt g 0 C.toList := by
  intro j v hv
  rw [cell_of_heap hg]; simpa using hv
end Go.Proofs.YtpodpdopgdkdkaaGreatDoor
namespace Go.Proofs.YtpodpdopgdkdkaaGreatDoor
open Go.RowKit
/-- Is it a format? -/
def isF (n : Int) : Bool := decide (1 ≤ n) && decide (n ≤ 12)
def holdsF (f g : Int) : Bool :=
  isF f && isF g && decide (bsF f = bsF g) && decide (prF f ≤ prF g) && decide (loF g ≤ loF f) && decide (hiF f + prF f ≤ hiF g + prF g)
theorem bnds (n : Int) (h1 : 1 ≤ n) (h2 : n ≤ 12) : 7 ≤ prF n ∧ prF n ≤ 241 ∧ -20000 ≤ loF n ∧ loF n ≤ 0 ∧ 0 ≤ hiF n ∧ hiF n ≤ 20000 := by
  rcases twelve h1 h2 with rfl | rfl | rfl | rfl | rfl | rfl | rfl | rfl | rfl | rfl | rfl | rfl <;> decide
/-- What Of tells, both ways in one. -/
structure OfTells (n E : Int) (C : Array Value) (b p l m : Int) : Prop where
  of : ∀ w, Calls Tryz.prog 104 #[.int .i64 n] w fun e w' => e = .returned (.tuple #[.agg C, .int .i64 E]) ∧ Below w.heap.size w w'
  ref : ∀ w, Calls Tryz.prog 84 #[.int .i64 n] w fun e w' => e = .returned (.tuple #[.agg C, .int .i64 E]) ∧ Below w.heap.size w w'
  cells : C.size = 10 ∧ C.all (·.oneCell') = true ∧ C[2]? = some (.int .i64 b) ∧ C[4]? = some (.int .i64 p) ∧ C[6]? = some (.int .i64 l) ∧ C[7]? = some (.int .i64 m)
  bd : 0 ≤ p ∧ p ≤ 241 ∧ -20000 ≤ l ∧ l ≤ 20000 ∧ 0 ≤ m ∧ m ≤ 20000
  ok : E = 0 ↔ isF n = true
  is : isF n = true → b = bsF n ∧ p = prF n ∧ l = loF n ∧ m = hiF n
theorem ofTells (n : Int) : ∃ E C b p l m, OfTells n E C b p l m := by
  by_cases h : 1 ≤ n ∧ n ≤ 12
  · have := bnds n h.1 h.2
    exact ⟨0, infF n, bsF n, prF n, loF n, hiF n, fun w => of_calls n w h.1 h.2, fun w => dOf_calls n w h.1 h.2, ⟨rfl, by simp [infF, Value.oneCell'], rfl, rfl, rfl, rfl⟩, by omega, by simp [isF, h.1, h.2], fun _ => ⟨rfl, rfl, rfl, rfl⟩⟩
  · have hf : isF n = false := by simp [isF]; omega
    exact ⟨1, inf0, 0, 0, 0, 0, fun w => of_none n w (by omega), fun w => dOf_none n w (by omega), ⟨rfl, by simp [inf0, Value.oneCell'], rfl, rfl, rfl, rfl⟩, by omega, by simp [hf], fun h => by simp [hf] at h⟩
theorem holdsF_of {f g E E' b p l m b' p' l' m' : Int} {C C' : Array Value} (H : OfTells f E C b p l m) (H' : OfTells g E' C' b' p' l' m') :
    holdsF f g = (decide (E = 0) && decide (E' = 0) && decide (b = b') && decide (p ≤ p') && decide (l' ≤ l) && decide (m + p ≤ m' + p')) := by
  unfold holdsF
  cases h1 : isF f with
  | false => have : ¬ E = 0 := fun e => by rw [H.ok.1 e] at h1; cases h1
             simp [this]
  | true =>
    cases h2 : isF g with
    | false => have : ¬ E' = 0 := fun e => by rw [H'.ok.1 e] at h2; cases h2
               simp [this]
    | true =>
      obtain ⟨rfl, rfl, rfl, rfl⟩ := H.is h1
      obtain ⟨rfl, rfl, rfl, rfl⟩ := H'.is h2
      simp [H.ok.2 h1, H'.ok.2 h2]
theorem isF_ok (n E : Int) (C : Array Value) (b p l m : Int) (H : OfTells n E C b p l m) : (E == 0) = isF n := by
  rw [Bool.eq_iff_iff, beq_iff_eq]; exact H.ok
theorem holdsF_self (f : Int) : holdsF f f = isF f := by unfold holdsF; cases isF f <;> simp
theorem holdsF_trans {f g h : Int} (a : holdsF f g = true) (b : holdsF g h = true) : holdsF f h = true := by
  unfold holdsF at *
  simp only [Bool.and_eq_true, decide_eq_true_eq] at *
  obtain ⟨⟨⟨⟨⟨a1, a2⟩, a3⟩, a4⟩, a5⟩, a6⟩ := a
  obtain ⟨⟨⟨⟨⟨b1, b2⟩, b3⟩, b4⟩, b5⟩, b6⟩ := b
  refine ⟨⟨⟨⟨⟨a1, b2⟩, ?_⟩, ?_⟩, ?_⟩, ?_⟩ <;> omega
end Go.Proofs.YtpodpdopgdkdkaaGreatDoor
namespace Go.Proofs.YtpodpdopgdkdkaaGreatDoor
open Go.RowKit
theorem below_drewF {B : Nat} {a w : World} (h : Below B a w) (n : Nat) : Below B a (w.drewN n) := ⟨h.os, h.tape, h.output, h.size, h.block⟩
def fitsF (n : Int) (b0 b1 b2 b3 : Nat) : Bool := isF n && decide ((blen (val [b0, b1, b2, b3]) : Int) ≤ wdF n)
theorem wd_bd (n : Int) (h1 : 1 ≤ n) (h2 : n ≤ 12) : 16 ≤ wdF n ∧ wdF n ≤ 256 := by
  rcases twelve h1 h2 with rfl | rfl | rfl | rfl | rfl | rfl | rfl | rfl | rfl | rfl | rfl | rfl <;> decide
structure OfWidth (n E : Int) (C : Array Value) (wd : Int) : Prop where
  of : ∀ w, Calls Tryz.prog 104 #[.int .i64 n] w fun e w' => e = .returned (.tuple #[.agg C, .int .i64 E]) ∧ Below w.heap.size w w'
  ref : ∀ w, Calls Tryz.prog 84 #[.int .i64 n] w fun e w' => e = .returned (.tuple #[.agg C, .int .i64 E]) ∧ Below w.heap.size w w'
  cells : C.size = 10 ∧ C.all (·.oneCell') = true ∧ C[3]? = some (.int .i64 wd)
  fits : ∀ b0 b1 b2 b3, fitsF n b0 b1 b2 b3 = ((E == 0) && decide ((blen (val [b0, b1, b2, b3]) : Int) ≤ wd))
theorem ofWidth (n : Int) : ∃ E C wd, OfWidth n E C wd := by
  by_cases h : 1 ≤ n ∧ n ≤ 12
  · exact ⟨0, infF n, wdF n, fun w => of_calls n w h.1 h.2, fun w => dOf_calls n w h.1 h.2, ⟨rfl, by simp [infF, Value.oneCell'], rfl⟩, fun b0 b1 b2 b3 => by simp [fitsF, isF, h.1, h.2]⟩
  · have hf : isF n = false := by simp [isF]; omega
    exact ⟨1, inf0, 0, fun w => of_none n w (by omega), fun w => dOf_none n w (by omega), ⟨rfl, by simp [inf0, Value.oneCell'], rfl⟩, fun b0 b1 b2 b3 => by simp [fitsF, hf]⟩
set_option maxRecDepth 100000 in
set_option maxHeartbeats 1000000 in
theorem refFits_calls (n : Int) (b0 b1 b2 b3 : Nat) (hb : W64 [b0, b1, b2, b3]) (w : World) :
    Calls Tryz.prog 119 #[.int .i64 n, bitsV b0 b1 b2 b3] w fun e w' => e = .returned (.bool (fitsF n b0 b1 b2 b3)) ∧ Below w.heap.size w w' := by
  obtain ⟨E, C, wd, H⟩ := ofWidth n
  rw [H.fits]
  unfold bitsV
  have hl : ∀ W g, W.cell? ⟨g, 0, none⟩ = some (.int .u64 (b0 : Nat)) → W.cell? ⟨g, 1, none⟩ = some (.int .u64 (b1 : Nat)) → W.cell? ⟨g, 2, none⟩ = some (.int .u64 (b2 : Nat)) → W.cell? ⟨g, 3, none⟩ = some (.int .u64 (b3 : Nat)) →
      Calls Tryz.prog 89 #[.slice (some ⟨g, 0, none⟩) 4 4] W fun e w' => e = .returned (.int .i64 (blen (val [b0, b1, b2, b3]) : Nat)) ∧ w' = W := fun W g h0 h1 h2 h3 =>
    refLen_calls W _ 4 4 [b0, b1, b2, b3] ⟨rfl, by omega, by omega, hb, by simp, fun i hi => ⟨g, 0, rfl, by
      rcases (show i = 0 ∨ i = 1 ∨ i = 2 ∨ i = 3 by omega) with rfl | rfl | rfl | rfl
      · exact h0
      · exact h1
      · exact h2
      · exact h3⟩⟩ (by omega)
  have HL := Lib.hid hl
  clear hl
  have HC := Lib.hid H.cells
  have HO := Lib.hid H.ref
  clear H hb
  generalize blen (val [b0, b1, b2, b3]) = L at HL ⊢
  go_enter Tryz.func119, Tryz.ntmps119
  go_wp2_with fail
  have HB0 := Lib.hid (below_alloc (Below.refl w.heap.size w) (.cells #[.int .u64 (b0 : Nat), .int .u64 (b1 : Nat), .int .u64 (b2 : Nat), .int .u64 (b3 : Nat)] 24))
  have HX0 := Lib.hid (heap_new w (.cells #[.int .u64 (b0 : Nat), .int .u64 (b1 : Nat), .int .u64 (b2 : Nat), .int .u64 (b3 : Nat)] 24))
  generalize w.alloc (.cells #[.int .u64 (b0 : Nat), .int .u64 (b1 : Nat), .int .u64 (b2 : Nat), .int .u64 (b3 : Nat)] 24) = w0 at HB0 HX0 ⊢
  refine (HO.out _).mono ?_
  rintro e w1 ⟨rfl, hb1⟩
  have HB1 := Lib.hid (below_then HB0.out hb1)
  have HX1 := Lib.hid (below_heap hb1 HX0.out)
  clear hb1 HB0 HX0 HO
  go_wp2_with (first | ((with_reducible refine gate_store 122 ?_); refine st_box 122 122 HB1.out Tryz.sizeRefInfo (fun W2 hB2 hk2 hX2 => ?_) (hn := HC.out.1) (h1 := HC.out.2.1)) | fail)
  have x0 := cell_of_heap (below_heap hk2 HX1.out) 0
  have x1 := cell_of_heap (below_heap hk2 HX1.out) 1
  have x2 := cell_of_heap (below_heap hk2 HX1.out) 2
  have x3 := cell_of_heap (below_heap hk2 HX1.out) 3
  have x4 := (cell_of_heap hX2 3).trans HC.out.2.2
  simp at x0 x1 x2 x3
  have HB2 := Lib.hid hB2
  clear hk2 hX2 hB2 HB1 HX1 HC
  have hB2 := HB2.out
  by_cases hE : E = 0
  · subst hE
    have hq : ∀ m, Calls Tryz.prog 89 #[.slice (some ⟨w.heap.size, 0, none⟩) 4 4] (W2.drewN m) fun e w' => e = .returned (.int .i64 (L : Nat)) ∧ w' = W2.drewN m := fun m => HL.out _ _ x0 x1 x2 x3
    have HQ := Lib.hid hq
    clear hq
    go_quiet ((go_at_call 89; exact Calls.quiet_of_same (HQ.out _)))
    go_wp2
    go_ret
    exact ⟨by simp, below_drewF HB2.out nq⟩
  · have e1 : (E == 0) = false := by simp [hE]
    clear hE
    go_quiet (fail)
    go_wp2
    go_ret
    exact ⟨by simp [e1], below_drewF HB2.out nq⟩
end Go.Proofs.YtpodpdopgdkdkaaGreatDoor
namespace Go.Proofs.YtpodpdopgdkdkaaGreatDoor
set_option linter.unusedVariables false
set_option linter.unusedSimpArgs false
open Go.RowKit
set_option maxRecDepth 10000 in
set_option maxHeartbeats 1000000 in
theorem rbinary_calls (n : Int) (w : World) : Calls Tryz.prog 37 #[.int .i64 n] w fun e w' => e = .returned (.bool (decide (1 ≤ n ∧ n ≤ 6))) ∧ Below w.heap.size w w' := by
  by_cases h1 : 1 ≤ n
  · by_cases h2 : n ≤ 6
    · have h3 : (decide (1 ≤ n ∧ n ≤ 6)) = true := by simp [h1, h2]
      rw [h3]
      go_enter Tryz.func37, Tryz.ntmps37
      go_wp2
      go_ret
      exact ⟨rfl, Below.refl _ _⟩
    · have h3 : (decide (1 ≤ n ∧ n ≤ 6)) = false := by simp [h2]
      rw [h3]
      go_enter Tryz.func37, Tryz.ntmps37
      go_wp2
      go_ret
      exact ⟨rfl, Below.refl _ _⟩
  · have h3 : (decide (1 ≤ n ∧ n ≤ 6)) = false := by simp [h1]
    rw [h3]
    go_enter Tryz.func37, Tryz.ntmps37
    go_wp2
    go_ret
    exact ⟨rfl, Below.refl _ _⟩
set_option maxRecDepth 10000 in
set_option maxHeartbeats 1000000 in
theorem good_calls5 (n : Int) (b0 b1 b2 b3 : Nat) (hb : W64 [b0, b1, b2, b3]) (w : World) :
    Calls Tryz.prog 83 #[.int .i64 n, bitsV b0 b1 b2 b3] w fun e w' => e = .returned (.bool (decide (1 ≤ n ∧ n ≤ 6) && fitsF n b0 b1 b2 b3)) ∧ Below w.heap.size w w' := by
  have HF := Lib.hid (fun W => refFits_calls n b0 b1 b2 b3 hb W)
  unfold bitsV at HF ⊢
  clear hb
  generalize fitsF n b0 b1 b2 b3 = ff at HF ⊢
  have HB := Lib.hid (rbinary_calls n)
  generalize decide (1 ≤ n ∧ n ≤ 6) = bb at HB ⊢
  go_enter Tryz.func83, Tryz.ntmps83
  go_wp2_with fail
  have HB0 := Lib.hid (below_alloc (Below.refl w.heap.size w) (.cells #[.int .u64 (b0 : Nat), .int .u64 (b1 : Nat), .int .u64 (b2 : Nat), .int .u64 (b3 : Nat)] 24))
  have HP0 : Hid ((w.alloc (.cells #[.int .u64 (b0 : Nat), .int .u64 (b1 : Nat), .int .u64 (b2 : Nat), .int .u64 (b3 : Nat)] 24)).heap[w.heap.size]? = _) := Lib.hid (heap_new w (.cells #[.int .u64 (b0 : Nat), .int .u64 (b1 : Nat), .int .u64 (b2 : Nat), .int .u64 (b3 : Nat)] 24))
  generalize (w.alloc (.cells #[.int .u64 (b0 : Nat), .int .u64 (b1 : Nat), .int .u64 (b2 : Nat), .int .u64 (b3 : Nat)] 24)) = w0 at HB0 HP0 ⊢
  refine (HB.out _).mono ?_
  rintro e w1 ⟨rfl, hb1⟩
  have HB1 := Lib.hid (below_then HB0.out hb1)
  have HP1 := Lib.hid (below_heap hb1 HP0.out)
  clear hb1 HB0 HP0
  have x0 := cell_of_heap HP1.out 0
  have x1 := cell_of_heap HP1.out 1
  have x2 := cell_of_heap HP1.out 2
  have x3 := cell_of_heap HP1.out 3
  simp at x0 x1 x2 x3
  cases bb
  · go_wp2
    go_ret
    exact ⟨rfl, HB1.out⟩
  · go_wp2_with fail
    refine (HF.out _).mono ?_
    rintro e w2 ⟨rfl, hb2⟩
    have HB2 := Lib.hid (below_then HB1.out hb2)
    go_wp2
    go_ret
    exact ⟨by simp, HB2.out⟩
end Go.Proofs.YtpodpdopgdkdkaaGreatDoor
namespace Go.Proofs.YtpodpdopgdkdkaaGreatDoor
set_option linter.unusedVariables false
set_option linter.unusedSimpArgs false
open Go.RowKit
theorem testBit_word (x X i : Nat) (hx : x < B64) : (x + B64 * X).testBit i = if i < 64 then x.testBit i else X.testBit (i - 64) := by
  rw [Nat.add_comm, show B64 = 2 ^ 64 from rfl, Nat.testBit_two_pow_mul_add _ hx]
theorem land_words {x y X Y : Nat} (hx : x < B64) (hy : y < B64) : (x + B64 * X) &&& (y + B64 * Y) = (x &&& y) + B64 * (X &&& Y) := by
  refine Nat.eq_of_testBit_eq fun i => ?_
  have h : x &&& y < B64 := Nat.lt_of_le_of_lt Nat.and_le_left hx
  rw [Nat.testBit_and, testBit_word _ _ _ hx, testBit_word _ _ _ hy, testBit_word _ _ _ h]
  split <;> simp [Nat.testBit_and]
theorem lor_words {x y X Y : Nat} (hx : x < B64) (hy : y < B64) : (x + B64 * X) ||| (y + B64 * Y) = (x ||| y) + B64 * (X ||| Y) := by
  refine Nat.eq_of_testBit_eq fun i => ?_
  have h : x ||| y < B64 := Nat.or_lt_two_pow (n := 64) hx hy
  rw [Nat.testBit_or, testBit_word _ _ _ hx, testBit_word _ _ _ hy, testBit_word _ _ _ h]
  split <;> simp [Nat.testBit_or]
theorem val4 (a b c d : Nat) : val [a, b, c, d] = a + B64 * (b + B64 * (c + B64 * (d + B64 * 0))) := rfl
theorem wd4 (a b c d : Nat) : wd [a, b, c, d] 0 = a ∧ wd [a, b, c, d] 1 = b ∧ wd [a, b, c, d] 2 = c ∧ wd [a, b, c, d] 3 = d := ⟨rfl, rfl, rfl, rfl⟩
theorem val_land {xs ys zs : List Nat} (hx : xs.length = 4) (hy : ys.length = 4) (hz : zs.length = 4) (wx : W64 xs) (wy : W64 ys) (h : ∀ j, j < 4 → wd zs j = wd xs j &&& wd ys j) : val zs = val xs &&& val ys := by
  have g0 := h 0 (by omega)
  have g1 := h 1 (by omega)
  have g2 := h 2 (by omega)
  have g3 := h 3 (by omega)
  have x0 := wd_lt wx 0
  have x1 := wd_lt wx 1
  have x2 := wd_lt wx 2
  have x3 := wd_lt wx 3
  have y0 := wd_lt wy 0
  have y1 := wd_lt wy 1
  have y2 := wd_lt wy 2
  have y3 := wd_lt wy 3
  obtain ⟨a0, a1, a2, a3, rfl⟩ := four_of hx
  obtain ⟨b0, b1, b2, b3, rfl⟩ := four_of hy
  obtain ⟨c0, c1, c2, c3, rfl⟩ := four_of hz
  simp only [wd4] at g0 g1 g2 g3 x0 x1 x2 x3 y0 y1 y2 y3
  rw [val4, val4, val4, land_words x0 y0, land_words x1 y1, land_words x2 y2, land_words x3 y3, g0, g1, g2, g3]
  rfl
theorem val_lor {xs ys zs : List Nat} (hx : xs.length = 4) (hy : ys.length = 4) (hz : zs.length = 4) (wx : W64 xs) (wy : W64 ys) (h : ∀ j, j < 4 → wd zs j = wd xs j ||| wd ys j) : val zs = val xs ||| val ys := by
  have g0 := h 0 (by omega)
  have g1 := h 1 (by omega)
  have g2 := h 2 (by omega)
  have g3 := h 3 (by omega)
  have x0 := wd_lt wx 0
  have x1 := wd_lt wx 1
  have x2 := wd_lt wx 2
  have x3 := wd_lt wx 3
  have y0 := wd_lt wy 0
  have y1 := wd_lt wy 1
  have y2 := wd_lt wy 2
  have y3 := wd_lt wy 3
  obtain ⟨a0, a1, a2, a3, rfl⟩ := four_of hx
  obtain ⟨b0, b1, b2, b3, rfl⟩ := four_of hy
  obtain ⟨c0, c1, c2, c3, rfl⟩ := four_of hz
  simp only [wd4] at g0 g1 g2 g3 x0 x1 x2 x3 y0 y1 y2 y3
  rw [val4, val4, val4, lor_words x0 y0, lor_words x1 y1, lor_words x2 y2, lor_words x3 y3, g0, g1, g2, g3]
  rfl
/-- x op y, word by word. -/
def IsBit (op : BinOp) (f : Nat → Nat → Nat) : Prop := (∀ x y : Nat, x < B64 → y < B64 → bits op .u64 (x : Int) (y : Int) = ((f x y : Nat) : Int)) ∧ ∀ x y : Nat, x < B64 → y < B64 → f x y < B64
theorem isBit_and : IsBit .and (fun x y => x &&& y) := ⟨fun x y hx hy => bits_and_u64_nat x y hx hy, fun x y hx _ => Nat.lt_of_le_of_lt Nat.and_le_left hx⟩
theorem isBit_or : IsBit .or (fun x y => x ||| y) := ⟨fun x y hx hy => bits_or_u64_nat x y hx hy, fun x y hx hy => Nat.or_lt_two_pow (n := 64) hx hy⟩
set_option maxRecDepth 10000 in
set_option maxHeartbeats 1000000 in
theorem bandA_calls (w : World) (b0 b1 b2 b3 d0 d1 d2 d3 : Nat) (hx : W64 [b0, b1, b2, b3]) (hy : W64 [d0, d1, d2, d3]) :
    Calls Tryz.prog 106 #[bitsV b0 b1 b2 b3, bitsV d0 d1 d2 d3] w (BitsRes w (val [b0, b1, b2, b3] &&& val [d0, d1, d2, d3])) := by
  unfold bitsV
  have H3 := Lib.hid (three_new w 24 24 24 [b0, b1, b2, b3] [d0, d1, d2, d3] [0, 0, 0, 0] (.cells #[.int .u64 (b0 : Nat), .int .u64 (b1 : Nat), .int .u64 (b2 : Nat), .int .u64 (b3 : Nat)] 24) (.cells #[.int .u64 (d0 : Nat), .int .u64 (d1 : Nat), .int .u64 (d2 : Nat), .int .u64 (d3 : Nat)] 24) (.cells #[.int .u64 0, .int .u64 0, .int .u64 0, .int .u64 0] 24) rfl rfl rfl)
  have HX := Lib.hid hx
  have HY := Lib.hid hy
  clear hx hy
  go_enter Tryz.func106, Tryz.ntmps106
  go_wp2_with fail
  generalize (((w.alloc (.cells #[.int .u64 (b0 : Nat), .int .u64 (b1 : Nat), .int .u64 (b2 : Nat), .int .u64 (b3 : Nat)] 24)).alloc (.cells #[.int .u64 (d0 : Nat), .int .u64 (d1 : Nat), .int .u64 (d2 : Nat), .int .u64 (d3 : Nat)] 24)).alloc (.cells #[.int .u64 0, .int .u64 0, .int .u64 0, .int .u64 0] 24)) = W0 at H3 ⊢
  obtain ⟨xs, hxs⟩ : ∃ l, [b0, b1, b2, b3] = l := ⟨_, rfl⟩
  obtain ⟨ys, hys⟩ : ∃ l, [d0, d1, d2, d3] = l := ⟨_, rfl⟩
  have hxl : xs.length = 4 := by rw [← hxs]; rfl
  have hyl : ys.length = 4 := by rw [← hys]; rfl
  have HXS := Lib.hid hxs
  have HYS := Lib.hid hys
  rw [hxs] at H3 HX
  rw [hys] at H3 HY
  have HXL := Lib.hid hxl
  have HYL := Lib.hid hyl
  clear hxs hys hxl hyl
  go_loopw [6] (fun i wr => ∃ (t : Nat) (zs : List Nat), t ≤ 4 ∧ i = .int .i64 t ∧ Hid (ArrAt 24 wr w.heap.size zs) ∧ Hid (ArrAt 24 wr (w.heap.size + 1) ys) ∧ Hid (ArrAt 24 wr (w.heap.size + 1 + 1) [0, 0, 0, 0]) ∧ Hid (zs.length = 4) ∧ Hid (W64 zs) ∧ Hid (∀ j, j < t → wd zs j = wd xs j &&& wd ys j) ∧ Hid (∀ j, t ≤ j → wd zs j = wd xs j) ∧ Hid (Below w.heap.size w wr)) (fun i _ => 4 - (intOf i).toNat)
  case atStart => exact ⟨0, xs, by omega, rfl, Lib.hid H3.out.1, Lib.hid H3.out.2.1, Lib.hid H3.out.2.2.1, HXL, HX, Lib.hid (fun j hj => by omega), Lib.hid (fun j _ => rfl), Lib.hid H3.out.2.2.2⟩
  case round =>
    obtain ⟨t, zs, ht, rfl, HZ, HYA, HR, HZL, HZW, HD, HSM, HB⟩ := hrel
    clear H3
    by_cases hlt : t < 4
    · have hop := isBit_and.1 (wd xs t) (wd ys t) (wd_lt HX.out t) (wd_lt HY.out t)
      have HW := Lib.hid (HZW.out.set t _ (isBit_and.2 _ _ (wd_lt HX.out t) (wd_lt HY.out t)))
      have a0 := HZ.out.cell t (by rw [HZL.out]; exact hlt)
      rw [HSM.out t (Nat.le_refl _)] at a0
      have a1 := HYA.out.cell t (by rw [HYL.out]; exact hlt)
      have h4 : (t : Int) < 4 := by omega
      have h0 : (0 : Int) ≤ (t : Int) := by omega
      have f0 := HZ.out.free t
      obtain ⟨z, hz⟩ : ∃ z, wd xs t &&& wd ys t = z := ⟨_, rfl⟩
      have hop' : bits .and .u64 (wd xs t : Int) (wd ys t : Int) = (z : Int) := by rw [← hz]; exact hop
      have HZZ := Lib.hid hz
      have HWz : Hid (W64 (zs.set t z)) := Lib.hid (by rw [← hz]; exact HW.out)
      clear hop hz HW
      go_wp2_with fail
      go_region_law (fail)
      all_goals
        clear a0 a1 f0 hop'
        go_wp2
        go_roundw
        case rel => exact ⟨t + 1, zs.set t z, by omega, by go_num, Lib.hid (HZ.out.set t _), Lib.hid (HYA.out.other (by omega) t _), Lib.hid (HR.out.other (by omega) t _), Lib.hid (by rw [List.length_set]; exact HZL.out), HWz, Lib.hid (fun j hj => by
          by_cases e : j = t
          · rw [e, wd_set_eq (by rw [HZL.out]; omega), ← HZZ.out]
          · rw [wd_set_ne _ (by omega)]; exact HD.out j (by omega)), Lib.hid (fun j hj => by rw [wd_set_ne _ (by omega)]; exact HSM.out j (by omega)), Lib.hid (HB.out.setCell (Nat.le_refl _) _).drew⟩
        case measure => simp [intOf]; omega
    · obtain rfl : t = 4 := by omega
      have HN := Lib.hid (val_land HXL.out HYL.out HZL.out HX.out HY.out HD.out)
      obtain ⟨c0, c1, c2, c3, rfl⟩ := four_of HZL.out
      have a0 := HZ.out.cell 0 (by simp)
      have a1 := HZ.out.cell 1 (by simp)
      have a2 := HZ.out.cell 2 (by simp)
      have a3 := HZ.out.cell 3 (by simp)
      have r0 := HR.out.cell 0 (by simp)
      have r1 := HR.out.cell 1 (by simp)
      have r2 := HR.out.cell 2 (by simp)
      have r3 := HR.out.cell 3 (by simp)
      have f0 := HR.out.free 0
      have f1 := HR.out.free 1
      have f2 := HR.out.free 2
      have f3 := HR.out.free 3
      simp only [wd, List.getD_cons_zero, List.getD_cons_succ] at a0 a1 a2 a3 r0 r1 r2 r3
      go_wp2
      obtain ⟨W2, hW2, k1, k2, k3, k4⟩ := sto4 (f := (0, 0)) (t := 24) (a0 := .int .u64 (0 : Nat)) (a1 := .int .u64 (0 : Nat)) (a2 := .int .u64 (0 : Nat)) (a3 := .int .u64 (0 : Nat)) HR.out (.int .u64 (c0 : Nat)) (.int .u64 (c1 : Nat)) (.int .u64 (c2 : Nat)) (.int .u64 (c3 : Nat))
      rw [← hW2]
      exact bodyPost_ret (results_cell rfl _ _ (w.heap.size + 1 + 1) 24 _ _ _ rfl k1 Tryz.underlying24 rfl (by kernel_rfl)) rfl ⟨c0, c1, c2, c3, HZW.out, by rw [HXS.out, HYS.out]; exact HN.out, rfl, k4 _ _ (by omega) HB.out⟩
set_option maxRecDepth 10000 in
set_option maxHeartbeats 1000000 in
theorem borA_calls (w : World) (b0 b1 b2 b3 d0 d1 d2 d3 : Nat) (hx : W64 [b0, b1, b2, b3]) (hy : W64 [d0, d1, d2, d3]) :
    Calls Tryz.prog 109 #[bitsV b0 b1 b2 b3, bitsV d0 d1 d2 d3] w (BitsRes w (val [b0, b1, b2, b3] ||| val [d0, d1, d2, d3])) := by
  unfold bitsV
  have H3 := Lib.hid (three_new w 24 24 24 [b0, b1, b2, b3] [d0, d1, d2, d3] [0, 0, 0, 0] (.cells #[.int .u64 (b0 : Nat), .int .u64 (b1 : Nat), .int .u64 (b2 : Nat), .int .u64 (b3 : Nat)] 24) (.cells #[.int .u64 (d0 : Nat), .int .u64 (d1 : Nat), .int .u64 (d2 : Nat), .int .u64 (d3 : Nat)] 24) (.cells #[.int .u64 0, .int .u64 0, .int .u64 0, .int .u64 0] 24) rfl rfl rfl)
  have HX := Lib.hid hx
  have HY := Lib.hid hy
  clear hx hy
  go_enter Tryz.func109, Tryz.ntmps109
  go_wp2_with fail
  generalize (((w.alloc (.cells #[.int .u64 (b0 : Nat), .int .u64 (b1 : Nat), .int .u64 (b2 : Nat), .int .u64 (b3 : Nat)] 24)).alloc (.cells #[.int .u64 (d0 : Nat), .int .u64 (d1 : Nat), .int .u64 (d2 : Nat), .int .u64 (d3 : Nat)] 24)).alloc (.cells #[.int .u64 0, .int .u64 0, .int .u64 0, .int .u64 0] 24)) = W0 at H3 ⊢
  obtain ⟨xs, hxs⟩ : ∃ l, [b0, b1, b2, b3] = l := ⟨_, rfl⟩
  obtain ⟨ys, hys⟩ : ∃ l, [d0, d1, d2, d3] = l := ⟨_, rfl⟩
  have hxl : xs.length = 4 := by rw [← hxs]; rfl
  have hyl : ys.length = 4 := by rw [← hys]; rfl
  have HXS := Lib.hid hxs
  have HYS := Lib.hid hys
  rw [hxs] at H3 HX
  rw [hys] at H3 HY
  have HXL := Lib.hid hxl
  have HYL := Lib.hid hyl
  clear hxs hys hxl hyl
  go_loopw [6] (fun i wr => ∃ (t : Nat) (zs : List Nat), t ≤ 4 ∧ i = .int .i64 t ∧ Hid (ArrAt 24 wr w.heap.size zs) ∧ Hid (ArrAt 24 wr (w.heap.size + 1) ys) ∧ Hid (ArrAt 24 wr (w.heap.size + 1 + 1) [0, 0, 0, 0]) ∧ Hid (zs.length = 4) ∧ Hid (W64 zs) ∧ Hid (∀ j, j < t → wd zs j = wd xs j ||| wd ys j) ∧ Hid (∀ j, t ≤ j → wd zs j = wd xs j) ∧ Hid (Below w.heap.size w wr)) (fun i _ => 4 - (intOf i).toNat)
  case atStart => exact ⟨0, xs, by omega, rfl, Lib.hid H3.out.1, Lib.hid H3.out.2.1, Lib.hid H3.out.2.2.1, HXL, HX, Lib.hid (fun j hj => by omega), Lib.hid (fun j _ => rfl), Lib.hid H3.out.2.2.2⟩
  case round =>
    obtain ⟨t, zs, ht, rfl, HZ, HYA, HR, HZL, HZW, HD, HSM, HB⟩ := hrel
    clear H3
    by_cases hlt : t < 4
    · have hop := isBit_or.1 (wd xs t) (wd ys t) (wd_lt HX.out t) (wd_lt HY.out t)
      have HW := Lib.hid (HZW.out.set t _ (isBit_or.2 _ _ (wd_lt HX.out t) (wd_lt HY.out t)))
      have a0 := HZ.out.cell t (by rw [HZL.out]; exact hlt)
      rw [HSM.out t (Nat.le_refl _)] at a0
      have a1 := HYA.out.cell t (by rw [HYL.out]; exact hlt)
      have h4 : (t : Int) < 4 := by omega
      have h0 : (0 : Int) ≤ (t : Int) := by omega
      have f0 := HZ.out.free t
      obtain ⟨z, hz⟩ : ∃ z, wd xs t ||| wd ys t = z := ⟨_, rfl⟩
      have hop' : bits .or .u64 (wd xs t : Int) (wd ys t : Int) = (z : Int) := by rw [← hz]; exact hop
      have HZZ := Lib.hid hz
      have HWz : Hid (W64 (zs.set t z)) := Lib.hid (by rw [← hz]; exact HW.out)
      clear hop hz HW
      go_wp2_with fail
      go_region_law (fail)
      all_goals
        clear a0 a1 f0 hop'
        go_wp2
        go_roundw
        case rel => exact ⟨t + 1, zs.set t z, by omega, by go_num, Lib.hid (HZ.out.set t _), Lib.hid (HYA.out.other (by omega) t _), Lib.hid (HR.out.other (by omega) t _), Lib.hid (by rw [List.length_set]; exact HZL.out), HWz, Lib.hid (fun j hj => by
          by_cases e : j = t
          · rw [e, wd_set_eq (by rw [HZL.out]; omega), ← HZZ.out]
          · rw [wd_set_ne _ (by omega)]; exact HD.out j (by omega)), Lib.hid (fun j hj => by rw [wd_set_ne _ (by omega)]; exact HSM.out j (by omega)), Lib.hid (HB.out.setCell (Nat.le_refl _) _).drew⟩
        case measure => simp [intOf]; omega
    · obtain rfl : t = 4 := by omega
      have HN := Lib.hid (val_lor HXL.out HYL.out HZL.out HX.out HY.out HD.out)
      obtain ⟨c0, c1, c2, c3, rfl⟩ := four_of HZL.out
      have a0 := HZ.out.cell 0 (by simp)
      have a1 := HZ.out.cell 1 (by simp)
      have a2 := HZ.out.cell 2 (by simp)
      have a3 := HZ.out.cell 3 (by simp)
      have r0 := HR.out.cell 0 (by simp)
      have r1 := HR.out.cell 1 (by simp)
      have r2 := HR.out.cell 2 (by simp)
      have r3 := HR.out.cell 3 (by simp)
      have f0 := HR.out.free 0
      have f1 := HR.out.free 1
      have f2 := HR.out.free 2
      have f3 := HR.out.free 3
      simp only [wd, List.getD_cons_zero, List.getD_cons_succ] at a0 a1 a2 a3 r0 r1 r2 r3
      go_wp2
      obtain ⟨W2, hW2, k1, k2, k3, k4⟩ := sto4 (f := (0, 0)) (t := 24) (a0 := .int .u64 (0 : Nat)) (a1 := .int .u64 (0 : Nat)) (a2 := .int .u64 (0 : Nat)) (a3 := .int .u64 (0 : Nat)) HR.out (.int .u64 (c0 : Nat)) (.int .u64 (c1 : Nat)) (.int .u64 (c2 : Nat)) (.int .u64 (c3 : Nat))
      rw [← hW2]
      exact bodyPost_ret (results_cell rfl _ _ (w.heap.size + 1 + 1) 24 _ _ _ rfl k1 Tryz.underlying24 rfl (by kernel_rfl)) rfl ⟨c0, c1, c2, c3, HZW.out, by rw [HXS.out, HYS.out]; exact HN.out, rfl, k4 _ _ (by omega) HB.out⟩
end Go.Proofs.YtpodpdopgdkdkaaGreatDoor
