/- DescHolds: one format holds another one just if the document says so; it goes through, and each holds itself. No conditions. -/
import Derived.Test.YtojbdaeidbmjgaaDescTells
import Derived.Test.YtojbdaeidbmjgaaBoxes
namespace Go.Proofs.Ytojbdaeidbmjgaa
open Go.RowKit
/-- Is it a format? -/
def isF (n : Int) : Bool := decide (1 ≤ n) && decide (n ≤ 12)
def holdsF (f g : Int) : Bool :=
  isF f && isF g && decide (bsF f = bsF g) && decide (prF f ≤ prF g) && decide (loF g ≤ loF f) && decide (hiF f + prF f ≤ hiF g + prF g)
theorem bnds (n : Int) (h1 : 1 ≤ n) (h2 : n ≤ 12) : 7 ≤ prF n ∧ prF n ≤ 241 ∧ -20000 ≤ loF n ∧ loF n ≤ 0 ∧ 0 ≤ hiF n ∧ hiF n ≤ 20000 := by
  rcases twelve h1 h2 with rfl | rfl | rfl | rfl | rfl | rfl | rfl | rfl | rfl | rfl | rfl | rfl <;> decide
/-- What Of tells, both ways in one. -/
structure OfTells (n E : Int) (C : Array Value) (b p l m : Int) : Prop where
  of : ∀ w, Calls Try.prog 35 #[.int .i64 n] w fun e w' => e = .returned (.tuple #[.agg C, .int .i64 E]) ∧ Below w.heap.size w w'
  ref : ∀ w, Calls Try.prog 26 #[.int .i64 n] w fun e w' => e = .returned (.tuple #[.agg C, .int .i64 E]) ∧ Below w.heap.size w w'
  cells : C.size = 10 ∧ C.all (·.oneCell') = true ∧ C[2]? = some (.int .i64 b) ∧ C[4]? = some (.int .i64 p) ∧ C[6]? = some (.int .i64 l) ∧ C[7]? = some (.int .i64 m)
  bd : 0 ≤ p ∧ p ≤ 241 ∧ -20000 ≤ l ∧ l ≤ 20000 ∧ 0 ≤ m ∧ m ≤ 20000
  ok : E = 0 ↔ isF n = true
  is : isF n = true → b = bsF n ∧ p = prF n ∧ l = loF n ∧ m = hiF n
theorem ofTells (n : Int) : ∃ E C b p l m, OfTells n E C b p l m := by
  by_cases h : 1 ≤ n ∧ n ≤ 12
  · have := bnds n h.1 h.2
    exact ⟨0, infF n, bsF n, prF n, loF n, hiF n, fun w => of_calls n w h.1 h.2, fun w => refOf_calls n w h.1 h.2, ⟨rfl, by simp [infF, Value.oneCell'], rfl, rfl, rfl, rfl⟩, by omega, by simp [isF, h.1, h.2], fun _ => ⟨rfl, rfl, rfl, rfl⟩⟩
  · have hf : isF n = false := by simp [isF]; omega
    exact ⟨1, inf0, 0, 0, 0, 0, fun w => of_none n w (by omega), fun w => refOf_none n w (by omega), ⟨rfl, by simp [inf0, Value.oneCell'], rfl, rfl, rfl, rfl⟩, by omega, by simp [hf], fun h => by simp [hf] at h⟩
theorem holdsF_of {f g E E' b p l m b' p' l' m' : Int} {C C' : Array Value} (H : OfTells f E C b p l m) (H' : OfTells g E' C' b' p' l' m') :
    holdsF f g = (decide (E = 0) && decide (E' = 0) && decide (b = b') && decide (p ≤ p') && decide (l' ≤ l) && decide (m + p ≤ m' + p')) := by
  unfold holdsF
  cases h1 : isF f with
  | false => have : ¬ E = 0 := fun e => by rw [H.ok.1 e] at h1; cases h1
             simp [this]
  | true =>
    cases h2 : isF g with
    | false => have : ¬ E' = 0 := fun e => by rw [H'.ok.1 e] at h2; cases h2
               simp [this]
    | true =>
      obtain ⟨rfl, rfl, rfl, rfl⟩ := H.is h1
      obtain ⟨rfl, rfl, rfl, rfl⟩ := H'.is h2
      simp [H.ok.2 h1, H'.ok.2 h2]
theorem isF_ok (n E : Int) (C : Array Value) (b p l m : Int) (H : OfTells n E C b p l m) : (E == 0) = isF n := by
  rw [Bool.eq_iff_iff, beq_iff_eq]; exact H.ok
theorem holdsF_self (f : Int) : holdsF f f = isF f := by unfold holdsF; cases isF f <;> simp
theorem holdsF_trans {f g h : Int} (a : holdsF f g = true) (b : holdsF g h = true) : holdsF f h = true := by
  unfold holdsF at *
  simp only [Bool.and_eq_true, decide_eq_true_eq] at *
  obtain ⟨⟨⟨⟨⟨a1, a2⟩, a3⟩, a4⟩, a5⟩, a6⟩ := a
  obtain ⟨⟨⟨⟨⟨b1, b2⟩, b3⟩, b4⟩, b5⟩, b6⟩ := b
  refine ⟨⟨⟨⟨⟨a1, b2⟩, ?_⟩, ?_⟩, ?_⟩, ?_⟩ <;> omega
end Go.Proofs.Ytojbdaeidbmjgaa
