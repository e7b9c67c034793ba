/- The contract of the reference's Right. -/
import Derived.Test.YthaplpenccpkpaaLongMath
import Derived.Test.YthaplpenccpkpaaRefShift
namespace Go.Proofs.Ythaplpenccpkpaa
open Go.RowKit
theorem OwnW.plain {B : Nat} {w : World} {a : Option Addr} {len cap : Nat} {xs : List Nat} (h : OwnW B w a len cap xs) : Plain a := by
  rcases h.words with ⟨rfl, _, _, _⟩ | ⟨g, rfl, _, _⟩
  · exact .inl rfl
  · exact .inr ⟨_, _, rfl⟩
/-- A natural number that the call has made, and whether something went out. -/
def goneB (n : Nat) : Bool := decide (n ≠ 0)
theorem goneB_zero : goneB 0 = false := rfl
theorem goneB_pos {n : Nat} (h : n ≠ 0) : goneB n = true := by unfold goneB; simp; exact h
theorem gone_more {a b : Nat} (h : b ≠ 0) {P : Nat} (hP : 0 < P) : goneB (a + P * b) = true := goneB_pos (by have := Nat.mul_pos hP (Nat.pos_of_ne_zero h); omega)
end Go.Proofs.Ythaplpenccpkpaa
