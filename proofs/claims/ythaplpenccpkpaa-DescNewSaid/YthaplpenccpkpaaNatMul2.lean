/- The contracts of nat.Mul and the reference's Mul and Sub. -/
import Derived.Test.YthaplpenccpkpaaNatMul
namespace Go.Proofs.Ythaplpenccpkpaa
open Go.RowKit
/-- A product's error. -/
def mulErr (k l : Nat) : Int := if 2000 < k + l then 4 else 0
/-- A product, or nothing. -/
def mulVal (xs ys : List Nat) : Nat := if 2000 < sz xs + sz ys then 0 else val xs * val ys
/-- A difference's error. -/
def subErr (x y : Nat) : Int := if x < y then 3 else 0
theorem cmpI_neg (x y : Nat) : decide (cmpI x y < 0) = decide (x < y) := by
  unfold cmpI
  split
  · simp; omega
  · split <;> simp <;> omega
end Go.Proofs.Ythaplpenccpkpaa
