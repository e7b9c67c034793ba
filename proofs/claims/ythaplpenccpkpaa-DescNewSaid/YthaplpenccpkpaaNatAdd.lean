/- The contract of nat.Add. -/
import Derived.Test.YthaplpenccpkpaaNatOps
namespace Go.Proofs.Ythaplpenccpkpaa
open Go.RowKit
theorem add_step {zs xs ys : List Nat} {t c x y : Nat} (hv : valTo zs t + B64 ^ t * c = valTo xs t + valTo ys t) (hx : valTo xs (t + 1) = valTo xs t + B64 ^ t * x) (hy : valTo ys (t + 1) = valTo ys t + B64 ^ t * y) (hl : t < zs.length) :
    valTo (zs.set t (addLo x y c)) (t + 1) + B64 ^ (t + 1) * addHi x y c = valTo xs (t + 1) + valTo ys (t + 1) := by
  rw [valTo_set_succ hl, hx, hy, Nat.pow_succ, Nat.mul_assoc, Nat.add_assoc, ← Nat.mul_add, add_eq, Nat.mul_add, Nat.mul_add]
  omega
end Go.Proofs.Ythaplpenccpkpaa
