/- The contracts of the reference's Left, Shl. -/
import Derived.Test.YthaplpenccpkpaaShiftMath
namespace Go.Proofs.Ythaplpenccpkpaa
open Go.RowKit
theorem wrapI {n : Int} (h1 : -9223372036854775808 ≤ n) (h2 : n ≤ 9223372036854775807) : IntKind.i64.wrap n = n := by
  have e : IntKind.i64.wrap n = if (true && decide (n % 18446744073709551616 ≥ 9223372036854775808)) = true then n % 18446744073709551616 - 18446744073709551616 else n % 18446744073709551616 := rfl
  rw [e]
  simp
  split <;> omega
end Go.Proofs.Ythaplpenccpkpaa
