/- The contract of the reference's Shl. -/
import Derived.Test.YthaplpenccpkpaaRefShift
namespace Go.Proofs.Ythaplpenccpkpaa
open Go.RowKit
def shlErr (k : Nat) (n : Int) : Int := if n < 0 then 1 else if 2000 < k + (n.toNat + 63) / 64 then 4 else 0
def shlVal (xs : List Nat) (n : Int) : Nat := if n < 0 then 0 else if 2000 < sz xs + (n.toNat + 63) / 64 then 0 else val xs * 2 ^ n.toNat
end Go.Proofs.Ythaplpenccpkpaa
