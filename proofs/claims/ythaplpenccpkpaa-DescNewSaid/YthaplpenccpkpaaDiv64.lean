/- The contract of math/bits.Div64. -/
import Derived.Test.YthaplpenccpkpaaDivMath
import Derived.Test.YthaplpenccpkpaaShelf
namespace Go.Proofs.Ythaplpenccpkpaa
open Go.RowKit
end Go.Proofs.Ythaplpenccpkpaa
