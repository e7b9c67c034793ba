/- The contract of nat.Shr. -/
import Derived.Test.YthaplpenccpkpaaNatShr
import Derived.Deep.DeepCutAuto
namespace Go.Proofs.Ythaplpenccpkpaa
open Go.RowKit
end Go.Proofs.Ythaplpenccpkpaa
