/-
  NARROWER THAN 'FOR EVERY INPUT', by the rows' own cells (each row's printed sentence says how): DescPowers: calm · DescNew: calm · DescOnce: calm.
  DERIVED. THE GIVEN ROWS OF THIS SEAT. 11 by the template 'for every input the law returns true; each argument reads behind the call as it read before'; 0 by the template 'total and deterministic' (their statements: YthaplpenccpkpaaTotals.lean).
  GIVEN WITH THE SEED: the statements are not yours to turn. If you find one false, say at which input.
  Laid BY PROGRAM, IN A SANDBOX (cutbox-rows.mjs): the forced cells as the released guide's own fill.sh prints them over the translation 018988299d060081… (all of the seat's roots in one cut). By AI agents, Wed Nov 11 2026. No macro, syntax, notation, axiom, sorry.
-/
import Derived.Test.YthaplpenccpkpaaChecked
import GoSem.Claim
import GoSem.ClaimJoined
import GoSem.ClaimMapViews
import Derived.JoinedTies
import Derived.KernelRfl
namespace Go.Proofs.Ythaplpenccpkpaa
/- THE CELL 'sum', in the pinned program and in every row, IS THE sha256 OF THE DUMP (.gsa) THAT YthaplpenccpkpaaProg.lean LOADS. Nothing in Lean hashes anything: it is a label: what it is worth is what the hold of that sum in a sandbox is worth. -/
noncomputable def Try.pinned : Pinned := { name := "ythaplpenccpkpaa", sum := "018988299d060081b909a0b8ad237cd42f11bb3c5a73dbf0d37c3ea2076c54f7", checked := Try.checked }
namespace Rows
def none {H : Type} : Left H := { results := [], args := [] }

/-- 'caliperlaw04.DescTells': WHATEVER THE INPUT: true; the input reads as it did. -/
def descTellsSpec : ChangeSpec := { name := "descTells", fn := fun _ => fun
  | [d] => { results := [.lit (.bool true)], args := [d] }
  | _ => none }
def descTellsRow : OpenClaim := { program := "ythaplpenccpkpaa", sum := "018988299d060081b909a0b8ad237cd42f11bb3c5a73dbf0d37c3ea2076c54f7", func := "caliper/caliperlaw04.DescTells", spec := "descTells", apart := false }
def DescTellsSaid : Prop := descTellsRow.holds Try.pinned (OpenSpec.ofChange descTellsSpec)

/-- ITS FALSE NEIGHBOUR: 'it returns false'. Refute it at one input. -/
def descTellsWrong : ChangeSpec := { name := "descTells", fn := fun _ => fun
  | [d] => { results := [.lit (.bool false)], args := [d] }
  | _ => none }
def DescTellsWrongFalsely : Prop := descTellsRow.holds Try.pinned (OpenSpec.ofChange descTellsWrong)

/-- 'caliperlaw03.FlagsStay': WHATEVER THE INPUT: true; the input reads as it did. -/
def flagsStaySpec : ChangeSpec := { name := "flagsStay", fn := fun _ => fun
  | [d1, d2] => { results := [.lit (.bool true)], args := [d1, d2] }
  | _ => none }
def flagsStayRow : OpenClaim := { program := "ythaplpenccpkpaa", sum := "018988299d060081b909a0b8ad237cd42f11bb3c5a73dbf0d37c3ea2076c54f7", func := "caliper/caliperlaw03.FlagsStay", spec := "flagsStay", inPlace := ["sync/atomic.OrUint32", "sync/atomic.LoadUint32", "sync/atomic.AndUint32"], apart := false }
def FlagsStaySaid : Prop := flagsStayRow.holds Try.pinned (OpenSpec.ofChange flagsStaySpec)

/-- ITS FALSE NEIGHBOUR: 'it returns false'. Refute it at one input. -/
def flagsStayWrong : ChangeSpec := { name := "flagsStay", fn := fun _ => fun
  | [d1, d2] => { results := [.lit (.bool false)], args := [d1, d2] }
  | _ => none }
def FlagsStayWrongFalsely : Prop := flagsStayRow.holds Try.pinned (OpenSpec.ofChange flagsStayWrong)

/-- 'caliperlaw04.DescHolds': WHATEVER THE INPUT: true; the input reads as it did. -/
def descHoldsSpec : ChangeSpec := { name := "descHolds", fn := fun _ => fun
  | [d1, d2, d3] => { results := [.lit (.bool true)], args := [d1, d2, d3] }
  | _ => none }
def descHoldsRow : OpenClaim := { program := "ythaplpenccpkpaa", sum := "018988299d060081b909a0b8ad237cd42f11bb3c5a73dbf0d37c3ea2076c54f7", func := "caliper/caliperlaw04.DescHolds", spec := "descHolds", apart := false }
def DescHoldsSaid : Prop := descHoldsRow.holds Try.pinned (OpenSpec.ofChange descHoldsSpec)

/-- ITS FALSE NEIGHBOUR: 'it returns false'. Refute it at one input. -/
def descHoldsWrong : ChangeSpec := { name := "descHolds", fn := fun _ => fun
  | [d1, d2, d3] => { results := [.lit (.bool false)], args := [d1, d2, d3] }
  | _ => none }
def DescHoldsWrongFalsely : Prop := descHoldsRow.holds Try.pinned (OpenSpec.ofChange descHoldsWrong)

/-- 'caliperlaw03.FlagsPlay': WHATEVER THE INPUT: true; the input reads as it did. -/
def flagsPlaySpec : ChangeSpec := { name := "flagsPlay", fn := fun _ => fun
  | [d1, d2] => { results := [.lit (.bool true)], args := [d1, d2] }
  | _ => none }
def flagsPlayRow : OpenClaim := { program := "ythaplpenccpkpaa", sum := "018988299d060081b909a0b8ad237cd42f11bb3c5a73dbf0d37c3ea2076c54f7", func := "caliper/caliperlaw03.FlagsPlay", spec := "flagsPlay", inPlace := ["sync/atomic.OrUint32", "sync/atomic.LoadUint32", "sync/atomic.AndUint32", "sync/atomic.SwapInt32", "sync/atomic.LoadInt32"], apart := false }
def FlagsPlaySaid : Prop := flagsPlayRow.holds Try.pinned (OpenSpec.ofChange flagsPlaySpec)

/-- ITS FALSE NEIGHBOUR: 'it returns false'. Refute it at one input. -/
def flagsPlayWrong : ChangeSpec := { name := "flagsPlay", fn := fun _ => fun
  | [d1, d2] => { results := [.lit (.bool false)], args := [d1, d2] }
  | _ => none }
def FlagsPlayWrongFalsely : Prop := flagsPlayRow.holds Try.pinned (OpenSpec.ofChange flagsPlayWrong)

/-- 'caliperlaw04.DescFits': WHATEVER THE INPUT: true; the input reads as it did. -/
def descFitsSpec : ChangeSpec := { name := "descFits", fn := fun _ => fun
  | [d1, d2] => { results := [.lit (.bool true)], args := [d1, d2] }
  | _ => none }
def descFitsRow : OpenClaim := { program := "ythaplpenccpkpaa", sum := "018988299d060081b909a0b8ad237cd42f11bb3c5a73dbf0d37c3ea2076c54f7", func := "caliper/caliperlaw04.DescFits", spec := "descFits", apart := false }
def DescFitsSaid : Prop := descFitsRow.holds Try.pinned (OpenSpec.ofChange descFitsSpec)

/-- ITS FALSE NEIGHBOUR: 'it returns false'. Refute it at one input. -/
def descFitsWrong : ChangeSpec := { name := "descFits", fn := fun _ => fun
  | [d1, d2] => { results := [.lit (.bool false)], args := [d1, d2] }
  | _ => none }
def DescFitsWrongFalsely : Prop := descFitsRow.holds Try.pinned (OpenSpec.ofChange descFitsWrong)

/-- 'caliperlaw03.FlagsShare': WHATEVER THE INPUT: true; the input reads as it did. -/
def flagsShareSpec : ChangeSpec := { name := "flagsShare", fn := fun _ => fun
  | [d1, d2, d3] => { results := [.lit (.bool true)], args := [d1, d2, d3] }
  | _ => none }
def flagsShareRow : OpenClaim := { program := "ythaplpenccpkpaa", sum := "018988299d060081b909a0b8ad237cd42f11bb3c5a73dbf0d37c3ea2076c54f7", func := "caliper/caliperlaw03.FlagsShare", spec := "flagsShare", inPlace := ["sync/atomic.OrUint32", "sync/atomic.LoadUint32", "sync/atomic.AndUint32", "(*sync.WaitGroup).Go", "(*sync.WaitGroup).Add", "internal/race.ReleaseMerge", "internal/race.Disable", "internal/race.Enable", "internal/synctest.IsInBubble", "internal/synctest.Associate[sync.WaitGroup]", "sync.fatal", "sync/atomic.OrUint64", "sync/atomic.AddUint64", "internal/race.Read", "sync/atomic.LoadUint64", "sync/atomic.StoreUint64", "internal/synctest.Disassociate[sync.WaitGroup]", "sync.runtime_Semrelease", "(*sync.WaitGroup).Go$1", "(*sync.WaitGroup).Go$1$1", "(*sync.WaitGroup).Done", "(*sync.WaitGroup).Wait", "internal/race.Acquire", "internal/synctest.IsAssociated[sync.WaitGroup]", "sync/atomic.CompareAndSwapUint64", "internal/race.Write", "sync.runtime_SemacquireWaitGroup"], unfollowed := true, recurses := true, leaving := true, apart := false }
def FlagsShareSaid : Prop := flagsShareRow.holds Try.pinned (OpenSpec.ofChange flagsShareSpec)

/-- ITS FALSE NEIGHBOUR: 'it returns false'. Refute it at one input. -/
def flagsShareWrong : ChangeSpec := { name := "flagsShare", fn := fun _ => fun
  | [d1, d2, d3] => { results := [.lit (.bool false)], args := [d1, d2, d3] }
  | _ => none }
def FlagsShareWrongFalsely : Prop := flagsShareRow.holds Try.pinned (OpenSpec.ofChange flagsShareWrong)

/-- 'caliperlaw03.FlagsTogether': WHATEVER THE INPUT: true; the input reads as it did. -/
def flagsTogetherSpec : ChangeSpec := { name := "flagsTogether", fn := fun _ => fun
  | [d1, d2] => { results := [.lit (.bool true)], args := [d1, d2] }
  | _ => none }
def flagsTogetherRow : OpenClaim := { program := "ythaplpenccpkpaa", sum := "018988299d060081b909a0b8ad237cd42f11bb3c5a73dbf0d37c3ea2076c54f7", func := "caliper/caliperlaw03.FlagsTogether", spec := "flagsTogether", inPlace := ["sync/atomic.OrUint32", "sync/atomic.LoadUint32", "sync/atomic.AndUint32", "(*sync.WaitGroup).Go", "(*sync.WaitGroup).Add", "internal/race.ReleaseMerge", "internal/race.Disable", "internal/race.Enable", "internal/synctest.IsInBubble", "internal/synctest.Associate[sync.WaitGroup]", "sync.fatal", "sync/atomic.OrUint64", "sync/atomic.AddUint64", "internal/race.Read", "sync/atomic.LoadUint64", "sync/atomic.StoreUint64", "internal/synctest.Disassociate[sync.WaitGroup]", "sync.runtime_Semrelease", "(*sync.WaitGroup).Go$1", "(*sync.WaitGroup).Go$1$1", "(*sync.WaitGroup).Done", "(*sync.WaitGroup).Wait", "internal/race.Acquire", "internal/synctest.IsAssociated[sync.WaitGroup]", "sync/atomic.CompareAndSwapUint64", "internal/race.Write", "sync.runtime_SemacquireWaitGroup"], unfollowed := true, recurses := true, leaving := true, apart := false }
def FlagsTogetherSaid : Prop := flagsTogetherRow.holds Try.pinned (OpenSpec.ofChange flagsTogetherSpec)

/-- ITS FALSE NEIGHBOUR: 'it returns false'. Refute it at one input. -/
def flagsTogetherWrong : ChangeSpec := { name := "flagsTogether", fn := fun _ => fun
  | [d1, d2] => { results := [.lit (.bool false)], args := [d1, d2] }
  | _ => none }
def FlagsTogetherWrongFalsely : Prop := flagsTogetherRow.holds Try.pinned (OpenSpec.ofChange flagsTogetherWrong)

/-- 'caliperlaw03.FlagsNil': WHATEVER THE INPUT: true; the input reads as it did. -/
def flagsNilSpec : ChangeSpec := { name := "flagsNil", fn := fun _ => fun
  | [d] => { results := [.lit (.bool true)], args := [d] }
  | _ => none }
def flagsNilRow : OpenClaim := { program := "ythaplpenccpkpaa", sum := "018988299d060081b909a0b8ad237cd42f11bb3c5a73dbf0d37c3ea2076c54f7", func := "caliper/caliperlaw03.FlagsNil", spec := "flagsNil", inPlace := ["sync/atomic.OrUint32", "sync/atomic.LoadUint32", "sync/atomic.AndUint32", "sync/atomic.SwapInt32", "(*sync.WaitGroup).Go", "(*sync.WaitGroup).Add", "internal/race.ReleaseMerge", "internal/race.Disable", "internal/race.Enable", "internal/synctest.IsInBubble", "internal/synctest.Associate[sync.WaitGroup]", "sync.fatal", "sync/atomic.OrUint64", "sync/atomic.AddUint64", "internal/race.Read", "sync/atomic.LoadUint64", "sync/atomic.StoreUint64", "internal/synctest.Disassociate[sync.WaitGroup]", "sync.runtime_Semrelease", "(*sync.WaitGroup).Go$1", "(*sync.WaitGroup).Go$1$1", "(*sync.WaitGroup).Done", "(*sync.WaitGroup).Wait", "internal/race.Acquire", "internal/synctest.IsAssociated[sync.WaitGroup]", "sync/atomic.CompareAndSwapUint64", "internal/race.Write", "sync.runtime_SemacquireWaitGroup", "sync/atomic.LoadInt32"], unfollowed := true, recurses := true, leaving := true, apart := false }
def FlagsNilSaid : Prop := flagsNilRow.holds Try.pinned (OpenSpec.ofChange flagsNilSpec)

/-- ITS FALSE NEIGHBOUR: 'it returns false'. Refute it at one input. -/
def flagsNilWrong : ChangeSpec := { name := "flagsNil", fn := fun _ => fun
  | [d] => { results := [.lit (.bool false)], args := [d] }
  | _ => none }
def FlagsNilWrongFalsely : Prop := flagsNilRow.holds Try.pinned (OpenSpec.ofChange flagsNilWrong)

/-- 'caliperlaw04.DescPowers': WHATEVER THE INPUT: true; the input reads as it did. -/
def descPowersSpec : ChangeSpec := { name := "descPowers", fn := fun _ => fun
  | [d1, d2] => { results := [.lit (.bool true)], args := [d1, d2] }
  | _ => none }
def descPowersRow : OpenClaim := { program := "ythaplpenccpkpaa", sum := "018988299d060081b909a0b8ad237cd42f11bb3c5a73dbf0d37c3ea2076c54f7", func := "caliper/caliperlaw04.DescPowers", spec := "descPowers", inPlace := ["math/bits.Add64", "math/bits.Sub64", "sync/atomic.AddInt32", "sync/atomic.LoadUint32", "(*internal/sync.Mutex).Lock", "internal/race.Disable", "sync/atomic.CompareAndSwapInt32", "internal/race.Enable", "internal/race.Acquire", "(*internal/sync.Mutex).lockSlow", "internal/sync.runtime_canSpin", "internal/sync.runtime_doSpin", "internal/sync.throw", "internal/sync.runtime_nanotime", "internal/sync.runtime_SemacquireMutex", "(*internal/sync.Mutex).Unlock", "internal/race.ReleaseMerge", "(*internal/sync.Mutex).unlockSlow", "internal/sync.fatal", "internal/sync.runtime_Semrelease", "sync/atomic.StoreUint32"], unfollowed := true, recurses := true, leaving := true, apart := false, calm := true, outside := [.timePasses] }
def DescPowersSaid : Prop := descPowersRow.holds Try.pinned (OpenSpec.ofChange descPowersSpec)

/-- ITS FALSE NEIGHBOUR: 'it returns false'. Refute it at one input. -/
def descPowersWrong : ChangeSpec := { name := "descPowers", fn := fun _ => fun
  | [d1, d2] => { results := [.lit (.bool false)], args := [d1, d2] }
  | _ => none }
def DescPowersWrongFalsely : Prop := descPowersRow.holds Try.pinned (OpenSpec.ofChange descPowersWrong)

/-- 'caliperlaw04.DescNew': WHATEVER THE INPUT: true; the input reads as it did. -/
def descNewSpec : ChangeSpec := { name := "descNew", fn := fun _ => fun
  | [d1, d2] => { results := [.lit (.bool true)], args := [d1, d2] }
  | _ => none }
def descNewRow : OpenClaim := { program := "ythaplpenccpkpaa", sum := "018988299d060081b909a0b8ad237cd42f11bb3c5a73dbf0d37c3ea2076c54f7", func := "caliper/caliperlaw04.DescNew", spec := "descNew", inPlace := ["math/bits.Add64", "math/bits.Sub64", "sync/atomic.AddInt32", "sync/atomic.LoadUint32", "(*internal/sync.Mutex).Lock", "internal/race.Disable", "sync/atomic.CompareAndSwapInt32", "internal/race.Enable", "internal/race.Acquire", "(*internal/sync.Mutex).lockSlow", "internal/sync.runtime_canSpin", "internal/sync.runtime_doSpin", "internal/sync.throw", "internal/sync.runtime_nanotime", "internal/sync.runtime_SemacquireMutex", "(*internal/sync.Mutex).Unlock", "internal/race.ReleaseMerge", "(*internal/sync.Mutex).unlockSlow", "internal/sync.fatal", "internal/sync.runtime_Semrelease", "sync/atomic.StoreUint32", "sync/atomic.LoadInt32"], unfollowed := true, recurses := true, leaving := true, apart := false, calm := true, outside := [.timePasses] }
def DescNewSaid : Prop := descNewRow.holds Try.pinned (OpenSpec.ofChange descNewSpec)

/-- ITS FALSE NEIGHBOUR: 'it returns false'. Refute it at one input. -/
def descNewWrong : ChangeSpec := { name := "descNew", fn := fun _ => fun
  | [d1, d2] => { results := [.lit (.bool false)], args := [d1, d2] }
  | _ => none }
def DescNewWrongFalsely : Prop := descNewRow.holds Try.pinned (OpenSpec.ofChange descNewWrong)

/-- 'caliperlaw04.DescOnce': WHATEVER THE INPUT: true; the input reads as it did. -/
def descOnceSpec : ChangeSpec := { name := "descOnce", fn := fun _ => fun
  | [d1, d2, d3] => { results := [.lit (.bool true)], args := [d1, d2, d3] }
  | _ => none }
def descOnceRow : OpenClaim := { program := "ythaplpenccpkpaa", sum := "018988299d060081b909a0b8ad237cd42f11bb3c5a73dbf0d37c3ea2076c54f7", func := "caliper/caliperlaw04.DescOnce", spec := "descOnce", inPlace := ["sync/atomic.LoadInt32", "math/bits.Add64", "math/bits.Sub64", "sync/atomic.AddInt32", "sync/atomic.LoadUint32", "(*internal/sync.Mutex).Lock", "internal/race.Disable", "sync/atomic.CompareAndSwapInt32", "internal/race.Enable", "internal/race.Acquire", "(*internal/sync.Mutex).lockSlow", "internal/sync.runtime_canSpin", "internal/sync.runtime_doSpin", "internal/sync.throw", "internal/sync.runtime_nanotime", "internal/sync.runtime_SemacquireMutex", "(*internal/sync.Mutex).Unlock", "internal/race.ReleaseMerge", "(*internal/sync.Mutex).unlockSlow", "internal/sync.fatal", "internal/sync.runtime_Semrelease", "sync/atomic.StoreUint32", "(*sync.WaitGroup).Go", "(*sync.WaitGroup).Add", "internal/synctest.IsInBubble", "internal/synctest.Associate[sync.WaitGroup]", "sync.fatal", "sync/atomic.OrUint64", "sync/atomic.AddUint64", "internal/race.Read", "sync/atomic.LoadUint64", "sync/atomic.StoreUint64", "internal/synctest.Disassociate[sync.WaitGroup]", "sync.runtime_Semrelease", "(*sync.WaitGroup).Go$1", "(*sync.WaitGroup).Go$1$1", "(*sync.WaitGroup).Done", "(*sync.WaitGroup).Wait", "internal/synctest.IsAssociated[sync.WaitGroup]", "sync/atomic.CompareAndSwapUint64", "internal/race.Write", "sync.runtime_SemacquireWaitGroup"], unfollowed := true, recurses := true, leaving := true, apart := false, calm := true, outside := [.timePasses] }
def DescOnceSaid : Prop := descOnceRow.holds Try.pinned (OpenSpec.ofChange descOnceSpec)

/-- ITS FALSE NEIGHBOUR: 'it returns false'. Refute it at one input. -/
def descOnceWrong : ChangeSpec := { name := "descOnce", fn := fun _ => fun
  | [d1, d2, d3] => { results := [.lit (.bool false)], args := [d1, d2, d3] }
  | _ => none }
def DescOnceWrongFalsely : Prop := descOnceRow.holds Try.pinned (OpenSpec.ofChange descOnceWrong)

/- THE SECOND FORM. 'bulk': how many values and letters a reading holds, each counted each time it is reached (what is shared counts as often as it is met; a slice's spare places count too). A statement '..UptoSaid' is the law's where the arguments, and the package variables that the reading takes, are together of bulk at most 1048576: NARROWER than '..Said'. Prove '..Said' where nothing that the law and all that it calls make is longer than what came in: it says more and counts as full. Else prove '..UptoSaid'. A law counts once. -/
mutual
def uptoBulk {H : Type} : DataW H → Nat
  | .lit (.string bytes) => bytes.length + 1
  | .lit _ => 1
  | .nil => 1
  | .ptr d => uptoBulk d + 1
  | .slice elems spare => uptoBulkAll elems + uptoBulkAll spare + 1
  | .agg parts => uptoBulkAll parts + 1
  | .iface _ d => uptoBulk d + 1
  | .map entries => uptoBulkEntries entries + 1
  | .held _ => 1
def uptoBulkAll {H : Type} : List (DataW H) → Nat
  | [] => 0
  | d :: r => uptoBulk d + uptoBulkAll r
def uptoBulkEntries {H : Type} : List (Lit × DataW H) → Nat
  | [] => 0
  | x :: r => uptoBulkEntry x + uptoBulkEntries r
def uptoBulkEntry {H : Type} : Lit × DataW H → Nat
  | (.string bytes, d) => bytes.length + uptoBulk d + 1
  | (_, d) => uptoBulk d + 1
 end
def uptoSmall : (H : Type) → List (DataW H) → Bool := fun _ ds => decide (uptoBulkAll ds ≤ 1048576)
def OpenSpec.upto (s : _root_.Go.ChangeSpec) : _root_.Go.OpenSpec := { _root_.Go.OpenSpec.ofChange s with cond := some uptoSmall }

/-- 'caliperlaw04.DescTells', WHERE WHAT IT READS IS OF BULK AT MOST 1048576: true; the input reads as it did. -/
def descTellsUptoRow : OpenClaim := { program := "ythaplpenccpkpaa", sum := "018988299d060081b909a0b8ad237cd42f11bb3c5a73dbf0d37c3ea2076c54f7", func := "caliper/caliperlaw04.DescTells", spec := "descTells", apart := false, narrowed := true }
def DescTellsUptoSaid : Prop := descTellsUptoRow.holds Try.pinned (OpenSpec.upto descTellsSpec)

/-- 'caliperlaw03.FlagsStay', WHERE WHAT IT READS IS OF BULK AT MOST 1048576: true; the input reads as it did. -/
def flagsStayUptoRow : OpenClaim := { program := "ythaplpenccpkpaa", sum := "018988299d060081b909a0b8ad237cd42f11bb3c5a73dbf0d37c3ea2076c54f7", func := "caliper/caliperlaw03.FlagsStay", spec := "flagsStay", inPlace := ["sync/atomic.OrUint32", "sync/atomic.LoadUint32", "sync/atomic.AndUint32"], apart := false, narrowed := true }
def FlagsStayUptoSaid : Prop := flagsStayUptoRow.holds Try.pinned (OpenSpec.upto flagsStaySpec)

/-- 'caliperlaw04.DescHolds', WHERE WHAT IT READS IS OF BULK AT MOST 1048576: true; the input reads as it did. -/
def descHoldsUptoRow : OpenClaim := { program := "ythaplpenccpkpaa", sum := "018988299d060081b909a0b8ad237cd42f11bb3c5a73dbf0d37c3ea2076c54f7", func := "caliper/caliperlaw04.DescHolds", spec := "descHolds", apart := false, narrowed := true }
def DescHoldsUptoSaid : Prop := descHoldsUptoRow.holds Try.pinned (OpenSpec.upto descHoldsSpec)

/-- 'caliperlaw03.FlagsPlay', WHERE WHAT IT READS IS OF BULK AT MOST 1048576: true; the input reads as it did. -/
def flagsPlayUptoRow : OpenClaim := { program := "ythaplpenccpkpaa", sum := "018988299d060081b909a0b8ad237cd42f11bb3c5a73dbf0d37c3ea2076c54f7", func := "caliper/caliperlaw03.FlagsPlay", spec := "flagsPlay", inPlace := ["sync/atomic.OrUint32", "sync/atomic.LoadUint32", "sync/atomic.AndUint32", "sync/atomic.SwapInt32", "sync/atomic.LoadInt32"], apart := false, narrowed := true }
def FlagsPlayUptoSaid : Prop := flagsPlayUptoRow.holds Try.pinned (OpenSpec.upto flagsPlaySpec)

/-- 'caliperlaw04.DescFits', WHERE WHAT IT READS IS OF BULK AT MOST 1048576: true; the input reads as it did. -/
def descFitsUptoRow : OpenClaim := { program := "ythaplpenccpkpaa", sum := "018988299d060081b909a0b8ad237cd42f11bb3c5a73dbf0d37c3ea2076c54f7", func := "caliper/caliperlaw04.DescFits", spec := "descFits", apart := false, narrowed := true }
def DescFitsUptoSaid : Prop := descFitsUptoRow.holds Try.pinned (OpenSpec.upto descFitsSpec)

/-- 'caliperlaw03.FlagsShare', WHERE WHAT IT READS IS OF BULK AT MOST 1048576: true; the input reads as it did. -/
def flagsShareUptoRow : OpenClaim := { program := "ythaplpenccpkpaa", sum := "018988299d060081b909a0b8ad237cd42f11bb3c5a73dbf0d37c3ea2076c54f7", func := "caliper/caliperlaw03.FlagsShare", spec := "flagsShare", inPlace := ["sync/atomic.OrUint32", "sync/atomic.LoadUint32", "sync/atomic.AndUint32", "(*sync.WaitGroup).Go", "(*sync.WaitGroup).Add", "internal/race.ReleaseMerge", "internal/race.Disable", "internal/race.Enable", "internal/synctest.IsInBubble", "internal/synctest.Associate[sync.WaitGroup]", "sync.fatal", "sync/atomic.OrUint64", "sync/atomic.AddUint64", "internal/race.Read", "sync/atomic.LoadUint64", "sync/atomic.StoreUint64", "internal/synctest.Disassociate[sync.WaitGroup]", "sync.runtime_Semrelease", "(*sync.WaitGroup).Go$1", "(*sync.WaitGroup).Go$1$1", "(*sync.WaitGroup).Done", "(*sync.WaitGroup).Wait", "internal/race.Acquire", "internal/synctest.IsAssociated[sync.WaitGroup]", "sync/atomic.CompareAndSwapUint64", "internal/race.Write", "sync.runtime_SemacquireWaitGroup"], unfollowed := true, recurses := true, leaving := true, apart := false, narrowed := true }
def FlagsShareUptoSaid : Prop := flagsShareUptoRow.holds Try.pinned (OpenSpec.upto flagsShareSpec)

/-- 'caliperlaw03.FlagsTogether', WHERE WHAT IT READS IS OF BULK AT MOST 1048576: true; the input reads as it did. -/
def flagsTogetherUptoRow : OpenClaim := { program := "ythaplpenccpkpaa", sum := "018988299d060081b909a0b8ad237cd42f11bb3c5a73dbf0d37c3ea2076c54f7", func := "caliper/caliperlaw03.FlagsTogether", spec := "flagsTogether", inPlace := ["sync/atomic.OrUint32", "sync/atomic.LoadUint32", "sync/atomic.AndUint32", "(*sync.WaitGroup).Go", "(*sync.WaitGroup).Add", "internal/race.ReleaseMerge", "internal/race.Disable", "internal/race.Enable", "internal/synctest.IsInBubble", "internal/synctest.Associate[sync.WaitGroup]", "sync.fatal", "sync/atomic.OrUint64", "sync/atomic.AddUint64", "internal/race.Read", "sync/atomic.LoadUint64", "sync/atomic.StoreUint64", "internal/synctest.Disassociate[sync.WaitGroup]", "sync.runtime_Semrelease", "(*sync.WaitGroup).Go$1", "(*sync.WaitGroup).Go$1$1", "(*sync.WaitGroup).Done", "(*sync.WaitGroup).Wait", "internal/race.Acquire", "internal/synctest.IsAssociated[sync.WaitGroup]", "sync/atomic.CompareAndSwapUint64", "internal/race.Write", "sync.runtime_SemacquireWaitGroup"], unfollowed := true, recurses := true, leaving := true, apart := false, narrowed := true }
def FlagsTogetherUptoSaid : Prop := flagsTogetherUptoRow.holds Try.pinned (OpenSpec.upto flagsTogetherSpec)

/-- 'caliperlaw03.FlagsNil', WHERE WHAT IT READS IS OF BULK AT MOST 1048576: true; the input reads as it did. -/
def flagsNilUptoRow : OpenClaim := { program := "ythaplpenccpkpaa", sum := "018988299d060081b909a0b8ad237cd42f11bb3c5a73dbf0d37c3ea2076c54f7", func := "caliper/caliperlaw03.FlagsNil", spec := "flagsNil", inPlace := ["sync/atomic.OrUint32", "sync/atomic.LoadUint32", "sync/atomic.AndUint32", "sync/atomic.SwapInt32", "(*sync.WaitGroup).Go", "(*sync.WaitGroup).Add", "internal/race.ReleaseMerge", "internal/race.Disable", "internal/race.Enable", "internal/synctest.IsInBubble", "internal/synctest.Associate[sync.WaitGroup]", "sync.fatal", "sync/atomic.OrUint64", "sync/atomic.AddUint64", "internal/race.Read", "sync/atomic.LoadUint64", "sync/atomic.StoreUint64", "internal/synctest.Disassociate[sync.WaitGroup]", "sync.runtime_Semrelease", "(*sync.WaitGroup).Go$1", "(*sync.WaitGroup).Go$1$1", "(*sync.WaitGroup).Done", "(*sync.WaitGroup).Wait", "internal/race.Acquire", "internal/synctest.IsAssociated[sync.WaitGroup]", "sync/atomic.CompareAndSwapUint64", "internal/race.Write", "sync.runtime_SemacquireWaitGroup", "sync/atomic.LoadInt32"], unfollowed := true, recurses := true, leaving := true, apart := false, narrowed := true }
def FlagsNilUptoSaid : Prop := flagsNilUptoRow.holds Try.pinned (OpenSpec.upto flagsNilSpec)

/-- 'caliperlaw04.DescPowers', WHERE WHAT IT READS IS OF BULK AT MOST 1048576: true; the input reads as it did. -/
def descPowersUptoRow : OpenClaim := { program := "ythaplpenccpkpaa", sum := "018988299d060081b909a0b8ad237cd42f11bb3c5a73dbf0d37c3ea2076c54f7", func := "caliper/caliperlaw04.DescPowers", spec := "descPowers", inPlace := ["math/bits.Add64", "math/bits.Sub64", "sync/atomic.AddInt32", "sync/atomic.LoadUint32", "(*internal/sync.Mutex).Lock", "internal/race.Disable", "sync/atomic.CompareAndSwapInt32", "internal/race.Enable", "internal/race.Acquire", "(*internal/sync.Mutex).lockSlow", "internal/sync.runtime_canSpin", "internal/sync.runtime_doSpin", "internal/sync.throw", "internal/sync.runtime_nanotime", "internal/sync.runtime_SemacquireMutex", "(*internal/sync.Mutex).Unlock", "internal/race.ReleaseMerge", "(*internal/sync.Mutex).unlockSlow", "internal/sync.fatal", "internal/sync.runtime_Semrelease", "sync/atomic.StoreUint32"], unfollowed := true, recurses := true, leaving := true, apart := false, calm := true, outside := [.timePasses], narrowed := true }
def DescPowersUptoSaid : Prop := descPowersUptoRow.holds Try.pinned (OpenSpec.upto descPowersSpec)

/-- 'caliperlaw04.DescNew', WHERE WHAT IT READS IS OF BULK AT MOST 1048576: true; the input reads as it did. -/
def descNewUptoRow : OpenClaim := { program := "ythaplpenccpkpaa", sum := "018988299d060081b909a0b8ad237cd42f11bb3c5a73dbf0d37c3ea2076c54f7", func := "caliper/caliperlaw04.DescNew", spec := "descNew", inPlace := ["math/bits.Add64", "math/bits.Sub64", "sync/atomic.AddInt32", "sync/atomic.LoadUint32", "(*internal/sync.Mutex).Lock", "internal/race.Disable", "sync/atomic.CompareAndSwapInt32", "internal/race.Enable", "internal/race.Acquire", "(*internal/sync.Mutex).lockSlow", "internal/sync.runtime_canSpin", "internal/sync.runtime_doSpin", "internal/sync.throw", "internal/sync.runtime_nanotime", "internal/sync.runtime_SemacquireMutex", "(*internal/sync.Mutex).Unlock", "internal/race.ReleaseMerge", "(*internal/sync.Mutex).unlockSlow", "internal/sync.fatal", "internal/sync.runtime_Semrelease", "sync/atomic.StoreUint32", "sync/atomic.LoadInt32"], unfollowed := true, recurses := true, leaving := true, apart := false, calm := true, outside := [.timePasses], narrowed := true }
def DescNewUptoSaid : Prop := descNewUptoRow.holds Try.pinned (OpenSpec.upto descNewSpec)

/-- 'caliperlaw04.DescOnce', WHERE WHAT IT READS IS OF BULK AT MOST 1048576: true; the input reads as it did. -/
def descOnceUptoRow : OpenClaim := { program := "ythaplpenccpkpaa", sum := "018988299d060081b909a0b8ad237cd42f11bb3c5a73dbf0d37c3ea2076c54f7", func := "caliper/caliperlaw04.DescOnce", spec := "descOnce", inPlace := ["sync/atomic.LoadInt32", "math/bits.Add64", "math/bits.Sub64", "sync/atomic.AddInt32", "sync/atomic.LoadUint32", "(*internal/sync.Mutex).Lock", "internal/race.Disable", "sync/atomic.CompareAndSwapInt32", "internal/race.Enable", "internal/race.Acquire", "(*internal/sync.Mutex).lockSlow", "internal/sync.runtime_canSpin", "internal/sync.runtime_doSpin", "internal/sync.throw", "internal/sync.runtime_nanotime", "internal/sync.runtime_SemacquireMutex", "(*internal/sync.Mutex).Unlock", "internal/race.ReleaseMerge", "(*internal/sync.Mutex).unlockSlow", "internal/sync.fatal", "internal/sync.runtime_Semrelease", "sync/atomic.StoreUint32", "(*sync.WaitGroup).Go", "(*sync.WaitGroup).Add", "internal/synctest.IsInBubble", "internal/synctest.Associate[sync.WaitGroup]", "sync.fatal", "sync/atomic.OrUint64", "sync/atomic.AddUint64", "internal/race.Read", "sync/atomic.LoadUint64", "sync/atomic.StoreUint64", "internal/synctest.Disassociate[sync.WaitGroup]", "sync.runtime_Semrelease", "(*sync.WaitGroup).Go$1", "(*sync.WaitGroup).Go$1$1", "(*sync.WaitGroup).Done", "(*sync.WaitGroup).Wait", "internal/synctest.IsAssociated[sync.WaitGroup]", "sync/atomic.CompareAndSwapUint64", "internal/race.Write", "sync.runtime_SemacquireWaitGroup"], unfollowed := true, recurses := true, leaving := true, apart := false, calm := true, outside := [.timePasses], narrowed := true }
def DescOnceUptoSaid : Prop := descOnceUptoRow.holds Try.pinned (OpenSpec.upto descOnceSpec)

end Rows
end Go.Proofs.Ythaplpenccpkpaa
