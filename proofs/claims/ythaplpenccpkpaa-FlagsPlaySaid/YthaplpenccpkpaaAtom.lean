/- The atomic operations And, Or and Swap in the run of one goroutine: equations on the operation's run. -/
import Derived.Test.YthaplpenccpkpaaBase
import Derived.Laws.LoneSync
namespace Go.Proofs.Ythaplpenccpkpaa
open Go.RowKit
section
variable {P : Program} {f : FuncId} {fn : Func}
/-- And, Or: the new number is stored, the old one handed back. -/
theorem run_call_upd (hf : P.funcs[f]? = some fn) (hname : (fn.name == "runtime.NumGoroutine") = false) (hb : fn.body.isNone = true) (hn : Extern.findNext fn = none) (k : IntKind) (op : IntKind → Int → Int → Sem Value)
    (he : Extern.find fn = some (Extern.Atomic.update op k false)) {a : Addr} {x y s : Int} {w : World} (hc : w.cell? a = some (.int k x)) (hz : w.frozen? a = false)
    (hs : (op k x y).run P w = .ok (.int k s) w) :
    (callFunc f #[.pointer (some a), .int k y]).run P w = .ok (.value (.int k x)) (w.setCell a (.int k s)) := by
  rw [run_callFunc_extern hf hname hb hn he]
  change (Sem.run P (do
    let a' ← asAddr (.pointer (some a))
    let old ← Extern.Atomic.read (.int k) a'
    let new ← op k (← asInt old) (← asInt (.int k y))
    store a' new .atomic
    pure (if false = true then new else old)) w).andThen _ = _
  simp [Extern.Atomic.read, asAddr, asInt, asIntOf, hc, hz, hs, run_store P w a (.int k s) .atomic rfl, Result.andThen]
theorem run_call_swap (hf : P.funcs[f]? = some fn) (hname : (fn.name == "runtime.NumGoroutine") = false) (hb : fn.body.isNone = true) (hn : Extern.findNext fn = none) (k : IntKind)
    (he : Extern.find fn = some (Extern.Atomic.swapT (.int k))) {a : Addr} {x y : Int} {w : World} (hc : w.cell? a = some (.int k x)) (hz : w.frozen? a = false) :
    (callFunc f #[.pointer (some a), .int k y]).run P w = .ok (.value (.int k x)) (w.setCell a (.int k y)) := by
  rw [run_callFunc_extern hf hname hb hn he]
  change (Sem.run P (do
    let a' ← asAddr (.pointer (some a))
    let old ← Extern.Atomic.read (.int k) a'
    store a' (.int k y) .atomic
    pure old) w).andThen _ = _
  simp [Extern.Atomic.read, asAddr, hc, hz, run_store P w a (.int k y) .atomic rfl, Result.andThen]
end
theorem bits_and (k : IntKind) (x y : Int) (w : World) {P : Program} : (Op.intBits .and k x y).run P w = .ok (.int k (bits .and k x y)) w := by
  rfl
theorem bits_or (k : IntKind) (x y : Int) (w : World) {P : Program} : (Op.intBits .or k x y).run P w = .ok (.int k (bits .or k x y)) w := by
  rfl
end Go.Proofs.Ythaplpenccpkpaa
