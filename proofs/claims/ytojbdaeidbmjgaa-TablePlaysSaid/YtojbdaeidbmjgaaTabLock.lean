/- sync.Mutex in one goroutine: Lock of a free lock, Unlock of a held one. -/
import Derived.Test.YtojbdaeidbmjgaaBoxes
import Derived.Defers
import Derived.Laws.LoneSync
import Derived.RegionCalls
namespace Go.Proofs.Ytojbdaeidbmjgaa
open Go.RowKit
theorem disable_run (w : World) : (callFunc 45 #[]).run Try.prog w = .ok (.value (.tuple #[])) w := run_call_mark0 Try.func45 (by kernel_rfl) (by kernel_rfl) (by kernel_rfl) .disable (by kernel_rfl) w
theorem enable_run (w : World) : (callFunc 47 #[]).run Try.prog w = .ok (.value (.tuple #[])) w := run_call_mark0 Try.func47 (by kernel_rfl) (by kernel_rfl) (by kernel_rfl) .enable (by kernel_rfl) w
theorem acquire_run (a : Addr) (w : World) : (callFunc 48 #[.pointer (some a)]).run Try.prog w = .ok (.value (.tuple #[])) w := run_call_marked Try.func48 (by kernel_rfl) (by kernel_rfl) (by kernel_rfl) .acquire (by kernel_rfl) a w
theorem releaseMerge_run (a : Addr) (w : World) : (callFunc 61 #[.pointer (some a)]).run Try.prog w = .ok (.value (.tuple #[])) w := run_call_marked Try.func61 (by kernel_rfl) (by kernel_rfl) (by kernel_rfl) .releaseMerge (by kernel_rfl) a w
set_option maxRecDepth 100000 in
set_option maxHeartbeats 1600000 in
theorem unlock_deferred (a : Addr) (u : FrameMode) (w : World) (hc : w.cell? a = some (.int .i32 1)) (hz : w.frozen? a = false) :
    CallsD Try.prog 25 #[.pointer (some a)] u w fun e u' w' => u' = u ∧ (e = .returned (.tuple #[]) ∧ w' = w.setCell a (.int .i32 0)) := by
  have hd := disable_run
  have he := enable_run
  have hr := releaseMerge_run
  have hadd := run_call_add (P := Try.prog) Try.func62 (by kernel_rfl) (by kernel_rfl) (by kernel_rfl) .i32 (by kernel_rfl) (y := -1) (s := 0) hc hz (by simp [go_sem]; rfl)
  have hcv := run_convert_to_unsafe (P := Try.prog) (src := 112) (dst := 103) Try.underlying112 Try.underlying103 (by kernel_rfl) hc
  go_enter_d Try.func25, Try.ntmps25
  go_wp2
  go_end0
  go_wp2
  go_end0
  exact ⟨rfl, rfl⟩
set_option maxRecDepth 100000 in
set_option maxHeartbeats 1600000 in
theorem lock_free (a : Addr) (w : World) (hc : w.cell? a = some (.int .i32 0)) (hz : w.frozen? a = false) :
    Calls Try.prog 24 #[.pointer (some a)] w fun e w' => e = .returned (.tuple #[]) ∧ w' = w.setCell a (.int .i32 1) := by
  have hd := disable_run
  have he := enable_run
  have ha := acquire_run
  have hcas := run_call_cas_hit (P := Try.prog) Try.func59 (by kernel_rfl) (by kernel_rfl) (by kernel_rfl) .i32 (by kernel_rfl) (y := 1) hc hz
  have hc' : (w.setCell a (.int .i32 1)).cell? a = some (.int .i32 1) := World.cell?_setCell_same w a _ hc
  have hcv := run_convert_to_unsafe (P := Try.prog) (src := 112) (dst := 103) Try.underlying112 Try.underlying103 (by kernel_rfl) hc'
  go_enter Try.func24, Try.ntmps24
  go_wp2
  first | go_end0 | (simp only [Exit.inBlock, Exit.then]; refine bodyPost_ret (results_none rfl _ _ _) rfl ?_) | refine bodyPost_ret (results_none rfl _ _ _) rfl ?_
  go_wp2
  go_end0
  exact ⟨rfl, rfl⟩
end Go.Proofs.Ytojbdaeidbmjgaa
