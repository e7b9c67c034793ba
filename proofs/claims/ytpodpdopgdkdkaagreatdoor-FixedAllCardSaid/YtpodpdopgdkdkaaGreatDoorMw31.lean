/- Words for the rows of FixedExact and FixedAll: a world whose listed variables read as listed; the table that the laws need. -/
import Derived.Test.YtpodpdopgdkdkaaGreatDoorMw28
set_option linter.unusedVariables false
set_option linter.unusedSimpArgs false
namespace Go.Proofs.YtpodpdopgdkdkaaGreatDoor
open Go.RowKit
noncomputable def fx5World (os : Os) : World :=
  let w0 := World.doorLaid Tryz.prog 65 os
  { w0 with heap := w0.heap.modify 4 (setCells (tabCells Rows.laid_unicode_utf8_first)) }
theorem fx5World_met (os : Os) (args : Array Value) : laidMetH Tryz.prog Rows.fixedExactRow.laid ((fx5World os).forCall (fun _ _ => 0) ⟨#[], args, []⟩).memory :=
  show laidMet Tryz.prog Rows.fixedExactRow.laid _ from laidMet_of_run' 8 (by kernel_rfl) (by kernel_rfl)
theorem tab10_of_fx5 {W : World} (h : laidMetH Tryz.prog Rows.fixedExactRow.laid W) : Tab10 W := by
  have h' : laidMet Tryz.prog Rows.fixedExactRow.laid W := h
  have h2 : laidMet Tryz.prog (("internal/strconv.uint64pow10", Rows.laid_internal_strconv_uint64pow10) :: Rows.fixedExactRow.laid.drop 3) W := h'.tail.tail
  have e : (Rows.laid_internal_strconv_uint64pow10 : DataW Unit) = Lib.tabData .u64 Lib.pow10Tab := by kernel_rfl
  rw [e] at h2
  exact Lib.tabIs_of_head (g := 3) (t := 173) (e := 22) (n := 20) (by kernel_rfl) (by kernel_rfl) Tryz.underlying173 Tryz.underlying22 (by kernel_rfl) (by kernel_rfl) h2
end Go.Proofs.YtpodpdopgdkdkaaGreatDoor
