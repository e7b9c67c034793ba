/- Words for the rows of the grammar's laws: the tables that the rows list. -/
import Derived.Test.YtiocdgehpiagjaaDoorLawGram
import Derived.Test.YtiocdgehpiagjaaDoorRows
import Derived.Lib.LaidTab
import Derived.Lib.LaidU8
import Derived.Stop.LaidErr
import Derived.LaidMore
namespace Go.Proofs.YtiocdgehpiagjaaDoor
open Go.RowKit
def tabCells : DataW Unit → Array Value
  | .agg xs => (xs.map fun | .lit (.int k n) => Value.int k n | _ => undef).toArray
  | _ => #[]
def setCells (c : Array Value) : Obj → Obj
  | .cells _ t fr => .cells c t fr
  | o => o
/-- A world whose listed variables read as the rows list them. -/
noncomputable def gramWorld (os : Os) : World :=
  let w0 := World.doorLaid Tryd.prog 72 os
  { w0 with heap := w0.heap.modify 2 (setCells (tabCells Rows.laid_unicode_utf8_first)) }
theorem gramWorld_met (os : Os) (args : Array Value) : laidMetH Tryd.prog Rows.grammarCutsRow.laid ((gramWorld os).forCall (fun _ _ => 0) ⟨#[], args, []⟩).memory :=
  show laidMet Tryd.prog Rows.grammarCutsRow.laid _ from laidMet_of_run' 8 (by kernel_rfl) (by kernel_rfl)
theorem pow_data : (Rows.laid_internal_strconv_uint64pow10 : DataW Unit) = Lib.tabData .u64 Lib.pow10Tab := by kernel_rfl
theorem first_data : (Rows.laid_unicode_utf8_first : DataW Unit) = Lib.firstData := by kernel_rfl
theorem accept_data : (Rows.laid_unicode_utf8_acceptRanges : DataW Unit) = Lib.acceptData := by kernel_rfl
theorem gram_of_laid {W : World} (h : laidMetH Tryd.prog Rows.grammarCutsRow.laid W) : GramT W := by
  have h' : laidMet Tryd.prog Rows.grammarCutsRow.laid W := h
  constructor
  · refine utf8Tabs_of_reads (P := Tryd.prog) Tryd.lays260 ⟨by kernel_rfl, by kernel_rfl, by kernel_rfl, by kernel_rfl, by kernel_rfl, by kernel_rfl, by kernel_rfl⟩ (Lib.laidMet.reads (d := Lib.firstData) h' ?_) (Lib.laidMet.reads (d := Lib.acceptData) h' ?_)
    · rw [← first_data]
      simp [Rows.grammarCutsRow]
    · rw [← accept_data]
      simp [Rows.grammarCutsRow]
  · have h2 : laidMet Tryd.prog (("internal/strconv.uint64pow10", Rows.laid_internal_strconv_uint64pow10) :: Rows.grammarCutsRow.laid.drop 3) W := h'.tail.tail
    rw [pow_data] at h2
    exact Lib.tabIs_of_head (g := 4) (t := 128) (e := 33) (n := 20) (by kernel_rfl) (by kernel_rfl) Tryd.underlying128 Tryd.underlying33 (by kernel_rfl) (by kernel_rfl) h2
end Go.Proofs.YtiocdgehpiagjaaDoor
