/- Words for the row of NatDigits: a world whose listed variables read as listed; the table that the law needs. -/
import Derived.Test.YtoikoeileilegaaDoorLaidNat
import Derived.LaidMore
namespace Go.Proofs.YtoikoeileilegaaDoor
open Go.RowKit
/-- A world whose listed variables read as the row of NatDigits lists them. -/
noncomputable def digWorld (os : Os) : World :=
  let w0 := World.doorLaid Tryd.prog 72 os
  { w0 with heap := w0.heap.modify 6 (setCells (tabCells Rows.laid_unicode_utf8_first)) }
theorem digWorld_met (os : Os) (args : Array Value) : laidMetH Tryd.prog Rows.natDigitsRow.laid ((digWorld os).forCall (fun _ _ => 0) ⟨#[], args, []⟩).memory :=
  show laidMet Tryd.prog Rows.natDigitsRow.laid _ from laidMet_of_run' 8 (by kernel_rfl) (by kernel_rfl)
theorem tab10_of_dig {W : World} (h : laidMetH Tryd.prog Rows.natDigitsRow.laid W) : Tab10 W := by
  have h' : laidMet Tryd.prog Rows.natDigitsRow.laid W := h
  have h2 : laidMet Tryd.prog (("internal/strconv.uint64pow10", Rows.laid_internal_strconv_uint64pow10) :: Rows.natDigitsRow.laid.drop 3) W := h'.tail.tail
  have e : (Rows.laid_internal_strconv_uint64pow10 : DataW Unit) = Lib.tabData .u64 Lib.pow10Tab := by kernel_rfl
  rw [e] at h2
  exact Lib.tabIs_of_head (g := 2) (t := 114) (e := 46) (n := 20) (by kernel_rfl) (by kernel_rfl) Tryd.underlying114 Tryd.underlying46 (by kernel_rfl) (by kernel_rfl) h2
end Go.Proofs.YtoikoeileilegaaDoor
