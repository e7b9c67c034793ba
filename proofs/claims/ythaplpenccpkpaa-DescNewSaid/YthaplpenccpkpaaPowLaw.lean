/- Words for the laws over Powers: what is made stays; make again. -/
import Derived.Test.YthaplpenccpkpaaPowNew
namespace Go.Proofs.Ythaplpenccpkpaa
open Go.RowKit
theorem PowMade.keep {B : Nat} {w w' : World} {g b p c : Nat} {d s m : Int} (h : PowMade B w g b p c d s m) (hb : Below w.heap.size w w') : PowMade B w' g b p c d s m := by
  obtain ⟨la, lc, vs, gv, h1, h2, h3, h4, h5⟩ := h
  exact ⟨la, lc, vs, gv, below_heap hb h1, h2.keep (keepsT_below _ hb), h3.keep (keepsT_below _ hb), h4, h5.keep (keepsT_below _ hb)⟩
/-- make, once made: as a premise of greatest_calls, powerAt_calls, powerFrom_calls. -/
theorem make_made {B : Nat} {w : World} {g b p c : Nat} (h : PowMade B w g b p c 1 0 1) :
    Calls Try.prog 58 #[.pointer (some ⟨g, 0, none⟩)] w fun e w' => e = .returned (.tuple #[]) ∧ PowMade B w' g b p c 1 0 1 ∧ Below w.heap.size w w' := by
  have h' := h
  obtain ⟨la, lc, vs, gv, h1, _⟩ := h
  refine (make_again w g b p 1 _ _ h1).mono ?_
  rintro e w' ⟨rfl, hb⟩
  exact ⟨rfl, h'.keep hb, hb⟩
end Go.Proofs.Ythaplpenccpkpaa
