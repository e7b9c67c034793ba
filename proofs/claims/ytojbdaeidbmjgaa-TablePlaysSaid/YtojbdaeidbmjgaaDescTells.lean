/- DescTells: for every number n the program tells the format that the document has, or none; and the list of all formats is the document's. No conditions. -/
import Derived.Test.YtojbdaeidbmjgaaDescAll
import Derived.Test.YtojbdaeidbmjgaaDescRef
import Derived.Deep.DeepMust
import Derived.StillTailTactics
namespace Go.Proofs.Ytojbdaeidbmjgaa
open Go.RowKit
section
variable {P : Program} {ops : Array Oper} {rest : List Oper} {Q : Act → Prop} {a : Act} {w : World} {d : Option Tmp} {x : Operand} {T : TypeId} {pos : String} {af : Array Edge} {gd : Option (Nat × Bool)}
/-- In a region that draws: a load of an aggregate out of the middle of a block. -/
theorem still_mid (ty b o : Nat) (cs : List Value) (hc : w.rangeAt b o cs) {D : TypeDesc} (hu : P.underlying ty = some D) {n : Nat} (hi : (P.info? ty).map (·.size) = some n)
    (h : wpStill P ops w Q rest (a.put d (.agg cs.toArray)))
    (hw : Region.wanted { dst := d, op := .load ty x, type := T, pos := pos, after := af, guard := gd } (yielded ops a.tmps) = true := by rfl)
    (hx : a.eval x = .pointer (some ⟨b, o, none⟩) := by rfl) (hd : D.isRow = true := by rfl) (hn : cs.length = n := by rfl) :
    wpStill P ops w Q ({ dst := d, op := .load ty x, type := T, pos := pos, after := af, guard := gd } :: rest) a :=
  wpStill_step fun K hK => by
    rw [if_pos hw]
    have := run_loadAt_mid (P := P) w b o ty cs D hc hu hd (by rw [hi, hn])
    simp only [Oper.still, execOp, hx, Sem.run_bind, this, Result.andThen_ok, Sem.run_pure, Oper.stillUpon_value]
    exact hK _ h
end
set_option maxRecDepth 100000 in
theorem all_range {w : World} {g : Nat} (hg : w.heap[g]? = some (.cells allCells 92)) (k : Nat) (hk : k < 12) : w.rangeAt g (k * 10) (infF ((k : Int) + 1)).toList := by
  intro j v hv
  rw [all_at hg]
  have hj : j < 10 := by
    by_cases h : j < 10
    · exact h
    · rw [List.getElem?_eq_none (by show 10 ≤ j; omega)] at hv; cases hv
  have : ∀ k : Nat, k < 12 → ∀ j : Nat, j < 10 → allCells[k * 10 + j]? = (infF ((k : Int) + 1)).toList[j]? := by
    intro k hk j hj
    rcases (show k = 0 ∨ k = 1 ∨ k = 2 ∨ k = 3 ∨ k = 4 ∨ k = 5 ∨ k = 6 ∨ k = 7 ∨ k = 8 ∨ k = 9 ∨ k = 10 ∨ k = 11 by omega) with rfl | rfl | rfl | rfl | rfl | rfl | rfl | rfl | rfl | rfl | rfl | rfl <;>
    rcases (show j = 0 ∨ j = 1 ∨ j = 2 ∨ j = 3 ∨ j = 4 ∨ j = 5 ∨ j = 6 ∨ j = 7 ∨ j = 8 ∨ j = 9 by omega) with rfl | rfl | rfl | rfl | rfl | rfl | rfl | rfl | rfl | rfl <;> kernel_rfl
  rw [this k hk j hj]; exact hv
theorem row_range {w : World} {g : Nat} {C : Array Value} {t : TypeId} (hg : w.heap[g]? = some (.cells C t (0, 0))) : w.rangeAt g 0 C.toList := by
  intro j v hv
  rw [cell_of_heap hg]; simpa using hv
end Go.Proofs.Ytojbdaeidbmjgaa
