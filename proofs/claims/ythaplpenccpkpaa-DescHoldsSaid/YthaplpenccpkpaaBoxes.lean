/- Laws that lay a name over the world behind an operation. No conditions. -/
import Derived.Test.YthaplpenccpkpaaBase
namespace Go.Proofs.Ythaplpenccpkpaa
open Go.RowKit
section
variable {P : Program} {ops : Array Oper} {rest : List Oper} {Q : Exit → Act → World → Prop} {a : Act} {w : World} {d : Option Tmp} {x y : Operand} {T : TypeId} {pos : String} {af : Array Edge} {gd : Option (Nat × Bool)}
/-- A store of a whole aggregate into a block that has just been made: the world behind it has a name; all blocks before that one are as they were. -/
theorem st_box (ty t : Nat) {w0 : World} (hB : Below w0.heap.size w0 w) {cells old : Array Value} {n : Nat} (hi : (P.info? ty).map (·.size) = some n)
    (h : ∀ W : World, Below w0.heap.size w0 W → Below w.heap.size w W → W.heap[w.heap.size]? = some (.cells cells t (0, 0)) → wpList P ops Q rest (a.put d undef) W)
    (hw : Region.wanted { dst := d, op := .store ty x y, type := T, pos := pos, after := af, guard := gd } (yielded ops a.tmps) = true := by rfl)
    (hx : a.eval x = .pointer (some ⟨w.heap.size, 0, none⟩) := by rfl) (hy : a.eval y = .agg cells := by rfl) (hn : cells.size = n := by rfl) (ho : old.size = n := by rfl) (h1 : cells.all (·.oneCell') = true := by simp [Value.oneCell']) :
    wpList P ops Q ({ dst := d, op := .store ty x y, type := T, pos := pos, after := af, guard := gd } :: rest) a (w.alloc (.cells old t)) := by
  have b2 : Below w.heap.size w ((w.alloc (.cells old t)).setRow w.heap.size cells) := below_setRow ((Below.refl _ _).alloc (Nat.le_refl _) _) (Nat.le_refl _) _
  refine st_row ty w.heap.size t (heap_new w (.cells old t)) hi (h _ (below_then hB b2) b2 (setRow_heap _ _ _ _ _ _ (heap_new w _))) hw hx hy hn ho h1
end
end Go.Proofs.Ythaplpenccpkpaa
