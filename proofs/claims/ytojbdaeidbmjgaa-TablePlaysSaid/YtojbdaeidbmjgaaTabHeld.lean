/- A table whose lock is held: what becomes of it. No conditions. -/
import Derived.Test.YtojbdaeidbmjgaaTabFree2
namespace Go.Proofs.Ytojbdaeidbmjgaa
set_option linter.unusedVariables false
set_option linter.unusedSimpArgs false
open Go.RowKit Go.Maps
theorem TabAt.lt {w0 W : World} {sb : Nat} {D : DataW Unit} (h : TabAt w0 W sb D) : sb < W.heap.size := World.block_lt_of_cell? _ _ h.lock
theorem TabAt.grow {w0 W W' : World} {sb : Nat} {D : DataW Unit} (h : TabAt w0 W sb D) (hb : Below W.heap.size W W') : TabAt w0 W' sb D := by
  have e := hb.block sb h.lt
  refine ⟨(cell_eq e 0).trans h.lock, fun i => (frozen_eq e i).trans (h.free i), ?_, h.base, below_then h.bel hb⟩
  rcases h.fld with ⟨h1, h2⟩ | ⟨bm, n, h1, h2, h3, h4⟩
  · exact .inl ⟨(cell_eq e 2).trans h1, h2⟩
  · exact .inr ⟨bm, n, (cell_eq e 2).trans h1, h2, h3, ownsMap_eq h4 (hb.block bm h4.lt)⟩
/-- The table while its lock is held. -/
structure HeldAt (w0 W : World) (sb : Nat) (D : DataW Unit) : Prop where
  lock : W.cell? ⟨sb, 0, none⟩ = some (.int .i32 1)
  free : ∀ i, W.frozen? ⟨sb, i, none⟩ = false
  fld : (W.cell? ⟨sb, 2, none⟩ = some (.map none) ∧ D = .map []) ∨ ∃ bm n, W.cell? ⟨sb, 2, none⟩ = some (.map (some bm)) ∧ bm ≠ sb ∧ w0.heap.size ≤ bm ∧ W.ownsMap Try.prog 3 entElem bm n D
  base : w0.heap.size ≤ sb
  bel : Below w0.heap.size w0 W
theorem HeldAt.lt {w0 W : World} {sb : Nat} {D : DataW Unit} (h : HeldAt w0 W sb D) : sb < W.heap.size := World.block_lt_of_cell? _ _ h.lock
theorem TabAt.take {w0 W : World} {sb : Nat} {D : DataW Unit} (h : TabAt w0 W sb D) : HeldAt w0 (W.setCell ⟨sb, 0, none⟩ (.int .i32 1)) sb D := by
  refine ⟨World.cell?_setCell_same _ ⟨sb, 0, none⟩ _ h.lock, fun i => by rw [World.frozen?_setCell]; exact h.free i, ?_, h.base, h.bel.setCell h.base _⟩
  have e : (W.setCell ⟨sb, 0, none⟩ (.int .i32 1)).cell? ⟨sb, 2, none⟩ = W.cell? ⟨sb, 2, none⟩ := World.cell?_setCell_other _ ⟨sb, 0, none⟩ ⟨sb, 2, none⟩ _ (by simp)
  rcases h.fld with ⟨h1, h2⟩ | ⟨bm, n, h1, h2, h3, h4⟩
  · exact .inl ⟨e.trans h1, h2⟩
  · exact .inr ⟨bm, n, e.trans h1, h2, h3, h4.setCell (a := ⟨sb, 0, none⟩) h2 _⟩
theorem HeldAt.letGo {w0 W : World} {sb : Nat} {D : DataW Unit} (h : HeldAt w0 W sb D) : TabAt w0 (W.setCell ⟨sb, 0, none⟩ (.int .i32 0)) sb D := by
  refine ⟨World.cell?_setCell_same _ ⟨sb, 0, none⟩ _ h.lock, fun i => by rw [World.frozen?_setCell]; exact h.free i, ?_, h.base, h.bel.setCell h.base _⟩
  have e : (W.setCell ⟨sb, 0, none⟩ (.int .i32 0)).cell? ⟨sb, 2, none⟩ = W.cell? ⟨sb, 2, none⟩ := World.cell?_setCell_other _ ⟨sb, 0, none⟩ ⟨sb, 2, none⟩ _ (by simp)
  rcases h.fld with ⟨h1, h2⟩ | ⟨bm, n, h1, h2, h3, h4⟩
  · exact .inl ⟨e.trans h1, h2⟩
  · exact .inr ⟨bm, n, e.trans h1, h2, h3, h4.setCell (a := ⟨sb, 0, none⟩) h2 _⟩
theorem HeldAt.grow {w0 W W' : World} {sb : Nat} {D : DataW Unit} (h : HeldAt w0 W sb D) (hb : Below W.heap.size W W') : HeldAt w0 W' sb D := by
  have e := hb.block sb h.lt
  refine ⟨(cell_eq e 0).trans h.lock, fun i => (frozen_eq e i).trans (h.free i), ?_, h.base, below_then h.bel hb⟩
  rcases h.fld with ⟨h1, h2⟩ | ⟨bm, n, h1, h2, h3, h4⟩
  · exact .inl ⟨(cell_eq e 2).trans h1, h2⟩
  · exact .inr ⟨bm, n, (cell_eq e 2).trans h1, h2, h3, ownsMap_eq h4 (hb.block bm h4.lt)⟩
/-- The bound on a map's entries, as close as can be. -/
theorem own_tight {w : World} {bm n : Nat} {D : DataW Unit} (h : w.ownsMap Try.prog 3 entElem bm n D) : w.ownsMap Try.prog 3 entElem bm (Maps.size D) D := by
  obtain ⟨es, clock, hb, F, hs, hD⟩ := h
  refine ⟨es, clock, hb, F, ?_, hD⟩
  rw [hD]
  exact Nat.le_of_eq (length_read es).symm
theorem HeldAt.turn {w0 W W' : World} {sb bm n m : Nat} {D D' : DataW Unit} (h : HeldAt w0 W sb D) (hc : W.cell? ⟨sb, 2, none⟩ = some (.map (some bm))) (hbs : bm ≠ sb) (hbase : w0.heap.size ≤ bm)
    (ho : W.ownsMap Try.prog 3 entElem bm m D) (ho' : W'.ownsMap Try.prog 3 entElem bm n D') (ht : W.mapTurned W' bm) : HeldAt w0 W' sb D' := by
  have e : W'.heap[sb]? = W.heap[sb]? := ht.grown.block sb h.lt (fun e => hbs (Option.some.inj e).symm)
  exact ⟨(cell_eq e 0).trans h.lock, fun i => (frozen_eq e i).trans (h.free i), .inr ⟨bm, n, (cell_eq e 2).trans hc, hbs, hbase, ho'⟩, h.base,
    h.bel.grown ht.grown (Nat.le_trans (Nat.le_refl _) h.bel.size) (fun k e => by cases e; exact hbase)⟩
/-- The map is made and laid into the field. -/
theorem HeldAt.made {w0 W : World} {sb : Nat} (h : HeldAt w0 W sb (.map [])) :
    HeldAt w0 ((W.alloc (.map #[] 0)).setCell ⟨sb, 2, none⟩ (.map (some W.heap.size))) sb (.map []) := by
  have hb : Below W.heap.size W (W.alloc (.map #[] 0)) := below_alloc (Below.refl _ _) _
  have hg := h.grow hb
  have hlt := h.lt
  have hne : W.heap.size ≠ sb := by omega
  obtain ⟨v2, hv2⟩ : ∃ v, (W.alloc (.map #[] 0)).cell? ⟨sb, 2, none⟩ = some v := by
    rcases hg.fld with ⟨h1, _⟩ | ⟨bm, n, h1, _⟩
    · exact ⟨_, h1⟩
    · exact ⟨_, h1⟩
  refine ⟨by rw [World.cell?_setCell_other _ ⟨sb, 2, none⟩ ⟨sb, 0, none⟩ _ (by simp)]; exact hg.lock, fun i => by rw [World.frozen?_setCell]; exact hg.free i, .inr ⟨W.heap.size, 0, World.cell?_setCell_same _ ⟨sb, 2, none⟩ _ hv2, hne, h.bel.size, ?_⟩, h.base, hg.bel.setCell h.base _⟩
  exact (World.ownsMap_made W Try.prog 3 entElem).setCell (a := ⟨sb, 2, none⟩) hne _
/-- Every other block of cells is as it was. -/
def Keep (sb : Nat) (w w' : World) : Prop := ∀ b cs t f, b ≠ sb → w.heap[b]? = some (.cells cs t f) → w'.heap[b]? = some (.cells cs t f)
theorem Keep.refl (sb : Nat) (w : World) : Keep sb w w := fun _ _ _ _ _ h => h
theorem Keep.trans {sb : Nat} {w w1 w2 : World} (h : Keep sb w w1) (k : Keep sb w1 w2) : Keep sb w w2 := fun b cs t f hb hc => k b cs t f hb (h b cs t f hb hc)
theorem Keep.of_below {sb : Nat} {w w' : World} (h : Below w.heap.size w w') : Keep sb w w' := fun b cs t f _ hc => below_heap h hc
theorem Keep.of_set (sb : Nat) (w : World) (i : Nat) (v : Value) : Keep sb w (w.setCell ⟨sb, i, none⟩ v) := fun b cs t f hb hc => (heap_set_other hb i v).trans hc
theorem Keep.of_turned {sb bm n : Nat} {w w' : World} {D : DataW Unit} (h : w.mapTurned w' bm) (ho : w.ownsMap Try.prog 3 entElem bm n D) : Keep sb w w' := fun b cs t f _ hc => by
  have hbm : b ≠ bm := fun e => by
    obtain ⟨es, clock, hm, _⟩ := ho
    rw [e, hm] at hc
    cases hc
  exact (h.grown.block b (lt_of_heap hc) (fun e => hbm (Option.some.inj e))).trans hc
theorem Keep.of_others {sb : Nat} {w w' : World} (h : ∀ b, b ≠ sb → b < w.heap.size → w'.heap[b]? = w.heap[b]?) : Keep sb w w' := fun b cs t f hb hc => (h b hb (lt_of_heap hc)).trans hc
end Go.Proofs.Ytojbdaeidbmjgaa
