/- (*Table).Get at a table without a map, and at any. -/
import Derived.Test.YtojbdaeidbmjgaaTabMap
namespace Go.Proofs.Ytojbdaeidbmjgaa
set_option linter.unusedVariables false
set_option linter.unusedSimpArgs false
open Go.RowKit Go.Maps
set_option maxRecDepth 10000 in
set_option maxHeartbeats 1600000 in
theorem get_nil (w0 : World) (sb : Nat) (x : Int) (w : World) (hT : TabAt w0 w sb (.map [])) (c2 : w.cell? ⟨sb, 2, none⟩ = some (.map none)) (hwx : (Lit.int .i64 x).wf = true) :
    Calls Try.prog 14 #[.pointer (some ⟨sb, 0, none⟩), .int .i64 x] w fun e w' => e = .returned (getV zeroE false) ∧
      TabAt w0 w' sb (.map []) ∧ ∀ b, b ≠ sb → b < w.heap.size → w'.heap[b]? = w.heap[b]? := by
  have c0 := hT.lock
  have f0 := hT.free 0
  have hkey := keyOf_int_mk Try.underlying3 hwx
  have B0 : Below w.heap.size w (w.alloc (.cells #[.int .u64 0, .int .u64 0, .int .u64 0, .int .u64 0] 31)) := below_alloc (Below.refl _ _) _
  have c0a : (w.alloc (.cells #[.int .u64 0, .int .u64 0, .int .u64 0, .int .u64 0] 31)).cell? ⟨sb, 0, none⟩ = some (.int .i32 0) := below_cell B0 c0
  have c2a : (w.alloc (.cells #[.int .u64 0, .int .u64 0, .int .u64 0, .int .u64 0] 31)).cell? ⟨sb, 2, none⟩ = some (.map none) := below_cell B0 c2
  have f0a : (w.alloc (.cells #[.int .u64 0, .int .u64 0, .int .u64 0, .int .u64 0] 31)).frozen? ⟨sb, 0, none⟩ = false := by
    have hlt := World.block_lt_of_cell? _ _ c0
    exact (frozen_eq (B0.block sb hlt) 0).trans f0
  have c2' : ((w.alloc (.cells #[.int .u64 0, .int .u64 0, .int .u64 0, .int .u64 0] 31)).setCell ⟨sb, 0, none⟩ (.int .i32 1)).cell? ⟨sb, 2, none⟩ = some (.map none) := by rw [World.cell?_setCell_other _ ⟨sb, 0, none⟩ ⟨sb, 2, none⟩ _ (by simp)]; exact c2a
  have hne : w.heap.size ≠ sb := Nat.ne_of_gt (World.block_lt_of_cell? _ _ c0)
  have hne' : sb ≠ w.heap.size := fun e => hne e.symm
  have hz0 : ((w.alloc (.cells #[.int .u64 0, .int .u64 0, .int .u64 0, .int .u64 0] 31)).setCell ⟨sb, 0, none⟩ (.int .i32 1)).heap[w.heap.size]? = some (.cells #[.int .u64 0, .int .u64 0, .int .u64 0, .int .u64 0] 31 (0, 0)) := (heap_set_other hne 0 _).trans (heap_new _ _)
  have zc0 : ((w.alloc (.cells #[.int .u64 0, .int .u64 0, .int .u64 0, .int .u64 0] 31)).setCell ⟨sb, 0, none⟩ (.int .i32 1)).cell? ⟨w.heap.size, 0, none⟩ = some (.int .u64 0) := cell_of_heap hz0 0
  have zf0 : ((w.alloc (.cells #[.int .u64 0, .int .u64 0, .int .u64 0, .int .u64 0] 31)).setCell ⟨sb, 0, none⟩ (.int .i32 1)).frozen? ⟨w.heap.size, 0, none⟩ = false := free_of_heap hz0 0
  have zc1 : ((w.alloc (.cells #[.int .u64 0, .int .u64 0, .int .u64 0, .int .u64 0] 31)).setCell ⟨sb, 0, none⟩ (.int .i32 1)).cell? ⟨w.heap.size, 1, none⟩ = some (.int .u64 0) := cell_of_heap hz0 1
  have zf1 : ((w.alloc (.cells #[.int .u64 0, .int .u64 0, .int .u64 0, .int .u64 0] 31)).setCell ⟨sb, 0, none⟩ (.int .i32 1)).frozen? ⟨w.heap.size, 1, none⟩ = false := free_of_heap hz0 1
  have zc2 : ((w.alloc (.cells #[.int .u64 0, .int .u64 0, .int .u64 0, .int .u64 0] 31)).setCell ⟨sb, 0, none⟩ (.int .i32 1)).cell? ⟨w.heap.size, 2, none⟩ = some (.int .u64 0) := cell_of_heap hz0 2
  have zf2 : ((w.alloc (.cells #[.int .u64 0, .int .u64 0, .int .u64 0, .int .u64 0] 31)).setCell ⟨sb, 0, none⟩ (.int .i32 1)).frozen? ⟨w.heap.size, 2, none⟩ = false := free_of_heap hz0 2
  have zc3 : ((w.alloc (.cells #[.int .u64 0, .int .u64 0, .int .u64 0, .int .u64 0] 31)).setCell ⟨sb, 0, none⟩ (.int .i32 1)).cell? ⟨w.heap.size, 3, none⟩ = some (.int .u64 0) := cell_of_heap hz0 3
  have zf3 : ((w.alloc (.cells #[.int .u64 0, .int .u64 0, .int .u64 0, .int .u64 0] 31)).setCell ⟨sb, 0, none⟩ (.int .i32 1)).frozen? ⟨w.heap.size, 3, none⟩ = false := free_of_heap hz0 3
  have hrun := look_nil (P := Try.prog) (w := ((w.alloc (.cells #[.int .u64 0, .int .u64 0, .int .u64 0, .int .u64 0] 31)).setCell ⟨sb, 0, none⟩ (.int .i32 1))) (t := 53) true keyed_int Try.underlying53 (zero_ent _) hkey
  have ez : entV zeroE = .agg #[.int .i64 0, .int .u64 0, .int .u64 0, .int .u64 0, .int .u64 0] := rfl
  rw [ez] at hrun
  have HT := Lib.hid hT
  clear hT
  go_enter_defers Try.func14, Try.ntmps14
  go_wp2_with (go_at_call 24; refine (lock_free ⟨sb, 0, none⟩ _ c0a f0a).mono ?_; rintro e w' ⟨rfl, rfl⟩)
  refine leaves_cons (f := 25) (args := #[.pointer (some ⟨sb, 0, none⟩)]) (by simp) (by simp [go_sem]) ?_
  obtain ⟨W2, hW2, k1, k2, k3, k4⟩ := st4 hz0 (.int .u64 0) (.int .u64 0) (.int .u64 0) (.int .u64 0)
  rw [← hW2]
  have hsb : sb < W2.heap.size := by rw [k3, size_set]; simp; have := World.block_lt_of_cell? _ _ c0; simp at this; omega
  have eb1 : (W2.alloc (.cells #[.int .i64 0, .int .u64 0, .int .u64 0, .int .u64 0, .int .u64 0] 70)).heap[sb]? = ((w.alloc (.cells #[.int .u64 0, .int .u64 0, .int .u64 0, .int .u64 0] 31)).setCell ⟨sb, 0, none⟩ (.int .i32 1)).heap[sb]? := (heap_keep _ _ hsb).trans (k2 sb hne')
  refine (unlock_deferred ⟨sb, 0, none⟩ .returning _ ?_ ?_).mono ?_
  · exact (cell_eq eb1 0).trans (World.cell?_setCell_same _ ⟨sb, 0, none⟩ _ c0a)
  · exact (frozen_eq eb1 0).trans (by rw [World.frozen?_setCell]; exact f0a)
  rintro e u' w'' ⟨rfl, rfl, rfl⟩
  have hr : ((W2.alloc (.cells #[.int .i64 0, .int .u64 0, .int .u64 0, .int .u64 0, .int .u64 0] 70)).setCell ⟨sb, 0, none⟩ (.int .i32 0)).heap[w.heap.size]? = some (.cells #[.int .u64 0, .int .u64 0, .int .u64 0, .int .u64 0] 31 (0, 0)) :=
    (heap_set_other hne 0 _).trans ((heap_keep _ _ (lt_of_heap k1)).trans k1)
  refine ⟨_, results_tct rfl _ _ w.heap.size 31 _ _ _ rfl hr Try.underlying31 rfl (by kernel_rfl), ?_⟩
  have ho : ∀ b, b ≠ sb → b < w.heap.size → ((W2.alloc (.cells #[.int .i64 0, .int .u64 0, .int .u64 0, .int .u64 0, .int .u64 0] 70)).setCell ⟨sb, 0, none⟩ (.int .i32 0)).heap[b]? = w.heap[b]? := fun b hb hbl => by
    have hbw : b ≠ w.heap.size := by omega
    have hb2 : b < W2.heap.size := by rw [k3, size_set]; simp; omega
    exact (heap_set_other hb 0 _).trans ((heap_keep _ _ hb2).trans ((k2 b hbw).trans ((heap_set_other hb 0 _).trans (heap_keep _ _ hbl))))
  have hlk : (W2.alloc (.cells #[.int .i64 0, .int .u64 0, .int .u64 0, .int .u64 0, .int .u64 0] 70)).cell? ⟨sb, 0, none⟩ = some (.int .i32 1) := (cell_eq eb1 0).trans (World.cell?_setCell_same _ ⟨sb, 0, none⟩ _ c0a)
  have hbel : Below w0.heap.size w0 ((W2.alloc (.cells #[.int .i64 0, .int .u64 0, .int .u64 0, .int .u64 0, .int .u64 0] 70)).setCell ⟨sb, 0, none⟩ (.int .i32 0)) :=
    (below_alloc (k4 _ _ HT.out.bel.size ((below_alloc HT.out.bel _).setCell HT.out.base _)) _).setCell HT.out.base _
  refine ⟨rfl, TabAt.back HT.out (World.cell?_setCell_same _ ⟨sb, 0, none⟩ _ hlk) ?_ ?_ ho hbel, ho⟩
  · intro i; rw [World.frozen?_setCell, frozen_eq eb1 i, World.frozen?_setCell, frozen_eq (B0.block sb (World.block_lt_of_cell? _ _ c0)) i]; exact HT.out.free i
  · rw [World.cell?_setCell_other _ ⟨sb, 0, none⟩ ⟨sb, 2, none⟩ _ (by simp), cell_eq eb1 2, c2', c2]
/-- (*Table).Get, in one goroutine. -/
theorem get_tab (w0 : World) (sb : Nat) (D : DataW Unit) (x : Int) (w : World) (hT : TabAt w0 w sb D) (hwx : (Lit.int .i64 x).wf = true) :
    Calls Try.prog 14 #[.pointer (some ⟨sb, 0, none⟩), .int .i64 x] w fun e w' => (∃ v, D.atKey (.int .i64 x) (entD zeroE) = entD v ∧ e = .returned (getV v (Maps.has D (.int .i64 x)))) ∧
      TabAt w0 w' sb D ∧ ∀ b, b ≠ sb → b < w.heap.size → w'.heap[b]? = w.heap[b]? := by
  rcases hT.fld with ⟨h1, rfl⟩ | ⟨bm, n, h1, h2, _, h4⟩
  · exact (get_nil w0 sb x w hT h1 hwx).mono fun e w' ⟨he, hr⟩ => ⟨⟨zeroE, rfl, by rw [he, has_empty]⟩, hr⟩
  · exact get_full w0 sb bm n D x w hT h1 h2 h4 hwx
end Go.Proofs.Ytojbdaeidbmjgaa
