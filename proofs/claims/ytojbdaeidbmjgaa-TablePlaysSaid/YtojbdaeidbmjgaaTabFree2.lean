/- (*Table).Free at a table without a map. -/
import Derived.Test.YtojbdaeidbmjgaaTabFree
namespace Go.Proofs.Ytojbdaeidbmjgaa
set_option linter.unusedVariables false
set_option linter.unusedSimpArgs false
open Go.RowKit Go.Maps
set_option maxRecDepth 10000 in
set_option maxHeartbeats 1600000 in
theorem free_nil (w0 : World) (sb : Nat) (x : Int) (w : World) (hT : TabAt w0 w sb (.map [])) (c2 : w.cell? ⟨sb, 2, none⟩ = some (.map none)) (hwx : (Lit.int .i64 x).wf = true) :
    Calls Try.prog 11 #[.pointer (some ⟨sb, 0, none⟩), .int .i64 x] w fun e w' => e = .returned (.int .i64 6) ∧
      TabAt w0 w' sb (.map []) ∧ ∀ b cs t f, b ≠ sb → w.heap[b]? = some (.cells cs t f) → w'.heap[b]? = some (.cells cs t f) := by
  have c0 := hT.lock
  have f0 := hT.free 0
  have hkey := keyOf_int_mk Try.underlying3 hwx
  have c2' : (w.setCell ⟨sb, 0, none⟩ (.int .i32 1)).cell? ⟨sb, 2, none⟩ = some (.map none) := by rw [World.cell?_setCell_other _ ⟨sb, 0, none⟩ ⟨sb, 2, none⟩ _ (by simp)]; exact c2
  have hltS : sb < (w.setCell ⟨sb, 0, none⟩ (.int .i32 1)).heap.size := by rw [size_set]; exact World.block_lt_of_cell? _ _ c0
  have hrun := look_nil (P := Try.prog) (w := w.setCell ⟨sb, 0, none⟩ (.int .i32 1)) (t := 53) true keyed_int Try.underlying53 (zero_ent _) hkey
  have ez : entV zeroE = .agg #[.int .i64 0, .int .u64 0, .int .u64 0, .int .u64 0, .int .u64 0] := rfl
  rw [ez] at hrun
  have HT := Lib.hid hT
  clear hT
  go_enter_defers Try.func11, Try.ntmps11
  go_wp2_with (go_at_call 24; refine (lock_free ⟨sb, 0, none⟩ _ c0 f0).mono ?_; rintro e w' ⟨rfl, rfl⟩)
  have eb1 : ((w.setCell ⟨sb, 0, none⟩ (.int .i32 1)).alloc (.cells #[.int .i64 0, .int .u64 0, .int .u64 0, .int .u64 0, .int .u64 0] 70)).heap[sb]? = (w.setCell ⟨sb, 0, none⟩ (.int .i32 1)).heap[sb]? := heap_keep _ _ hltS
  have hlk : ((w.setCell ⟨sb, 0, none⟩ (.int .i32 1)).alloc (.cells #[.int .i64 0, .int .u64 0, .int .u64 0, .int .u64 0, .int .u64 0] 70)).cell? ⟨sb, 0, none⟩ = some (.int .i32 1) := (cell_eq eb1 0).trans (World.cell?_setCell_same _ ⟨sb, 0, none⟩ _ c0)
  have hfr : ((w.setCell ⟨sb, 0, none⟩ (.int .i32 1)).alloc (.cells #[.int .i64 0, .int .u64 0, .int .u64 0, .int .u64 0, .int .u64 0] 70)).frozen? ⟨sb, 0, none⟩ = false := by rw [frozen_eq eb1 0, World.frozen?_setCell]; exact f0
  have ho : ∀ b, b ≠ sb → b < w.heap.size → (((w.setCell ⟨sb, 0, none⟩ (.int .i32 1)).alloc (.cells #[.int .i64 0, .int .u64 0, .int .u64 0, .int .u64 0, .int .u64 0] 70)).setCell ⟨sb, 0, none⟩ (.int .i32 0)).heap[b]? = w.heap[b]? := fun b hb hbl =>
    (heap_set_other hb 0 _).trans ((heap_keep _ _ (by rw [size_set]; exact hbl)).trans (heap_set_other hb 0 _))
  refine leaves_cons (f := 25) (args := #[.pointer (some ⟨sb, 0, none⟩)]) (by simp) (by simp [go_sem]) ?_
  refine (unlock_deferred ⟨sb, 0, none⟩ .returning _ hlk hfr).mono ?_
  rintro e u' w'' ⟨rfl, rfl, rfl⟩
  refine ⟨_, results_tmp rfl _ _ _, rfl, TabAt.back HT.out (World.cell?_setCell_same _ ⟨sb, 0, none⟩ _ hlk) (fun i => by rw [World.frozen?_setCell, frozen_eq eb1 i, World.frozen?_setCell]; exact HT.out.free i) ?_ ho ((below_alloc (HT.out.bel.setCell HT.out.base _) _).setCell HT.out.base _), fun b cs t f hb hc => ?_⟩
  · rw [World.cell?_setCell_other _ ⟨sb, 0, none⟩ ⟨sb, 2, none⟩ _ (by simp), cell_eq eb1 2, c2', c2]
  · rw [ho b hb (lt_of_heap hc)]; exact hc
end Go.Proofs.Ytojbdaeidbmjgaa
