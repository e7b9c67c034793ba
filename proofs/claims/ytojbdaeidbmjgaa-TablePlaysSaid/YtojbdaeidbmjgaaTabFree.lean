/- (*Table).Free. -/
import Derived.Test.YtojbdaeidbmjgaaTabGet
namespace Go.Proofs.Ytojbdaeidbmjgaa
set_option linter.unusedVariables false
set_option linter.unusedSimpArgs false
open Go.RowKit Go.Maps
set_option maxRecDepth 10000 in
set_option maxHeartbeats 1600000 in
theorem free_full (w0 : World) (sb bm n : Nat) (D : DataW Unit) (x : Int) (w : World) (hT : TabAt w0 w sb D) (c2 : w.cell? ⟨sb, 2, none⟩ = some (.map (some bm)))
    (hbs : bm ≠ sb) (hbase : w0.heap.size ≤ bm) (hown : w.ownsMap Try.prog 3 entElem bm n D) (hwx : (Lit.int .i64 x).wf = true) :
    Calls Try.prog 11 #[.pointer (some ⟨sb, 0, none⟩), .int .i64 x] w fun e w' => e = .returned (.int .i64 (if Maps.has D (.int .i64 x) then 0 else 6)) ∧
      TabAt w0 w' sb (if Maps.has D (.int .i64 x) then D.del (.int .i64 x) else D) ∧ ∀ b cs t f, b ≠ sb → w.heap[b]? = some (.cells cs t f) → w'.heap[b]? = some (.cells cs t f) := by
  have c0 := hT.lock
  have f0 := hT.free 0
  have hkey := keyOf_int_mk Try.underlying3 hwx
  have hown1 := hown.setCell (a := ⟨sb, 0, none⟩) hbs (.int .i32 1)
  have c2' : (w.setCell ⟨sb, 0, none⟩ (.int .i32 1)).cell? ⟨sb, 2, none⟩ = some (.map (some bm)) := by rw [World.cell?_setCell_other _ ⟨sb, 0, none⟩ ⟨sb, 2, none⟩ _ (by simp)]; exact c2
  have hltS : sb < (w.setCell ⟨sb, 0, none⟩ (.int .i32 1)).heap.size := by rw [size_set]; exact World.block_lt_of_cell? _ _ c0
  obtain ⟨hs, hhs⟩ : ∃ q, Maps.has D (.int .i64 x) = q := ⟨_, rfl⟩
  rw [hhs]
  have HT := Lib.hid hT
  clear hT
  go_enter_defers Try.func11, Try.ntmps11
  cases hs
  all_goals
    go_wp2_with (first
      | (go_at_call 24; refine (lock_free ⟨sb, 0, none⟩ _ c0 f0).mono ?_; rintro e w' ⟨rfl, rfl⟩)
      | (at_lookup; refine wpList_lookup_own_ok _ rfl _ _ 53 rfl 3 70 keyed_int Try.underlying53 entElem (zero_ent _) (entD zeroE) [] (entElem_mk zeroE) bm n D rfl hown1 _ _ rfl hkey ?_; rw [hhs]; intro v ps hv; obtain ⟨ent, rfl, hz⟩ := entElem_inv hv; clear hv hz; obtain ⟨en, e0, e1, e2, e3⟩ := ent; have c2b := (cell_eq (heap_keep (w.setCell ⟨sb, 0, none⟩ (.int .i32 1)) (.cells #[.int .i64 en, .int .u64 (e0 : Int), .int .u64 (e1 : Int), .int .u64 (e2 : Int), .int .u64 (e3 : Int)] 70) hltS) 2).trans c2'; simp only [entV])
      | (refine wpList_delete_own _ rfl _ _ 53 3 rfl 70 keyed_int Try.underlying53 entElem bm n D rfl (hown1.alloc _) _ _ rfl hkey ?_; intro w1 hown2 hturn))
  · have eb1 : ((w.setCell ⟨sb, 0, none⟩ (.int .i32 1)).alloc (.cells #[.int .i64 en, .int .u64 (e0 : Int), .int .u64 (e1 : Int), .int .u64 (e2 : Int), .int .u64 (e3 : Int)] 70)).heap[sb]? = (w.setCell ⟨sb, 0, none⟩ (.int .i32 1)).heap[sb]? := heap_keep _ _ hltS
    have hlk : ((w.setCell ⟨sb, 0, none⟩ (.int .i32 1)).alloc (.cells #[.int .i64 en, .int .u64 (e0 : Int), .int .u64 (e1 : Int), .int .u64 (e2 : Int), .int .u64 (e3 : Int)] 70)).cell? ⟨sb, 0, none⟩ = some (.int .i32 1) := (cell_eq eb1 0).trans (World.cell?_setCell_same _ ⟨sb, 0, none⟩ _ c0)
    have hfr : ((w.setCell ⟨sb, 0, none⟩ (.int .i32 1)).alloc (.cells #[.int .i64 en, .int .u64 (e0 : Int), .int .u64 (e1 : Int), .int .u64 (e2 : Int), .int .u64 (e3 : Int)] 70)).frozen? ⟨sb, 0, none⟩ = false := by rw [frozen_eq eb1 0, World.frozen?_setCell]; exact f0
    have ho : ∀ b, b ≠ sb → b < w.heap.size → (((w.setCell ⟨sb, 0, none⟩ (.int .i32 1)).alloc (.cells #[.int .i64 en, .int .u64 (e0 : Int), .int .u64 (e1 : Int), .int .u64 (e2 : Int), .int .u64 (e3 : Int)] 70)).setCell ⟨sb, 0, none⟩ (.int .i32 0)).heap[b]? = w.heap[b]? := fun b hb hbl =>
      (heap_set_other hb 0 _).trans ((heap_keep _ _ (by rw [size_set]; exact hbl)).trans (heap_set_other hb 0 _))
    refine leaves_cons (f := 25) (args := #[.pointer (some ⟨sb, 0, none⟩)]) (by simp) (by simp [go_sem]) ?_
    refine (unlock_deferred ⟨sb, 0, none⟩ .returning _ hlk hfr).mono ?_
    rintro e u' w'' ⟨rfl, rfl, rfl⟩
    refine ⟨_, results_tmp rfl _ _ _, rfl, TabAt.back HT.out (World.cell?_setCell_same _ ⟨sb, 0, none⟩ _ hlk) (fun i => by rw [World.frozen?_setCell, frozen_eq eb1 i, World.frozen?_setCell]; exact HT.out.free i) ?_ ho ((below_alloc (HT.out.bel.setCell HT.out.base _) _).setCell HT.out.base _), fun b cs t f1 f2 hb hc => ?_⟩
    · rw [World.cell?_setCell_other _ ⟨sb, 0, none⟩ ⟨sb, 2, none⟩ _ (by simp), c2b, c2]
    · rw [ho b hb (lt_of_heap hc)]; exact hc
  · have hsz : ((w.setCell ⟨sb, 0, none⟩ (.int .i32 1)).alloc (.cells #[.int .i64 en, .int .u64 (e0 : Int), .int .u64 (e1 : Int), .int .u64 (e2 : Int), .int .u64 (e3 : Int)] 70)).heap.size = w.heap.size + 1 := by simp [size_set]
    have hlt0 := World.block_lt_of_cell? _ _ c0
    have hlt1 : sb < w.heap.size := hlt0
    have hold : ∀ b, b ≠ bm → b < w.heap.size → w1.heap[b]? = (w.setCell ⟨sb, 0, none⟩ (.int .i32 1)).heap[b]? := fun b hb hbl =>
      (hturn.grown.block b (by rw [hsz]; omega) (fun e => hb (Option.some.inj e))).trans (heap_keep _ _ (by rw [size_set]; exact hbl))
    have eb1 := hold sb (fun e => hbs e.symm) hlt1
    have hlk : w1.cell? ⟨sb, 0, none⟩ = some (.int .i32 1) := (cell_eq eb1 0).trans (World.cell?_setCell_same _ ⟨sb, 0, none⟩ _ c0)
    have hfr : w1.frozen? ⟨sb, 0, none⟩ = false := by rw [frozen_eq eb1 0, World.frozen?_setCell]; exact f0
    refine leaves_cons (f := 25) (args := #[.pointer (some ⟨sb, 0, none⟩)]) (by simp) (by simp [go_sem]) ?_
    refine (unlock_deferred ⟨sb, 0, none⟩ .returning _ hlk hfr).mono ?_
    rintro e u' w'' ⟨rfl, rfl, rfl⟩
    have hbel : Below w0.heap.size w0 w1 := (below_alloc (HT.out.bel.setCell HT.out.base _) _).grown hturn.grown (by rw [hsz]; have := HT.out.bel.size; omega) (fun k e => by cases e; exact hbase)
    refine ⟨_, results_tmp rfl _ _ _, rfl, ⟨World.cell?_setCell_same _ ⟨sb, 0, none⟩ _ hlk, fun i => by rw [World.frozen?_setCell, frozen_eq eb1 i, World.frozen?_setCell]; exact HT.out.free i, .inr ⟨bm, n, ?_, hbs, hbase, hown2.setCell (a := ⟨sb, 0, none⟩) hbs _⟩, HT.out.base, hbel.setCell HT.out.base _⟩, fun b cs t f1 f2 hb hc => ?_⟩
    · rw [World.cell?_setCell_other _ ⟨sb, 0, none⟩ ⟨sb, 2, none⟩ _ (by simp), cell_eq eb1 2, c2']
    · have hbm : b ≠ bm := fun e => by
        obtain ⟨es, clock, hm, _⟩ := hown
        rw [e, hm] at hc
        cases hc
      rw [heap_set_other hb, hold b hbm (lt_of_heap hc), heap_set_other hb]
      exact hc
end Go.Proofs.Ytojbdaeidbmjgaa
