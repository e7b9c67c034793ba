/- A table's entries; (*Table).Get. -/
import Derived.Test.YtojbdaeidbmjgaaTabLock
import Derived.Maps.OwnSet
import Derived.Maps.Views
import Derived.WalkKit
import Derived.WalkSpells
import Derived.StillTailTactics
namespace Go.Proofs.Ytojbdaeidbmjgaa
set_option linter.unusedVariables false
set_option linter.unusedSimpArgs false
open Go.RowKit Go.Maps
/-- An entry: a format's number and a pattern. -/
structure EntL where
  num : Int
  b0 : Nat
  b1 : Nat
  b2 : Nat
  b3 : Nat
def entV (e : EntL) : Value := .agg #[.int .i64 e.num, .int .u64 e.b0, .int .u64 e.b1, .int .u64 e.b2, .int .u64 e.b3]
def entD (e : EntL) : DataW Unit := .agg [.lit (.int .i64 e.num), .lit (.int .u64 e.b0), .lit (.int .u64 e.b1), .lit (.int .u64 e.b2), .lit (.int .u64 e.b3)]
open Classical in
/-- How an entry reads. -/
noncomputable def entElem (v : Value) : Option (DataW Unit × List MemPlace) := if h : ∃ e, v = entV e then some (entD h.choose, []) else none
theorem entV_inj {e f : EntL} (h : entV e = entV f) : e = f := by
  obtain ⟨a0, a1, a2, a3, a4⟩ := e
  obtain ⟨c0, c1, c2, c3, c4⟩ := f
  simp [entV] at h
  obtain ⟨h0, h1, h2, h3, h4⟩ := h
  subst h0
  have e1 : a1 = c1 := by omega
  have e2 : a2 = c2 := by omega
  have e3 : a3 = c3 := by omega
  have e4 : a4 = c4 := by omega
  subst e1 e2 e3 e4
  rfl
theorem entD_inj {e f : EntL} (h : entD e = entD f) : e = f := by
  obtain ⟨a0, a1, a2, a3, a4⟩ := e
  obtain ⟨c0, c1, c2, c3, c4⟩ := f
  simp [entD] at h
  obtain ⟨h0, h1, h2, h3, h4⟩ := h
  subst h0
  have e1 : a1 = c1 := by omega
  have e2 : a2 = c2 := by omega
  have e3 : a3 = c3 := by omega
  have e4 : a4 = c4 := by omega
  subst e1 e2 e3 e4
  rfl
theorem entElem_mk (e : EntL) : entElem (entV e) = some (entD e, []) := by
  have h : ∃ f, entV e = entV f := ⟨e, rfl⟩
  unfold entElem
  rw [dif_pos h, ← entV_inj h.choose_spec]
theorem entElem_inv {v : Value} {z : DataW Unit × List MemPlace} (h : entElem v = some z) : ∃ e, v = entV e ∧ z = (entD e, []) := by
  unfold entElem at h
  split at h
  · rename_i hh
    exact ⟨_, hh.choose_spec, (Option.some.inj h).symm⟩
  · cases h
theorem results_tct {P : Program} {fn : Func} {p q r : Tmp} {ty : TypeId} (h : fn.results = #[.tmp p, .cell q ty, .tmp r]) (tmps : Array Value) (w : World) (g : Nat) (t : TypeId) (cs : Array Value) (fr : Nat × Nat) (d : TypeDesc)
    (hp : tmps.getD q undef = .pointer (some ⟨g, 0, none⟩)) (hg : w.heap[g]? = some (.cells cs t fr))
    (hu : P.underlying ty = some d) (hd : (match d with | .struct _ | .array _ _ => true | _ => false) = true) (hi : (P.info? ty).map (·.size) = some cs.size) :
    (results fn tmps).run P w = .ok (.tuple #[tmps.getD p undef, .agg cs, tmps.getD r undef]) w := by
  have hp' : tmps[q]?.getD undef = .pointer (some ⟨g, 0, none⟩) := by simpa using hp
  simp [results, h, hp', asAddr, run_loadVar_row w g t ty cs fr d hg hu hd hi]
theorem cell_eq {w w' : World} {b : Nat} (h : w'.heap[b]? = w.heap[b]?) (i : Nat) : w'.cell? ⟨b, i, none⟩ = w.cell? ⟨b, i, none⟩ := by simp only [World.cell?, h]
theorem frozen_eq {w w' : World} {b : Nat} (h : w'.heap[b]? = w.heap[b]?) (i : Nat) : w'.frozen? ⟨b, i, none⟩ = w.frozen? ⟨b, i, none⟩ := by simp only [World.frozen?, h]
/-- Four cells stored into a block of four. -/
theorem st4 {W : World} {r : Nat} {a0 a1 a2 a3 : Value} {t : TypeId} {f : Nat × Nat} (h : W.heap[r]? = some (.cells #[a0, a1, a2, a3] t f)) (v0 v1 v2 v3 : Value) :
    ∃ W', W' = (((W.setCell ⟨r, 0, none⟩ v0).setCell ⟨r, 1, none⟩ v1).setCell ⟨r, 2, none⟩ v2).setCell ⟨r, 3, none⟩ v3 ∧ W'.heap[r]? = some (.cells #[v0, v1, v2, v3] t f) ∧ (∀ b, b ≠ r → W'.heap[b]? = W.heap[b]?) ∧ W'.heap.size = W.heap.size ∧
      (∀ (B : Nat) (w0 : World), B ≤ r → Below B w0 W → Below B w0 W') := by
  refine ⟨_, rfl, heap_set (heap_set (heap_set (heap_set h 0 _) 1 _) 2 _) 3 _, fun b hb => ?_, ?_, fun B w0 hB hb => ?_⟩
  · rw [heap_set_other hb, heap_set_other hb, heap_set_other hb, heap_set_other hb]
  · rw [size_set, size_set, size_set, size_set]
  · exact (((hb.setCell hB _).setCell hB _).setCell hB _).setCell hB _
def zeroE : EntL := ⟨0, 0, 0, 0, 0⟩
theorem keyed_int : Keyed Try.prog 3 := int_keyed Try.underlying3
theorem zero_ent (w : World) : (zeroValue 70).run Try.prog w = .ok (entV zeroE) w := by kernel_rfl
/-- Block sb is a table that holds D; it and its map were made behind w0. -/
structure TabAt (w0 W : World) (sb : Nat) (D : DataW Unit) : Prop where
  lock : W.cell? ⟨sb, 0, none⟩ = some (.int .i32 0)
  free : ∀ i, W.frozen? ⟨sb, i, none⟩ = false
  fld : (W.cell? ⟨sb, 2, none⟩ = some (.map none) ∧ D = .map []) ∨ ∃ bm n, W.cell? ⟨sb, 2, none⟩ = some (.map (some bm)) ∧ bm ≠ sb ∧ w0.heap.size ≤ bm ∧ W.ownsMap Try.prog 3 entElem bm n D
  base : w0.heap.size ≤ sb
  bel : Below w0.heap.size w0 W
theorem ownsMap_eq {w w' : World} {b n : Nat} {D : DataW Unit} (h : w.ownsMap Try.prog 3 entElem b n D) (e : w'.heap[b]? = w.heap[b]?) : w'.ownsMap Try.prog 3 entElem b n D := by
  obtain ⟨es, clock, hb, r⟩ := h
  exact ⟨es, clock, e.trans hb, r⟩
/-- A method has let go of the lock; the table holds what it held. -/
theorem TabAt.back {w0 w w' : World} {sb : Nat} {D : DataW Unit} (h : TabAt w0 w sb D) (hl : w'.cell? ⟨sb, 0, none⟩ = some (.int .i32 0)) (hf : ∀ i, w'.frozen? ⟨sb, i, none⟩ = false) (hc : w'.cell? ⟨sb, 2, none⟩ = w.cell? ⟨sb, 2, none⟩)
    (ho : ∀ b, b ≠ sb → b < w.heap.size → w'.heap[b]? = w.heap[b]?) (hb : Below w0.heap.size w0 w') : TabAt w0 w' sb D := by
  refine ⟨hl, hf, ?_, h.base, hb⟩
  rcases h.fld with ⟨h1, h2⟩ | ⟨bm, n, h1, h2, h3, h4⟩
  · exact .inl ⟨hc.trans h1, h2⟩
  · exact .inr ⟨bm, n, hc.trans h1, h2, h3, ownsMap_eq h4 (ho bm h2 h4.lt)⟩
theorem has_empty (k : Lit) : Maps.has (DataW.map [] : DataW Unit) k = false := rfl
/-- What Get answers. -/
def getV (v : EntL) (has : Bool) : Value := if has then .tuple #[.int .i64 v.num, .agg #[.int .u64 v.b0, .int .u64 v.b1, .int .u64 v.b2, .int .u64 v.b3], .int .i64 0] else .tuple #[.int .i64 0, .agg #[.int .u64 0, .int .u64 0, .int .u64 0, .int .u64 0], .int .i64 6]
set_option maxRecDepth 10000 in
set_option maxHeartbeats 1600000 in
theorem get_full (w0 : World) (sb bm n : Nat) (D : DataW Unit) (x : Int) (w : World) (hT : TabAt w0 w sb D) (c2 : w.cell? ⟨sb, 2, none⟩ = some (.map (some bm)))
    (hbs : bm ≠ sb) (hown : w.ownsMap Try.prog 3 entElem bm n D) (hwx : (Lit.int .i64 x).wf = true) :
    Calls Try.prog 14 #[.pointer (some ⟨sb, 0, none⟩), .int .i64 x] w fun e w' => (∃ v, D.atKey (.int .i64 x) (entD zeroE) = entD v ∧ e = .returned (getV v (Maps.has D (.int .i64 x)))) ∧
      TabAt w0 w' sb D ∧ ∀ b, b ≠ sb → b < w.heap.size → w'.heap[b]? = w.heap[b]? := by
  have c0 := hT.lock
  have f0 := hT.free 0
  have hkey := keyOf_int_mk Try.underlying3 hwx
  have B0 : Below w.heap.size w (w.alloc (.cells #[.int .u64 0, .int .u64 0, .int .u64 0, .int .u64 0] 31)) := below_alloc (Below.refl _ _) _
  have c0a : (w.alloc (.cells #[.int .u64 0, .int .u64 0, .int .u64 0, .int .u64 0] 31)).cell? ⟨sb, 0, none⟩ = some (.int .i32 0) := below_cell B0 c0
  have c2a : (w.alloc (.cells #[.int .u64 0, .int .u64 0, .int .u64 0, .int .u64 0] 31)).cell? ⟨sb, 2, none⟩ = some (.map (some bm)) := below_cell B0 c2
  have f0a : (w.alloc (.cells #[.int .u64 0, .int .u64 0, .int .u64 0, .int .u64 0] 31)).frozen? ⟨sb, 0, none⟩ = false := by
    have hlt := World.block_lt_of_cell? _ _ c0
    have : (w.alloc (.cells #[.int .u64 0, .int .u64 0, .int .u64 0, .int .u64 0] 31)).heap[sb]? = w.heap[sb]? := B0.block sb hlt
    simp only [World.frozen?, this] at f0 ⊢
    exact f0
  have hownA := hown.alloc (.cells #[.int .u64 0, .int .u64 0, .int .u64 0, .int .u64 0] 31)
  have hown1 := hownA.setCell (a := ⟨sb, 0, none⟩) hbs (.int .i32 1)
  have c2' : ((w.alloc (.cells #[.int .u64 0, .int .u64 0, .int .u64 0, .int .u64 0] 31)).setCell ⟨sb, 0, none⟩ (.int .i32 1)).cell? ⟨sb, 2, none⟩ = some (.map (some bm)) := by rw [World.cell?_setCell_other _ ⟨sb, 0, none⟩ ⟨sb, 2, none⟩ _ (by simp)]; exact c2a
  have hne : w.heap.size ≠ sb := Nat.ne_of_gt (World.block_lt_of_cell? _ _ c0)
  have hz0 : ((w.alloc (.cells #[.int .u64 0, .int .u64 0, .int .u64 0, .int .u64 0] 31)).setCell ⟨sb, 0, none⟩ (.int .i32 1)).heap[w.heap.size]? = some (.cells #[.int .u64 0, .int .u64 0, .int .u64 0, .int .u64 0] 31 (0, 0)) := (heap_set_other hne 0 _).trans (heap_new _ _)
  have zc0 : ((w.alloc (.cells #[.int .u64 0, .int .u64 0, .int .u64 0, .int .u64 0] 31)).setCell ⟨sb, 0, none⟩ (.int .i32 1)).cell? ⟨w.heap.size, 0, none⟩ = some (.int .u64 0) := cell_of_heap hz0 0
  have zf0 : ((w.alloc (.cells #[.int .u64 0, .int .u64 0, .int .u64 0, .int .u64 0] 31)).setCell ⟨sb, 0, none⟩ (.int .i32 1)).frozen? ⟨w.heap.size, 0, none⟩ = false := free_of_heap hz0 0
  have zc1 : ((w.alloc (.cells #[.int .u64 0, .int .u64 0, .int .u64 0, .int .u64 0] 31)).setCell ⟨sb, 0, none⟩ (.int .i32 1)).cell? ⟨w.heap.size, 1, none⟩ = some (.int .u64 0) := cell_of_heap hz0 1
  have zf1 : ((w.alloc (.cells #[.int .u64 0, .int .u64 0, .int .u64 0, .int .u64 0] 31)).setCell ⟨sb, 0, none⟩ (.int .i32 1)).frozen? ⟨w.heap.size, 1, none⟩ = false := free_of_heap hz0 1
  have zc2 : ((w.alloc (.cells #[.int .u64 0, .int .u64 0, .int .u64 0, .int .u64 0] 31)).setCell ⟨sb, 0, none⟩ (.int .i32 1)).cell? ⟨w.heap.size, 2, none⟩ = some (.int .u64 0) := cell_of_heap hz0 2
  have zf2 : ((w.alloc (.cells #[.int .u64 0, .int .u64 0, .int .u64 0, .int .u64 0] 31)).setCell ⟨sb, 0, none⟩ (.int .i32 1)).frozen? ⟨w.heap.size, 2, none⟩ = false := free_of_heap hz0 2
  have zc3 : ((w.alloc (.cells #[.int .u64 0, .int .u64 0, .int .u64 0, .int .u64 0] 31)).setCell ⟨sb, 0, none⟩ (.int .i32 1)).cell? ⟨w.heap.size, 3, none⟩ = some (.int .u64 0) := cell_of_heap hz0 3
  have zf3 : ((w.alloc (.cells #[.int .u64 0, .int .u64 0, .int .u64 0, .int .u64 0] 31)).setCell ⟨sb, 0, none⟩ (.int .i32 1)).frozen? ⟨w.heap.size, 3, none⟩ = false := free_of_heap hz0 3
  obtain ⟨hs, hhs⟩ : ∃ q, Maps.has D (.int .i64 x) = q := ⟨_, rfl⟩
  rw [hhs]
  have HT := Lib.hid hT
  clear hT
  go_enter_defers Try.func14, Try.ntmps14
  cases hs
  all_goals
    go_wp2_with (first
      | (go_at_call 24; refine (lock_free ⟨sb, 0, none⟩ _ c0a f0a).mono ?_; rintro e w' ⟨rfl, rfl⟩)
      | (at_lookup; refine wpList_lookup_own_ok _ rfl _ _ 53 rfl 3 70 keyed_int Try.underlying53 entElem (zero_ent _) (entD zeroE) [] (entElem_mk zeroE) bm n D rfl hown1 _ _ rfl hkey ?_; rw [hhs]; intro v ps hv; obtain ⟨ent, rfl, hz⟩ := entElem_inv hv; have hz' := congrArg Prod.fst hz; obtain ⟨en, e0, e1, e2, e3⟩ := ent; simp only [entV]))
  · refine leaves_cons (f := 25) (args := #[.pointer (some ⟨sb, 0, none⟩)]) (by simp) (by simp [go_sem]) ?_
    have hne' : sb ≠ w.heap.size := fun e => hne e.symm
    obtain ⟨W2, hW2, k1, k2, k3, k4⟩ := st4 hz0 (.int .u64 0) (.int .u64 0) (.int .u64 0) (.int .u64 0)
    rw [← hW2]
    have hsb : sb < W2.heap.size := by rw [k3, size_set]; simp; have := World.block_lt_of_cell? _ _ c0; simp at this; omega
    have eb1 : (W2.alloc (.cells #[.int .i64 en, .int .u64 (e0 : Int), .int .u64 (e1 : Int), .int .u64 (e2 : Int), .int .u64 (e3 : Int)] 70)).heap[sb]? = ((w.alloc (.cells #[.int .u64 0, .int .u64 0, .int .u64 0, .int .u64 0] 31)).setCell ⟨sb, 0, none⟩ (.int .i32 1)).heap[sb]? := (heap_keep _ _ hsb).trans (k2 sb hne')
    refine (unlock_deferred ⟨sb, 0, none⟩ .returning _ ?_ ?_).mono ?_
    · exact (cell_eq eb1 0).trans (World.cell?_setCell_same _ ⟨sb, 0, none⟩ _ c0a)
    · exact (frozen_eq eb1 0).trans (by rw [World.frozen?_setCell]; exact f0a)
    rintro e u' w'' ⟨rfl, rfl, rfl⟩
    have hr : ((W2.alloc (.cells #[.int .i64 en, .int .u64 (e0 : Int), .int .u64 (e1 : Int), .int .u64 (e2 : Int), .int .u64 (e3 : Int)] 70)).setCell ⟨sb, 0, none⟩ (.int .i32 0)).heap[w.heap.size]? = some (.cells #[.int .u64 0, .int .u64 0, .int .u64 0, .int .u64 0] 31 (0, 0)) :=
      (heap_set_other hne 0 _).trans ((heap_keep _ _ (lt_of_heap k1)).trans k1)
    refine ⟨_, results_tct rfl _ _ w.heap.size 31 _ _ _ rfl hr Try.underlying31 rfl (by kernel_rfl), ?_⟩
    have ho : ∀ b, b ≠ sb → b < w.heap.size → ((W2.alloc (.cells #[.int .i64 en, .int .u64 (e0 : Int), .int .u64 (e1 : Int), .int .u64 (e2 : Int), .int .u64 (e3 : Int)] 70)).setCell ⟨sb, 0, none⟩ (.int .i32 0)).heap[b]? = w.heap[b]? := fun b hb hbl => by
      have hbw : b ≠ w.heap.size := by omega
      have hb2 : b < W2.heap.size := by rw [k3, size_set]; simp; omega
      exact (heap_set_other hb 0 _).trans ((heap_keep _ _ hb2).trans ((k2 b hbw).trans ((heap_set_other hb 0 _).trans (heap_keep _ _ hbl))))
    have hlk : (W2.alloc (.cells #[.int .i64 en, .int .u64 (e0 : Int), .int .u64 (e1 : Int), .int .u64 (e2 : Int), .int .u64 (e3 : Int)] 70)).cell? ⟨sb, 0, none⟩ = some (.int .i32 1) := (cell_eq eb1 0).trans (World.cell?_setCell_same _ ⟨sb, 0, none⟩ _ c0a)
    have hbel : Below w0.heap.size w0 ((W2.alloc (.cells #[.int .i64 en, .int .u64 (e0 : Int), .int .u64 (e1 : Int), .int .u64 (e2 : Int), .int .u64 (e3 : Int)] 70)).setCell ⟨sb, 0, none⟩ (.int .i32 0)) :=
      (below_alloc (k4 _ _ HT.out.bel.size ((below_alloc HT.out.bel _).setCell HT.out.base _)) _).setCell HT.out.base _
    refine ⟨by first | exact ⟨_, hz', rfl⟩ | exact ⟨_, rfl, rfl⟩, TabAt.back HT.out (World.cell?_setCell_same _ ⟨sb, 0, none⟩ _ hlk) ?_ ?_ ho hbel, ho⟩
    · intro i; rw [World.frozen?_setCell, frozen_eq eb1 i, World.frozen?_setCell, frozen_eq (B0.block sb (World.block_lt_of_cell? _ _ c0)) i]; exact HT.out.free i
    · rw [World.cell?_setCell_other _ ⟨sb, 0, none⟩ ⟨sb, 2, none⟩ _ (by simp), cell_eq eb1 2, c2', c2]
  · have hs1 : ((w.alloc (.cells #[.int .u64 0, .int .u64 0, .int .u64 0, .int .u64 0] 31)).setCell ⟨sb, 0, none⟩ (.int .i32 1)).heap.size = w.heap.size + 1 := by rw [size_set]; simp
    have hE : (((w.alloc (.cells #[.int .u64 0, .int .u64 0, .int .u64 0, .int .u64 0] 31)).setCell ⟨sb, 0, none⟩ (.int .i32 1)).alloc (.cells #[.int .i64 en, .int .u64 (e0 : Int), .int .u64 (e1 : Int), .int .u64 (e2 : Int), .int .u64 (e3 : Int)] 70)).heap[w.heap.size + 1]? = some (.cells #[.int .i64 en, .int .u64 (e0 : Int), .int .u64 (e1 : Int), .int .u64 (e2 : Int), .int .u64 (e3 : Int)] 70 (0, 0)) := by have := heap_new ((w.alloc (.cells #[.int .u64 0, .int .u64 0, .int .u64 0, .int .u64 0] 31)).setCell ⟨sb, 0, none⟩ (.int .i32 1)) (.cells #[.int .i64 en, .int .u64 (e0 : Int), .int .u64 (e1 : Int), .int .u64 (e2 : Int), .int .u64 (e3 : Int)] 70); rw [hs1] at this; exact this
    have hZ : (((w.alloc (.cells #[.int .u64 0, .int .u64 0, .int .u64 0, .int .u64 0] 31)).setCell ⟨sb, 0, none⟩ (.int .i32 1)).alloc (.cells #[.int .i64 en, .int .u64 (e0 : Int), .int .u64 (e1 : Int), .int .u64 (e2 : Int), .int .u64 (e3 : Int)] 70)).heap[w.heap.size]? = some (.cells #[.int .u64 0, .int .u64 0, .int .u64 0, .int .u64 0] 31 (0, 0)) := (heap_keep _ _ (lt_of_heap hz0)).trans hz0
    have hO : ∀ b, b ≠ sb → b < w.heap.size → (((w.alloc (.cells #[.int .u64 0, .int .u64 0, .int .u64 0, .int .u64 0] 31)).setCell ⟨sb, 0, none⟩ (.int .i32 1)).alloc (.cells #[.int .i64 en, .int .u64 (e0 : Int), .int .u64 (e1 : Int), .int .u64 (e2 : Int), .int .u64 (e3 : Int)] 70)).heap[b]? = w.heap[b]? := fun b hb hbl => (heap_keep _ _ (by rw [hs1]; omega)).trans ((heap_set_other hb 0 _).trans (heap_keep _ _ hbl))
    have hlt0 := World.block_lt_of_cell? _ _ c0
    have hlt1 : sb < w.heap.size := hlt0
    have hS : (((w.alloc (.cells #[.int .u64 0, .int .u64 0, .int .u64 0, .int .u64 0] 31)).setCell ⟨sb, 0, none⟩ (.int .i32 1)).alloc (.cells #[.int .i64 en, .int .u64 (e0 : Int), .int .u64 (e1 : Int), .int .u64 (e2 : Int), .int .u64 (e3 : Int)] 70)).heap[sb]? = ((w.alloc (.cells #[.int .u64 0, .int .u64 0, .int .u64 0, .int .u64 0] 31)).setCell ⟨sb, 0, none⟩ (.int .i32 1)).heap[sb]? := heap_keep _ _ (by rw [hs1]; omega)
    have hlk : (((w.alloc (.cells #[.int .u64 0, .int .u64 0, .int .u64 0, .int .u64 0] 31)).setCell ⟨sb, 0, none⟩ (.int .i32 1)).alloc (.cells #[.int .i64 en, .int .u64 (e0 : Int), .int .u64 (e1 : Int), .int .u64 (e2 : Int), .int .u64 (e3 : Int)] 70)).cell? ⟨sb, 0, none⟩ = some (.int .i32 1) := (cell_eq hS 0).trans (World.cell?_setCell_same _ ⟨sb, 0, none⟩ _ c0a)
    have hfr : (((w.alloc (.cells #[.int .u64 0, .int .u64 0, .int .u64 0, .int .u64 0] 31)).setCell ⟨sb, 0, none⟩ (.int .i32 1)).alloc (.cells #[.int .i64 en, .int .u64 (e0 : Int), .int .u64 (e1 : Int), .int .u64 (e2 : Int), .int .u64 (e3 : Int)] 70)).frozen? ⟨sb, 0, none⟩ = false := by rw [frozen_eq hS 0, World.frozen?_setCell]; exact f0a
    have hfa : ∀ i, (((w.alloc (.cells #[.int .u64 0, .int .u64 0, .int .u64 0, .int .u64 0] 31)).setCell ⟨sb, 0, none⟩ (.int .i32 1)).alloc (.cells #[.int .i64 en, .int .u64 (e0 : Int), .int .u64 (e1 : Int), .int .u64 (e2 : Int), .int .u64 (e3 : Int)] 70)).frozen? ⟨sb, i, none⟩ = false := fun i => by rw [frozen_eq hS i, World.frozen?_setCell, frozen_eq (B0.block sb (World.block_lt_of_cell? _ _ c0)) i]; exact HT.out.free i
    have hc2 : (((w.alloc (.cells #[.int .u64 0, .int .u64 0, .int .u64 0, .int .u64 0] 31)).setCell ⟨sb, 0, none⟩ (.int .i32 1)).alloc (.cells #[.int .i64 en, .int .u64 (e0 : Int), .int .u64 (e1 : Int), .int .u64 (e2 : Int), .int .u64 (e3 : Int)] 70)).cell? ⟨sb, 2, none⟩ = w.cell? ⟨sb, 2, none⟩ := by rw [cell_eq hS 2, c2', c2]
    have hbel : Below w0.heap.size w0 (((w.alloc (.cells #[.int .u64 0, .int .u64 0, .int .u64 0, .int .u64 0] 31)).setCell ⟨sb, 0, none⟩ (.int .i32 1)).alloc (.cells #[.int .i64 en, .int .u64 (e0 : Int), .int .u64 (e1 : Int), .int .u64 (e2 : Int), .int .u64 (e3 : Int)] 70)) := below_alloc ((below_alloc HT.out.bel _).setCell HT.out.base _) _
    generalize (((w.alloc (.cells #[.int .u64 0, .int .u64 0, .int .u64 0, .int .u64 0] 31)).setCell ⟨sb, 0, none⟩ (.int .i32 1)).alloc (.cells #[.int .i64 en, .int .u64 (e0 : Int), .int .u64 (e1 : Int), .int .u64 (e2 : Int), .int .u64 (e3 : Int)] 70)) = W3 at *
    clear zc0 zf0 zc1 zf1 zc2 zf2 zc3 zf3 hz0 c2' hown1 hownA f0a c2a c0a B0 hS hs1
    have ex0 : W3.cell? ⟨w.heap.size + 1, 0, none⟩ = some (.int .i64 en) := cell_of_heap hE 0
    have ex1 : W3.cell? ⟨w.heap.size + 1, 1, none⟩ = some (.int .u64 e0) := cell_of_heap hE 1
    have ex2 : W3.cell? ⟨w.heap.size + 1, 2, none⟩ = some (.int .u64 e1) := cell_of_heap hE 2
    have ex3 : W3.cell? ⟨w.heap.size + 1, 3, none⟩ = some (.int .u64 e2) := cell_of_heap hE 3
    have ex4 : W3.cell? ⟨w.heap.size + 1, 4, none⟩ = some (.int .u64 e3) := cell_of_heap hE 4
    go_still_tail 5, (by kernel_rfl)
    change wpList _ _ _ _ _ W3.drew
    have hall : W3.drew.heap[w.heap.size]? = some (.cells #[.int .u64 0, .int .u64 0, .int .u64 0, .int .u64 0] 31 (0, 0)) ∧ (∀ b, b ≠ sb → b < w.heap.size → W3.drew.heap[b]? = w.heap[b]?) ∧ W3.drew.cell? ⟨sb, 0, none⟩ = some (.int .i32 1) ∧ W3.drew.frozen? ⟨sb, 0, none⟩ = false ∧ Hid (∀ i, W3.drew.frozen? ⟨sb, i, none⟩ = false) ∧ W3.drew.cell? ⟨sb, 2, none⟩ = w.cell? ⟨sb, 2, none⟩ ∧ Below w0.heap.size w0 W3.drew :=
      ⟨hZ, hO, hlk, hfr, Lib.hid hfa, hc2, hbel.drew⟩
    clear hZ hO hlk hfr hfa hc2 hbel ex0 ex1 ex2 ex3 ex4 hE
    generalize W3.drew = W4 at hall ⊢
    obtain ⟨hZ, hO, hlk, hfr, HFA, hc2, hbel⟩ := hall
    have zc0 : W4.cell? ⟨w.heap.size, 0, none⟩ = some (.int .u64 0) := cell_of_heap hZ 0
    have zc1 : W4.cell? ⟨w.heap.size, 1, none⟩ = some (.int .u64 0) := cell_of_heap hZ 1
    have zc2 : W4.cell? ⟨w.heap.size, 2, none⟩ = some (.int .u64 0) := cell_of_heap hZ 2
    have zc3 : W4.cell? ⟨w.heap.size, 3, none⟩ = some (.int .u64 0) := cell_of_heap hZ 3
    have zf0 : W4.frozen? ⟨w.heap.size, 0, none⟩ = false := free_of_heap hZ 0
    have zf1 : W4.frozen? ⟨w.heap.size, 1, none⟩ = false := free_of_heap hZ 1
    have zf2 : W4.frozen? ⟨w.heap.size, 2, none⟩ = false := free_of_heap hZ 2
    have zf3 : W4.frozen? ⟨w.heap.size, 3, none⟩ = false := free_of_heap hZ 3
    go_wp2
    refine leaves_cons (f := 25) (args := #[.pointer (some ⟨sb, 0, none⟩)]) (by simp) (by simp [go_sem]) ?_
    have hne' : sb ≠ w.heap.size := fun e => hne e.symm
    obtain ⟨W2, hW2, k1, k2, k3, k4⟩ := st4 hZ (.int .u64 e0) (.int .u64 e1) (.int .u64 e2) (.int .u64 e3)
    rw [← hW2]
    have eb1 : W2.heap[sb]? = W4.heap[sb]? := k2 sb hne'
    refine (unlock_deferred ⟨sb, 0, none⟩ .returning _ ?_ ?_).mono ?_
    · exact (cell_eq eb1 0).trans hlk
    · exact (frozen_eq eb1 0).trans hfr
    rintro e u' w'' ⟨rfl, rfl, rfl⟩
    have hr : (W2.setCell ⟨sb, 0, none⟩ (.int .i32 0)).heap[w.heap.size]? = some (.cells #[.int .u64 e0, .int .u64 e1, .int .u64 e2, .int .u64 e3] 31 (0, 0)) :=
      (heap_set_other hne 0 _).trans k1
    refine ⟨_, results_tct rfl _ _ w.heap.size 31 _ _ _ rfl hr Try.underlying31 rfl (by kernel_rfl), ?_⟩
    have ho : ∀ b, b ≠ sb → b < w.heap.size → (W2.setCell ⟨sb, 0, none⟩ (.int .i32 0)).heap[b]? = w.heap[b]? := fun b hb hbl =>
      (heap_set_other hb 0 _).trans ((k2 b (by omega)).trans (hO b hb hbl))
    refine ⟨by first | exact ⟨_, hz', rfl⟩ | exact ⟨_, rfl, rfl⟩, TabAt.back HT.out (World.cell?_setCell_same _ ⟨sb, 0, none⟩ _ ((cell_eq eb1 0).trans hlk)) ?_ ?_ ho ((k4 _ _ HT.out.bel.size hbel).setCell HT.out.base _), ho⟩
    · intro i; rw [World.frozen?_setCell, frozen_eq eb1 i]; exact HFA.out i
    · rw [World.cell?_setCell_other _ ⟨sb, 0, none⟩ ⟨sb, 2, none⟩ _ (by simp), cell_eq eb1 2, hc2]
end Go.Proofs.Ytojbdaeidbmjgaa
