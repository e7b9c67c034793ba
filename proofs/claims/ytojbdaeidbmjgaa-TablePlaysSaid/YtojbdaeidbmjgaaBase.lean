/- Small words that all walks of this seat use. No conditions. -/
import Derived.Test.YtojbdaeidbmjgaaProg
import Derived.WalkKit
import Derived.WalkSpells
import Derived.WalkLawsBesides
import Derived.Lib.Hide
import Derived.Laws.Rows
import Derived.Laws.Tables
import Derived.Deep.MidRow
namespace Go.Proofs.Ytojbdaeidbmjgaa
open Go.RowKit

theorem below_then {w w1 w2 : World} (h : Below w.heap.size w w1) (k : Below w1.heap.size w1 w2) : Below w.heap.size w w2 :=
  h.trans (k.mono h.size)
theorem below_alloc {w w1 : World} (h : Below w.heap.size w w1) (o : Obj) : Below w.heap.size w (w1.alloc o) := h.alloc h.size o
theorem heap_new (w : World) (o : Obj) : (w.alloc o).heap[w.heap.size]? = some o := heap_alloc_new w o
theorem heap_keep (w : World) (o : Obj) {k : Nat} (h : k < w.heap.size) : (w.alloc o).heap[k]? = w.heap[k]? := Below.heap_alloc w o k h
theorem below_heap {w w1 : World} (h : Below w.heap.size w w1) {g : Nat} {o : Obj} (hg : w.heap[g]? = some o) : w1.heap[g]? = some o := by
  rw [h.block g (Array.getElem?_eq_some_iff.1 hg).1]; exact hg
theorem lt_of_heap {w : World} {g : Nat} {o : Obj} (hg : w.heap[g]? = some o) : g < w.heap.size := (Array.getElem?_eq_some_iff.1 hg).1
theorem cell_of_heap {w : World} {g : Nat} {c : Array Value} {t : TypeId} {f : Nat × Nat} (hg : w.heap[g]? = some (.cells c t f)) (i : Nat) : w.cell? ⟨g, i, none⟩ = c[i]? := by
  simp [World.cell?, hg]
theorem free_of_heap {w : World} {g : Nat} {c : Array Value} {t : TypeId} (hg : w.heap[g]? = some (.cells c t (0, 0))) (i : Nat) : w.frozen? ⟨g, i, none⟩ = false := by
  simp [World.frozen?, hg]
theorem heap_set {w : World} {g : Nat} {c : Array Value} {t : TypeId} {f : Nat × Nat} (hg : w.heap[g]? = some (.cells c t f)) (i : Nat) (v : Value) :
    (w.setCell ⟨g, i, none⟩ v).heap[g]? = some (.cells (c.setIfInBounds i v) t f) := by
  simp only [World.setCell, Array.getElem?_modify, hg]
  simp
theorem heap_set_other {w : World} {g b : Nat} (h : b ≠ g) (i : Nat) (v : Value) : (w.setCell ⟨g, i, none⟩ v).heap[b]? = w.heap[b]? :=
  Below.heap_setCell _ _ _ _ (by simpa using h)
theorem size_set (w : World) (a : Addr) (v : Value) : (w.setCell a v).heap.size = w.heap.size := by simp [World.setCell]

section
variable {P : Program}
/-- Results: an aggregate in memory, then a slot. -/
theorem results_ct {fn : Func} {p q : Tmp} {ty : TypeId} (h : fn.results = #[.cell p ty, .tmp q]) (tmps : Array Value) (w : World) (g : Nat) (t : TypeId) (cs : Array Value) (fr : Nat × Nat) (d : TypeDesc)
    (hp : tmps.getD p undef = .pointer (some ⟨g, 0, none⟩)) (hg : w.heap[g]? = some (.cells cs t fr))
    (hu : P.underlying ty = some d) (hd : (match d with | .struct _ | .array _ _ => true | _ => false) = true) (hi : (P.info? ty).map (·.size) = some cs.size) :
    (results fn tmps).run P w = .ok (.tuple #[.agg cs, tmps.getD q undef]) w := by
  have hp' : tmps[p]?.getD undef = .pointer (some ⟨g, 0, none⟩) := by simpa using hp
  simp [results, h, hp', asAddr, run_loadVar_row w g t ty cs fr d hg hu hd hi]
theorem results_ctt {fn : Func} {p q r : Tmp} {ty : TypeId} (h : fn.results = #[.cell p ty, .tmp q, .tmp r]) (tmps : Array Value) (w : World) (g : Nat) (t : TypeId) (cs : Array Value) (fr : Nat × Nat) (d : TypeDesc)
    (hp : tmps.getD p undef = .pointer (some ⟨g, 0, none⟩)) (hg : w.heap[g]? = some (.cells cs t fr))
    (hu : P.underlying ty = some d) (hd : (match d with | .struct _ | .array _ _ => true | _ => false) = true) (hi : (P.info? ty).map (·.size) = some cs.size) :
    (results fn tmps).run P w = .ok (.tuple #[.agg cs, tmps.getD q undef, tmps.getD r undef]) w := by
  have hp' : tmps[p]?.getD undef = .pointer (some ⟨g, 0, none⟩) := by simpa using hp
  simp [results, h, hp', asAddr, run_loadVar_row w g t ty cs fr d hg hu hd hi]
end
section
variable {P : Program} {ops : Array Oper} {rest : List Oper} {Q : Exit → Act → World → Prop} {a : Act} {w : World} {d : Option Tmp} {x y : Operand} {T : TypeId} {pos : String} {af : Array Edge} {gd : Option (Nat × Bool)}
theorem wpList_wanted {o : Oper} (hw : Region.wanted o (yielded ops a.tmps) = true)
    (h : ∀ K : Act → World → Prop, (∀ a w, wpList P ops Q rest a w → K a w) → o.wp P a w K Q) : wpList P ops Q (o :: rest) a w :=
  wpList_step fun K hK => by rw [if_pos hw]; exact h K hK
theorem gate_store (ty : Nat) (h : wpList P ops Q ({ dst := d, op := .store ty x y, type := T, pos := pos, after := af, guard := gd } :: rest) a w) :
    wpList P ops Q ({ dst := d, op := .store ty x y, type := T, pos := pos, after := af, guard := gd } :: rest) a w := h
theorem gate_load (ty : Nat) (h : wpList P ops Q ({ dst := d, op := .load ty x, type := T, pos := pos, after := af, guard := gd } :: rest) a w) :
    wpList P ops Q ({ dst := d, op := .load ty x, type := T, pos := pos, after := af, guard := gd } :: rest) a w := h
/-- A store of a whole aggregate into a block of its own. -/
theorem st_row (ty g t : Nat) {cells old : Array Value} (hg : w.heap[g]? = some (.cells old t (0, 0))) {n : Nat} (hi : (P.info? ty).map (·.size) = some n)
    (h : wpList P ops Q rest (a.put d undef) (w.setRow g cells))
    (hw : Region.wanted { dst := d, op := .store ty x y, type := T, pos := pos, after := af, guard := gd } (yielded ops a.tmps) = true := by rfl)
    (hx : a.eval x = .pointer (some ⟨g, 0, none⟩) := by rfl) (hy : a.eval y = .agg cells := by rfl) (hn : cells.size = n := by rfl) (ho : old.size = n := by rfl) (h1 : cells.all (·.oneCell') = true := by simp [Value.oneCell']) :
    wpList P ops Q ({ dst := d, op := .store ty x y, type := T, pos := pos, after := af, guard := gd } :: rest) a w :=
  wpList_wanted hw fun _ hK => wp_store_row ty x y rfl g cells hx hy t old hg (by rw [hi, hn]) (by rw [ho, hn]) h1 (hK _ _ h)
/-- A load of a whole aggregate out of a block of its own. -/
theorem ld_row (ty g t : Nat) {cells : Array Value} {fr : Nat × Nat} (hg : w.heap[g]? = some (.cells cells t fr)) {D : TypeDesc} (hu : P.underlying ty = some D) {n : Nat} (hi : (P.info? ty).map (·.size) = some n)
    (h : wpList P ops Q rest (a.put d (.agg cells)) w)
    (hw : Region.wanted { dst := d, op := .load ty x, type := T, pos := pos, after := af, guard := gd } (yielded ops a.tmps) = true := by rfl)
    (hx : a.eval x = .pointer (some ⟨g, 0, none⟩) := by rfl) (hd : (match D with | .struct _ | .array _ _ => true | _ => false) = true := by rfl) (hn : cells.size = n := by rfl) :
    wpList P ops Q ({ dst := d, op := .load ty x, type := T, pos := pos, after := af, guard := gd } :: rest) a w :=
  wpList_wanted hw fun _ hK => wp_load_row ty x rfl g hx t cells fr D hg hu hd (by rw [hi, hn]) (hK _ _ h)
/-- A load of an aggregate out of the middle of a block. -/
theorem ld_mid (ty b o : Nat) (cs : List Value) (hc : w.rangeAt b o cs) {D : TypeDesc} (hu : P.underlying ty = some D) {n : Nat} (hi : (P.info? ty).map (·.size) = some n)
    (h : wpList P ops Q rest (a.put d (.agg cs.toArray)) w)
    (hw : Region.wanted { dst := d, op := .load ty x, type := T, pos := pos, after := af, guard := gd } (yielded ops a.tmps) = true := by rfl)
    (hx : a.eval x = .pointer (some ⟨b, o, none⟩) := by rfl) (hd : D.isRow = true := by rfl) (hn : cs.length = n := by rfl) :
    wpList P ops Q ({ dst := d, op := .load ty x, type := T, pos := pos, after := af, guard := gd } :: rest) a w :=
  wpList_wanted hw fun _ hK => wp_load_mid ty x rfl b o hx cs D hc hu hd (by rw [hi, hn]) (hK _ _ h)
end
theorem below_setRow {B : Nat} {a w : World} (h : Below B a w) {g : Nat} (hg : B ≤ g) (cs : Array Value) : Below B a (w.setRow g cs) :=
  h.trans ⟨rfl, rfl, rfl, by simp, fun k hk => setRow_other w g k cs (by omega)⟩
end Go.Proofs.Ytojbdaeidbmjgaa
