/- Small words that all walks of this seat use. No conditions. · Plain facts on natural numbers as lists of words of 64 bits, the lowest first. No conditions. · Laws that lay a name over the world behind an operation. No conditions. -/
import Derived.Test.YtpodpdopgdkdkaaGreatDoorProg
import Derived.WalkKit
import Derived.WalkSpells
import Derived.WalkLawsBesides
import Derived.Lib.Hide
import Derived.Laws.Rows
import Derived.Laws.Tables
import Derived.Deep.MidRow
import Derived.Lib.BitFns
set_option linter.unusedVariables false
set_option linter.unusedSimpArgs false
namespace Go.Proofs.YtpodpdopgdkdkaaGreatDoor
open Go.RowKit

theorem below_then {w w1 w2 : World} (h : Below w.heap.size w w1) (k : Below w1.heap.size w1 w2) : Below w.heap.size w w2 :=
  h.trans (k.mono h.size)
theorem below_alloc {w w1 : World} (h : Below w.heap.size w w1) (o : Obj) : Below w.heap.size w (w1.alloc o) := h.alloc h.size o
theorem heap_new (w : World) (o : Obj) : (w.alloc o).heap[w.heap.size]? = some o := heap_alloc_new w o
theorem heap_keep (w : World) (o : Obj) {k : Nat} (h : k < w.heap.size) : (w.alloc o).heap[k]? = w.heap[k]? := Below.heap_alloc w o k h
theorem below_heap {w w1 : World} (h : Below w.heap.size w w1) {g : Nat} {o : Obj} (hg : w.heap[g]? = some o) : w1.heap[g]? = some o := by
  rw [h.block g (Array.getElem?_eq_some_iff.1 hg).1]; exact hg
theorem lt_of_heap {w : World} {g : Nat} {o : Obj} (hg : w.heap[g]? = some o) : g < w.heap.size := (Array.getElem?_eq_some_iff.1 hg).1
theorem cell_of_heap {w : World} {g : Nat} {c : Array Value} {t : TypeId} {f : Nat × Nat} (hg : w.heap[g]? = some (.cells c t f)) (i : Nat) : w.cell? ⟨g, i, none⟩ = c[i]? := by
  simp [World.cell?, hg]
theorem free_of_heap {w : World} {g : Nat} {c : Array Value} {t : TypeId} (hg : w.heap[g]? = some (.cells c t (0, 0))) (i : Nat) : w.frozen? ⟨g, i, none⟩ = false := by
  simp [World.frozen?, hg]
theorem heap_set {w : World} {g : Nat} {c : Array Value} {t : TypeId} {f : Nat × Nat} (hg : w.heap[g]? = some (.cells c t f)) (i : Nat) (v : Value) :
    (w.setCell ⟨g, i, none⟩ v).heap[g]? = some (.cells (c.setIfInBounds i v) t f) := by
  simp only [World.setCell, Array.getElem?_modify, hg]
  simp
theorem heap_set_other {w : World} {g b : Nat} (h : b ≠ g) (i : Nat) (v : Value) : (w.setCell ⟨g, i, none⟩ v).heap[b]? = w.heap[b]? :=
  Below.heap_setCell _ _ _ _ (by simpa using h)
theorem size_set (w : World) (a : Addr) (v : Value) : (w.setCell a v).heap.size = w.heap.size := by simp [World.setCell]

section
variable {P : Program}
/-- Results: an aggregate in memory, then a slot. -/
theorem results_ct {fn : Func} {p q : Tmp} {ty : TypeId} (h : fn.results = #[.cell p ty, .tmp q]) (tmps : Array Value) (w : World) (g : Nat) (t : TypeId) (cs : Array Value) (fr : Nat × Nat) (d : TypeDesc)
    (hp : tmps.getD p undef = .pointer (some ⟨g, 0, none⟩)) (hg : w.heap[g]? = some (.cells cs t fr))
    (hu : P.underlying ty = some d) (hd : (match d with | .struct _ | .array _ _ => true | _ => false) = true) (hi : (P.info? ty).map (·.size) = some cs.size) :
    (results fn tmps).run P w = .ok (.tuple #[.agg cs, tmps.getD q undef]) w := by
  have hp' : tmps[p]?.getD undef = .pointer (some ⟨g, 0, none⟩) := by simpa using hp
  simp [results, h, hp', asAddr, run_loadVar_row w g t ty cs fr d hg hu hd hi]
theorem results_ctt {fn : Func} {p q r : Tmp} {ty : TypeId} (h : fn.results = #[.cell p ty, .tmp q, .tmp r]) (tmps : Array Value) (w : World) (g : Nat) (t : TypeId) (cs : Array Value) (fr : Nat × Nat) (d : TypeDesc)
    (hp : tmps.getD p undef = .pointer (some ⟨g, 0, none⟩)) (hg : w.heap[g]? = some (.cells cs t fr))
    (hu : P.underlying ty = some d) (hd : (match d with | .struct _ | .array _ _ => true | _ => false) = true) (hi : (P.info? ty).map (·.size) = some cs.size) :
    (results fn tmps).run P w = .ok (.tuple #[.agg cs, tmps.getD q undef, tmps.getD r undef]) w := by
  have hp' : tmps[p]?.getD undef = .pointer (some ⟨g, 0, none⟩) := by simpa using hp
  simp [results, h, hp', asAddr, run_loadVar_row w g t ty cs fr d hg hu hd hi]
end
section
variable {P : Program} {ops : Array Oper} {rest : List Oper} {Q : Exit → Act → World → Prop} {a : Act} {w : World} {d : Option Tmp} {x y : Operand} {T : TypeId} {pos : String} {af : Array Edge} {gd : Option (Nat × Bool)}
theorem wpList_wanted {o : Oper} (hw : Region.wanted o (yielded ops a.tmps) = true)
    (h : ∀ K : Act → World → Prop, (∀ a w, wpList P ops Q rest a w → K a w) → o.wp P a w K Q) : wpList P ops Q (o :: rest) a w :=
  wpList_step fun K hK => by rw [if_pos hw]; exact h K hK
theorem gate_store (ty : Nat) (h : wpList P ops Q ({ dst := d, op := .store ty x y, type := T, pos := pos, after := af, guard := gd } :: rest) a w) :
    wpList P ops Q ({ dst := d, op := .store ty x y, type := T, pos := pos, after := af, guard := gd } :: rest) a w := h
theorem gate_load (ty : Nat) (h : wpList P ops Q ({ dst := d, op := .load ty x, type := T, pos := pos, after := af, guard := gd } :: rest) a w) :
    wpList P ops Q ({ dst := d, op := .load ty x, type := T, pos := pos, after := af, guard := gd } :: rest) a w := h
/-- A store of a whole aggregate into a block of its own. -/
theorem st_row (ty g t : Nat) {cells old : Array Value} (hg : w.heap[g]? = some (.cells old t (0, 0))) {n : Nat} (hi : (P.info? ty).map (·.size) = some n)
    (h : wpList P ops Q rest (a.put d undef) (w.setRow g cells))
    (hw : Region.wanted { dst := d, op := .store ty x y, type := T, pos := pos, after := af, guard := gd } (yielded ops a.tmps) = true := by rfl)
    (hx : a.eval x = .pointer (some ⟨g, 0, none⟩) := by rfl) (hy : a.eval y = .agg cells := by rfl) (hn : cells.size = n := by rfl) (ho : old.size = n := by rfl) (h1 : cells.all (·.oneCell') = true := by simp [Value.oneCell']) :
    wpList P ops Q ({ dst := d, op := .store ty x y, type := T, pos := pos, after := af, guard := gd } :: rest) a w :=
  wpList_wanted hw fun _ hK => wp_store_row ty x y rfl g cells hx hy t old hg (by rw [hi, hn]) (by rw [ho, hn]) h1 (hK _ _ h)
/-- A load of a whole aggregate out of a block of its own. -/
theorem ld_row (ty g t : Nat) {cells : Array Value} {fr : Nat × Nat} (hg : w.heap[g]? = some (.cells cells t fr)) {D : TypeDesc} (hu : P.underlying ty = some D) {n : Nat} (hi : (P.info? ty).map (·.size) = some n)
    (h : wpList P ops Q rest (a.put d (.agg cells)) w)
    (hw : Region.wanted { dst := d, op := .load ty x, type := T, pos := pos, after := af, guard := gd } (yielded ops a.tmps) = true := by rfl)
    (hx : a.eval x = .pointer (some ⟨g, 0, none⟩) := by rfl) (hd : (match D with | .struct _ | .array _ _ => true | _ => false) = true := by rfl) (hn : cells.size = n := by rfl) :
    wpList P ops Q ({ dst := d, op := .load ty x, type := T, pos := pos, after := af, guard := gd } :: rest) a w :=
  wpList_wanted hw fun _ hK => wp_load_row ty x rfl g hx t cells fr D hg hu hd (by rw [hi, hn]) (hK _ _ h)
/-- A load of an aggregate out of the middle of a block. -/
theorem ld_mid (ty b o : Nat) (cs : List Value) (hc : w.rangeAt b o cs) {D : TypeDesc} (hu : P.underlying ty = some D) {n : Nat} (hi : (P.info? ty).map (·.size) = some n)
    (h : wpList P ops Q rest (a.put d (.agg cs.toArray)) w)
    (hw : Region.wanted { dst := d, op := .load ty x, type := T, pos := pos, after := af, guard := gd } (yielded ops a.tmps) = true := by rfl)
    (hx : a.eval x = .pointer (some ⟨b, o, none⟩) := by rfl) (hd : D.isRow = true := by rfl) (hn : cs.length = n := by rfl) :
    wpList P ops Q ({ dst := d, op := .load ty x, type := T, pos := pos, after := af, guard := gd } :: rest) a w :=
  wpList_wanted hw fun _ hK => wp_load_mid ty x rfl b o hx cs D hc hu hd (by rw [hi, hn]) (hK _ _ h)
end
theorem below_setRow {B : Nat} {a w : World} (h : Below B a w) {g : Nat} (hg : B ≤ g) (cs : Array Value) : Below B a (w.setRow g cs) :=
  h.trans ⟨rfl, rfl, rfl, by simp, fun k hk => setRow_other w g k cs (by omega)⟩
end Go.Proofs.YtpodpdopgdkdkaaGreatDoor
namespace Go.Proofs.YtpodpdopgdkdkaaGreatDoor
abbrev B64 : Nat := 18446744073709551616
def val : List Nat → Nat
  | [] => 0
  | x :: xs => x + B64 * val xs
def W64 (xs : List Nat) : Prop := ∀ x ∈ xs, x < B64
/-- How many words, without noughts at the end. -/
def sz : List Nat → Nat
  | [] => 0
  | x :: xs => if sz xs = 0 then (if x = 0 then 0 else 1) else sz xs + 1
theorem W64.cons {x : Nat} {xs : List Nat} (h : W64 (x :: xs)) : x < B64 ∧ W64 xs := ⟨h x (by simp), fun y hy => h y (by simp [hy])⟩
theorem W64.mk {x : Nat} {xs : List Nat} (h : x < B64) (k : W64 xs) : W64 (x :: xs) := by
  intro y hy
  rcases List.mem_cons.1 hy with e | hy
  · rw [e]; exact h
  · exact k y hy
theorem W64.nil : W64 [] := by intro x hx; cases hx
theorem W64.take {xs : List Nat} (h : W64 xs) (n : Nat) : W64 (xs.take n) := fun x hx => h x (List.mem_of_mem_take hx)
theorem W64.drop {xs : List Nat} (h : W64 xs) (n : Nat) : W64 (xs.drop n) := fun x hx => h x (List.mem_of_mem_drop hx)
theorem W64.append {xs ys : List Nat} (h : W64 xs) (k : W64 ys) : W64 (xs ++ ys) := by
  intro x hx
  rcases List.mem_append.1 hx with hx | hx
  · exact h x hx
  · exact k x hx
theorem W64.get {xs : List Nat} (h : W64 xs) (i : Nat) : xs.getD i 0 < B64 := by
  by_cases hi : i < xs.length
  · rw [List.getD_eq_getElem?_getD, List.getElem?_eq_getElem hi]; exact h _ (List.getElem_mem hi)
  · rw [List.getD_eq_getElem?_getD, List.getElem?_eq_none (by omega)]; decide
theorem val_append (xs ys : List Nat) : val (xs ++ ys) = val xs + B64 ^ xs.length * val ys := by
  induction xs with
  | nil => simp [val]
  | cons x xs ih => simp only [List.cons_append, val, ih, List.length_cons, Nat.pow_succ]; rw [Nat.mul_add, Nat.add_assoc]; congr 1; congr 1; rw [Nat.mul_comm (B64 ^ xs.length) B64, Nat.mul_assoc]
theorem val_lt {xs : List Nat} (h : W64 xs) : val xs < B64 ^ xs.length := by
  induction xs with
  | nil => simp [val]
  | cons x xs ih =>
    have h1 := ih h.cons.2
    have h0 := h.cons.1
    simp only [val, List.length_cons, Nat.pow_succ]
    have : B64 * (val xs + 1) ≤ B64 * B64 ^ xs.length := Nat.mul_le_mul_left _ h1
    rw [Nat.mul_add] at this
    rw [Nat.mul_comm (B64 ^ xs.length)]
    omega
theorem sz_le (xs : List Nat) : sz xs ≤ xs.length := by
  induction xs with
  | nil => simp [sz]
  | cons x xs ih => simp only [sz, List.length_cons]; split <;> (try split) <;> omega
theorem sz_zero {xs : List Nat} : sz xs = 0 ↔ val xs = 0 := by
  induction xs with
  | nil => simp [sz, val]
  | cons x xs ih =>
    simp only [sz, val]
    by_cases h : sz xs = 0
    · have := ih.1 h
      rw [if_pos h, this]
      by_cases hx : x = 0 <;> simp [hx]
    · rw [if_neg h]
      have hv : ¬ val xs = 0 := fun e => h (ih.2 e)
      constructor
      · intro e; omega
      · intro e
        have : B64 * val xs = 0 := by omega
        rcases Nat.mul_eq_zero.1 this with h1 | h1
        · exact absurd h1 (by decide)
        · exact absurd h1 hv
theorem sz_get_last {xs : List Nat} (h : 0 < sz xs) : xs.getD (sz xs - 1) 0 ≠ 0 := by
  induction xs with
  | nil => simp [sz] at h
  | cons x xs ih =>
    by_cases hs : sz xs = 0
    · simp only [sz, if_pos hs] at h ⊢
      by_cases hx : x = 0
      · simp [hx] at h
      · simp [hx]
    · simp only [sz, if_neg hs]
      have := ih (by omega)
      rw [show sz xs + 1 - 1 = (sz xs - 1) + 1 by omega]
      simpa using this
theorem sz_get_beyond {xs : List Nat} (i : Nat) (h : sz xs ≤ i) : xs.getD i 0 = 0 := by
  induction xs generalizing i with
  | nil => simp
  | cons x xs ih =>
    by_cases hs : sz xs = 0
    · simp only [sz, if_pos hs] at h
      cases i with
      | zero => by_cases hx : x = 0 <;> simp_all
      | succ i => simpa using ih i (by omega)
    · simp only [sz, if_neg hs] at h
      cases i with
      | zero => omega
      | succ i => simpa using ih i (by omega)
/-- The size is the number k where the word k - 1 isn't 0, and all from k on are. -/
theorem sz_unique {xs : List Nat} {k : Nat} (h1 : k ≤ xs.length) (h2 : ∀ i, k ≤ i → i < xs.length → xs.getD i 0 = 0) (h3 : k = 0 ∨ xs.getD (k - 1) 0 ≠ 0) : sz xs = k := by
  rcases Nat.lt_trichotomy (sz xs) k with h | h | h
  · rcases h3 with rfl | h3
    · omega
    · exact absurd (sz_get_beyond (k - 1) (by omega)) h3
  · exact h
  · exact absurd (h2 (sz xs - 1) (by omega) (by have := sz_le xs; omega)) (sz_get_last (by omega))
theorem val_zeros {xs : List Nat} (h : ∀ i, i < xs.length → xs.getD i 0 = 0) : val xs = 0 := by
  induction xs with
  | nil => rfl
  | cons x xs ih =>
    have h0 : x = 0 := by simpa using h 0 (by simp)
    rw [val, h0, ih fun i hi => by simpa using h (i + 1) (by simpa using hi)]
    rfl
theorem val_take_drop (xs : List Nat) (k : Nat) : val xs = val (xs.take k) + B64 ^ (min k xs.length) * val (xs.drop k) := by
  conv => lhs; rw [← List.take_append_drop k xs]
  rw [val_append]; simp
theorem val_take_sz (xs : List Nat) : val (xs.take (sz xs)) = val xs := by
  rw [val_take_drop xs (sz xs), val_zeros (xs := xs.drop (sz xs)) fun i hi => ?_]
  · simp
  · have := sz_get_beyond (xs := xs) (sz xs + i) (by omega)
    simpa [List.getD_eq_getElem?_getD, List.getElem?_drop] using this
theorem sz_take_sz (xs : List Nat) : sz (xs.take (sz xs)) = sz xs := by
  refine sz_unique (by simp [sz_le]) (fun i h1 h2 => by simp at h2; omega) ?_
  by_cases h : sz xs = 0
  · exact .inl h
  · right
    have := sz_get_last (xs := xs) (by omega)
    simpa [List.getD_eq_getElem?_getD, List.getElem?_take, show sz xs - 1 < sz xs by omega] using this
/-- Two lists of words without noughts at their ends have one number only if they are one. -/
theorem val_inj {xs ys : List Nat} (hx : W64 xs) (hy : W64 ys) (tx : sz xs = xs.length) (ty : sz ys = ys.length) (h : val xs = val ys) : xs = ys := by
  induction xs generalizing ys with
  | nil =>
    have : val ys = 0 := h.symm
    rw [← sz_zero, ty] at this
    exact (List.eq_nil_of_length_eq_zero this).symm
  | cons x xs ih =>
    cases ys with
    | nil =>
      have : val (x :: xs) = 0 := h
      rw [← sz_zero, tx] at this
      simp at this
    | cons y ys =>
      have h1 := hx.cons.1
      have h2 := hy.cons.1
      simp only [val] at h
      have e : x = y := by
        have a1 : (x + B64 * val xs) % B64 = x := by rw [Nat.add_mul_mod_self_left, Nat.mod_eq_of_lt h1]
        have a2 : (y + B64 * val ys) % B64 = y := by rw [Nat.add_mul_mod_self_left, Nat.mod_eq_of_lt h2]
        rw [h] at a1; omega
      have e2 : val xs = val ys := by
        subst e
        have : B64 * val xs = B64 * val ys := by omega
        exact Nat.eq_of_mul_eq_mul_left (by decide) this
      have trim : ∀ (z : Nat) (zs : List Nat), sz (z :: zs) = (z :: zs).length → sz zs = zs.length := by
        intro z zs h
        simp only [sz, List.length_cons] at h
        have := sz_le zs
        split at h
        · split at h <;> omega
        · omega
      rw [e, ih hx.cons.2 hy.cons.2 (trim _ _ tx) (trim _ _ ty) e2]
theorem val_eq_of_get {xs : List Nat} : ∀ {ys : List Nat}, (∀ i, xs.getD i 0 = ys.getD i 0) → val xs = val ys := by
  induction xs with
  | nil => intro ys h; exact (val_zeros fun i _ => (h i).symm.trans (by simp)).symm
  | cons x xs ih =>
    intro ys h
    cases ys with
    | nil => exact val_zeros (xs := x :: xs) fun i _ => (h i).trans (by simp)
    | cons y ys =>
      have h0 : x = y := by simpa using h 0
      rw [val, val, h0, ih (ys := ys) fun i => by simpa using h (i + 1)]
/-- How many bits a number has. -/
def blen (n : Nat) : Nat := if n = 0 then 0 else Nat.log2 n + 1
theorem blen_zero : blen 0 = 0 := rfl
theorem blen_lt (n : Nat) : n < 2 ^ blen n := by
  unfold blen
  split
  · omega
  · exact Nat.lt_log2_self
theorem blen_le {n : Nat} (h : n ≠ 0) : 2 ^ (blen n - 1) ≤ n := by
  unfold blen
  rw [if_neg h]
  exact Nat.log2_self_le h
theorem blen_unique {n k : Nat} (h1 : n < 2 ^ k) (h2 : k = 0 ∨ 2 ^ (k - 1) ≤ n) : blen n = k := by
  by_cases h0 : n = 0
  · subst h0
    rcases h2 with rfl | h2
    · rfl
    · have := Nat.two_pow_pos (k - 1); omega
  · have a := blen_lt n
    have b := blen_le h0
    have hk : 0 < k := by
      rcases Nat.eq_zero_or_pos k with rfl | h
      · simp at h1; omega
      · exact h
    have c : 2 ^ (k - 1) ≤ n := by rcases h2 with rfl | h2 <;> omega
    have d : blen n - 1 < k := (Nat.pow_lt_pow_iff_right (by omega)).1 (Nat.lt_of_le_of_lt b h1)
    have e : k - 1 < blen n := (Nat.pow_lt_pow_iff_right (by omega)).1 (Nat.lt_of_le_of_lt c a)
    omega
theorem blen_half {n : Nat} (h : n ≠ 0) : blen n = 1 + blen (n / 2) := by
  refine blen_unique ?_ (.inr ?_)
  · rw [Nat.pow_add]; have := blen_lt (n / 2); omega
  · rw [show 1 + blen (n / 2) - 1 = blen (n / 2) by omega]
    by_cases h1 : n / 2 = 0
    · rw [h1]; simp [blen_zero]; omega
    · have := blen_le h1
      have e : 2 ^ blen (n / 2) = 2 * 2 ^ (blen (n / 2) - 1) := by
        rw [← Nat.pow_succ']; congr 1
        have : blen (n / 2) ≠ 0 := by unfold blen; rw [if_neg h1]; omega
        omega
      omega
theorem bitLenAux_eq (f : Nat) : ∀ n, n < 2 ^ f → Lib.bitLenAux f n = blen n := by
  induction f with
  | zero => intro n h; have : n = 0 := by omega
            subst this; rfl
  | succ f ih =>
    intro n h
    unfold Lib.bitLenAux
    by_cases h0 : n = 0
    · rw [if_pos h0, h0]; rfl
    · rw [if_neg h0, ih _ (by rw [Nat.pow_succ] at h; omega), blen_half h0]
theorem bitLen_eq {n : Nat} (h : n < B64) : Lib.bitLen n = blen n := bitLenAux_eq 64 n h
theorem blen_mul_pow {n k : Nat} (h : n ≠ 0) (r : Nat) (hr : r < 2 ^ k) : blen (r + 2 ^ k * n) = k + blen n := by
  have a := blen_lt n
  have b := blen_le h
  have hb : blen n ≠ 0 := by unfold blen; rw [if_neg h]; omega
  refine blen_unique ?_ (.inr ?_)
  · rw [Nat.pow_add]
    calc r + 2 ^ k * n < 2 ^ k + 2 ^ k * n := by omega
      _ = 2 ^ k * (n + 1) := by rw [Nat.mul_add]; omega
      _ ≤ 2 ^ k * 2 ^ blen n := Nat.mul_le_mul_left _ a
  · rw [show k + blen n - 1 = k + (blen n - 1) by omega, Nat.pow_add]
    have := Nat.mul_le_mul_left (2 ^ k) b
    omega
theorem B64_pow (k : Nat) : B64 ^ k = 2 ^ (64 * k) := by rw [Nat.pow_mul]
/-- The bits of a number are those of its highest word, and 64 for each word below. -/
theorem blen_val {xs : List Nat} (hx : W64 xs) (h : 0 < sz xs) : blen (val xs) = 64 * (sz xs - 1) + blen (xs.getD (sz xs - 1) 0) := by
  have hl := sz_le xs
  have e1 : val xs = val (xs.take (sz xs - 1)) + B64 ^ (sz xs - 1) * xs.getD (sz xs - 1) 0 := by
    rw [← val_take_sz xs]
    conv => lhs; rw [show xs.take (sz xs) = xs.take (sz xs - 1) ++ [xs.getD (sz xs - 1) 0] from by
      conv => lhs; rw [show sz xs = (sz xs - 1) + 1 by omega]
      rw [List.take_succ_eq_append_getElem (by omega), List.getD_eq_getElem?_getD, List.getElem?_eq_getElem (by omega)]; rfl]
    rw [val_append]
    simp only [val, List.length_take]
    rw [show min (sz xs - 1) xs.length = sz xs - 1 by omega]; simp
  rw [e1, B64_pow]
  refine blen_mul_pow (sz_get_last h) _ ?_
  have := val_lt (hx.take (sz xs - 1))
  rw [List.length_take, show min (sz xs - 1) xs.length = sz xs - 1 by omega, B64_pow] at this
  exact this
theorem val_pos_of_get {xs : List Nat} : ∀ (i : Nat), 0 < xs.getD i 0 → 0 < val xs := by
  induction xs with
  | nil => intro i h; simp at h
  | cons x xs ih =>
    intro i h
    cases i with
    | zero => have : 0 < x := by simpa using h
              simp only [val]; omega
    | succ i =>
      have := ih i (by simpa using h)
      simp only [val]
      have : 0 < B64 * val xs := Nat.mul_pos (by decide) this
      omega
/-- Of two numbers that are alike above a word the one with the less word is the less. -/
theorem lt_of_top {xs : List Nat} : ∀ {ys : List Nat} (i : Nat), W64 xs → (∀ j, i < j → xs.getD j 0 = ys.getD j 0) → xs.getD i 0 < ys.getD i 0 → val xs < val ys := by
  induction xs with
  | nil => intro ys i _ _ h; exact val_pos_of_get i (by simpa using h)
  | cons x xs ih =>
    intro ys i hx ht h
    cases ys with
    | nil => simp at h
    | cons y ys =>
      cases i with
      | zero =>
        have e : val xs = val ys := val_eq_of_get fun j => by simpa using ht (j + 1) (by omega)
        have : x < y := by simpa using h
        simp only [val, e]; omega
      | succ i =>
        have e := ih (ys := ys) i hx.cons.2 (fun j hj => by simpa using ht (j + 1) (by omega)) (by simpa using h)
        have h0 := hx.cons.1
        simp only [val]
        have : B64 * (val xs + 1) ≤ B64 * val ys := Nat.mul_le_mul_left _ e
        rw [Nat.mul_add] at this
        omega
theorem sz_lt_val {xs ys : List Nat} (hx : W64 xs) (h : sz xs < sz ys) : val xs < val ys := by
  refine lt_of_top (sz ys - 1) hx (fun j hj => ?_) ?_
  · rw [sz_get_beyond j (by omega), sz_get_beyond j (by omega)]
  · rw [sz_get_beyond (sz ys - 1) (by omega)]
    have := sz_get_last (xs := ys) (by omega)
    omega
/-- -1, 0, 1. -/
def cmpI (m n : Nat) : Int := if m < n then -1 else if n < m then 1 else 0
theorem cmpI_lt {m n : Nat} (h : m < n) : cmpI m n = -1 := by unfold cmpI; rw [if_pos h]
theorem cmpI_gt {m n : Nat} (h : n < m) : cmpI m n = 1 := by unfold cmpI; rw [if_neg (by omega), if_pos h]
theorem cmpI_eq {m n : Nat} (h : m = n) : cmpI m n = 0 := by unfold cmpI; rw [if_neg (by omega), if_neg (by omega)]
theorem getD_take_sz (xs : List Nat) (j : Nat) : (xs.take (sz xs)).getD j 0 = xs.getD j 0 := by
  by_cases h : j < sz xs
  · simp [List.getD_eq_getElem?_getD, h]
  · have := sz_get_beyond (xs := xs) j (by omega)
    rw [this, List.getD_eq_getElem?_getD, List.getElem?_eq_none (by rw [List.length_take]; omega)]
    rfl
end Go.Proofs.YtpodpdopgdkdkaaGreatDoor
namespace Go.Proofs.YtpodpdopgdkdkaaGreatDoor
open Go.RowKit
theorem below_cell {W W' : World} (hb : Below W.heap.size W W') {a : Addr} {v : Value} (h : W.cell? a = some v) : W'.cell? a = some v := by
  rw [hb.cell (World.block_lt_of_cell? W _ h)]; exact h
theorem keepB1 {w W W' : World} {a0 : Addr} {v0 : Value} (h : W.cell? a0 = some v0 ∧ Below w.heap.size w W) (hb : Below W.heap.size W W') : W'.cell? a0 = some v0 ∧ Below w.heap.size w W' := by
  obtain ⟨h0, k⟩ := h
  exact ⟨below_cell hb h0, below_then k hb⟩
theorem keepB2 {w W W' : World} {a0 a1 : Addr} {v0 v1 : Value} (h : W.cell? a0 = some v0 ∧ W.cell? a1 = some v1 ∧ Below w.heap.size w W) (hb : Below W.heap.size W W') : W'.cell? a0 = some v0 ∧ W'.cell? a1 = some v1 ∧ Below w.heap.size w W' := by
  obtain ⟨h0, h1, k⟩ := h
  exact ⟨below_cell hb h0, below_cell hb h1, below_then k hb⟩
theorem keepB3 {w W W' : World} {a0 a1 a2 : Addr} {v0 v1 v2 : Value} (h : W.cell? a0 = some v0 ∧ W.cell? a1 = some v1 ∧ W.cell? a2 = some v2 ∧ Below w.heap.size w W) (hb : Below W.heap.size W W') : W'.cell? a0 = some v0 ∧ W'.cell? a1 = some v1 ∧ W'.cell? a2 = some v2 ∧ Below w.heap.size w W' := by
  obtain ⟨h0, h1, h2, k⟩ := h
  exact ⟨below_cell hb h0, below_cell hb h1, below_cell hb h2, below_then k hb⟩
theorem keepB4 {w W W' : World} {a0 a1 a2 a3 : Addr} {v0 v1 v2 v3 : Value} (h : W.cell? a0 = some v0 ∧ W.cell? a1 = some v1 ∧ W.cell? a2 = some v2 ∧ W.cell? a3 = some v3 ∧ Below w.heap.size w W) (hb : Below W.heap.size W W') : W'.cell? a0 = some v0 ∧ W'.cell? a1 = some v1 ∧ W'.cell? a2 = some v2 ∧ W'.cell? a3 = some v3 ∧ Below w.heap.size w W' := by
  obtain ⟨h0, h1, h2, h3, k⟩ := h
  exact ⟨below_cell hb h0, below_cell hb h1, below_cell hb h2, below_cell hb h3, below_then k hb⟩
theorem keepB5 {w W W' : World} {a0 a1 a2 a3 a4 : Addr} {v0 v1 v2 v3 v4 : Value} (h : W.cell? a0 = some v0 ∧ W.cell? a1 = some v1 ∧ W.cell? a2 = some v2 ∧ W.cell? a3 = some v3 ∧ W.cell? a4 = some v4 ∧ Below w.heap.size w W) (hb : Below W.heap.size W W') : W'.cell? a0 = some v0 ∧ W'.cell? a1 = some v1 ∧ W'.cell? a2 = some v2 ∧ W'.cell? a3 = some v3 ∧ W'.cell? a4 = some v4 ∧ Below w.heap.size w W' := by
  obtain ⟨h0, h1, h2, h3, h4, k⟩ := h
  exact ⟨below_cell hb h0, below_cell hb h1, below_cell hb h2, below_cell hb h3, below_cell hb h4, below_then k hb⟩
theorem keepB6 {w W W' : World} {a0 a1 a2 a3 a4 a5 : Addr} {v0 v1 v2 v3 v4 v5 : Value} (h : W.cell? a0 = some v0 ∧ W.cell? a1 = some v1 ∧ W.cell? a2 = some v2 ∧ W.cell? a3 = some v3 ∧ W.cell? a4 = some v4 ∧ W.cell? a5 = some v5 ∧ Below w.heap.size w W) (hb : Below W.heap.size W W') : W'.cell? a0 = some v0 ∧ W'.cell? a1 = some v1 ∧ W'.cell? a2 = some v2 ∧ W'.cell? a3 = some v3 ∧ W'.cell? a4 = some v4 ∧ W'.cell? a5 = some v5 ∧ Below w.heap.size w W' := by
  obtain ⟨h0, h1, h2, h3, h4, h5, k⟩ := h
  exact ⟨below_cell hb h0, below_cell hb h1, below_cell hb h2, below_cell hb h3, below_cell hb h4, below_cell hb h5, below_then k hb⟩
theorem keepB7 {w W W' : World} {a0 a1 a2 a3 a4 a5 a6 : Addr} {v0 v1 v2 v3 v4 v5 v6 : Value} (h : W.cell? a0 = some v0 ∧ W.cell? a1 = some v1 ∧ W.cell? a2 = some v2 ∧ W.cell? a3 = some v3 ∧ W.cell? a4 = some v4 ∧ W.cell? a5 = some v5 ∧ W.cell? a6 = some v6 ∧ Below w.heap.size w W) (hb : Below W.heap.size W W') : W'.cell? a0 = some v0 ∧ W'.cell? a1 = some v1 ∧ W'.cell? a2 = some v2 ∧ W'.cell? a3 = some v3 ∧ W'.cell? a4 = some v4 ∧ W'.cell? a5 = some v5 ∧ W'.cell? a6 = some v6 ∧ Below w.heap.size w W' := by
  obtain ⟨h0, h1, h2, h3, h4, h5, h6, k⟩ := h
  exact ⟨below_cell hb h0, below_cell hb h1, below_cell hb h2, below_cell hb h3, below_cell hb h4, below_cell hb h5, below_cell hb h6, below_then k hb⟩
theorem keepB8 {w W W' : World} {a0 a1 a2 a3 a4 a5 a6 a7 : Addr} {v0 v1 v2 v3 v4 v5 v6 v7 : Value} (h : W.cell? a0 = some v0 ∧ W.cell? a1 = some v1 ∧ W.cell? a2 = some v2 ∧ W.cell? a3 = some v3 ∧ W.cell? a4 = some v4 ∧ W.cell? a5 = some v5 ∧ W.cell? a6 = some v6 ∧ W.cell? a7 = some v7 ∧ Below w.heap.size w W) (hb : Below W.heap.size W W') : W'.cell? a0 = some v0 ∧ W'.cell? a1 = some v1 ∧ W'.cell? a2 = some v2 ∧ W'.cell? a3 = some v3 ∧ W'.cell? a4 = some v4 ∧ W'.cell? a5 = some v5 ∧ W'.cell? a6 = some v6 ∧ W'.cell? a7 = some v7 ∧ Below w.heap.size w W' := by
  obtain ⟨h0, h1, h2, h3, h4, h5, h6, h7, k⟩ := h
  exact ⟨below_cell hb h0, below_cell hb h1, below_cell hb h2, below_cell hb h3, below_cell hb h4, below_cell hb h5, below_cell hb h6, below_cell hb h7, below_then k hb⟩
theorem keepB9 {w W W' : World} {a0 a1 a2 a3 a4 a5 a6 a7 a8 : Addr} {v0 v1 v2 v3 v4 v5 v6 v7 v8 : Value} (h : W.cell? a0 = some v0 ∧ W.cell? a1 = some v1 ∧ W.cell? a2 = some v2 ∧ W.cell? a3 = some v3 ∧ W.cell? a4 = some v4 ∧ W.cell? a5 = some v5 ∧ W.cell? a6 = some v6 ∧ W.cell? a7 = some v7 ∧ W.cell? a8 = some v8 ∧ Below w.heap.size w W) (hb : Below W.heap.size W W') : W'.cell? a0 = some v0 ∧ W'.cell? a1 = some v1 ∧ W'.cell? a2 = some v2 ∧ W'.cell? a3 = some v3 ∧ W'.cell? a4 = some v4 ∧ W'.cell? a5 = some v5 ∧ W'.cell? a6 = some v6 ∧ W'.cell? a7 = some v7 ∧ W'.cell? a8 = some v8 ∧ Below w.heap.size w W' := by
  obtain ⟨h0, h1, h2, h3, h4, h5, h6, h7, h8, k⟩ := h
  exact ⟨below_cell hb h0, below_cell hb h1, below_cell hb h2, below_cell hb h3, below_cell hb h4, below_cell hb h5, below_cell hb h6, below_cell hb h7, below_cell hb h8, below_then k hb⟩
theorem keepB10 {w W W' : World} {a0 a1 a2 a3 a4 a5 a6 a7 a8 a9 : Addr} {v0 v1 v2 v3 v4 v5 v6 v7 v8 v9 : Value} (h : W.cell? a0 = some v0 ∧ W.cell? a1 = some v1 ∧ W.cell? a2 = some v2 ∧ W.cell? a3 = some v3 ∧ W.cell? a4 = some v4 ∧ W.cell? a5 = some v5 ∧ W.cell? a6 = some v6 ∧ W.cell? a7 = some v7 ∧ W.cell? a8 = some v8 ∧ W.cell? a9 = some v9 ∧ Below w.heap.size w W) (hb : Below W.heap.size W W') : W'.cell? a0 = some v0 ∧ W'.cell? a1 = some v1 ∧ W'.cell? a2 = some v2 ∧ W'.cell? a3 = some v3 ∧ W'.cell? a4 = some v4 ∧ W'.cell? a5 = some v5 ∧ W'.cell? a6 = some v6 ∧ W'.cell? a7 = some v7 ∧ W'.cell? a8 = some v8 ∧ W'.cell? a9 = some v9 ∧ Below w.heap.size w W' := by
  obtain ⟨h0, h1, h2, h3, h4, h5, h6, h7, h8, h9, k⟩ := h
  exact ⟨below_cell hb h0, below_cell hb h1, below_cell hb h2, below_cell hb h3, below_cell hb h4, below_cell hb h5, below_cell hb h6, below_cell hb h7, below_cell hb h8, below_cell hb h9, below_then k hb⟩
theorem keepB11 {w W W' : World} {a0 a1 a2 a3 a4 a5 a6 a7 a8 a9 a10 : Addr} {v0 v1 v2 v3 v4 v5 v6 v7 v8 v9 v10 : Value} (h : W.cell? a0 = some v0 ∧ W.cell? a1 = some v1 ∧ W.cell? a2 = some v2 ∧ W.cell? a3 = some v3 ∧ W.cell? a4 = some v4 ∧ W.cell? a5 = some v5 ∧ W.cell? a6 = some v6 ∧ W.cell? a7 = some v7 ∧ W.cell? a8 = some v8 ∧ W.cell? a9 = some v9 ∧ W.cell? a10 = some v10 ∧ Below w.heap.size w W) (hb : Below W.heap.size W W') : W'.cell? a0 = some v0 ∧ W'.cell? a1 = some v1 ∧ W'.cell? a2 = some v2 ∧ W'.cell? a3 = some v3 ∧ W'.cell? a4 = some v4 ∧ W'.cell? a5 = some v5 ∧ W'.cell? a6 = some v6 ∧ W'.cell? a7 = some v7 ∧ W'.cell? a8 = some v8 ∧ W'.cell? a9 = some v9 ∧ W'.cell? a10 = some v10 ∧ Below w.heap.size w W' := by
  obtain ⟨h0, h1, h2, h3, h4, h5, h6, h7, h8, h9, h10, k⟩ := h
  exact ⟨below_cell hb h0, below_cell hb h1, below_cell hb h2, below_cell hb h3, below_cell hb h4, below_cell hb h5, below_cell hb h6, below_cell hb h7, below_cell hb h8, below_cell hb h9, below_cell hb h10, below_then k hb⟩
theorem keepB12 {w W W' : World} {a0 a1 a2 a3 a4 a5 a6 a7 a8 a9 a10 a11 : Addr} {v0 v1 v2 v3 v4 v5 v6 v7 v8 v9 v10 v11 : Value} (h : W.cell? a0 = some v0 ∧ W.cell? a1 = some v1 ∧ W.cell? a2 = some v2 ∧ W.cell? a3 = some v3 ∧ W.cell? a4 = some v4 ∧ W.cell? a5 = some v5 ∧ W.cell? a6 = some v6 ∧ W.cell? a7 = some v7 ∧ W.cell? a8 = some v8 ∧ W.cell? a9 = some v9 ∧ W.cell? a10 = some v10 ∧ W.cell? a11 = some v11 ∧ Below w.heap.size w W) (hb : Below W.heap.size W W') : W'.cell? a0 = some v0 ∧ W'.cell? a1 = some v1 ∧ W'.cell? a2 = some v2 ∧ W'.cell? a3 = some v3 ∧ W'.cell? a4 = some v4 ∧ W'.cell? a5 = some v5 ∧ W'.cell? a6 = some v6 ∧ W'.cell? a7 = some v7 ∧ W'.cell? a8 = some v8 ∧ W'.cell? a9 = some v9 ∧ W'.cell? a10 = some v10 ∧ W'.cell? a11 = some v11 ∧ Below w.heap.size w W' := by
  obtain ⟨h0, h1, h2, h3, h4, h5, h6, h7, h8, h9, h10, h11, k⟩ := h
  exact ⟨below_cell hb h0, below_cell hb h1, below_cell hb h2, below_cell hb h3, below_cell hb h4, below_cell hb h5, below_cell hb h6, below_cell hb h7, below_cell hb h8, below_cell hb h9, below_cell hb h10, below_cell hb h11, below_then k hb⟩
section
variable {P : Program} {ops : Array Oper} {rest : List Oper} {Q : Exit → Act → World → Prop} {a : Act} {w : World} {d : Option Tmp} {x y : Operand} {T : TypeId} {pos : String} {af : Array Edge} {gd : Option (Nat × Bool)}
/-- A store of a whole aggregate into a block that has just been made: the world behind it has a name; all blocks before that one are as they were. -/
theorem st_box (ty t : Nat) {w0 : World} (hB : Below w0.heap.size w0 w) {cells old : Array Value} {n : Nat} (hi : (P.info? ty).map (·.size) = some n)
    (h : ∀ W : World, Below w0.heap.size w0 W → Below w.heap.size w W → W.heap[w.heap.size]? = some (.cells cells t (0, 0)) → wpList P ops Q rest (a.put d undef) W)
    (hw : Region.wanted { dst := d, op := .store ty x y, type := T, pos := pos, after := af, guard := gd } (yielded ops a.tmps) = true := by rfl)
    (hx : a.eval x = .pointer (some ⟨w.heap.size, 0, none⟩) := by rfl) (hy : a.eval y = .agg cells := by rfl) (hn : cells.size = n := by rfl) (ho : old.size = n := by rfl) (h1 : cells.all (·.oneCell') = true := by simp [Value.oneCell']) :
    wpList P ops Q ({ dst := d, op := .store ty x y, type := T, pos := pos, after := af, guard := gd } :: rest) a (w.alloc (.cells old t)) := by
  have b2 : Below w.heap.size w ((w.alloc (.cells old t)).setRow w.heap.size cells) := below_setRow ((Below.refl _ _).alloc (Nat.le_refl _) _) (Nat.le_refl _) _
  refine st_row ty w.heap.size t (heap_new w (.cells old t)) hi (h _ (below_then hB b2) b2 (setRow_heap _ _ _ _ _ _ (heap_new w _))) hw hx hy hn ho h1
end
end Go.Proofs.YtpodpdopgdkdkaaGreatDoor
