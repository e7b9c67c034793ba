/- The reference's table in memory; there. No conditions. -/
import Derived.Test.YtojbdaeidbmjgaaTabNil
import Derived.Laws.OwnMore
namespace Go.Proofs.Ytojbdaeidbmjgaa
set_option linter.unusedVariables false
set_option linter.unusedSimpArgs false
open Go.RowKit Go.Maps
def refV (e : RefEnt) : List Value := [.int .i64 e.e.num, .int .u64 e.e.b0, .int .u64 e.e.b1, .int .u64 e.e.b2, .int .u64 e.e.b3, .bool e.taken]
def refVs (L : List RefEnt) : List Value := L.flatMap refV
theorem refV_len (e : RefEnt) : (refV e).length = 6 := rfl
theorem refVs_len : ∀ L : List RefEnt, (refVs L).length = L.length * 6
  | [] => rfl
  | e :: r => by
    have := refVs_len r
    show (refV e ++ refVs r).length = _
    rw [List.length_append, this, refV_len, List.length_cons]
    omega
theorem refVs_get : ∀ (L : List RefEnt) (i : Nat) (hi : i < L.length) (j : Nat) (hj : j < 6), (refVs L)[i * 6 + j]? = (refV L[i])[j]?
  | e :: r, 0, hi, j, hj => by
    show (refV e ++ refVs r)[0 * 6 + j]? = _
    rw [List.getElem?_append_left (by rw [refV_len]; omega)]
    simp
  | e :: r, i + 1, hi, j, hj => by
    show (refV e ++ refVs r)[(i + 1) * 6 + j]? = _
    rw [List.getElem?_append_right (by rw [refV_len]; omega), refV_len]
    have := refVs_get r i (by simpa using hi) j hj
    rw [show (i + 1) * 6 + j - 6 = i * 6 + j by omega, this]
    simp
theorem six_ext {A B : List Value} {n : Nat} (ha : A.length = n * 6) (hb : B.length = n * 6) (h : ∀ i j, i < n → j < 6 → A[i * 6 + j]? = B[i * 6 + j]?) : A = B := by
  refine List.ext_getElem? fun k => ?_
  by_cases hk : k < n * 6
  · have := h (k / 6) (k % 6) (by omega) (by omega)
    rw [show k / 6 * 6 + k % 6 = k by omega] at this
    exact this
  · rw [List.getElem?_eq_none (by omega), List.getElem?_eq_none (by omega)]
/-- Every block but the reference's own is as it was. -/
def KeepR (sb rb : Nat) (w w' : World) : Prop := ∀ b o, b ≠ rb → (b = sb ∨ ∀ cs f, o ≠ Obj.cells cs 79 f) → w.heap[b]? = some o → w'.heap[b]? = some o
theorem KeepR.refl (sb rb : Nat) (w : World) : KeepR sb rb w w := fun _ _ _ _ h => h
theorem KeepR.trans {sb rb : Nat} {w w1 w2 : World} (h : KeepR sb rb w w1) (k : KeepR sb rb w1 w2) : KeepR sb rb w w2 := fun b o hb ho hc => k b o hb ho (h b o hb ho hc)
theorem KeepR.of_below {sb rb : Nat} {w w' : World} (h : Below w.heap.size w w') : KeepR sb rb w w' := fun b o _ _ hc => below_heap h hc
/-- Block rb is the reference's table, its list is v and holds L. -/
structure RefIs (w0 W : World) (sb rb : Nat) (v : Value) (L : List RefEnt) : Prop where
  hd : W.heap[rb]? = some (.cells #[v] 45 (0, 0))
  row : W.ownsRow w0.heap.size 79 6 v L.length (refVs L)
  own : v.ownBlock ≠ some sb
  ne : rb ≠ sb
  base : w0.heap.size ≤ rb
  bel : Below w0.heap.size w0 W
theorem row_below {w w' : World} {B : Nat} {e : TypeId} {k : Nat} {v : Value} {n : Nat} {xs : List Value} (h : w.ownsRow B e k v n xs) (hb : Below w.heap.size w w') : w'.ownsRow B e k v n xs := by
  obtain ⟨h1, h2⟩ := h
  refine ⟨h1, ?_⟩
  rcases h2 with h2 | ⟨g, cap, cur, hv, hB, hg, hr⟩
  · exact .inl h2
  · exact .inr ⟨g, cap, cur, hv, hB, below_heap hb hg, hr⟩
theorem RefIs.grow {w0 W W' : World} {sb rb : Nat} {v : Value} {L : List RefEnt} (h : RefIs w0 W sb rb v L) (hb : Below W.heap.size W W') : RefIs w0 W' sb rb v L :=
  ⟨below_heap hb h.hd, row_below h.row hb, h.own, h.ne, h.base, below_then h.bel hb⟩
theorem RefIs.keep {w0 W W' : World} {sb rb : Nat} {v : Value} {L : List RefEnt} (h : RefIs w0 W sb rb v L) (hk : Keep sb W W') (hb : Below w0.heap.size w0 W') : RefIs w0 W' sb rb v L := by
  refine ⟨hk _ _ _ _ h.ne h.hd, ?_, h.own, h.ne, h.base, hb⟩
  obtain ⟨h1, h2⟩ := h.row
  refine ⟨h1, ?_⟩
  rcases h2 with h2 | ⟨g, cap, cur, hv, hB, hg, hr⟩
  · exact .inl h2
  · refine .inr ⟨g, cap, cur, hv, hB, hk _ _ _ _ (fun e => h.own ?_) hg, hr⟩
    rw [hv, e]; rfl
theorem TabAt.keepR {w0 W W' : World} {sb rb : Nat} {D : DataW Unit} {v : Value} {L : List RefEnt} (h : TabAt w0 W sb D) (hk : KeepR sb rb W W') (hR : RefIs w0 W sb rb v L) (hb : Below w0.heap.size w0 W') : TabAt w0 W' sb D := by
  have hlt := h.lt
  have e : W'.heap[sb]? = W.heap[sb]? := by
    have h1 : W.heap[sb]? = some W.heap[sb] := Array.getElem?_eq_getElem hlt
    rw [h1]
    exact hk sb _ (fun e => hR.ne e.symm) (.inl rfl) h1
  refine ⟨(cell_eq e 0).trans h.lock, fun i => (frozen_eq e i).trans (h.free i), ?_, h.base, hb⟩
  rcases h.fld with ⟨h1, h2⟩ | ⟨bm, n, h1, h2, h3, h4⟩
  · exact .inl ⟨(cell_eq e 2).trans h1, h2⟩
  · refine .inr ⟨bm, n, (cell_eq e 2).trans h1, h2, h3, ?_⟩
    obtain ⟨es, clock, hm, r⟩ := h4
    by_cases hbr : bm = rb
    · have := hR.hd
      rw [← hbr, hm] at this
      cases this
    · exact ⟨es, clock, hk bm _ hbr (.inr (fun cs f e => by cases e)) hm, r⟩
/-- The shape of the list, and its cells. -/
theorem RefIs.shape {w0 W : World} {sb rb : Nat} {v : Value} {L : List RefEnt} (h : RefIs w0 W sb rb v L) (hl : 0 < L.length) :
    ∃ lb cap cur, v = .slice (some ⟨lb, 0, none⟩) L.length cap ∧ lb ≠ rb ∧ lb ≠ sb ∧ w0.heap.size ≤ lb ∧ L.length ≤ cap ∧ cap ≤ maxLen ∧ cur.size = cap * 6 ∧ cur.toList.take (L.length * 6) = refVs L ∧ W.heap[lb]? = some (.cells cur 79 (0, 0)) := by
  rcases h.row.2 with ⟨_, h0⟩ | ⟨g, cap, cur, hv, hB, hg, h1, h2, h3, h4⟩
  · omega
  · refine ⟨g, cap, cur, hv, fun e => ?_, fun e => h.own ?_, hB, h1, h2, h3, h4, hg⟩
    · have := h.hd
      rw [← e, hg] at this
      simp at this
    · rw [hv, e]; rfl
theorem ref_cell {W : World} {lb : Nat} {cur : Array Value} {L : List RefEnt} {t : TypeId} {f : Nat × Nat} (hg : W.heap[lb]? = some (.cells cur t f)) (ht : cur.toList.take (L.length * 6) = refVs L) (i : Nat) (hi : i < L.length) (j : Nat) (hj : j < 6) :
    W.cell? ⟨lb, i * 6 + j, none⟩ = (refV L[i])[j]? := by
  rw [cell_of_heap hg]
  have e := congrArg (fun l => l[i * 6 + j]?) ht
  simp only [List.getElem?_take, Array.getElem?_toList] at e
  rw [if_pos (by omega), refVs_get L i hi j hj] at e
  exact e
set_option maxRecDepth 10000 in
set_option maxHeartbeats 1600000 in
theorem there_calls (w0 w : World) (sb rb : Nat) (v : Value) (L : List RefEnt) (hR : RefIs w0 w sb rb v L) (x : Int) (hx : -9223372036854775808 ≤ x ∧ x ≤ 9223372036854775807) (hl : L.length ≤ 1000) :
    Calls Try.prog 28 #[.pointer (some ⟨rb, 0, none⟩), .int .i64 x] w fun e w' => e = .returned (.bool (thereL L x)) ∧ w = w' := by
  have c0 : w.cell? ⟨rb, 0, none⟩ = some v := cell_of_heap hR.hd 0
  rcases there_cases L x with ⟨i, hi, rfl, ht⟩ | ⟨ht, ho⟩
  · obtain ⟨lb, cap, cur, rfl, _, _, _, _, _, _, htk, hg⟩ := hR.shape (by omega)
    have c5 : w.cell? ⟨lb, i * 6 + 5, none⟩ = some (.bool L[i].taken) := ref_cell hg htk i hi 5 (by omega)
    rw [ht]
    generalize L[i].taken = tk at c5 ⊢
    clear ht htk hg hR
    generalize L.length = n at *
    have h1 : decide ((1 : Int) ≤ (i : Int) + 1) = true := by simp; omega
    have h2 : decide ((i : Int) + 1 ≤ (n : Int)) = true := by simp; omega
    have e1 : ((i + 1 : Nat) : Int) = (i : Int) + 1 := by omega
    rw [e1]
    clear e1
    go_enter Try.func28, Try.ntmps28
    go_wp2
    go_ret
    exact ⟨rfl, rfl⟩
  · rw [ht]
    have hv : ∃ a cap, v = .slice a L.length cap := by
      rcases hR.row.2 with ⟨rfl, h0⟩ | ⟨g, cap, cur, hv, _⟩
      · exact ⟨none, 0, by rw [h0]⟩
      · exact ⟨_, cap, hv⟩
    obtain ⟨a, cap, rfl⟩ := hv
    generalize L.length = n at *
    clear ht
    rcases ho with ho | ho
    · have h1 : decide ((1 : Int) ≤ x) = false := by simp; omega
      clear hR
      go_enter Try.func28, Try.ntmps28
      go_wp2
      go_ret
      exact ⟨rfl, rfl⟩
    · have h1 : decide ((1 : Int) ≤ x) = true := by simp; omega
      have h2 : decide (x ≤ (n : Int)) = false := by simp; omega
      clear hR
      go_enter Try.func28, Try.ntmps28
      go_wp2
      go_ret
      exact ⟨rfl, rfl⟩
end Go.Proofs.Ytojbdaeidbmjgaa
