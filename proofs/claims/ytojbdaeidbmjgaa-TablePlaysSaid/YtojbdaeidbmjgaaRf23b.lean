/- The reference's Get, Free and Set. No conditions. -/
import Derived.Test.YtojbdaeidbmjgaaRf23
namespace Go.Proofs.Ytojbdaeidbmjgaa
set_option linter.unusedVariables false
set_option linter.unusedSimpArgs false
open Go.RowKit Go.Maps
def set6 (cur : Array Value) (o : Nat) (v0 v1 v2 v3 v4 v5 : Value) : Array Value :=
  (((((cur.setIfInBounds o v0).setIfInBounds (o + 1) v1).setIfInBounds (o + 2) v2).setIfInBounds (o + 3) v3).setIfInBounds (o + 4) v4).setIfInBounds (o + 5) v5
theorem set6_size (cur : Array Value) (o : Nat) (v0 v1 v2 v3 v4 v5 : Value) : (set6 cur o v0 v1 v2 v3 v4 v5).size = cur.size := by simp [set6]
theorem set6_same (cur : Array Value) (o : Nat) (v0 v1 v2 v3 v4 v5 : Value) (h : o + 5 < cur.size) (j : Nat) (hj : j < 6) : (set6 cur o v0 v1 v2 v3 v4 v5)[o + j]? = [v0, v1, v2, v3, v4, v5][j]? := by
  unfold set6
  rcases (show j = 0 ∨ j = 1 ∨ j = 2 ∨ j = 3 ∨ j = 4 ∨ j = 5 by omega) with rfl | rfl | rfl | rfl | rfl | rfl
  · rw [Array.getElem?_setIfInBounds_ne (by omega), Array.getElem?_setIfInBounds_ne (by omega), Array.getElem?_setIfInBounds_ne (by omega), Array.getElem?_setIfInBounds_ne (by omega), Array.getElem?_setIfInBounds_ne (by omega)]
    exact Array.getElem?_setIfInBounds_self_of_lt (by omega)
  · rw [Array.getElem?_setIfInBounds_ne (by omega), Array.getElem?_setIfInBounds_ne (by omega), Array.getElem?_setIfInBounds_ne (by omega), Array.getElem?_setIfInBounds_ne (by omega)]
    exact Array.getElem?_setIfInBounds_self_of_lt (by simp; omega)
  · rw [Array.getElem?_setIfInBounds_ne (by omega), Array.getElem?_setIfInBounds_ne (by omega), Array.getElem?_setIfInBounds_ne (by omega)]
    exact Array.getElem?_setIfInBounds_self_of_lt (by simp; omega)
  · rw [Array.getElem?_setIfInBounds_ne (by omega), Array.getElem?_setIfInBounds_ne (by omega)]
    exact Array.getElem?_setIfInBounds_self_of_lt (by simp; omega)
  · rw [Array.getElem?_setIfInBounds_ne (by omega)]
    exact Array.getElem?_setIfInBounds_self_of_lt (by simp; omega)
  · exact Array.getElem?_setIfInBounds_self_of_lt (by simp; omega)
theorem set6_other (cur : Array Value) (o : Nat) (v0 v1 v2 v3 v4 v5 : Value) (k : Nat) (h : k < o ∨ o + 5 < k) : (set6 cur o v0 v1 v2 v3 v4 v5)[k]? = cur[k]? := by
  unfold set6
  rw [Array.getElem?_setIfInBounds_ne (by omega), Array.getElem?_setIfInBounds_ne (by omega), Array.getElem?_setIfInBounds_ne (by omega), Array.getElem?_setIfInBounds_ne (by omega), Array.getElem?_setIfInBounds_ne (by omega), Array.getElem?_setIfInBounds_ne (by omega)]
theorem take_set6 {cur : Array Value} {L : List RefEnt} (ht : cur.toList.take (L.length * 6) = refVs L) (hs : L.length * 6 ≤ cur.size) (i : Nat) (hi : i < L.length) (e : RefEnt) :
    (set6 cur (i * 6) (.int .i64 e.e.num) (.int .u64 e.e.b0) (.int .u64 e.e.b1) (.int .u64 e.e.b2) (.int .u64 e.e.b3) (.bool e.taken)).toList.take (L.length * 6) = refVs (L.set i e) := by
  refine six_ext (n := L.length) (by have h1 := set6_size cur (i * 6) (.int .i64 e.e.num) (.int .u64 e.e.b0) (.int .u64 e.e.b1) (.int .u64 e.e.b2) (.int .u64 e.e.b3) (.bool e.taken); simp only [List.length_take, Array.length_toList]; omega) (by rw [refVs_len, List.length_set]) fun k j hk hj => ?_
  rw [List.getElem?_take, if_pos (by omega), Array.getElem?_toList, refVs_get _ k (by simpa using hk) j hj]
  by_cases e1 : i = k
  · subst e1
    rw [set6_same _ _ _ _ _ _ _ _ (by omega) j hj, List.getElem_set_self]
    rfl
  · rw [set6_other _ _ _ _ _ _ _ _ _ (by omega), List.getElem_set_ne e1]
    have h2 := congrArg (fun l => l[k * 6 + j]?) ht
    simp only [List.getElem?_take, Array.getElem?_toList] at h2
    rw [if_pos (by omega), refVs_get L k hk j hj] at h2
    exact h2
/-- An entry stored into the list. -/
theorem st6 {w0 W : World} {sb rb lb cap : Nat} {L : List RefEnt} (h : RefIs w0 W sb rb (.slice (some ⟨lb, 0, none⟩) L.length cap) L) (i : Nat) (hi : i < L.length) (e : RefEnt) :
    ∃ W', W' = (((((W.setCell ⟨lb, i * 6, none⟩ (.int .i64 e.e.num)).setCell ⟨lb, i * 6 + 1, none⟩ (.int .u64 e.e.b0)).setCell ⟨lb, i * 6 + 2, none⟩ (.int .u64 e.e.b1)).setCell ⟨lb, i * 6 + 3, none⟩ (.int .u64 e.e.b2)).setCell ⟨lb, i * 6 + 4, none⟩ (.int .u64 e.e.b3)).setCell ⟨lb, i * 6 + 5, none⟩ (.bool e.taken) ∧
      RefIs w0 W' sb rb (.slice (some ⟨lb, 0, none⟩) (L.set i e).length cap) (L.set i e) ∧ KeepR sb rb W W' := by
  obtain ⟨lb', cap', cur, hv, hr, hs, hB, h1, h2, h3, h4, hg⟩ := h.shape (by omega)
  simp at hv
  obtain ⟨rfl, rfl⟩ := hv
  have hh := heap_set (heap_set (heap_set (heap_set (heap_set (heap_set hg (i * 6) (.int .i64 e.e.num)) (i * 6 + 1) (.int .u64 e.e.b0)) (i * 6 + 2) (.int .u64 e.e.b1)) (i * 6 + 3) (.int .u64 e.e.b2)) (i * 6 + 4) (.int .u64 e.e.b3)) (i * 6 + 5) (.bool e.taken)
  refine ⟨_, rfl, ⟨?_, ?_, h.own, h.ne, h.base, ?_⟩, ?_⟩
  · have hne : rb ≠ lb := fun e => hr e.symm
    rw [heap_set_other hne, heap_set_other hne, heap_set_other hne, heap_set_other hne, heap_set_other hne, heap_set_other hne, List.length_set]
    exact h.hd
  · refine ⟨refVs_len _, .inr ⟨lb, cap, _, rfl, hB, hh, by simpa using h1, h2, ?_, ?_⟩⟩
    · simp [h3]
    · rw [List.length_set]
      exact take_set6 h4 (by rw [h3]; exact Nat.mul_le_mul_right 6 h1) i hi e
  · exact (((((h.bel.setCell hB _).setCell hB _).setCell hB _).setCell hB _).setCell hB _).setCell hB _
  · intro b o hb ho hc
    have hne : b ≠ lb := by
      rintro rfl
      rcases ho with ho | ho
      · exact hs ho
      · rw [hg] at hc
        cases hc
        exact ho _ _ rfl
    rw [heap_set_other hne, heap_set_other hne, heap_set_other hne, heap_set_other hne, heap_set_other hne, heap_set_other hne]
    exact hc
/-- The six cells of an entry, and that none is frozen, in whatever world the list stands. -/
structure Six (W : World) (lb o : Nat) (e : RefEnt) : Prop where
  c0 : W.cell? ⟨lb, o, none⟩ = some (.int .i64 e.e.num)
  c1 : W.cell? ⟨lb, o + 1, none⟩ = some (.int .u64 e.e.b0)
  c2 : W.cell? ⟨lb, o + 2, none⟩ = some (.int .u64 e.e.b1)
  c3 : W.cell? ⟨lb, o + 3, none⟩ = some (.int .u64 e.e.b2)
  c4 : W.cell? ⟨lb, o + 4, none⟩ = some (.int .u64 e.e.b3)
  c5 : W.cell? ⟨lb, o + 5, none⟩ = some (.bool e.taken)
  f : ∀ i, W.frozen? ⟨lb, i, none⟩ = false
theorem RefIs.six {w0 W : World} {sb rb lb cap : Nat} {L : List RefEnt} (h : RefIs w0 W sb rb (.slice (some ⟨lb, 0, none⟩) L.length cap) L) (i : Nat) (hi : i < L.length) : Six W lb (i * 6) L[i] := by
  obtain ⟨lb', cap', cur, hv, hr, hs, hB, h1, h2, h3, h4, hg⟩ := h.shape (by omega)
  simp at hv
  obtain ⟨rfl, rfl⟩ := hv
  exact ⟨ref_cell hg h4 i hi 0 (by omega), ref_cell hg h4 i hi 1 (by omega), ref_cell hg h4 i hi 2 (by omega), ref_cell hg h4 i hi 3 (by omega), ref_cell hg h4 i hi 4 (by omega), ref_cell hg h4 i hi 5 (by omega), fun i => free_of_heap hg i⟩
def entAt (L : List RefEnt) (x : Int) : EntL := (L[(x - 1).toNat]?.map (·.e)).getD zeroE
theorem entAt_nat (L : List RefEnt) (i : Nat) (hi : i < L.length) : entAt L ((i + 1 : Nat) : Int) = L[i].e := by
  unfold entAt
  have e : (((i + 1 : Nat) : Int) - 1).toNat = i := by omega
  rw [e, List.getElem?_eq_getElem hi]
  rfl
set_option maxRecDepth 10000 in
set_option maxHeartbeats 1600000 in
theorem refGet_calls (w0 w : World) (sb rb : Nat) (v : Value) (L : List RefEnt) (hR : RefIs w0 w sb rb v L) (x : Int) (hx : -9223372036854775808 ≤ x ∧ x ≤ 9223372036854775807) (hl : L.length ≤ 1000) :
    Calls Try.prog 17 #[.pointer (some ⟨rb, 0, none⟩), .int .i64 x] w fun e w' => e = .returned (getV (entAt L x) (thereL L x)) ∧ Below w.heap.size w w' := by
  have hba := below_alloc (Below.refl w.heap.size w) (.cells #[.int .u64 0, .int .u64 0, .int .u64 0, .int .u64 0] 31)
  have HRa := Lib.hid (hR.grow hba)
  have HZ := Lib.hid (heap_new w (.cells #[.int .u64 0, .int .u64 0, .int .u64 0, .int .u64 0] 31))
  have HBA := Lib.hid hba
  obtain ⟨wa, hwa⟩ : ∃ W, W = w.alloc (.cells #[.int .u64 0, .int .u64 0, .int .u64 0, .int .u64 0] 31) := ⟨_, rfl⟩
  rw [← hwa] at HRa HZ HBA
  have HTH := Lib.hid (there_calls w0 wa sb rb v L HRa.out x hx hl)
  obtain ⟨th, hth⟩ : ∃ q, thereL L x = q := ⟨_, rfl⟩
  rw [hth] at HTH ⊢
  cases th
  · clear hth hba hR
    rw [hwa] at HTH
    go_enter Try.func17, Try.ntmps17
    go_wp2_with fail
    refine HTH.out.mono ?_
    rintro e w2 ⟨rfl, rfl⟩
    rw [← hwa]
    have z0 : wa.cell? ⟨w.heap.size, 0, none⟩ = some (.int .u64 0) := cell_of_heap HZ.out 0
    have z1 : wa.cell? ⟨w.heap.size, 1, none⟩ = some (.int .u64 0) := cell_of_heap HZ.out 1
    have z2 : wa.cell? ⟨w.heap.size, 2, none⟩ = some (.int .u64 0) := cell_of_heap HZ.out 2
    have z3 : wa.cell? ⟨w.heap.size, 3, none⟩ = some (.int .u64 0) := cell_of_heap HZ.out 3
    have f0 : wa.frozen? ⟨w.heap.size, 0, none⟩ = false := free_of_heap HZ.out 0
    have f1 : wa.frozen? ⟨w.heap.size, 1, none⟩ = false := free_of_heap HZ.out 1
    have f2 : wa.frozen? ⟨w.heap.size, 2, none⟩ = false := free_of_heap HZ.out 2
    have f3 : wa.frozen? ⟨w.heap.size, 3, none⟩ = false := free_of_heap HZ.out 3
    clear hwa
    go_wp2
    obtain ⟨W2, hW2, k1, k2, k3, k4⟩ := st4 HZ.out (.int .u64 0) (.int .u64 0) (.int .u64 0) (.int .u64 0)
    rw [← hW2]
    exact bodyPost_ret (results_tct rfl _ _ w.heap.size 31 _ _ _ rfl k1 Try.underlying31 rfl (by kernel_rfl)) rfl ⟨rfl, k4 _ _ (Nat.le_refl _) HBA.out⟩
  · rcases there_cases L x with ⟨i, hi, rfl, ht⟩ | ⟨ht, _⟩
    · rw [entAt_nat L i hi]
      obtain ⟨lb, cap, cur, rfl, _⟩ := HRa.out.shape (by omega)
      have s := HRa.out.six i hi
      have HS := Lib.hid s
      have HC0 : Hid (wa.cell? ⟨rb, 0, none⟩ = some (.slice (some ⟨lb, 0, none⟩) L.length cap)) := Lib.hid (cell_of_heap HRa.out.hd 0)
      generalize L[i] = en at HS s ⊢
      have e1 : ((i + 1 : Nat) : Int) = (i : Int) + 1 := by omega
      rw [e1] at HTH ⊢
      clear ht hth hba hR HRa s e1
      generalize L.length = n at *
      rw [hwa] at HTH
      obtain ⟨⟨en, e0, e1, e2, e3⟩, tk⟩ := en
      go_enter Try.func17, Try.ntmps17
      go_wp2_with fail
      refine HTH.out.mono ?_
      rintro e w2 ⟨rfl, rfl⟩
      rw [← hwa]
      clear hwa HTH
      have c0 := HC0.out
      have x0 := HS.out.c0
      have x1 := HS.out.c1
      have x2 := HS.out.c2
      have x3 := HS.out.c3
      have x4 := HS.out.c4
      simp only at x0 x1 x2 x3 x4
      have hwi : IntKind.i64.wrap (i : Int) = (i : Int) := IntWalk.i64_in _ (by omega)
      have hwi1 : IntKind.i64.wrap ((i : Int) + 1 - 1) = (i : Int) := by rw [show (i : Int) + 1 - 1 = i by omega]; exact hwi
      have hi0 : (0 : Int) ≤ (i : Int) := by omega
      have hin : (i : Int) < (n : Int) := by omega
      go_wp2_with fail
      go_still_tail 19, (by kernel_rfl)
      change wpList _ _ _ _ _ wa.drew
      have HZd : Hid (wa.drew.heap[w.heap.size]? = some (.cells #[.int .u64 0, .int .u64 0, .int .u64 0, .int .u64 0] 31 (0, 0))) := HZ
      have HBd := Lib.hid HBA.out.drew
      clear x0 x1 x2 x3 x4 c0 HS HC0 HZ HBA hwi hwi1 hi0 hin
      generalize wa.drew = wd at *
      have z0 : wd.cell? ⟨w.heap.size, 0, none⟩ = some (.int .u64 0) := cell_of_heap HZd.out 0
      have z1 : wd.cell? ⟨w.heap.size, 1, none⟩ = some (.int .u64 0) := cell_of_heap HZd.out 1
      have z2 : wd.cell? ⟨w.heap.size, 2, none⟩ = some (.int .u64 0) := cell_of_heap HZd.out 2
      have z3 : wd.cell? ⟨w.heap.size, 3, none⟩ = some (.int .u64 0) := cell_of_heap HZd.out 3
      have f0 : wd.frozen? ⟨w.heap.size, 0, none⟩ = false := free_of_heap HZd.out 0
      have f1 : wd.frozen? ⟨w.heap.size, 1, none⟩ = false := free_of_heap HZd.out 1
      have f2 : wd.frozen? ⟨w.heap.size, 2, none⟩ = false := free_of_heap HZd.out 2
      have f3 : wd.frozen? ⟨w.heap.size, 3, none⟩ = false := free_of_heap HZd.out 3
      go_wp2
      obtain ⟨W2, hW2, k1, k2, k3, k4⟩ := st4 HZd.out (.int .u64 e0) (.int .u64 e1) (.int .u64 e2) (.int .u64 e3)
      rw [← hW2]
      exact bodyPost_ret (results_tct rfl _ _ w.heap.size 31 _ _ _ rfl k1 Try.underlying31 rfl (by kernel_rfl)) rfl ⟨rfl, k4 _ _ (Nat.le_refl _) HBd.out⟩
    · rw [hth] at ht
      cases ht
end Go.Proofs.Ytojbdaeidbmjgaa
