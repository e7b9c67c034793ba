/- The contract of nat.long. -/
import Derived.Test.YtoikoeileilegaaDoorNatShr2
namespace Go.Proofs.YtoikoeileilegaaDoor
open Go.RowKit
theorem valTo_app {xs ys : List Nat} {k : Nat} (hk : k ≤ xs.length) : valTo (xs ++ ys) k = valTo xs k :=
  valTo_congr k fun i hi => by unfold wd; rw [List.getD_eq_getElem?_getD, List.getD_eq_getElem?_getD, List.getElem?_append_left (by omega)]
/-- The divisor's two highest words, and what is below. -/
theorem top_two {ys : List Nat} {n : Nat} (hn : 2 ≤ n) (hl : ys.length = n) : val ys = valTo ys (n - 2) + B64 ^ (n - 2) * (wd ys (n - 2) + B64 * wd ys (n - 1)) := by
  obtain ⟨m, rfl⟩ : ∃ m, n = m + 2 := ⟨n - 2, by omega⟩
  rw [← valTo_all (m + 2) (by omega), valTo_wd, valTo_wd, show m + 2 - 2 = m by omega, show m + 2 - 1 = m + 1 by omega, Nat.pow_succ, Nat.mul_add, Nat.mul_assoc, Nat.add_assoc]
/-- The three highest words of the number that is divided. -/
theorem top_three {zs : List Nat} {j n : Nat} (hn : 2 ≤ n) : valTo (zs.drop j) (n + 1) = valTo (zs.drop j) (n - 2) + B64 ^ (n - 2) * (wd zs (j + n - 2) + B64 * (wd zs (j + n - 1) + B64 * wd zs (j + n))) := by
  obtain ⟨m, rfl⟩ : ∃ m, n = m + 2 := ⟨n - 2, by omega⟩
  rw [valTo_wd, valTo_wd, valTo_wd, wd_drop, wd_drop, wd_drop, show m + 2 - 2 = m by omega, show j + (m + 2) - 2 = j + m by omega, show j + (m + 2) - 1 = j + (m + 1) by omega]
  simp only [Nat.pow_succ, Nat.mul_add, Nat.mul_assoc, Nat.add_assoc]
theorem top_ge {ys : List Nat} {n : Nat} (hn : 1 ≤ n) (hl : ys.length = n) (ht : 0 < wd ys (n - 1)) : B64 ^ (n - 1) ≤ val ys := by
  obtain ⟨m, rfl⟩ : ∃ m, n = m + 1 := ⟨n - 1, by omega⟩
  rw [← valTo_all (m + 1) (by omega), valTo_wd, show m + 1 - 1 = m by omega]
  rw [show m + 1 - 1 = m by omega] at ht
  have := Nat.mul_le_mul_left (B64 ^ m) (show 1 ≤ wd ys m from ht)
  omega
/-- The number with a nought behind it: at the first round. -/
theorem long_start {xs ys : List Nat} {n M : Nat} (hx : W64 xs) (hn : 1 ≤ n) (hl : ys.length = n) (ht : 0 < wd ys (n - 1)) (hM : M + n = xs.length + 1) : val ((xs ++ [0]).drop M) < val ys := by
  refine Nat.lt_of_lt_of_le ?_ (top_ge hn hl ht)
  have h1 : (xs ++ [0]).drop M = xs.drop M ++ [0] := List.drop_append_of_le_length (by omega)
  rw [h1, val_snoc, Nat.mul_zero, Nat.add_zero]
  have h2 := val_lt (hx.drop M)
  rw [List.length_drop] at h2
  rw [show n - 1 = xs.length - M by omega]
  exact h2
theorem mul_hi_lt {g x c : Nat} (hg : g < B64) (hx : x < B64) (hc : c < B64) : mulHi g x + addHi (mulLo g x) c 0 < B64 ∧ addLo (mulLo g x) c 0 + B64 * (mulHi g x + addHi (mulLo g x) c 0) = g * x + c := by
  have h1 := mul_eq g x
  have h2 := add_eq (mulLo g x) c 0
  have e : addLo (mulLo g x) c 0 + B64 * (mulHi g x + addHi (mulLo g x) c 0) = g * x + c := by
    rw [Nat.mul_add]
    omega
  refine ⟨mac_hi e ?_, e⟩
  have := mac_le (P := B64) hg hx (z := 0) (by decide) hc
  omega
/-- Something is borrowed: the guess is too great. -/
theorem guess_over {D g V N Q : Nat} (h : D + g * V = N + Q) (hD : D < Q) (hV : 0 < V) : N / V ≤ g - 1 ∧ 0 < g := by
  have h1 : N < g * V := by omega
  have h2 : N / V < g := (Nat.div_lt_iff_lt_mul hV).2 h1
  exact ⟨Nat.le_sub_one_of_lt h2, Nat.lt_of_le_of_lt (Nat.zero_le _) h2⟩
/-- The divisor is added back. -/
theorem over_back {D D' g V N Q c : Nat} (h : D + g * V = N + Q) (h2 : D' + Q * c = D + V) (hg : 0 < g) (hc : c ≤ 1) : D' + (g - 1) * V = N + Q * (1 - c) := by
  obtain ⟨k, rfl⟩ : ∃ k, g = k + 1 := ⟨g - 1, by omega⟩
  rw [Nat.add_mul, Nat.one_mul] at h
  rw [Nat.add_sub_cancel]
  rcases (show c = 0 ∨ c = 1 by omega) with rfl | rfl
  · simp at h2 ⊢
    omega
  · simp at h2 ⊢
    omega
theorem sz_le_of {zs : List Nat} {n : Nat} (h : ∀ i, n ≤ i → wd zs i = 0) : sz zs ≤ n := by
  rcases Nat.lt_or_ge n (sz zs) with h1 | h1
  · exact absurd (h (sz zs - 1) (by omega)) (sz_get_last (by omega))
  · exact h1
theorem sz_take_le {zs : List Nat} {n : Nat} (h : sz zs ≤ n) : sz (zs.take n) = sz zs := by
  have hl := sz_le zs
  refine sz_unique (by simp; omega) (fun i h1 h2 => ?_) ?_
  · have := sz_get_beyond (xs := zs) i h1
    simp at h2
    rw [List.getD_eq_getElem?_getD, List.getElem?_take_of_lt (by omega), ← List.getD_eq_getElem?_getD]
    exact this
  · by_cases h0 : sz zs = 0
    · exact .inl h0
    · right
      have := sz_get_last (xs := zs) (by omega)
      rw [List.getD_eq_getElem?_getD, List.getElem?_take_of_lt (by omega), ← List.getD_eq_getElem?_getD]
      exact this
theorem natRes_mkC2 {w w' : World} {g c n bd : Nat} {zs : List Nat} (hg : WordsC w' g c zs) (hB : w.heap.size ≤ g) (hw : W64 zs) (hv : val zs = n) (hb : sz zs ≤ bd) (hk : Below w.heap.size w w') :
    NatRes w n bd (.returned (.slice (some ⟨g, 0, none⟩) (sz zs) c)) w' := by
  have hs := sz_le zs
  have e : (zs.take (sz zs)).length = sz zs := by simp; omega
  refine ⟨some ⟨g, 0, none⟩, c, zs.take (sz zs), ?_, ?_, ?_, ?_, ?_, hk⟩
  · rw [e]
  · rw [e]; exact hg.own hB hw hs
  · rw [val_take_sz, hv]
  · rw [sz_take_sz, e]
  · omega
theorem natPair_mk {w w' : World} {n m bd bd' : Nat} {s1 s2 : Value} (h1 : NatRes w n bd (.returned s1) w') (h2 : NatRes w m bd' (.returned s2) w') : NatPair w n m bd bd' (.returned (.tuple #[s1, s2])) w' := by
  obtain ⟨a, c, zs, he, r1, r2, r3, r4, r5⟩ := h1
  obtain ⟨a', c', ys, he', t1, t2, t3, t4, t5⟩ := h2
  cases he
  cases he'
  exact ⟨a, c, zs, a', c', ys, rfl, ⟨r1, r2, r3, r4⟩, ⟨t1, t2, t3, t4⟩, r5⟩
end Go.Proofs.YtoikoeileilegaaDoor
