/- Plain laws: long division of natural numbers, word by word. -/
import Derived.Test.YthaplpenccpkpaaShrMath
namespace Go.Proofs.Ythaplpenccpkpaa
open Go.RowKit
theorem wd_drop (xs : List Nat) (j i : Nat) : wd (xs.drop j) i = wd xs (j + i) := by unfold wd; simp [List.getD_eq_getElem?_getD, List.getElem?_drop]
theorem drop_set_ge (xs : List Nat) (j i n : Nat) : (xs.set (j + i) n).drop j = (xs.drop j).set i n := by
  rw [List.drop_set, if_neg (by omega), Nat.add_sub_cancel_left]
theorem valTo_congr {xs ys : List Nat} (k : Nat) (h : ∀ i, i < k → wd xs i = wd ys i) : valTo xs k = valTo ys k := by
  induction k with
  | zero => rfl
  | succ k ih => rw [valTo_wd, valTo_wd, ih fun i hi => h i (by omega), h k (by omega)]
/-- A round of the product that is taken off. -/
theorem mulsub_step {zs us ys : List Nat} {j i g x z l c b n c' b' : Nat} (hv : valTo (zs.drop j) i + g * valTo ys i = valTo (us.drop j) i + B64 ^ i * (c + b))
    (h2 : n + l + b = z + B64 * b') (h3 : l + B64 * c' = g * x + c) (hx : wd ys i = x) (hz : wd us (j + i) = z) (hl : j + i < zs.length) :
    valTo ((zs.set (j + i) n).drop j) (i + 1) + g * valTo ys (i + 1) = valTo (us.drop j) (i + 1) + B64 ^ (i + 1) * (c' + b') := by
  rw [drop_set_ge, valTo_set_succ (by rw [List.length_drop]; omega), valTo_wd, valTo_wd, wd_drop, hx, hz, Nat.pow_succ]
  have e2 := congrArg (B64 ^ i * ·) h2
  have e3 := congrArg (B64 ^ i * ·) h3
  simp only [Nat.mul_add, Nat.mul_assoc] at e2 e3 hv ⊢
  rw [Nat.mul_left_comm g (B64 ^ i) x]
  omega
theorem mulsub_end {zs us ys : List Nat} {j k g z c b n b' : Nat} (hv : valTo (zs.drop j) k + g * valTo ys k = valTo (us.drop j) k + B64 ^ k * (c + b))
    (h2 : n + c + b = z + B64 * b') (hz : wd us (j + k) = z) (hl : j + k < zs.length) :
    valTo ((zs.set (j + k) n).drop j) (k + 1) + g * valTo ys k = valTo (us.drop j) (k + 1) + B64 ^ (k + 1) * b' := by
  rw [drop_set_ge, valTo_set_succ (by rw [List.length_drop]; omega), valTo_wd, wd_drop, hz, Nat.pow_succ]
  have e2 := congrArg (B64 ^ k * ·) h2
  simp only [Nat.mul_add, Nat.mul_assoc] at e2 hv ⊢
  omega
/-- A round of the divisor that is added back. -/
theorem addback_step {zs us ys : List Nat} {j i x z c n c' : Nat} (hv : valTo (zs.drop j) i + B64 ^ i * c = valTo (us.drop j) i + valTo ys i)
    (h2 : n + B64 * c' = z + x + c) (hx : wd ys i = x) (hz : wd us (j + i) = z) (hl : j + i < zs.length) :
    valTo ((zs.set (j + i) n).drop j) (i + 1) + B64 ^ (i + 1) * c' = valTo (us.drop j) (i + 1) + valTo ys (i + 1) := by
  rw [drop_set_ge, valTo_set_succ (by rw [List.length_drop]; omega), valTo_wd, valTo_wd, wd_drop, hx, hz, Nat.pow_succ]
  have e2 := congrArg (B64 ^ i * ·) h2
  simp only [Nat.mul_add, Nat.mul_assoc] at e2 hv ⊢
  omega
theorem addback_end {zs us ys : List Nat} {j k z c n c' : Nat} (hv : valTo (zs.drop j) k + B64 ^ k * c = valTo (us.drop j) k + valTo ys k)
    (h2 : n + B64 * c' = z + c) (hz : wd us (j + k) = z) (hl : j + k < zs.length) :
    valTo ((zs.set (j + k) n).drop j) (k + 1) + B64 ^ (k + 1) * c' = valTo (us.drop j) (k + 1) + valTo ys k := by
  rw [drop_set_ge, valTo_set_succ (by rw [List.length_drop]; omega), valTo_wd, wd_drop, hz, Nat.pow_succ]
  have e2 := congrArg (B64 ^ k * ·) h2
  simp only [Nat.mul_add, Nat.mul_assoc] at e2 hv ⊢
  omega
section
variable {lN lV P u0 u1 u2 v0 v1 N V q : Nat}
/-- The two highest words' quotient isn't less than the digit. -/
theorem guess_top (hN : N = lN + P * (u0 + B64 * (u1 + B64 * u2))) (hl : lN < P) (hV : V = lV + P * (v0 + B64 * v1)) (h0 : u0 < B64) (h1 : 0 < v1) (hq : q * V ≤ N) : q ≤ (u2 * B64 + u1) / v1 := by
  refine (Nat.le_div_iff_mul_le h1).2 ?_
  have a1 : q * (P * (B64 * v1)) ≤ q * V := Nat.mul_le_mul_left _ (by rw [hV, Nat.mul_add]; omega)
  have a2 : N < P * (B64 * (u1 + B64 * u2 + 1)) := by
    have b1 : P * (u0 + B64 * (u1 + B64 * u2) + 1) ≤ P * (B64 * (u1 + B64 * u2 + 1)) := Nat.mul_le_mul_left _ (by rw [Nat.mul_add B64 _ 1]; omega)
    rw [Nat.mul_add _ _ 1] at b1
    omega
  have a3 : (q * v1) * (P * B64) < (u1 + B64 * u2 + 1) * (P * B64) := by
    have e1 : q * (P * (B64 * v1)) = (q * v1) * (P * B64) := by simp only [Nat.mul_assoc, Nat.mul_left_comm, Nat.mul_comm]
    have e2 : P * (B64 * (u1 + B64 * u2 + 1)) = (u1 + B64 * u2 + 1) * (P * B64) := by rw [← Nat.mul_assoc, Nat.mul_comm]
    omega
  have := Nat.lt_of_mul_lt_mul_right a3
  rw [Nat.mul_comm u2]
  omega
/-- A guess whose product is beyond the three highest words is too great. -/
theorem guess_down {g r : Nat} (hN : N = lN + P * (u0 + B64 * (u1 + B64 * u2))) (hl : lN < P) (hV : V = lV + P * (v0 + B64 * v1)) (hq : q * V ≤ N) (hg : g * v1 + r = u2 * B64 + u1) (hle : q ≤ g) (hno : r * B64 + u0 < g * v0) : q + 1 ≤ g := by
  rcases Nat.lt_or_ge q g with h | h
  · exact h
  · exfalso
    have e : q = g := by omega
    subst e
    have a1 : q * (P * (v0 + B64 * v1)) ≤ q * V := Nat.mul_le_mul_left _ (by rw [hV]; omega)
    have a2 : N < P * (u0 + B64 * (u1 + B64 * u2) + 1) := by rw [Nat.mul_add _ _ 1]; omega
    have a3 : (q * (v0 + B64 * v1)) * P < (u0 + B64 * (u1 + B64 * u2) + 1) * P := by
      have e1 : q * (P * (v0 + B64 * v1)) = (q * (v0 + B64 * v1)) * P := by rw [Nat.mul_comm P, Nat.mul_assoc]
      have e2 : P * (u0 + B64 * (u1 + B64 * u2) + 1) = (u0 + B64 * (u1 + B64 * u2) + 1) * P := Nat.mul_comm _ _
      omega
    have a4 := Nat.lt_of_mul_lt_mul_right a3
    have e3 : u1 + B64 * u2 = q * v1 + r := by rw [Nat.mul_comm B64 u2]; omega
    rw [e3, Nat.mul_add, Nat.mul_left_comm, Nat.mul_add B64 (q * v1), Nat.mul_comm B64 r] at a4
    omega
end
/-- The test of the guess, by its two halves. -/
theorem guess_test {g v0 r u0 : Nat} (h0 : u0 < B64) : (mulHi g v0 < r ∨ mulHi g v0 = r ∧ mulLo g v0 ≤ u0) ↔ g * v0 ≤ r * B64 + u0 := by
  have e := mul_eq g v0
  have l := mulLo_lt g v0
  unfold B64 at *
  constructor
  · rintro (h | ⟨h, k⟩) <;> omega
  · intro h
    rcases Nat.lt_trichotomy (mulHi g v0) r with k | k | k
    · exact .inl k
    · exact .inr ⟨k, by omega⟩
    · omega
/-- Where nothing is borrowed the guess is the digit. -/
theorem digit_exact {D g V N : Nat} (h : D + g * V = N) (hV : 0 < V) (hq : N / V ≤ g) : g = N / V ∧ D = N % V := by
  have a1 : g ≤ N / V := (Nat.le_div_iff_mul_le hV).2 (by omega)
  have e : g = N / V := by omega
  refine ⟨e, ?_⟩
  have := Nat.div_add_mod N V
  rw [e, Nat.mul_comm] at h
  omega
theorem beyond_zero {xs : List Nat} {n : Nat} (h : val xs < B64 ^ n) {i : Nat} (hi : n ≤ i) : wd xs i = 0 := by
  have e := val_take_le (xs := xs) i
  have p : B64 ^ n ≤ B64 ^ i := Nat.pow_le_pow_right (by decide) hi
  have z : val (xs.drop i) = 0 := by
    rcases Nat.eq_zero_or_pos (val (xs.drop i)) with h0 | h0
    · exact h0
    · have := Nat.mul_le_mul_left (B64 ^ i) h0
      omega
  rw [val_drop'] at z
  omega
theorem val_upto {xs : List Nat} {n : Nat} (h : ∀ i, n ≤ i → wd xs i = 0) : val xs = valTo xs n := by
  have e := val_take_le (xs := xs) n
  rw [val_zeros (xs := xs.drop n) fun i _ => by have := h (n + i) (by omega); rw [← wd_drop] at this; exact this] at e
  simpa using e
/-- Ahead of a round: the number at word j on, by its n + 1 words. -/
theorem round_num {zs : List Nat} {j n V : Nat} (hlt : val (zs.drop (j + 1)) < V) (hV : V ≤ B64 ^ n) : val (zs.drop j) = valTo (zs.drop j) (n + 1) := by
  refine val_upto fun i hi => ?_
  obtain ⟨k, rfl⟩ : ∃ k, i = k + 1 := ⟨i - 1, by omega⟩
  have := beyond_zero (Nat.lt_of_lt_of_le hlt hV) (i := k) (by omega)
  rw [wd_drop] at this ⊢
  rw [← this]
  congr 1
  omega
theorem round_lt {zs : List Nat} {j V : Nat} (hz : W64 zs) (hlt : val (zs.drop (j + 1)) < V) : val (zs.drop j) < B64 * V := by
  rw [val_drop']
  have h0 := wd_lt hz j
  have := Nat.mul_le_mul_left B64 (show val (zs.drop (j + 1)) + 1 ≤ V from hlt)
  rw [Nat.mul_add] at this
  omega
/-- Behind a round. -/
theorem round_end {zs zs' qs : List Nat} {j n V A g : Nat} (hA : val zs + B64 ^ (j + 1) * (val (qs.drop (j + 1)) * V) = A) (hlt : val (zs.drop (j + 1)) < V) (hV : V ≤ B64 ^ n) (hV0 : 0 < V)
    (hlow : ∀ i, i < j → wd zs' i = wd zs i) (hhigh : ∀ i, j + n < i → wd zs' i = wd zs i)
    (hD : valTo (zs'.drop j) (n + 1) + g * V = valTo (zs.drop j) (n + 1)) (hg : valTo (zs.drop j) (n + 1) / V ≤ g) (hq : j < qs.length) :
    val zs' + B64 ^ j * (val ((qs.set j g).drop j) * V) = A ∧ val (zs'.drop j) < V := by
  have hN := round_num hlt hV
  have hN' : val (zs'.drop j) = valTo (zs'.drop j) (n + 1) := by
    refine val_upto fun i hi => ?_
    have := beyond_zero (Nat.lt_of_lt_of_le hlt hV) (i := i - 1) (by omega)
    rw [wd_drop] at this ⊢
    rw [hhigh _ (by omega), ← this]
    congr 1
    omega
  obtain ⟨e1, e2⟩ := digit_exact hD hV0 hg
  have e3 := val_take_le (xs := zs) j
  have e4 := val_take_le (xs := zs') j
  rw [valTo_congr j hlow, hN'] at e4
  rw [hN] at e3
  have e5 : val ((qs.set j g).drop j) = g + B64 * val (qs.drop (j + 1)) := by
    rw [val_drop (by rw [List.length_set]; exact hq), drop_set]
    congr 1
    unfold wd
    simp [List.getD_eq_getElem?_getD, hq]
  constructor
  · have e6 := congrArg (B64 ^ j * ·) hD
    simp only [Nat.mul_add] at e6
    rw [e5, Nat.add_mul, Nat.mul_add, ← hA, e3, e4, Nat.pow_succ]
    simp only [Nat.mul_assoc]
    omega
  · rw [hN', e2]
    exact Nat.mod_lt _ hV0
theorem long_end {zs qs : List Nat} {V A : Nat} (hA : val zs + B64 ^ 0 * (val (qs.drop 0) * V) = A) (hlt : val (zs.drop 0) < V) : val qs = A / V ∧ val zs = A % V := by
  rw [List.drop_zero] at hA hlt
  rw [Nat.pow_zero, Nat.one_mul] at hA
  have h1 : A / V = val qs := by
    rw [← hA, Nat.mul_comm, Nat.add_mul_div_left _ _ (by omega), Nat.div_eq_of_lt hlt, Nat.zero_add]
  have h2 : A % V = val zs := by rw [← hA, Nat.mul_comm, Nat.add_mul_mod_self_left, Nat.mod_eq_of_lt hlt]
  exact ⟨h1.symm, h2.symm⟩
end Go.Proofs.Ythaplpenccpkpaa
