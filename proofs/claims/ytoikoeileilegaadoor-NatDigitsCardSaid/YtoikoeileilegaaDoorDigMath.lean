/- Plain laws: decimal digits, in chunks. -/
import Derived.Test.YtoikoeileilegaaDoorFormatU
import Derived.Lib.Join
import Derived.Lib.Repeat
namespace Go.Proofs.YtoikoeileilegaaDoor
open Go.RowKit
/-- k digits of n, the first ahead. -/
def digK : Nat → Nat → List UInt8
  | 0, _ => []
  | k + 1, n => digK k (n / 10) ++ [UInt8.ofNat (48 + n % 10)]
theorem digK_length (k n : Nat) : (digK k n).length = k := by
  induction k generalizing n with
  | zero => rfl
  | succ k ih => rw [digK, List.length_append, ih]; rfl
theorem digK_zero (k : Nat) : digK k 0 = List.replicate k 48 := by
  induction k with
  | zero => rfl
  | succ k ih => rw [digK, Nat.zero_div, ih, List.replicate_succ']; rfl
theorem digK_add (a b x y : Nat) (hy : y < 10 ^ b) : digK (a + b) (x * 10 ^ b + y) = digK a x ++ digK b y := by
  induction b generalizing y with
  | zero =>
    have : y = 0 := by rw [Nat.pow_zero] at hy; omega
    subst this
    simp [digK]
  | succ b ih =>
    rw [← Nat.add_assoc, digK, digK, ← List.append_assoc, ← ih (y / 10) (by rw [Nat.pow_succ] at hy; omega)]
    have e : x * 10 ^ (b + 1) = x * 10 ^ b * 10 := by rw [Nat.pow_succ, Nat.mul_assoc]
    rw [e]
    generalize x * 10 ^ b = p
    rw [show (p * 10 + y) / 10 = p + y / 10 by omega, show (p * 10 + y) % 10 = y % 10 by omega]
theorem dec_add (m k l : Nat) (hm : 0 < m) (hl : l < 10 ^ k) : Lib.decDigits (m * 10 ^ k + l) = Lib.decDigits m ++ digK k l := by
  induction k generalizing l with
  | zero =>
    have : l = 0 := by rw [Nat.pow_zero] at hl; omega
    subst this
    simp [digK]
  | succ k ih =>
    have hp : 0 < 10 ^ k := Nat.pow_pos (by decide)
    have e : m * 10 ^ (k + 1) = m * 10 ^ k * 10 := by rw [Nat.pow_succ, Nat.mul_assoc]
    have h1 : 1 ≤ m * 10 ^ k := Nat.mul_pos hm hp
    have h2 := ih (l / 10) (by rw [Nat.pow_succ] at hl; omega)
    rw [digK, ← List.append_assoc, ← h2, e]
    generalize m * 10 ^ k = p at *
    rw [Lib.decDigits, dif_neg (by omega), show (p * 10 + l) / 10 = p + l / 10 by omega, show (p * 10 + l) % 10 = l % 10 by omega]
theorem digK_pad (k r : Nat) (h : Lib.nDigits r ≤ k) : digK k r = List.replicate (k - Lib.nDigits r) 48 ++ Lib.decDigits r := by
  induction r using Nat.strongRecOn generalizing k with
  | _ r ih =>
    have hp := Lib.nDigits_pos r
    obtain ⟨j, rfl⟩ : ∃ j, k = j + 1 := ⟨k - 1, by omega⟩
    by_cases h0 : r < 10
    · rw [digK, Nat.div_eq_of_lt h0, Nat.mod_eq_of_lt h0, digK_zero, Lib.nDigits_small h0, Lib.decDigits_one h0]
      rfl
    · rw [digK, Lib.nDigits_big h0] at *
      rw [ih (r / 10) (by omega) j (by omega), List.append_assoc]
      conv => rhs; rw [Lib.decDigits, dif_neg h0]
      rw [show j + 1 - (Lib.nDigits (r / 10) + 1) = j - Lib.nDigits (r / 10) by omega]
theorem repeatL_zero (c : Nat) : Lib.repeatL [48] c = List.replicate c 48 := by
  induction c with
  | zero => rfl
  | succ c ih => rw [Lib.repeatL, ih]; rfl
theorem nDigits_le {r k : Nat} (h : r < 10 ^ k) (hk : 0 < k) : Lib.nDigits r ≤ k := by
  induction k generalizing r with
  | zero => omega
  | succ k ih =>
    by_cases h0 : r < 10
    · rw [Lib.nDigits_small h0]; omega
    · rw [Lib.nDigits_big h0]
      rcases Nat.eq_zero_or_pos k with rfl | hk
      · simp at h; omega
      · have := ih (r := r / 10) (by rw [Nat.pow_succ] at h; omega) hk
        omega
theorem join_empty (xs : List (List UInt8)) : Lib.join xs [] = xs.flatten := by
  unfold Lib.join
  induction xs with
  | nil => rfl
  | cons x xs ih =>
    cases xs with
    | nil => simp [List.intercalate]
    | cons y ys => simp [List.intercalate] at ih ⊢; exact ih
/-- The chunk. -/
abbrev TEN19 : Nat := 10000000000000000000
/-- What the parts hold: n0's lowest digits, the value m above them. -/
def PartsOf (n0 m : Nat) (ps : List (List UInt8)) : Prop :=
  (0 < m → m = n0 / 10 ^ (19 * ps.length) ∧ ps.reverse.flatten = digK (19 * ps.length) (n0 % 10 ^ (19 * ps.length))) ∧
  (m = 0 → 0 < n0 → ps ≠ [] ∧ ps.reverse.flatten = Lib.decDigits n0)
theorem parts_start (n0 : Nat) : PartsOf n0 n0 [] := ⟨fun _ => by simp [digK], fun h h0 => by omega⟩
theorem ten19 : 10 ^ 19 = TEN19 := by decide
theorem parts_step {n0 m : Nat} {ps : List (List UInt8)} (h : PartsOf n0 m ps) (hm : 0 < m) {s : List UInt8}
    (hs : s = if 0 < m / TEN19 then List.replicate (19 - Lib.nDigits (m % TEN19)) 48 ++ Lib.decDigits (m % TEN19) else Lib.decDigits (m % TEN19)) : PartsOf n0 (m / TEN19) (ps ++ [s]) := by
  obtain ⟨e1, e2⟩ := h.1 hm
  have e6 : (ps ++ [s]).length = ps.length + 1 := by simp
  have e3 : 10 ^ (19 * (ps.length + 1)) = TEN19 * 10 ^ (19 * ps.length) := by
    rw [Nat.mul_add, Nat.mul_one, Nat.pow_add, ten19, Nat.mul_comm]
  have e4 : (ps ++ [s]).reverse.flatten = s ++ ps.reverse.flatten := by simp
  have hlow : n0 % 10 ^ (19 * ps.length) < 10 ^ (19 * ps.length) := Nat.mod_lt _ (Nat.pow_pos (by decide))
  have hdm := Nat.div_add_mod n0 (10 ^ (19 * ps.length))
  rw [← e1, Nat.mul_comm] at hdm
  unfold PartsOf
  rw [e6]
  refine ⟨fun h0 => ⟨?_, ?_⟩, fun h0 hn => ⟨by simp, ?_⟩⟩
  · rw [e3, e1, Nat.div_div_eq_div_mul, Nat.mul_comm]
  · rw [if_pos h0, ← digK_pad 19 _ (nDigits_le (by rw [ten19]; exact Nat.mod_lt _ (by decide)) (by decide))] at hs
    have e7 : n0 % 10 ^ (19 + 19 * ps.length) = m % TEN19 * 10 ^ (19 * ps.length) + n0 % 10 ^ (19 * ps.length) := by
      rw [Nat.pow_add, ten19, Nat.mul_comm TEN19, Nat.mod_mul, ← e1, Nat.add_comm, Nat.mul_comm (10 ^ (19 * ps.length))]
    rw [show 19 * (ps.length + 1) = 19 + 19 * ps.length by omega, e7, digK_add 19 _ _ _ hlow, e4, e2, hs]
  · have hr : m % TEN19 = m := Nat.mod_eq_of_lt (by have := (Nat.div_eq_zero_iff (a := m) (b := TEN19)).1 h0; unfold TEN19 at *; omega)
    rw [if_neg (by omega), hr] at hs
    rw [e4, e2, hs, ← dec_add m _ _ hm hlow, hdm]
end Go.Proofs.YtoikoeileilegaaDoor
