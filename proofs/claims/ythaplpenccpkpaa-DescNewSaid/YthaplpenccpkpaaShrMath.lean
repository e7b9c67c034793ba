/- Plain laws: shifts of natural numbers to the right, word by word. -/
import Derived.Test.YthaplpenccpkpaaShiftMath
namespace Go.Proofs.Ythaplpenccpkpaa
open Go.RowKit
theorem take_le_step {v t x d P B : Nat} (h : v = t + P * (x + B * d)) : v = t + P * x + P * B * d := by
  rw [h, Nat.mul_add, Nat.mul_assoc, Nat.add_assoc]
theorem val_nil : val [] = 0 := rfl
theorem val_take_le {xs : List Nat} (q : Nat) : val xs = valTo xs q + B64 ^ q * val (xs.drop q) := by
  induction q with
  | zero => rw [List.drop_zero, Nat.pow_zero, Nat.one_mul]; exact (Nat.zero_add _).symm
  | succ q ih =>
    by_cases h : q < xs.length
    · rw [val_drop h] at ih
      rw [valTo_wd, Nat.pow_succ]
      exact take_le_step ih
    · rw [valTo_all (q + 1) (by omega), List.drop_of_length_le (by omega), val_nil, Nat.mul_zero, Nat.add_zero]
theorem wd_beyond {xs : List Nat} {i : Nat} (h : xs.length ≤ i) : wd xs i = 0 := by
  unfold wd
  rw [List.getD_eq_getElem?_getD, List.getElem?_eq_none h]
  rfl
theorem val_drop' (xs : List Nat) (q : Nat) : val (xs.drop q) = wd xs q + B64 * val (xs.drop (q + 1)) := by
  by_cases h : q < xs.length
  · exact val_drop h
  · rw [List.drop_of_length_le (by omega), List.drop_of_length_le (by omega), wd_beyond (by omega)]
    rfl
/-- What goes out below word t. -/
def goneN (xs : List Nat) (q s t : Nat) : Nat := if t ≤ q then valTo xs t else valTo xs q + B64 ^ q * (wd xs q % 2 ^ s)
theorem goneN_zero (xs : List Nat) (q s : Nat) : goneN xs q s 0 = 0 := by unfold goneN; rw [if_pos (by omega)]; rfl
theorem goneN_below {xs : List Nat} {q s t : Nat} (h : t < q) : goneN xs q s (t + 1) = goneN xs q s t + B64 ^ t * wd xs t := by
  unfold goneN
  rw [if_pos (by omega), if_pos (by omega), valTo_wd]
theorem goneN_at {xs : List Nat} {q s : Nat} : goneN xs q s (q + 1) = goneN xs q s q + B64 ^ q * (wd xs q % 2 ^ s) := by
  unfold goneN
  rw [if_neg (by omega), if_pos (by omega)]
theorem goneN_above {xs : List Nat} {q s t : Nat} (h : q < t) : goneN xs q s (t + 1) = goneN xs q s t := by
  unfold goneN
  rw [if_neg (by omega), if_neg (by omega)]
theorem valTo_lt {xs : List Nat} (hx : W64 xs) (q : Nat) : valTo xs q < B64 ^ q := by
  induction q with
  | zero => simp [valTo]
  | succ q ih =>
    have h0 := wd_lt hx q
    rw [valTo_wd, Nat.pow_succ]
    have := Nat.mul_le_mul_left (B64 ^ q) (show wd xs q + 1 ≤ B64 from h0)
    rw [Nat.mul_add] at this
    omega
/-- The number in three parts: what goes out, and the quotient. -/
theorem shr_split {xs : List Nat} (hx : W64 xs) {q s : Nat} (hs : s ≤ 64) :
    val xs % 2 ^ (64 * q + s) = valTo xs q + B64 ^ q * (wd xs q % 2 ^ s) ∧ val xs / 2 ^ (64 * q + s) = val (xs.drop q) / 2 ^ s := by
  have h1 := val_take_le (xs := xs) q
  have h2 := valTo_lt hx q
  have hB : 0 < B64 ^ q := Nat.pow_pos (by decide)
  have hm : wd xs q % 2 ^ s = val (xs.drop q) % 2 ^ s := by
    rw [val_drop', ← pow_split hs, Nat.mul_comm (2 ^ (64 - s)), Nat.mul_assoc, Nat.add_mul_mod_self_left]
  constructor
  · rw [h1, pow_words, hm, Nat.mod_mul, Nat.add_mul_mod_self_left, Nat.mod_eq_of_lt h2, Nat.add_mul_div_left _ _ hB, Nat.div_eq_of_lt h2, Nat.zero_add]
  · rw [h1, pow_words, ← Nat.div_div_eq_div_mul, Nat.add_mul_div_left _ _ hB, Nat.div_eq_of_lt h2, Nat.zero_add]
theorem goneN_end {xs : List Nat} (hx : W64 xs) {q s t : Nat} (hs : s ≤ 64) (ht : xs.length ≤ t) : goneN xs q s t = val xs % 2 ^ (64 * q + s) := by
  rw [(shr_split hx hs).1]
  unfold goneN
  by_cases h : t ≤ q
  · rw [if_pos h, valTo_all t ht, valTo_all q (by omega), wd_beyond (by omega)]
    simp
  · rw [if_neg h]
/-- One word that is shifted to the right, with what comes in from above. -/
def shrW (s x y : Nat) : Nat := x / 2 ^ s + loS (64 - s) y
theorem shrW_mul {s x y : Nat} (hs : s ≤ 64) : shrW s x y * 2 ^ s + x % 2 ^ s = x + B64 * (y % 2 ^ s) := by
  unfold shrW
  rw [loS_mul (show 64 - s ≤ 64 by omega), show 64 - (64 - s) = s by omega, Nat.add_mul]
  have h1 := Nat.div_add_mod x (2 ^ s)
  have h2 : 2 ^ (64 - s) * (y % 2 ^ s) * 2 ^ s = B64 * (y % 2 ^ s) := by
    rw [Nat.mul_right_comm, pow_split hs]
  rw [h2]
  rw [Nat.mul_comm] at h1
  omega
theorem shrW_lt {s x y : Nat} (hs : s ≤ 64) (hx : x < B64) : shrW s x y < B64 := by
  have h1 := shrW_mul (x := x) (y := y) hs
  have h2 : y % 2 ^ s < 2 ^ s := Nat.mod_lt _ (Nat.two_pow_pos s)
  have h3 := Nat.mul_le_mul_left B64 (show y % 2 ^ s + 1 ≤ 2 ^ s from h2)
  have h5 := Nat.mod_le x (2 ^ s)
  rw [Nat.mul_add] at h3
  have h6 : shrW s x y * 2 ^ s < B64 * 2 ^ s := by omega
  exact Nat.lt_of_mul_lt_mul_right h6
theorem shr_step {xs zs : List Nat} {q s u : Nat} (hs : s ≤ 64) (hv : val zs * 2 ^ s + wd xs q % 2 ^ s = valTo (xs.drop q) u + B64 ^ u * (wd xs (q + u) % 2 ^ s)) (hl : zs.length = u) :
    val (zs ++ [shrW s (wd xs (q + u)) (wd xs (q + u + 1))]) * 2 ^ s + wd xs q % 2 ^ s = valTo (xs.drop q) (u + 1) + B64 ^ (u + 1) * (wd xs (q + u + 1) % 2 ^ s) := by
  have e : wd (xs.drop q) u = wd xs (q + u) := by unfold wd; simp [List.getD_eq_getElem?_getD, List.getElem?_drop]
  have h1 := congrArg (B64 ^ u * ·) (shrW_mul (x := wd xs (q + u)) (y := wd xs (q + u + 1)) hs)
  simp only [Nat.mul_add] at h1
  rw [val_snoc, hl, Nat.add_mul, valTo_wd, e, Nat.pow_succ, Nat.mul_assoc, Nat.mul_assoc]
  omega
theorem shr_end {xs zs : List Nat} (hx : W64 xs) {q s u : Nat} (hs : s ≤ 64) (hv : val zs * 2 ^ s + wd xs q % 2 ^ s = valTo (xs.drop q) u + B64 ^ u * (wd xs (q + u) % 2 ^ s)) (hu : xs.length ≤ q + u) : val zs = val xs / 2 ^ (64 * q + s) := by
  rw [wd_beyond hu, valTo_all u (by rw [List.length_drop]; omega), Nat.zero_mod, Nat.mul_zero, Nat.add_zero] at hv
  rw [(shr_split hx hs).2, ← hv, Nat.mul_comm, Nat.mul_add_div (Nat.two_pow_pos s), Nat.div_eq_of_lt (Nat.mod_lt _ (Nat.two_pow_pos s))]
  rfl
theorem shr_zero {xs : List Nat} (hx : W64 xs) {n q : Nat} (hl : sz xs ≤ q) (hn : 64 * q ≤ n) : val xs / 2 ^ n = 0 ∧ val xs % 2 ^ n = val xs := by
  have h1 := val_lt (hx.take (sz xs))
  rw [val_take_sz, List.length_take, Nat.min_eq_left (sz_le xs)] at h1
  have h2 : val xs < 2 ^ n := Nat.lt_of_lt_of_le h1 (by rw [B64_pow]; exact Nat.pow_le_pow_right (by decide) (by omega))
  exact ⟨Nat.div_eq_of_lt h2, Nat.mod_eq_of_lt h2⟩
theorem shrW_zero {x y : Nat} : x / 2 ^ 0 = shrW 0 x y := by
  unfold shrW loS
  rw [show (64 : Nat) - 0 = 64 from rfl, show (2 : Nat) ^ 64 = B64 from rfl, Nat.mul_mod_left]
  rfl
/-- x&(1<<s-1), as the machine has it. -/
theorem mask_and {s x : Nat} (hs : s < 64) (hx : x < B64) : bits .and .u64 (x : Int) (IntKind.u64.wrap (IntKind.u64.wrap ((2 : Int) ^ s) - 1)) = ((x % 2 ^ s : Nat) : Int) := by
  have h : 2 ^ s < B64 := Nat.pow_lt_pow_right (a := 2) (by decide) hs
  have e : (2 : Int) ^ s - 1 = ((2 ^ s - 1 : Nat) : Int) := by
    have := Nat.two_pow_pos s
    rw [two_cast]
    omega
  have e2 : IntKind.u64.wrap ((2 : Int) ^ s) = (2 : Int) ^ s := by rw [two_cast, wrapS h]
  rw [e2, e, wrapS (by omega), bits_and_u64_nat _ _ hx (by unfold B64 at h; omega), Nat.and_two_pow_sub_one_eq_mod]
theorem mask_and0 {s x : Nat} (hs : s < 64) (hx : x < B64) (h : x % 2 ^ s = 0) : bits .and .u64 (x : Int) (IntKind.u64.wrap (IntKind.u64.wrap ((2 : Int) ^ s) - 1)) = 0 := by rw [mask_and hs hx, h]; rfl
def srS (s x : Nat) : Nat := x / 2 ^ s
theorem shr_cast (s x : Nat) : (x : Int) / 2 ^ s = ((srS s x : Nat) : Int) := by rw [two_cast, ← Int.natCast_ediv]; rfl
/-- x>>s | y<<(64-s). -/
theorem bits_shr {s x y : Nat} (hs : s ≤ 64) (hx : x < B64) : bits .or .u64 ((srS s x : Nat) : Int) (IntKind.u64.wrap ((y : Int) * 2 ^ (64 - s))) = ((shrW s x y : Nat) : Int) := by
  rw [bits_hilo (by omega) (by
    unfold srS
    refine Nat.div_lt_of_lt_mul ?_
    rw [Nat.mul_comm, pow_split hs]; exact hx)]
  unfold shrW srS
  rw [Nat.add_comm]
end Go.Proofs.Ythaplpenccpkpaa
