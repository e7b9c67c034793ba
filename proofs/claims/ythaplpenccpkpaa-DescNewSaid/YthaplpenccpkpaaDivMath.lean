/- Plain laws: a digit's estimate (Knuth D, two digits), and shifts of words. -/
import Derived.Test.YthaplpenccpkpaaNatSub
import Derived.Laws.Bits64b
import Derived.Laws.MathBits
namespace Go.Proofs.Ythaplpenccpkpaa
open Go.RowKit
/-- Half a word's base. -/
abbrev B32 : Nat := 4294967296
section digit
variable {u x y1 y0 q r : Nat}
theorem digit_le (hy1 : 0 < y1) : (u * B32 + x) / (y1 * B32 + y0) ≤ (u * B32 + x) / (y1 * B32) := Nat.div_le_div_left (by omega) (by unfold B32; omega)
theorem digit_start (hy1 : 0 < y1) (hx : x < B32) : (u * B32 + x) / (y1 * B32 + y0) ≤ u / y1 := by
  refine Nat.le_trans (digit_le hy1) ?_
  rw [Nat.mul_comm y1, ← Nat.div_div_eq_div_mul]
  have : (u * B32 + x) / B32 = u := by unfold B32 at *; omega
  rw [this]
  exact Nat.le_refl _
theorem digit_top (hu : u < y1 * B32 + y0) (h0 : y0 < B32) (hn : B32 ≤ 2 * y1) : u / y1 ≤ B32 + 1 := by
  have h1 : u < (B32 + 2) * y1 := by rw [Nat.add_mul]; rw [Nat.mul_comm y1] at hu; omega
  have := (Nat.div_lt_iff_lt_mul (show 0 < y1 by unfold B32 at hn; omega)).2 h1
  omega
theorem div_lt_base {u x y b : Nat} (hu : u < y) (hx : x < b) : (u * b + x) / y < b := by
  rw [Nat.div_lt_iff_lt_mul (by omega)]
  have h : (u + 1) * b ≤ y * b := Nat.mul_le_mul_right b hu
  rw [Nat.add_mul, Nat.one_mul] at h
  rw [Nat.mul_comm b y]
  omega
theorem digit_lt (hu : u < y1 * B32 + y0) (hx : x < B32) : (u * B32 + x) / (y1 * B32 + y0) < B32 := div_lt_base hu hx
theorem digit_split (h : u = q * y1 + r) : u * B32 + x = q * (y1 * B32) + (B32 * r + x) := by
  subst h; rw [Nat.add_mul, Nat.mul_assoc, Nat.mul_comm r]; omega
theorem digit_high (hu : u < y1 * B32 + y0) (hx : x < B32) (h : u = q * y1 + r) (ht : B32 ≤ q ∨ B32 * r + x < q * y0) : (u * B32 + x) / (y1 * B32 + y0) < q := by
  rcases ht with ht | ht
  · have := digit_lt hu hx; omega
  · refine (Nat.div_lt_iff_lt_mul (by omega)).2 ?_
    rw [digit_split h, Nat.mul_add]
    omega
theorem digit_low (hu : u < y1 * B32 + y0) (h : u = q * y1 + r) (ht : q * y0 ≤ B32 * r + x) : q ≤ (u * B32 + x) / (y1 * B32 + y0) := by
  refine (Nat.le_div_iff_mul_le (by omega)).2 ?_
  rw [digit_split h, Nat.mul_add]
  omega
theorem digit_brk (hu : u < y1 * B32 + y0) (h0 : y0 < B32) (h : u = q * y1 + r) (hq : q ≤ B32) (hr : B32 ≤ r) : q ≤ (u * B32 + x) / (y1 * B32 + y0) := by
  refine digit_low hu h ?_
  have h1 : q * y0 ≤ B32 * B32 := Nat.mul_le_mul hq (by omega)
  have h2 : B32 * B32 ≤ B32 * r := Nat.mul_le_mul_left _ hr
  omega
theorem digit_down (h : u = (q + 1) * y1 + r) : u = q * y1 + (r + y1) := by rw [h, Nat.add_mul]; omega
end digit
/-! ### What the machine computes -/
theorem wrapN (n : Nat) : IntKind.u64.wrap (n : Int) = ((n % B64 : Nat) : Int) := by rw [IntKind.wrap_u64]; unfold B64; omega
theorem wrapS {n : Nat} (h : n < B64) : IntKind.u64.wrap (n : Int) = (n : Int) := by rw [wrapN, Nat.mod_eq_of_lt h]
theorem wrapMul (a b : Nat) : IntKind.u64.wrap ((a : Int) * (b : Int)) = ((a * b % B64 : Nat) : Int) := by rw [← Int.natCast_mul, wrapN]
theorem wrapAdd (a b : Nat) : IntKind.u64.wrap ((a : Int) + (b : Int)) = (((a + b) % B64 : Nat) : Int) := by rw [← Int.natCast_add, wrapN]
theorem wrapDiv {a b : Nat} (h : a < B64) : IntKind.u64.wrap ((a : Int) / (b : Int)) = ((a / b : Nat) : Int) := by
  rw [← Int.natCast_ediv, wrapS]; exact Nat.lt_of_le_of_lt (Nat.div_le_self _ _) h
theorem wrapSub {C D n m r : Nat} (hC : C = n % B64) (hD : D = m % B64) (h : n = m + r) (hr : r < B64) : IntKind.u64.wrap ((C : Int) - (D : Int)) = (r : Int) := by
  rw [IntKind.wrap_u64]; unfold B64 at *; omega
/-! ### Shifts of words -/
theorem two_cast (s : Nat) : (2 : Int) ^ s = ((2 ^ s : Nat) : Int) := by rw [Int.natCast_pow]; rfl
theorem pow_split {s : Nat} (hs : s ≤ 64) : 2 ^ (64 - s) * 2 ^ s = B64 := by rw [← Nat.pow_add, show 64 - s + s = 64 by omega]
theorem blen_lo {y : Nat} (h : 0 < y) : 2 ^ (blen y - 1) ≤ y ∧ y < 2 ^ blen y := by
  unfold blen
  rw [if_neg (by omega)]
  exact ⟨Nat.log2_self_le (by omega), Nat.lt_log2_self⟩
theorem norm_hi {y s : Nat} (h : 0 < y) (hs : blen y + s = 64) : y * 2 ^ s < B64 ∧ B64 ≤ 2 * (y * 2 ^ s) := by
  obtain ⟨h1, h2⟩ := blen_lo h
  have hp : 0 < 2 ^ s := Nat.two_pow_pos s
  constructor
  · have := Nat.mul_lt_mul_of_pos_right h2 hp
    rw [← Nat.pow_add, hs] at this
    exact this
  · have h3 := Nat.mul_le_mul_right (2 ^ s) h1
    rw [← Nat.pow_add] at h3
    have h4 : blen y - 1 + s = 63 := by
      have : 0 < blen y := by unfold blen; rw [if_neg (by omega)]; omega
      omega
    rw [h4] at h3
    have : B64 = 2 * 2 ^ 63 := by decide
    omega
theorem shr_lt {lo s : Nat} (hs : s ≤ 64) (hl : lo < B64) : lo / 2 ^ (64 - s) < 2 ^ s := by
  rw [Nat.div_lt_iff_lt_mul (Nat.two_pow_pos _), Nat.mul_comm, pow_split hs]; exact hl
theorem shr_eq {lo s : Nat} (hs : s ≤ 64) : lo / 2 ^ (64 - s) = lo * 2 ^ s / B64 := by
  rw [← pow_split hs, Nat.mul_div_mul_right _ _ (Nat.two_pow_pos s)]
/-- hi<<s | lo>>(64-s). -/
theorem shl_or {hi lo s : Nat} (hs : s ≤ 64) (hl : lo < B64) (hh : hi * 2 ^ s < B64) :
    bits .or .u64 (IntKind.u64.wrap ((hi : Int) * 2 ^ s)) ((lo : Int) / 2 ^ (64 - s)) = ((hi * 2 ^ s + lo / 2 ^ (64 - s) : Nat) : Int) := by
  rw [two_cast, two_cast, wrapMul, Nat.mod_eq_of_lt hh, ← Int.natCast_ediv, bits_or_u64_nat _ _ hh (Nat.lt_of_le_of_lt (Nat.div_le_self _ _) hl)]
  congr 1
  rw [Nat.mul_comm hi, Nat.two_pow_add_eq_or_of_lt (shr_lt hs hl)]
theorem norm_split {hi lo s : Nat} (hs : s ≤ 64) : (hi * B64 + lo) * 2 ^ s = (hi * 2 ^ s + lo / 2 ^ (64 - s)) * B64 + lo * 2 ^ s % B64 := by
  rw [shr_eq hs, Nat.add_mul, Nat.add_mul]
  have h1 := Nat.div_add_mod (lo * 2 ^ s) B64
  rw [Nat.mul_comm B64] at h1
  have h2 : hi * B64 * 2 ^ s = hi * 2 ^ s * B64 := by rw [Nat.mul_assoc, Nat.mul_comm B64, Nat.mul_assoc]
  omega
theorem norm_lt {hi lo y s : Nat} (hs : s ≤ 64) (hy : hi < y) (hl : lo < B64) : hi * 2 ^ s + lo / 2 ^ (64 - s) < y * 2 ^ s := by
  have h1 := shr_lt hs hl
  have h2 : (hi + 1) * 2 ^ s ≤ y * 2 ^ s := Nat.mul_le_mul_right _ hy
  rw [Nat.add_mul, Nat.one_mul] at h2
  omega
/-- Two digits, one after another. -/
theorem two_digits {N U L Y r1 : Nat} (hY : 0 < Y) (hN : N = U * B64 + L) (hr : r1 = (U * B32 + L / B32) % Y) :
    N / Y = (U * B32 + L / B32) / Y * B32 + (r1 * B32 + L % B32) / Y ∧ N % Y = (r1 * B32 + L % B32) % Y := by
  have e1 := Nat.div_add_mod (U * B32 + L / B32) Y
  have e3 := Nat.div_add_mod L B32
  rw [← hr] at e1
  have hn : N = (r1 * B32 + L % B32) + Y * ((U * B32 + L / B32) / Y * B32) := by
    rw [hN]
    generalize (U * B32 + L / B32) / Y = Q at *
    rw [← Nat.mul_assoc]
    generalize Y * Q = P at *
    unfold B64 B32 at *
    omega
  rw [hn, Nat.add_mul_div_left _ _ hY, Nat.add_mul_mod_self_left]
  exact ⟨Nat.add_comm _ _, rfl⟩
theorem unnorm {N y s : Nat} : N * 2 ^ s / (y * 2 ^ s) = N / y ∧ N * 2 ^ s % (y * 2 ^ s) / 2 ^ s = N % y := by
  have hp := Nat.two_pow_pos s
  exact ⟨Nat.mul_div_mul_right _ _ hp, by rw [Nat.mul_mod_mul_right, Nat.mul_div_cancel _ hp]⟩
end Go.Proofs.Ythaplpenccpkpaa
