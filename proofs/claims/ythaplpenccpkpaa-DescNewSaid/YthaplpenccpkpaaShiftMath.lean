/- Plain laws: shifts of natural numbers, word by word. -/
import Derived.Test.YthaplpenccpkpaaNatLaws
import Derived.Laws.CopyOwn
namespace Go.Proofs.Ythaplpenccpkpaa
open Go.RowKit
/-- What stays of a word that is shifted to the left, and what goes over. -/
def loS (s x : Nat) : Nat := x * 2 ^ s % B64
def hiS (s x : Nat) : Nat := x / 2 ^ (64 - s)
theorem loS_lt (s x : Nat) : loS s x < B64 := Nat.mod_lt _ (by decide)
theorem hiS_lt {s x : Nat} (hs : s ≤ 64) (hx : x < B64) : hiS s x < 2 ^ s := shr_lt hs hx
theorem lohi {s x : Nat} (hs : s ≤ 64) : loS s x + B64 * hiS s x = x * 2 ^ s := by
  unfold loS hiS
  rw [shr_eq hs]
  exact Nat.mod_add_div _ _
theorem loS_mul {s x : Nat} (hs : s ≤ 64) : loS s x = 2 ^ s * (x % 2 ^ (64 - s)) := by
  unfold loS
  rw [← pow_split hs, Nat.mul_mod_mul_right, Nat.mul_comm]
theorem hiS_zero {x : Nat} (hx : x < B64) : hiS 0 x = 0 := Nat.div_eq_of_lt hx
theorem loS_zero {x : Nat} (hx : x < B64) : loS 0 x = x := by unfold loS; rw [Nat.pow_zero, Nat.mul_one, Nat.mod_eq_of_lt hx]
theorem pow2_le64 {s : Nat} (hs : s ≤ 64) : 2 ^ s ≤ B64 := Nat.pow_le_pow_right (by decide) hs
theorem lo_add_lt {s x y : Nat} (hs : s ≤ 64) (hy : y < 2 ^ s) : loS s x + y < B64 := by
  rw [loS_mul hs]
  have h1 : x % 2 ^ (64 - s) + 1 ≤ 2 ^ (64 - s) := Nat.mod_lt _ (Nat.two_pow_pos _)
  have h2 := Nat.mul_le_mul_left (2 ^ s) h1
  rw [Nat.mul_comm (2 ^ s) (2 ^ (64 - s)), pow_split hs, Nat.mul_add] at h2
  omega
theorem or_lohi {s x y : Nat} (hs : s ≤ 64) (hy : y < 2 ^ s) : loS s x ||| y = loS s x + y := by
  rw [loS_mul hs, Nat.two_pow_add_eq_or_of_lt hy]
/-- x<<s | y, as the machine has it. -/
theorem bits_lohi {s x y : Nat} (hs : s ≤ 64) (hy : y < 2 ^ s) : bits .or .u64 (IntKind.u64.wrap ((x : Int) * 2 ^ s)) (y : Int) = ((loS s x + y : Nat) : Int) := by
  rw [two_cast, wrapMul]
  show bits .or .u64 ((loS s x : Nat) : Int) (y : Int) = _
  rw [bits_or_u64_nat _ _ (loS_lt s x) (Nat.lt_of_lt_of_le hy (pow2_le64 hs)), or_lohi hs hy]
/-- y | x<<s. -/
theorem bits_hilo {s x y : Nat} (hs : s ≤ 64) (hy : y < 2 ^ s) : bits .or .u64 (y : Int) (IntKind.u64.wrap ((x : Int) * 2 ^ s)) = ((loS s x + y : Nat) : Int) := by
  rw [two_cast, wrapMul]
  show bits .or .u64 (y : Int) ((loS s x : Nat) : Int) = _
  rw [bits_or_u64_nat _ _ (Nat.lt_of_lt_of_le hy (pow2_le64 hs)) (loS_lt s x), Nat.or_comm, or_lohi hs hy]
theorem hiS_cast (s x : Nat) : (x : Int) / 2 ^ (64 - s) = ((hiS s x : Nat) : Int) := by rw [two_cast, ← Int.natCast_ediv]; rfl
theorem pow_words (q s : Nat) : 2 ^ (64 * q + s) = B64 ^ q * 2 ^ s := by rw [Nat.pow_add, B64_pow]
/-! ### The reference's Left -/
theorem left_step {zs xs : List Nat} {t q s z : Nat} (hs : s ≤ 64) (hv : val zs = valTo xs t * 2 ^ (64 * q + s)) (hz : wd zs (t + q) = z) (hz1 : wd zs (t + q + 1) = 0) (hl : t + q + 1 < zs.length) :
    val ((zs.set (t + q) (loS s (wd xs t) + z)).set (t + q + 1) (hiS s (wd xs t))) = valTo xs (t + 1) * 2 ^ (64 * q + s) := by
  have e1 := val_set (xs := zs) (t + q) (loS s (wd xs t) + z) (by omega)
  have e2 := val_set (xs := zs.set (t + q) (loS s (wd xs t) + z)) (t + q + 1) (hiS s (wd xs t)) (by rw [List.length_set]; omega)
  have e3 : (zs.set (t + q) (loS s (wd xs t) + z)).getD (t + q + 1) 0 = 0 := by
    have := wd_set_ne zs (show t + q ≠ t + q + 1 by omega) (loS s (wd xs t) + z)
    exact this.trans hz1
  have e4 : zs.getD (t + q) 0 = z := hz
  rw [e3, Nat.mul_zero, Nat.add_zero] at e2
  rw [e4, Nat.mul_add] at e1
  rw [e2, valTo_wd, Nat.add_mul, ← hv]
  have e5 := congrArg (B64 ^ (t + q) * ·) (lohi (x := wd xs t) hs)
  simp only [Nat.mul_add] at e5
  have e6 : B64 ^ t * wd xs t * 2 ^ (64 * q + s) = B64 ^ (t + q) * (wd xs t * 2 ^ s) := by
    rw [pow_words, Nat.pow_add]
    simp only [Nat.mul_assoc, Nat.mul_left_comm]
  rw [e6, ← e5, Nat.pow_succ, Nat.mul_assoc]
  omega
/-! ### nat.Shl -/
theorem shl_step {zs z0 : List Nat} {t s : Nat} (hs : s ≤ 64) (hv : val (zs.drop (t + 1 + 1)) = val (z0.drop (t + 1 + 1)) * 2 ^ s + hiS s (wd z0 (t + 1))) (hl : t + 1 < zs.length) (hl0 : t + 1 < z0.length) :
    val ((zs.set (t + 1) (loS s (wd z0 (t + 1)) + hiS s (wd z0 t))).drop (t + 1)) = val (z0.drop (t + 1)) * 2 ^ s + hiS s (wd z0 t) := by
  have e : wd (zs.set (t + 1) (loS s (wd z0 (t + 1)) + hiS s (wd z0 t))) (t + 1) = loS s (wd z0 (t + 1)) + hiS s (wd z0 t) := by unfold wd; simp [List.getD_eq_getElem?_getD, hl]
  rw [val_drop (by rw [List.length_set]; exact hl), drop_set, hv, val_drop hl0, Nat.add_mul, e]
  have e5 := lohi (x := wd z0 (t + 1)) hs
  rw [Nat.mul_add, Nat.mul_assoc]
  omega
theorem shl_end {zs z0 : List Nat} {q s : Nat} (hs : s ≤ 64) (hv : val (zs.drop (q + 1)) = val (z0.drop (q + 1)) * 2 ^ s + hiS s (wd z0 q)) (hl : q < zs.length) (hl0 : q < z0.length) (hlow : ∀ j, j < q → wd zs j = 0) :
    val (zs.set q (loS s (wd z0 q))) = B64 ^ q * (val (z0.drop q) * 2 ^ s) := by
  have e : wd (zs.set q (loS s (wd z0 q))) q = loS s (wd z0 q) := by unfold wd; simp [List.getD_eq_getElem?_getD, hl]
  have h0 : val ((zs.set q (loS s (wd z0 q))).take q) = 0 := by
    refine val_zeros fun i hi => ?_
    rw [List.length_take] at hi
    have h1 := hlow i (by omega)
    have h2 : wd (zs.set q (loS s (wd z0 q))) i = wd zs i := wd_set_ne zs (by omega) _
    have h3 : ((zs.set q (loS s (wd z0 q))).take q).getD i 0 = (zs.set q (loS s (wd z0 q))).getD i 0 := by
      simp [List.getD_eq_getElem?_getD, show i < q by omega]
    rw [h3]
    exact h2.trans h1
  have e5 := lohi (x := wd z0 q) hs
  rw [val_take_drop _ q, h0, Nat.zero_add, List.length_set, Nat.min_eq_left (by omega), val_drop (by rw [List.length_set]; exact hl), drop_set, hv, e, val_drop hl0]
  congr 1
  rw [Nat.add_mul, Nat.mul_add, Nat.mul_assoc]
  omega
end Go.Proofs.Ythaplpenccpkpaa
