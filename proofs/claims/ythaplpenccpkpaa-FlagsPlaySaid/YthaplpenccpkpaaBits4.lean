/- Plain facts on four flags: the operations on int and uint32 are those on four bits. No conditions. -/
import Derived.Test.YthaplpenccpkpaaBase
namespace Go.Proofs.Ythaplpenccpkpaa
open Go.RowKit
abbrev B4 := BitVec 4
def fl (n : Int) : B4 := BitVec.ofInt 4 n
/-- The number of four bits. -/
def num (a : B4) : Int := (a.toNat : Int)
theorem num_lt (a : B4) : 0 ≤ num a ∧ num a < 16 := by unfold num; have := a.isLt; omega
theorem wrap_small64 (n : Nat) (h : n < 16) : IntKind.wrap .i64 (n : Int) = n := by
  have : IntKind.wrap .i64 (n : Int) = if (true && decide ((n : Int) % 18446744073709551616 ≥ 9223372036854775808)) = true then (n : Int) % 18446744073709551616 - 18446744073709551616 else (n : Int) % 18446744073709551616 := rfl
  rw [this, show ((n : Int) % 18446744073709551616) = n by omega]
  simp; omega
theorem wrap_small32 (n : Nat) (h : n < 4294967296) : IntKind.wrap .u32 (n : Int) = n := by
  have : IntKind.wrap .u32 (n : Int) = if (false && decide ((n : Int) % 4294967296 ≥ 2147483648)) = true then (n : Int) % 4294967296 - 4294967296 else (n : Int) % 4294967296 := rfl
  rw [this]
  simp; omega
theorem ofInt_num (k : Nat) (a : B4) : BitVec.ofInt k (num a) = a.setWidth k := by
  unfold num
  rw [BitVec.ofInt_natCast]
  apply BitVec.eq_of_toNat_eq
  simp
theorem fl_num (a : B4) : fl (num a) = a := by
  unfold fl; rw [ofInt_num]; simp
theorem toNat_ofInt (k : Nat) (n : Int) : (BitVec.ofInt k n).toNat = (n % (2 ^ k : Int)).toNat := by simp [BitVec.toNat_ofInt]
theorem fl_setWidth (n : Int) : (BitVec.ofInt 64 n).setWidth 4 = fl n := by
  apply BitVec.eq_of_toNat_eq
  rw [BitVec.toNat_setWidth, fl, toNat_ofInt, toNat_ofInt]
  simp
  omega
theorem fl_setWidth32 (n : Int) : (BitVec.ofInt 32 n).setWidth 4 = fl n := by
  apply BitVec.eq_of_toNat_eq
  rw [BitVec.toNat_setWidth, fl, toNat_ofInt, toNat_ofInt]
  simp
  omega
theorem low4 (x : BitVec 64) (a : B4) : (a.setWidth 64 &&& x) = (a &&& x.setWidth 4).setWidth 64 := by
  ext i hi
  by_cases h : i < 4
  · simp [h, BitVec.getLsbD_eq_getElem hi]
  · simp [BitVec.getLsbD_of_ge a i (by omega)]
theorem toNat_set64 (a : B4) : (a.setWidth 64).toNat = a.toNat := by
  rw [BitVec.toNat_setWidth]; have := a.isLt; omega
theorem toNat_set32 (a : B4) : (a.setWidth 32).toNat = a.toNat := by
  rw [BitVec.toNat_setWidth]; have := a.isLt; omega
theorem num_def (a : B4) : IntKind.wrap .i64 ((a.setWidth 64).toNat : Int) = num a := by
  rw [toNat_set64, wrap_small64 _ a.isLt]; rfl
theorem num_def32 (a : B4) : IntKind.wrap .u32 ((a.setWidth 32).toNat : Int) = num a := by
  rw [toNat_set32, wrap_small32 _ (by have := a.isLt; omega)]; rfl
/-- a & n, of a number of four bits. -/
theorem and_num (a : B4) (n : Int) : bits .and .i64 (num a) n = num (a &&& fl n) := by
  show IntKind.wrap .i64 (((BitVec.ofInt 64 (num a)) &&& BitVec.ofInt 64 n).toNat : Int) = _
  rw [ofInt_num, low4, fl_setWidth, num_def]
theorem fl15 : fl 15 = BitVec.allOnes 4 := by decide
theorem num15 : (15 : Int) = num (BitVec.allOnes 4) := by decide
theorem and_comm64 (x y : Int) : bits .and .i64 x y = bits .and .i64 y x := by
  show IntKind.wrap .i64 _ = IntKind.wrap .i64 _
  rw [BitVec.and_comm]
theorem and15 (n : Int) : bits .and .i64 n 15 = num (fl n) := by
  rw [and_comm64, num15, and_num, BitVec.allOnes_and]
theorem or_num (a b : B4) : bits .or .i64 (num a) (num b) = num (a ||| b) := by
  show IntKind.wrap .i64 (((BitVec.ofInt 64 (num a)) ||| BitVec.ofInt 64 (num b)).toNat : Int) = _
  rw [ofInt_num, ofInt_num, ← BitVec.setWidth_or, num_def]
theorem or_num32 (a b : B4) : bits .or .u32 (num a) (num b) = num (a ||| b) := by
  show IntKind.wrap .u32 (((BitVec.ofInt 32 (num a)) ||| BitVec.ofInt 32 (num b)).toNat : Int) = _
  rw [ofInt_num, ofInt_num, ← BitVec.setWidth_or, num_def32]
theorem andNot_num (a : B4) (n : Int) : bits .andNot .i64 (num a) n = num (a &&& ~~~ fl n) := by
  show IntKind.wrap .i64 (((BitVec.ofInt 64 (num a)) &&& ~~~ BitVec.ofInt 64 n).toNat : Int) = _
  rw [ofInt_num, low4, show (~~~ BitVec.ofInt 64 n).setWidth 4 = ~~~ fl n from by rw [← fl_setWidth]; ext i hi; simp, num_def]
theorem and_num32 (a : B4) (x : Int) : bits .and .u32 (num a) x = num (a &&& fl x) := by
  show IntKind.wrap .u32 (((BitVec.ofInt 32 (num a)) &&& BitVec.ofInt 32 x).toNat : Int) = _
  rw [ofInt_num, show (a.setWidth 32 &&& BitVec.ofInt 32 x) = (a &&& (BitVec.ofInt 32 x).setWidth 4).setWidth 32 from by
    ext i hi
    by_cases h : i < 4
    · simp [h, BitVec.getLsbD_eq_getElem hi]
    · simp [BitVec.getLsbD_of_ge a i (by omega)], fl_setWidth32, num_def32]
theorem fl_wrap (n : Int) : fl (IntKind.wrap .i64 n) = fl n := by
  have : IntKind.wrap .i64 n = if (true && decide (n % 18446744073709551616 ≥ 9223372036854775808)) = true then n % 18446744073709551616 - 18446744073709551616 else n % 18446744073709551616 := rfl
  rw [this]
  apply BitVec.eq_of_toNat_eq
  unfold fl
  rw [toNat_ofInt, toNat_ofInt]
  simp only [Bool.true_and, decide_eq_true_eq]
  split <;> (congr 1; omega)
theorem fl_toNat (v : BitVec 64) : fl (v.toNat : Int) = v.setWidth 4 := by
  unfold fl
  rw [BitVec.ofInt_natCast]
  apply BitVec.eq_of_toNat_eq
  simp
theorem fl_andNot (x y : Int) : fl (bits .andNot .i64 x y) = fl x &&& ~~~ fl y := by
  show fl (IntKind.wrap .i64 (((BitVec.ofInt 64 x) &&& ~~~ BitVec.ofInt 64 y).toNat : Int)) = _
  rw [fl_wrap, fl_toNat, ← fl_setWidth, ← fl_setWidth]
  ext i hi; simp
theorem fl_and (x y : Int) : fl (bits .and .i64 x y) = fl x &&& fl y := by
  show fl (IntKind.wrap .i64 (((BitVec.ofInt 64 x) &&& BitVec.ofInt 64 y).toNat : Int)) = _
  rw [fl_wrap, fl_toNat, ← fl_setWidth, ← fl_setWidth]
  ext i hi; simp
theorem num_inj {a b : B4} (h : num a = num b) : a = b := by
  unfold num at h; exact BitVec.eq_of_toNat_eq (by omega)
theorem num_zero : num 0 = 0 := rfl
end Go.Proofs.Ythaplpenccpkpaa
