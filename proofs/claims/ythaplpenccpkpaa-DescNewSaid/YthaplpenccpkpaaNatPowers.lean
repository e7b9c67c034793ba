/- The contracts of nat.Power and the reference's Power; NatPowers: the walk over the law. -/
import Derived.Test.YthaplpenccpkpaaNatPow2
namespace Go.Proofs.Ythaplpenccpkpaa
open Go.RowKit
def powOk (b n : Int) : Bool := (b == 2 || b == 5 || b == 10) && decide (0 ≤ n)
def powErr (b n : Int) : Int := if powOk b n = false then 1 else if 12000 < n then 4 else 0
def powVal (b n : Int) : Nat := if powOk b n = false then 0 else if 12000 < n then 0 else b.toNat ^ n.toNat
/-- The three ways that Power goes: refused; too far; a power. -/
theorem pow_ways (b n : Int) : (powOk b n = false ∧ (n < 0 ∨ (b ≠ 2 ∧ b ≠ 5 ∧ b ≠ 10))) ∨ ((powOk b n = true ∧ 0 ≤ n) ∧ (b = 2 ∨ b = 5 ∨ b = 10)) := by
  unfold powOk
  by_cases h0 : 0 ≤ n <;> by_cases h1 : b = 2 <;> by_cases h2 : b = 5 <;> by_cases h3 : b = 10 <;> simp [*] <;> omega
theorem natRes2_nil (w : World) (bd : Nat) (v : Value) {w' : World} (h : Below w.heap.size w w') : NatRes2 w 0 bd v (.returned (.tuple #[.slice none 0 0, v])) w' := (natRes_nil bd h).two
theorem NatRes2.small {w w' : World} {n bd m : Nat} {v : Value} {e : Ending} (h : NatRes2 w n bd v e w') (hm : n < B64 ^ m) : NatRes2 w n m v e w' := by
  obtain ⟨a', c', zs, rfl, r1, r2, r3, r4, r5⟩ := h
  exact ⟨a', c', zs, rfl, r1, r2, r3, len_of_val r3 (by rw [r2]; exact hm), r5⟩
theorem five_words (n : Nat) : 5 ^ n < B64 ^ (n / 27 + 1) := by
  have h1 : (5 : Nat) ^ n ≤ 5 ^ (27 * (n / 27 + 1)) := Nat.pow_le_pow_right (by decide) (by omega)
  rw [Nat.pow_mul] at h1
  have h2 : ((5 : Nat) ^ 27) ^ (n / 27 + 1) < B64 ^ (n / 27 + 1) := Nat.pow_lt_pow_left (by decide) (by omega)
  exact Nat.lt_of_le_of_lt h1 h2
set_option maxRecDepth 10000 in
set_option maxHeartbeats 2000000 in
theorem powerNo_calls (w : World) (b n : Int) (h0 : -9223372036854775808 ≤ n) (h1 : n ≤ 9223372036854775807) (h : n < 0 ∨ (b ≠ 2 ∧ b ≠ 5 ∧ b ≠ 10)) :
    Calls Try.prog 60 #[.int .i64 b, .int .i64 n] w fun e w' => e = .returned (.tuple #[.slice none 0 0, .int .i64 1]) ∧ w' = w := by
  by_cases hb : b ≠ 2 ∧ b ≠ 5 ∧ b ≠ 10
  · obtain ⟨b2, b5, b10⟩ := hb
    have e2 : (b == 2) = false := by simp; exact b2
    have e5 : (b == 5) = false := by simp; exact b5
    have e10 : (b == 10) = false := by simp; exact b10
    have f2 : (b != 2) = true := by simp; exact b2
    have f5 : (b != 5) = true := by simp; exact b5
    have f10 : (b != 10) = true := by simp; exact b10
    clear h b2 b5 b10
    go_enter Try.func60, Try.ntmps60
    go_wp2
    go_ret2
    exact ⟨rfl, rfl⟩
  · have hn : n < 0 := by omega
    clear h
    by_cases b2 : b = 2
    · subst b2
      go_enter Try.func60, Try.ntmps60
      go_wp2
      go_ret2
      exact ⟨rfl, rfl⟩
    · by_cases b5 : b = 5
      · subst b5
        go_enter Try.func60, Try.ntmps60
        go_wp2
        go_ret2
        exact ⟨rfl, rfl⟩
      · obtain rfl : b = 10 := by omega
        go_enter Try.func60, Try.ntmps60
        go_wp2
        go_ret2
        exact ⟨rfl, rfl⟩
set_option maxRecDepth 10000 in
set_option maxHeartbeats 2000000 in
theorem powerFar_calls (w : World) (b n : Int) (h0 : 12000 < n) (h1 : n ≤ 9223372036854775807) (h : b = 2 ∨ b = 5 ∨ b = 10) :
    Calls Try.prog 60 #[.int .i64 b, .int .i64 n] w fun e w' => e = .returned (.tuple #[.slice none 0 0, .int .i64 4]) ∧ w' = w := by
  rcases h with rfl | rfl | rfl
  · go_enter Try.func60, Try.ntmps60
    go_wp2
    go_ret2
    exact ⟨rfl, rfl⟩
  · go_enter Try.func60, Try.ntmps60
    go_wp2
    go_ret2
    exact ⟨rfl, rfl⟩
  · go_enter Try.func60, Try.ntmps60
    go_wp2
    go_ret2
    exact ⟨rfl, rfl⟩
theorem shlOk_err {xs : List Nat} {m : Nat} (h : sz xs + (m + 63) / 64 ≤ 2000) : shlErr (sz xs) (m : Int) = 0 ∧ shlVal xs (m : Int) = val xs * 2 ^ m := by
  unfold shlErr shlVal
  rw [if_neg (by omega), if_neg (by omega), if_neg (by omega), if_neg (by rw [Int.toNat_natCast]; omega), Int.toNat_natCast]
  exact ⟨rfl, rfl⟩
set_option maxRecDepth 10000 in
set_option maxHeartbeats 2000000 in
theorem powerOk_calls (w : World) (b n : Nat) (hn : n ≤ 12000) (h : b = 2 ∨ b = 5 ∨ b = 10) :
    Calls Try.prog 60 #[.int .i64 (b : Nat), .int .i64 (n : Nat)] w (NatRes2 w (b ^ n) (n + 1) (.int .i64 0)) := by
  have HC := Lib.hid (pow_lt_words (b := b) (by rcases h with rfl | rfl | rfl <;> decide) n)
  rcases h with rfl | rfl | rfl
  · have H1 := Lib.hid (natOf_calls w 1 (by decide))
    go_enter Try.func60, Try.ntmps60
    go_wp2_with fail
    refine H1.out.mono ?_
    rintro e w1 ⟨a1, c1, xs, rfl, r1, r2, r3, r4, r5⟩
    have HB1 := Lib.hid r5
    have HS := Lib.hid ((shl_ok w1 a1 _ c1 xs n r1.sl (by rw [r3]; omega)).mono fun e w' hh => by rw [r2, Nat.one_mul] at hh; exact natRes2_trans (w := w) r5 (hh.small HC.out))
    clear r1 r2 r3 r4 r5
    go_wp2_with fail
    refine HS.out.mono ?_
    rintro e w3 ⟨a', c', rs, rfl, r⟩
    have R := Lib.hid r
    clear r
    go_wp2
    go_ret2
    exact ⟨a', c', rs, rfl, R.out⟩
  · have H1 := Lib.hid (power_calls 5 (by decide) n n w (Nat.le_refl _) (by omega))
    go_enter Try.func60, Try.ntmps60
    go_wp2_with fail
    refine H1.out.mono ?_
    rintro e w1 hr
    obtain ⟨a1, c1, xs, rfl, r⟩ := hr.small HC.out
    have R := Lib.hid r
    clear r hr
    go_wp2
    go_ret2
    exact ⟨a1, c1, xs, rfl, R.out⟩
  · have H1 := Lib.hid (power_calls 5 (by decide) n n w (Nat.le_refl _) (by omega))
    have H5 := Lib.hid (five_words n)
    have HM : Hid (5 ^ n * 2 ^ n = 10 ^ n) := Lib.hid (by rw [← Nat.mul_pow])
    go_enter Try.func60, Try.ntmps60
    go_wp2_with fail
    refine H1.out.mono ?_
    rintro e w1 hr
    obtain ⟨a1, c1, xs, rfl, r1, r2, r3, r4, r5⟩ := hr.small H5.out
    have HB1 := Lib.hid r5
    have HS := Lib.hid ((shl_ok w1 a1 _ c1 xs n r1.sl (by rw [r3]; omega)).mono fun e w' hh => by rw [r2, HM.out] at hh; exact natRes2_trans (w := w) r5 (hh.small HC.out))
    clear r1 r2 r3 r4 r5 hr
    go_wp2_with fail
    refine HS.out.mono ?_
    rintro e w3 ⟨a', c', rs, rfl, r⟩
    have R := Lib.hid r
    clear r
    go_wp2
    go_ret2
    exact ⟨a', c', rs, rfl, R.out⟩
end Go.Proofs.Ythaplpenccpkpaa
