/- The contracts of Power at all inputs, the program's and the reference's; NatPowers: the walk over the law. -/
import Derived.Test.YthaplpenccpkpaaNatPowers
namespace Go.Proofs.Ythaplpenccpkpaa
open Go.RowKit
theorem natPower_calls (w : World) (b n : Int) (h0 : -9223372036854775808 ≤ n) (h1 : n ≤ 9223372036854775807) :
    Calls Try.prog 60 #[.int .i64 b, .int .i64 n] w (NatRes2 w (powVal b n) (n.toNat + 1) (.int .i64 (powErr b n))) := by
  unfold powVal powErr
  rcases pow_ways b n with ⟨e, h⟩ | ⟨⟨e, hn⟩, h⟩
  · rw [if_pos e, if_pos e]
    refine (powerNo_calls w b n h0 h1 h).mono ?_
    rintro e w' ⟨rfl, rfl⟩
    exact natRes2_nil _ _ _ (Below.refl _ _)
  · have ne : ¬ powOk b n = false := by rw [e]; decide
    rw [if_neg ne, if_neg ne]
    by_cases hb : 12000 < n
    · rw [if_pos hb, if_pos hb]
      refine (powerFar_calls w b n hb h1 h).mono ?_
      rintro e w' ⟨rfl, rfl⟩
      exact natRes2_nil _ _ _ (Below.refl _ _)
    · rw [if_neg hb, if_neg hb]
      obtain ⟨m, rfl⟩ : ∃ m : Nat, n = m := ⟨n.toNat, by omega⟩
      obtain ⟨c, rfl⟩ : ∃ c : Nat, b = c := ⟨b.toNat, by omega⟩
      rw [Int.toNat_natCast, Int.toNat_natCast]
      exact powerOk_calls w c m (by omega) (by omega)
set_option maxRecDepth 10000 in
set_option maxHeartbeats 2000000 in
theorem refPowerNo_calls (w : World) (b n : Int) (h0 : -9223372036854775808 ≤ n) (h1 : n ≤ 9223372036854775807) (h : n < 0 ∨ (b ≠ 2 ∧ b ≠ 5 ∧ b ≠ 10)) :
    Calls Try.prog 35 #[.int .i64 b, .int .i64 n] w fun e w' => e = .returned (.tuple #[.slice none 0 0, .int .i64 1]) ∧ w' = w := by
  by_cases hb : b ≠ 2 ∧ b ≠ 5 ∧ b ≠ 10
  · obtain ⟨b2, b5, b10⟩ := hb
    have e2 : (b == 2) = false := by simp; exact b2
    have e5 : (b == 5) = false := by simp; exact b5
    have e10 : (b == 10) = false := by simp; exact b10
    have f2 : (b != 2) = true := by simp; exact b2
    have f5 : (b != 5) = true := by simp; exact b5
    have f10 : (b != 10) = true := by simp; exact b10
    clear h b2 b5 b10
    go_enter Try.func35, Try.ntmps35
    go_wp2
    go_ret2
    exact ⟨rfl, rfl⟩
  · have hn : n < 0 := by omega
    clear h
    by_cases b2 : b = 2
    · subst b2
      go_enter Try.func35, Try.ntmps35
      go_wp2
      go_ret2
      exact ⟨rfl, rfl⟩
    · by_cases b5 : b = 5
      · subst b5
        go_enter Try.func35, Try.ntmps35
        go_wp2
        go_ret2
        exact ⟨rfl, rfl⟩
      · obtain rfl : b = 10 := by omega
        go_enter Try.func35, Try.ntmps35
        go_wp2
        go_ret2
        exact ⟨rfl, rfl⟩
set_option maxRecDepth 10000 in
set_option maxHeartbeats 2000000 in
theorem refPowerFar_calls (w : World) (b n : Int) (h0 : 12000 < n) (h1 : n ≤ 9223372036854775807) (h : b = 2 ∨ b = 5 ∨ b = 10) :
    Calls Try.prog 35 #[.int .i64 b, .int .i64 n] w fun e w' => e = .returned (.tuple #[.slice none 0 0, .int .i64 4]) ∧ w' = w := by
  rcases h with rfl | rfl | rfl
  · go_enter Try.func35, Try.ntmps35
    go_wp2
    go_ret2
    exact ⟨rfl, rfl⟩
  · go_enter Try.func35, Try.ntmps35
    go_wp2
    go_ret2
    exact ⟨rfl, rfl⟩
  · go_enter Try.func35, Try.ntmps35
    go_wp2
    go_ret2
    exact ⟨rfl, rfl⟩
set_option maxRecDepth 10000 in
set_option maxHeartbeats 2000000 in
theorem refPowerOk_calls (w : World) (b n : Nat) (hn : n ≤ 12000) (h : b = 2 ∨ b = 5 ∨ b = 10) :
    Calls Try.prog 35 #[.int .i64 (b : Nat), .int .i64 (n : Nat)] w (NatRes2 w (b ^ n) (n + 1) (.int .i64 0)) := by
  have H1 := Lib.hid (refPow_calls b (by rcases h with rfl | rfl | rfl <;> decide) (by omega) n (by omega) w)
  rcases h with rfl | rfl | rfl
  all_goals
    go_enter Try.func35, Try.ntmps35
    go_wp2_with fail
    refine H1.out.mono ?_
    rintro e w1 ⟨a1, c1, xs, rfl, r⟩
    have R := Lib.hid r
    clear r
    go_wp2
    go_ret2
    exact ⟨a1, c1, xs, rfl, R.out⟩
theorem refPower_calls (w : World) (b n : Int) (h0 : -9223372036854775808 ≤ n) (h1 : n ≤ 9223372036854775807) :
    Calls Try.prog 35 #[.int .i64 b, .int .i64 n] w (NatRes2 w (powVal b n) (n.toNat + 1) (.int .i64 (powErr b n))) := by
  unfold powVal powErr
  rcases pow_ways b n with ⟨e, h⟩ | ⟨⟨e, hn⟩, h⟩
  · rw [if_pos e, if_pos e]
    refine (refPowerNo_calls w b n h0 h1 h).mono ?_
    rintro e w' ⟨rfl, rfl⟩
    exact natRes2_nil _ _ _ (Below.refl _ _)
  · have ne : ¬ powOk b n = false := by rw [e]; decide
    rw [if_neg ne, if_neg ne]
    by_cases hb : 12000 < n
    · rw [if_pos hb, if_pos hb]
      refine (refPowerFar_calls w b n hb h1 h).mono ?_
      rintro e w' ⟨rfl, rfl⟩
      exact natRes2_nil _ _ _ (Below.refl _ _)
    · rw [if_neg hb, if_neg hb]
      obtain ⟨m, rfl⟩ : ∃ m : Nat, n = m := ⟨n.toNat, by omega⟩
      obtain ⟨c, rfl⟩ : ∃ c : Nat, b = c := ⟨b.toNat, by omega⟩
      rw [Int.toNat_natCast, Int.toNat_natCast]
      exact refPowerOk_calls w c m (by omega) (by omega)
end Go.Proofs.Ythaplpenccpkpaa
