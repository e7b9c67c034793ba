/- The contracts of Power at all inputs, the program's and the reference's; NatPowers: the walk over the law. -/
import Derived.Test.YtoikoeileilegaaDoorNatPowers
namespace Go.Proofs.YtoikoeileilegaaDoor
open Go.RowKit
theorem natPower_calls (w : World) (b n : Int) (h0 : -9223372036854775808 ≤ n) (h1 : n ≤ 9223372036854775807) :
    Calls Tryd.prog 21 #[.int .i64 b, .int .i64 n] w (NatRes2 w (powVal b n) (n.toNat + 1) (.int .i64 (powErr b n))) := by
  unfold powVal powErr
  rcases pow_ways b n with ⟨e, h⟩ | ⟨⟨e, hn⟩, h⟩
  · rw [if_pos e, if_pos e]
    refine (powerNo_calls w b n h0 h1 h).mono ?_
    rintro e w' ⟨rfl, rfl⟩
    exact natRes2_nil _ _ _ (Below.refl _ _)
  · have ne : ¬ powOk b n = false := by rw [e]; decide
    rw [if_neg ne, if_neg ne]
    by_cases hb : 12000 < n
    · rw [if_pos hb, if_pos hb]
      refine (powerFar_calls w b n hb h1 h).mono ?_
      rintro e w' ⟨rfl, rfl⟩
      exact natRes2_nil _ _ _ (Below.refl _ _)
    · rw [if_neg hb, if_neg hb]
      obtain ⟨m, rfl⟩ : ∃ m : Nat, n = m := ⟨n.toNat, by omega⟩
      obtain ⟨c, rfl⟩ : ∃ c : Nat, b = c := ⟨b.toNat, by omega⟩
      rw [Int.toNat_natCast, Int.toNat_natCast]
      exact powerOk_calls w c m (by omega) (by omega)
set_option maxRecDepth 10000 in
set_option maxHeartbeats 2000000 in
theorem refPowerNo_calls (w : World) (b n : Int) (h0 : -9223372036854775808 ≤ n) (h1 : n ≤ 9223372036854775807) (h : n < 0 ∨ (b ≠ 2 ∧ b ≠ 5 ∧ b ≠ 10)) :
    Calls Tryd.prog 22 #[.int .i64 b, .int .i64 n] w fun e w' => e = .returned (.tuple #[.slice none 0 0, .int .i64 1]) ∧ w' = w := by
  by_cases hb : b ≠ 2 ∧ b ≠ 5 ∧ b ≠ 10
  · obtain ⟨b2, b5, b10⟩ := hb
    have e2 : (b == 2) = false := by simp; exact b2
    have e5 : (b == 5) = false := by simp; exact b5
    have e10 : (b == 10) = false := by simp; exact b10
    have f2 : (b != 2) = true := by simp; exact b2
    have f5 : (b != 5) = true := by simp; exact b5
    have f10 : (b != 10) = true := by simp; exact b10
    clear h b2 b5 b10
    go_enter Tryd.func22, Tryd.ntmps22
    go_wp2
    go_ret2
    exact ⟨rfl, rfl⟩
  · have hn : n < 0 := by omega
    clear h
    by_cases b2 : b = 2
    · subst b2
      go_enter Tryd.func22, Tryd.ntmps22
      go_wp2
      go_ret2
      exact ⟨rfl, rfl⟩
    · by_cases b5 : b = 5
      · subst b5
        go_enter Tryd.func22, Tryd.ntmps22
        go_wp2
        go_ret2
        exact ⟨rfl, rfl⟩
      · obtain rfl : b = 10 := by omega
        go_enter Tryd.func22, Tryd.ntmps22
        go_wp2
        go_ret2
        exact ⟨rfl, rfl⟩
set_option maxRecDepth 10000 in
set_option maxHeartbeats 2000000 in
theorem refPowerFar_calls (w : World) (b n : Int) (h0 : 12000 < n) (h1 : n ≤ 9223372036854775807) (h : b = 2 ∨ b = 5 ∨ b = 10) :
    Calls Tryd.prog 22 #[.int .i64 b, .int .i64 n] w fun e w' => e = .returned (.tuple #[.slice none 0 0, .int .i64 4]) ∧ w' = w := by
  rcases h with rfl | rfl | rfl
  · go_enter Tryd.func22, Tryd.ntmps22
    go_wp2
    go_ret2
    exact ⟨rfl, rfl⟩
  · go_enter Tryd.func22, Tryd.ntmps22
    go_wp2
    go_ret2
    exact ⟨rfl, rfl⟩
  · go_enter Tryd.func22, Tryd.ntmps22
    go_wp2
    go_ret2
    exact ⟨rfl, rfl⟩
set_option maxRecDepth 10000 in
set_option maxHeartbeats 2000000 in
theorem refPowerOk_calls (w : World) (b n : Nat) (hn : n ≤ 12000) (h : b = 2 ∨ b = 5 ∨ b = 10) :
    Calls Tryd.prog 22 #[.int .i64 (b : Nat), .int .i64 (n : Nat)] w (NatRes2 w (b ^ n) (n + 1) (.int .i64 0)) := by
  have H1 := Lib.hid (refPow_calls b (by rcases h with rfl | rfl | rfl <;> decide) (by omega) n (by omega) w)
  rcases h with rfl | rfl | rfl
  all_goals
    go_enter Tryd.func22, Tryd.ntmps22
    go_wp2_with fail
    refine H1.out.mono ?_
    rintro e w1 ⟨a1, c1, xs, rfl, r⟩
    have R := Lib.hid r
    clear r
    go_wp2
    go_ret2
    exact ⟨a1, c1, xs, rfl, R.out⟩
theorem refPower_calls (w : World) (b n : Int) (h0 : -9223372036854775808 ≤ n) (h1 : n ≤ 9223372036854775807) :
    Calls Tryd.prog 22 #[.int .i64 b, .int .i64 n] w (NatRes2 w (powVal b n) (n.toNat + 1) (.int .i64 (powErr b n))) := by
  unfold powVal powErr
  rcases pow_ways b n with ⟨e, h⟩ | ⟨⟨e, hn⟩, h⟩
  · rw [if_pos e, if_pos e]
    refine (refPowerNo_calls w b n h0 h1 h).mono ?_
    rintro e w' ⟨rfl, rfl⟩
    exact natRes2_nil _ _ _ (Below.refl _ _)
  · have ne : ¬ powOk b n = false := by rw [e]; decide
    rw [if_neg ne, if_neg ne]
    by_cases hb : 12000 < n
    · rw [if_pos hb, if_pos hb]
      refine (refPowerFar_calls w b n hb h1 h).mono ?_
      rintro e w' ⟨rfl, rfl⟩
      exact natRes2_nil _ _ _ (Below.refl _ _)
    · rw [if_neg hb, if_neg hb]
      obtain ⟨m, rfl⟩ : ∃ m : Nat, n = m := ⟨n.toNat, by omega⟩
      obtain ⟨c, rfl⟩ : ∃ c : Nat, b = c := ⟨b.toNat, by omega⟩
      rw [Int.toNat_natCast, Int.toNat_natCast]
      exact refPowerOk_calls w c m (by omega) (by omega)
set_option maxRecDepth 10000 in
set_option maxHeartbeats 2000000 in
theorem natPowers_calls (w : World) (b n : Int) (h0 : -9223372036854775808 ≤ n) (h1 : n ≤ 9223372036854775807) (htab : Tab10 w) :
    Calls Tryd.prog 6 #[.int .i64 b, .int .i64 n] w fun e w' => e = .returned (.bool true) ∧ Below w.heap.size w w' := by
  have HAW := Lib.hid (awake_calls w htab)
  clear htab
  obtain ⟨m, hm⟩ : ∃ m, (if 3000 < n ∧ n ≤ 12000 then n % 3000 else n) = m := ⟨_, rfl⟩
  have m0 : -9223372036854775808 ≤ m := by rw [← hm]; split <;> omega
  have m1 : m ≤ 9223372036854775807 := by rw [← hm]; split <;> omega
  have HM := Lib.hid hm
  have HM1 := Lib.hid (fun w => natPower_calls w b m m0 m1)
  have HM2 := Lib.hid (fun w => refPower_calls w b m m0 m1)
  generalize powVal b m = V at HM1 HM2
  generalize powErr b m = E at HM1 HM2
  clear hm
  go_enter Tryd.func6, Tryd.ntmps6
  go_wp2_with fail
  refine HAW.out.mono ?_
  rintro e w1 ⟨rfl, hb1⟩
  have HB1 := Lib.hid hb1
  clear hb1
  obtain ⟨cb, hcb⟩ : ∃ cb, decide (3000 < n ∧ n ≤ 12000) = cb := ⟨_, rfl⟩
  have HCB := Lib.hid hcb
  clear hcb
  go_upto_region 3 with fail
  go_cut [16] (fun s16 wx => s16 = .bool cb ∧ wx = w1)
  case first =>
    by_cases c1 : 3000 < n
    · by_cases c2 : n ≤ 12000
      · go_wp2
        go_meet
        exact ⟨by rw [← HCB.out, decide_eq_true (And.intro c1 c2)], rfl⟩
      · go_wp2
        go_meet
        exact ⟨by rw [← HCB.out, decide_eq_false (by omega)], rfl⟩
    · go_wp2
      go_meet
      exact ⟨by rw [← HCB.out, decide_eq_false (by omega)], rfl⟩
  case rest =>
  obtain ⟨rfl, rfl⟩ := hcut
  go_upto_if 16 with fail
  go_cut [1] (fun s1 wx => s1 = .int .i64 m ∧ wx = wc)
  case first =>
    cases cb with
    | true =>
      have hc := of_decide_eq_true HCB.out
      have e : Hid (n % 3000 = m) := Lib.hid (by rw [← HM.out, if_pos hc])
      have c1 := hc.1
      clear hc
      go_wp2
      go_meet
      exact ⟨by rw [e.out], rfl⟩
    | false =>
      have hc := of_decide_eq_false HCB.out
      have e : Hid (n = m) := Lib.hid (by rw [← HM.out, if_neg hc])
      clear hc
      go_wp2
      go_meet
      exact ⟨by rw [e.out], rfl⟩
  case rest =>
    obtain ⟨rfl, rfl⟩ := hcut
    go_wp2_with fail
    refine (HM1.out _).mono ?_
    rintro e w2 ⟨a1, c1, z1, rfl, r1, r2, r3, r4, r5⟩
    have R1 := Lib.hid (And.intro r1 (And.intro r2 (And.intro r3 r5)))
    clear r1 r2 r3 r4 r5
    go_wp2_with fail
    refine (HM2.out _).mono ?_
    rintro e w3 ⟨a2, c2, z2, rfl, r1, r2, r3, r4, r6⟩
    have HS1 := Lib.hid (same_calls w3 _ _ _ _ _ _ _ _ (R1.out.1.keep r6).sl r1.sl (by rw [R1.out.2.1, r2]) R1.out.2.2.1)
    have HBE := Lib.hid (below_then HB1.out (below_then R1.out.2.2.2 r6))
    clear r1 r2 r3 r4 r6
    go_wp2_with fail
    refine HS1.out.mono ?_
    rintro e w6 ⟨rfl, rfl⟩
    go_wp2
    go_ret
    exact ⟨rfl, HBE.out⟩
theorem natPowers_row (a0 a1 : Int) (W : World) (_ : (Lit.int .i64 a0).wf = true) (w1 : (Lit.int .i64 a1).wf = true) (hT : Tab10 W) :
    Calls Tryd.prog 6 #[.int .i64 a0, .int .i64 a1] W fun e w' => e = .returned (.bool true) ∧ Below W.heap.size W w' :=
  natPowers_calls W a0 a1 (wf_i64 w1).1 (wf_i64 w1).2 hT
end Go.Proofs.YtoikoeileilegaaDoor
