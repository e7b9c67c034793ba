/- DescPowers: the walk over the law. -/
import Derived.Test.YthaplpenccpkpaaDescPow
import Derived.Deep.RegionHeld3
import Derived.Deep.DeepCutAuto
namespace Go.Proofs.Ythaplpenccpkpaa
open Go.RowKit
theorem same_true (w : World) (a b : Option Addr) (la ca lb cb : Nat) (xs ys : List Nat) (ha : SlW w a la ca xs) (hb : SlW w b lb cb ys) (hv : val xs = val ys) :
    Calls Try.prog 36 #[.slice a la ca, .slice b lb cb] w fun e w' => e = .returned (.bool true) ∧ w = w' := by
  have h := refSame_calls w a b la ca lb cb xs ys ha hb
  rw [decide_eq_true hv] at h
  exact h
set_option maxRecDepth 100000 in
set_option maxHeartbeats 4000000 in
theorem powers_yes (w : World) (k : Nat) (n : Int) (k1 : 1 ≤ k) (k2 : k ≤ 12) (h0 : -9223372036854775808 ≤ n) (h1 : n ≤ 9223372036854775807) :
    Calls Try.prog 11 #[.int .i64 (k : Nat), .int .i64 n] w fun e w' => e = .returned (.bool true) ∧ Below w.heap.size w w' := by
  obtain ⟨p, bb, tb, hp, hbb, hbt, htb, c2, c4, hnew⟩ := fmt_says k k1 k2
  have HNEW := Lib.hid hnew
  have HBB := Lib.hid hbb
  have HBT := Lib.hid hbt
  have HTB := Lib.hid htb
  have HC2 := Lib.hid c2
  have HC4 := Lib.hid c4
  clear hnew hbb hbt htb c2 c4
  obtain ⟨m, hm⟩ : ∃ m, (if 1000 < n ∧ n ≤ 12000 then n % 1000 else n) = m := ⟨_, rfl⟩
  have m0 : -9223372036854775808 ≤ m := by rw [← hm]; split <;> omega
  have m1 : m ≤ 9223372036854775807 := by rw [← hm]; split <;> omega
  have HM := Lib.hid hm
  clear hm
  go_enter Try.func11, Try.ntmps11
  go_wp2_with fail
  refine (awake04_calls _).mono ?_
  rintro e w1 ⟨rfl, hb1⟩
  have HB1 := Lib.hid hb1
  clear hb1
  obtain ⟨cb, hcb⟩ : ∃ cb, decide (1000 < n ∧ n ≤ 12000) = cb := ⟨_, rfl⟩
  have HCB := Lib.hid hcb
  clear hcb
  go_upto_region 3 with fail
  go_cut [20] (fun s20 wx => s20 = .bool cb ∧ wx = w1)
  case first =>
    by_cases c1 : 1000 < n
    · by_cases c2 : n ≤ 12000
      · go_wp2
        go_meet
        exact ⟨by rw [← HCB.out, decide_eq_true (And.intro c1 c2)], rfl⟩
      · go_wp2
        go_meet
        exact ⟨by rw [← HCB.out, decide_eq_false (by omega)], rfl⟩
    · go_wp2
      go_meet
      exact ⟨by rw [← HCB.out, decide_eq_false (by omega)], rfl⟩
  case rest =>
  obtain ⟨rfl, rfl⟩ := hcut
  go_upto_if 20 with fail
  go_cut [1] (fun s1 wx => s1 = .int .i64 m ∧ wx = wc)
  case first =>
    cases cb with
    | true =>
      have hc := of_decide_eq_true HCB.out
      have e : Hid (n % 1000 = m) := Lib.hid (by rw [← HM.out, if_pos hc])
      have c1 := hc.1
      clear hc
      go_wp2
      go_meet
      exact ⟨by rw [e.out], rfl⟩
    | false =>
      have hc := of_decide_eq_false HCB.out
      have e : Hid (n = m) := Lib.hid (by rw [← HM.out, if_neg hc])
      clear hc
      go_wp2
      go_meet
      exact ⟨by rw [e.out], rfl⟩
  case rest =>
    obtain ⟨rfl, rfl⟩ := hcut
    go_wp2_with fail
    refine (HNEW.out _).mono ?_
    rintro e w2 ⟨g, rfl, hg, hN, hb2⟩
    have HB2 := Lib.hid (below_then HB1.out hb2)
    have HN := Lib.hid hN
    have hg0 : w.heap.size ≤ g := Nat.le_trans HB1.out.size hg
    clear hN hb2 HB1
    go_wp2_with fail
    refine (refOf_calls _ _ (by omega) (by omega)).mono ?_
    rintro e w3 ⟨rfl, hb3⟩
    have HB3 := Lib.hid (below_then HB2.out hb3)
    have HN3 : Hid (PowNew w3 g (if tb then 10 else 5) p) := Lib.hid (below_heap hb3 HN.out)
    clear hb3 HN HB2
    obtain ⟨b0, hb0⟩ : ∃ b0 : Nat, (if tb then 10 else 5) = b0 := ⟨_, rfl⟩
    have HB0 := Lib.hid hb0
    rw [hb0] at HN3
    clear hb0
    obtain ⟨c0, hc0⟩ : ∃ c0 : Bool, (((bb : Nat) : Int) == 10) = c0 := ⟨_, rfl⟩
    have HC0 := Lib.hid hc0
    go_upto_if 36 with (first | ((with_reducible refine gate_store 28 ?_); refine st_box 28 28 HB3.out Try.sizeRefInfo (fun W4 hB4 hk4 hX4 => ?_) (hn := rfl) (h1 := by simp [infF, Value.oneCell']); have q2 : W4.cell? ⟨w3.heap.size, 2, none⟩ = some (.int .i64 (bb : Nat)) := (cell_of_heap hX4 2).trans HC2.out; have HN4 := Lib.hid (below_heap hk4 HN3.out); have HX4 := Lib.hid hX4; have HB4 := Lib.hid hB4; clear hX4 hB4 hk4 HB3 HN3) | fail)
    go_cut [8] (fun s8 wx => s8 = .int .i64 (b0 : Nat) ∧ wx = W4)
    case first =>
      have e : c0 = tb := HC0.out.symm.trans HTB.out
      subst e
      have e0 := HB0.out
      clear hc0
      cases c0
      · go_wp2
        go_meet
        exact ⟨by rw [← HB0.out]; rfl, rfl⟩
      · go_wp2
        go_meet
        exact ⟨by rw [← HB0.out]; rfl, rfl⟩
    case rest =>
    obtain ⟨rfl, rfl⟩ := hcut
    have HPW := Lib.hid (power_any w.heap.size wc g b0 p bb (by rw [← HB0.out]; split <;> decide) m m0 m1 (fun w' => Below w.heap.size w w' ∧ KeepsT wc w' 28) (make_first _ (by decide) (by decide) w wc g _ p _ tb (by rw [← HB0.out]; split <;> decide) (by rw [← HB0.out]; cases tb <;> rfl) HBT.out hp HB4.out hg0 HN4.out))
    have HX := Lib.hid HX4.out
    have HB5 : b0 = 5 ∨ b0 = 10 := by rw [← HB0.out]; split <;> decide
    have HRP := Lib.hid (fun w => refPower_calls w b0 m m0 m1)
    have HGR := Lib.hid (fun B w w1 hm hb => greatest_made B w w1 g b0 p bb hm hb)
    have HRW := Lib.hid (fun w => refPow4_calls bb p HBB.out hp w)
    have HBP : Hid (1 ≤ bb ^ p) := Lib.hid (Nat.pow_pos (by rcases HBB.out with h | h <;> omega))
    clear HN4 HX4 hc0 HB0 HC0 HTB HBT HB5
    generalize powVal b0 m = V at HPW HRP
    generalize powErr b0 m = E at HPW HRP
    go_wp2_with fail
    refine HPW.out.mono ?_
    rintro e w5 ⟨wm, hpm, ⟨hbm, hkm⟩, a1, cp1, z1, rfl, r1, r2, r3, r4, r5⟩
    have R1 := Lib.hid (And.intro r1 (And.intro r2 (And.intro r4 r5)))
    have HPM := Lib.hid (hpm.keep r5)
    have HX5 := Lib.hid (below_heap r5 (hkm _ _ _ HX.out))
    have HB5 := Lib.hid (below_then hbm r5)
    clear r1 r2 r3 r4 r5 hpm hbm hkm HPW HX
    go_wp2_with fail
    refine (HRP.out _).mono ?_
    rintro e w6 ⟨a2, cp2, z2, rfl, r1, r2, r3, r4, r6⟩
    have HS1 : Hid (∀ w', Below w6.heap.size w6 w' → Calls Try.prog 36 #[.slice a1 z1.length cp1, .slice a2 z2.length cp2] w' fun e w'' => e = .returned (.bool true) ∧ w' = w'') := Lib.hid (fun w' hb => by
      have := refSame_calls w' a1 a2 _ cp1 _ cp2 z1 z2 ((R1.out.1.keep r6).keep hb).sl (r1.keep hb).sl
      rw [R1.out.2.1, r2, decide_eq_true rfl] at this
      exact this)
    have HPM6 := Lib.hid (HPM.out.keep r6)
    have HB6 := Lib.hid (below_then HB5.out r6)
    have HX6 := Lib.hid (below_heap r6 HX5.out)
    have q2 := (cell_of_heap HX6.out 2).trans HC2.out
    have q4 := (cell_of_heap HX6.out 4).trans HC4.out
    obtain ⟨gx, hgx⟩ : ∃ gx, w3.heap.size = gx := ⟨_, rfl⟩
    have hEE : (E == E) = true := by simp
    generalize z1.length = l1 at HS1 ⊢
    generalize z2.length = l2 at HS1 ⊢
    clear r1 r2 r3 r4 r6 R1 HPM HB5 HX5 HX6 HRP HC2 HC4
    rw [hgx] at q2 q4 ⊢
    clear hgx
    have hB6 := (Below.refl w6.heap.size w6).drew
    have HGA := Lib.hid (fun w' hb => HGR.out w.heap.size w6 w' HPM6.out hb)
    clear HGR
    go_wp2_with fail
    go_region_held3 (fun w' => w'.cell? ⟨gx, 2, none⟩ = some (.int .i64 (bb : Nat)) ∧ w'.cell? ⟨gx, 4, none⟩ = some (.int .i64 (p : Nat)) ∧ Below w6.heap.size w6 w')
      (first | exact ⟨q2, q4, hB6⟩ | exact keepB2 (by assumption) hb | exact keepB2 (by assumption) ((Below.refl _ _).alloc (Nat.le_refl _) _) | assumption)
      (first
        | (go_at_call 36; refine (same_true _ a3 a5 _ cp3 _ cp5 z3 z5 (by first | exact (((HG.out.1.keep HW.out.2.2).keep ((Below.refl _ _).alloc (Nat.le_refl _) _)).keep HL.out.2.2).sl | exact (((HG.out.1.keep ((Below.refl _ _).alloc (Nat.le_refl _) _)).keep HW.out.2.2).keep HL.out.2.2).sl | exact ((HG.out.1.keep HW.out.2.2).keep HL.out.2.2).sl) HL.out.1.sl (by rw [HG.out.2.1, HL.out.2.1, HW.out.2.1]; rfl)).mono ?_; rintro e w' ⟨rfl, rfl⟩)
        | (go_at_call 36; refine (HS1.out _ (by exact (‹_ ∧ _ ∧ Below w6.heap.size w6 _›).2.2)).mono ?_; rintro e w' ⟨rfl, rfl⟩)
        | (go_at_call 37; refine (HGA.out _ (by exact (‹_ ∧ _ ∧ Below w6.heap.size w6 _›).2.2)).mono ?_; rintro e w7 ⟨a3, cp3, z3, rfl, g1, g2, g3, g4, hb⟩; have HG := Lib.hid (And.intro g1 (And.intro g2 hb)); clear g1 g2 g3)
        | (go_at_call 39; refine (HRW.out _).mono ?_; rintro e w8 ⟨a4, cp4, z4, rfl, g1, g2, g3, g4, hb⟩; have HW := Lib.hid (And.intro g1 (And.intro g2 hb)); clear g1 g2 g3)
        | (go_at_call 38; refine (refLess_calls _ a4 _ _ cp4 1 1 z4 [1] (by first | exact (HW.out.1.keep ((Below.refl _ _).alloc (Nat.le_refl _) _)).sl | exact HW.out.1.sl) (one_sl (by first | exact heap_new _ _ | exact below_heap HW.out.2.2 (heap_new _ _) | exact below_heap HW.out.2.2 (below_heap HG.out.2.2 (heap_new _ _)))) (by omega) (by decide) (by rw [HW.out.2.1]; exact HBP.out)).mono ?_; rintro e w9 ⟨a5, cp5, z5, rfl, g1, g2, g3, g5, hb⟩; have HL := Lib.hid (And.intro g1 (And.intro g2 hb)); clear g1 g2 g3))
    all_goals
      have HF := Lib.hid (‹_ ∧ _ ∧ Below w6.heap.size w6 _›).2.2
      go_wp2
      go_ret
      exact ⟨rfl, below_then HB6.out HF.out⟩
set_option maxRecDepth 100000 in
set_option maxHeartbeats 4000000 in
theorem powers_no (w : World) (k n : Int) (hk : k < 1 ∨ 12 < k) (h0 : -9223372036854775808 ≤ n) (h1 : n ≤ 9223372036854775807) :
    Calls Try.prog 11 #[.int .i64 k, .int .i64 n] w fun e w' => e = .returned (.bool true) ∧ Below w.heap.size w w' := by
  have HNO := Lib.hid (fun w => newPowers_none k w hk)
  have HRO := Lib.hid (fun w => refOf_none k w hk)
  clear hk
  obtain ⟨cb, hcb⟩ : ∃ cb, decide (1000 < n ∧ n ≤ 12000) = cb := ⟨_, rfl⟩
  have HCB := Lib.hid hcb
  clear hcb
  go_enter Try.func11, Try.ntmps11
  go_wp2_with fail
  refine (awake04_calls _).mono ?_
  rintro e w1 ⟨rfl, hb1⟩
  have HB1 := Lib.hid hb1
  clear hb1
  go_upto_region 3 with fail
  go_cut [20] (fun s20 wx => s20 = .bool cb ∧ wx = w1)
  case first =>
    by_cases c1 : 1000 < n
    · by_cases c2 : n ≤ 12000
      · go_wp2
        go_meet
        exact ⟨by rw [← HCB.out, decide_eq_true (And.intro c1 c2)], rfl⟩
      · go_wp2
        go_meet
        exact ⟨by rw [← HCB.out, decide_eq_false (by omega)], rfl⟩
    · go_wp2
      go_meet
      exact ⟨by rw [← HCB.out, decide_eq_false (by omega)], rfl⟩
  case rest =>
  obtain ⟨rfl, rfl⟩ := hcut
  go_upto_if 20 with fail
  go_cut [1] (fun s1 wx => (∃ m : Int, s1 = .int .i64 m) ∧ wx = wc)
  case first =>
    cases cb with
    | true =>
      have hc := (of_decide_eq_true HCB.out).1
      go_wp2
      go_meet
      exact ⟨⟨_, rfl⟩, rfl⟩
    | false =>
      go_wp2
      go_meet
      exact ⟨⟨_, rfl⟩, rfl⟩
  case rest =>
    obtain ⟨⟨m, rfl⟩, rfl⟩ := hcut
    go_wp2_with fail
    refine (HNO.out _).mono ?_
    rintro e w2 ⟨rfl, hb2⟩
    have HB2 := Lib.hid (below_then HB1.out hb2)
    clear hb2 HB1
    go_wp2_with fail
    refine (HRO.out _).mono ?_
    rintro e w3 ⟨rfl, hb3⟩
    have HB3 := Lib.hid (below_then HB2.out hb3)
    clear hb3 HB2
    go_wp2_with (first | ((with_reducible refine gate_store 28 ?_); refine st_box 28 28 HB3.out Try.sizeRefInfo (fun W4 hB4 hk4 hX4 => ?_) (hn := rfl) (h1 := by simp [inf0, Value.oneCell']); have HB4 := Lib.hid hB4; clear hX4 hB4 hk4 HB3) | fail)
    go_ret
    exact ⟨rfl, HB4.out⟩
theorem descPowers_row (k n : Int) (w : World) (_ : (Lit.int .i64 k).wf = true) (hn : (Lit.int .i64 n).wf = true) :
    Calls Try.prog 11 #[.int .i64 k, .int .i64 n] w fun e w' => e = .returned (.bool true) ∧ Below w.heap.size w w' := by
  by_cases hk : 1 ≤ k ∧ k ≤ 12
  · obtain ⟨j, rfl⟩ : ∃ j : Nat, k = j := ⟨k.toNat, by omega⟩
    exact powers_yes w j n (by omega) (by omega) (wf_i64 hn).1 (wf_i64 hn).2
  · exact powers_no w k n (by omega) (wf_i64 hn).1 (wf_i64 hn).2
end Go.Proofs.Ythaplpenccpkpaa
