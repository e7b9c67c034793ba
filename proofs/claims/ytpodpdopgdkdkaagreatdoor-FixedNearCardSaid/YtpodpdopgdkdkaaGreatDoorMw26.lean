/- The reference's power, Scale, Tens, q2, Whole, Direction. · The reference's Scale at 2 and 10; Tens. · The reference's q2, Whole: the whole number that a direction takes. -/
import Derived.Test.YtpodpdopgdkdkaaGreatDoorMw23
set_option linter.unusedVariables false
set_option linter.unusedSimpArgs false
namespace Go.Proofs.YtpodpdopgdkdkaaGreatDoor
set_option linter.unusedVariables false
set_option linter.unusedSimpArgs false
open Go.RowKit
theorem one_at (w : World) : NatAt (w.alloc (.cells #[.int .u64 1] 22)) 1 (.slice (some ⟨w.heap.size, 0, none⟩) 1 1) :=
  ⟨_, 1, [1], rfl, (one_own (B := w.heap.size) w (n := 1) (by decide) rfl (Nat.le_refl _)).sl, rfl, rfl, .inr ⟨_, _, rfl⟩⟩
set_option maxRecDepth 100000 in
set_option maxHeartbeats 1000000 in
theorem direction_calls (w : World) (d : Int) : Calls Tryz.prog 21 #[.int .i64 d] w fun e w' => e = .returned (.bool (decide (0 ≤ d ∧ d ≤ 4))) ∧ w' = w := by
  by_cases h0 : 0 ≤ d
  · by_cases h4 : d ≤ 4
    · rw [decide_eq_true (show 0 ≤ d ∧ d ≤ 4 from ⟨h0, h4⟩)]
      go_enter Tryz.func21, Tryz.ntmps21
      go_wp2
      go_ret
      exact ⟨rfl, rfl⟩
    · have h4' : 4 < d := by omega
      rw [decide_eq_false (show ¬ (0 ≤ d ∧ d ≤ 4) from fun h => h4 h.2)]
      go_enter Tryz.func21, Tryz.ntmps21
      go_wp2
      go_ret
      exact ⟨rfl, rfl⟩
  · have h0' : d < 0 := by omega
    rw [decide_eq_false (show ¬ (0 ≤ d ∧ d ≤ 4) from fun h => h0 h.1)]
    go_enter Tryz.func21, Tryz.ntmps21
    go_wp2
    go_ret
    exact ⟨rfl, rfl⟩
set_option maxRecDepth 100000 in
set_option maxHeartbeats 1000000 in
theorem power10_calls (w : World) (n : Nat) (hn : n ≤ 100000) : Calls Tryz.prog 50 #[.int .u64 10, .int .i64 (n : Nat)] w (NatOne w (10 ^ n)) := by
  have HP := Lib.hid (refPow_at w 10 (by decide) (by decide) n (by omega))
  go_enter Tryz.func50, Tryz.ntmps50
  go_wp2_with fail
  refine HP.out.mono ?_
  rintro e w1 ⟨u, rfl, hu, hb1⟩
  have HU := Lib.hid hu
  have HB1 := Lib.hid hb1
  clear hu hb1
  go_wp2
  go_ret
  exact ⟨_, rfl, HU.out, HB1.out⟩
set_option maxRecDepth 100000 in
set_option maxHeartbeats 1000000 in
theorem power2_calls (w : World) (n : Nat) (hn : n ≤ 100000) : Calls Tryz.prog 50 #[.int .u64 2, .int .i64 (n : Nat)] w (NatOne w (2 ^ n)) := by
  have HP := Lib.hid (refLeft_at (w.alloc (.cells #[.int .u64 1] 22)) n (one_at w) (show 1 < B64 ^ 1 by decide) (by omega) (by omega))
  rw [Nat.one_mul] at HP
  go_enter Tryz.func50, Tryz.ntmps50
  go_wp2_with fail
  refine HP.out.mono ?_
  rintro e w1 ⟨u, rfl, hu, hb1⟩
  have HU := Lib.hid hu
  have HB1 := Lib.hid (below_then (below_alloc (Below.refl _ _) _) hb1)
  clear hu hb1
  go_wp2
  go_ret
  exact ⟨_, rfl, HU.out, HB1.out⟩
/-- A fraction times a power of a base. -/
def sbN (b A : Nat) (e : Int) : Nat := A * b ^ e.toNat
def sbD (b D : Nat) (e : Int) : Nat := D * b ^ (-e).toNat
theorem cmp_tens {A D : Nat} (e : Int) : (le10 A D e → ∃ x, cmpI (scN A (-e)) (scD D (-e)) = x ∧ 0 ≤ x) ∧ (¬ le10 A D e → cmpI (scN A (-e)) (scD D (-e)) = -1) := by
  constructor
  · intro h
    have := sc_le.2 h
    refine ⟨_, rfl, ?_⟩
    unfold cmpI
    rw [if_neg (by omega)]
    split <;> omega
  · intro h
    have : ¬ scD D (-e) ≤ scN A (-e) := fun k => h (sc_le.1 k)
    exact cmpI_lt (by omega)
theorem tdiv_far5 {x : Int} (h0 : -577977600 ≤ x) (h1 : x ≤ 577977600) : -5800 ≤ x.tdiv 100000 ∧ x.tdiv 100000 ≤ 5800 := by
  have h : (x.tdiv 100000).natAbs = x.natAbs / (100000 : Int).natAbs := Int.natAbs_tdiv x 100000
  have h2 : x.natAbs / 100000 ≤ 5800 := by omega
  have h3 : (100000 : Int).natAbs = 100000 := rfl
  rw [h3] at h
  generalize x.tdiv 100000 = y at h ⊢
  omega
set_option maxRecDepth 100000 in
set_option maxHeartbeats 2000000 in
theorem rscale_any (w : World) {s t : Value} {A D k b : Nat} (e : Int) (hs : NatAt w A s) (ht : NatAt w D t) (hA : A < B64 ^ k) (hD : D < B64 ^ k) (hk : k ≤ 2000) (h0 : -20000 ≤ e) (h1 : e ≤ 20000)
    (hb : b = 2 ∨ b = 10) (hP : ∀ (W : World) (n : Nat), n ≤ 100000 → Calls Tryz.prog 50 #[.int .u64 (b : Nat), .int .i64 (n : Nat)] W (NatOne W (b ^ n))) :
    Calls Tryz.prog 18 #[s, t, .int .u64 (b : Nat), .int .i64 e] w (NatTwo w (sbN b A e) (sbD b D e)) := by
  have HS := Lib.hid hs
  have HT := Lib.hid ht
  have HA := Lib.hid hA
  have HD := Lib.hid hD
  have HP := Lib.hid hP
  have hpw0 : ∀ n, n ≤ 20000 → ∃ l, l ≤ 100000 ∧ b ^ n < B64 ^ l := fun n hn => ⟨n + 1, by omega, pow_lt_words (b := b) (by rcases hb with rfl | rfl <;> decide) n⟩
  have HPW := Lib.hid hpw0
  clear hs ht hA hD hP hpw0
  rcases hb with rfl | rfl
  · by_cases hp : 0 ≤ e
    · obtain ⟨n, rfl⟩ : ∃ n : Nat, e = (n : Int) := ⟨e.toNat, by omega⟩
      obtain ⟨q2, hq2⟩ : ∃ q : Int, q = 200000 := ⟨_, rfl⟩
      obtain ⟨q6, hq6⟩ : ∃ q : Int, q = 60000 := ⟨_, rfl⟩
      have hmx : max (n : Int) (-q2) = (n : Int) := by omega
      have hmn : min (n : Int) q2 = (n : Int) := by omega
      have hq2a : 0 ≤ q2 := by omega
      have hq2b : q2 ≤ 1000000 := by omega
      have hq6a : 0 ≤ q6 := by omega
      have hq6b : q6 ≤ 1000000 := by omega
      have HQ2 := Lib.hid hq2
      have HQ6 := Lib.hid hq6
      obtain ⟨l, hl, hpw⟩ := HPW.out n (by omega)
      have HPP := Lib.hid (HP.out w n (by omega))
      have HLW := Lib.hid hpw
      clear hpw HPW hq2 hq6
      go_enter Tryz.func18, Tryz.ntmps18
      rw [← HQ2.out, ← HQ6.out]
      go_wp2_with fail
      refine HPP.out.mono ?_
      rintro e w1 ⟨u, rfl, hu, hb1⟩
      have HM := Lib.hid (times_at w1 (HS.out.below hb1) hu HA.out HLW.out (by omega) (by omega))
      have HO1 := Lib.hid (HT.out.below hb1)
      have HB1 := Lib.hid hb1
      clear hu hb1
      go_wp2_with fail
      refine HM.out.mono ?_
      rintro e w2 ⟨v, rfl, hv, hb2⟩
      have HV := Lib.hid hv
      have HO2 := Lib.hid (HO1.out.below hb2)
      have HB2 := Lib.hid (below_then HB1.out hb2)
      clear hv hb2
      go_wp2
      go_ret2
      refine ⟨_, _, rfl, ?_, ?_, HB2.out⟩
      · have := HV.out; unfold sbN; rw [Int.toNat_natCast]; exact this
      · unfold sbD; rw [show (-(n : Int)).toNat = 0 by omega, Nat.pow_zero, Nat.mul_one]; exact HO2.out
    · obtain ⟨n, hn⟩ : ∃ n : Nat, (n : Int) = -e := ⟨(-e).toNat, by omega⟩
      have hlt : e < 0 := by omega
      clear hp
      obtain ⟨q2, hq2⟩ : ∃ q : Int, q = 200000 := ⟨_, rfl⟩
      obtain ⟨q6, hq6⟩ : ∃ q : Int, q = 60000 := ⟨_, rfl⟩
      have hmx : max e (-q2) = e := by omega
      have hmn : min e q2 = e := by omega
      have hq2a : 0 ≤ q2 := by omega
      have hq2b : q2 ≤ 1000000 := by omega
      have hq6a : 0 ≤ q6 := by omega
      have hq6b : q6 ≤ 1000000 := by omega
      have HQ2 := Lib.hid hq2
      have HQ6 := Lib.hid hq6
      obtain ⟨l, hl, hpw⟩ := HPW.out n (by omega)
      have hpp := HP.out w n (by omega)
      rw [hn] at hpp
      have HPP := Lib.hid hpp
      have HNE := Lib.hid hn
      clear hpp hn
      have HLW := Lib.hid hpw
      clear hpw HPW hq2 hq6
      go_enter Tryz.func18, Tryz.ntmps18
      rw [← HQ2.out, ← HQ6.out]
      go_wp2_with fail
      refine HPP.out.mono ?_
      rintro r w1 ⟨u, rfl, hu, hb1⟩
      have HM := Lib.hid (times_at w1 (HT.out.below hb1) hu HD.out HLW.out (by omega) (by omega))
      have HO1 := Lib.hid (HS.out.below hb1)
      have HB1 := Lib.hid hb1
      clear hu hb1
      go_wp2_with fail
      refine HM.out.mono ?_
      rintro r w2 ⟨v, rfl, hv, hb2⟩
      have HV := Lib.hid hv
      have HO2 := Lib.hid (HO1.out.below hb2)
      have HB2 := Lib.hid (below_then HB1.out hb2)
      clear hv hb2
      go_wp2
      go_ret2
      refine ⟨_, _, rfl, ?_, ?_, HB2.out⟩
      · unfold sbN; rw [show e.toNat = 0 by omega, Nat.pow_zero, Nat.mul_one]; exact HO2.out
      · have := HV.out; unfold sbD; rw [← HNE.out, Int.toNat_natCast]; exact this
  · by_cases hp : 0 ≤ e
    · obtain ⟨n, rfl⟩ : ∃ n : Nat, e = (n : Int) := ⟨e.toNat, by omega⟩
      obtain ⟨q2, hq2⟩ : ∃ q : Int, q = 200000 := ⟨_, rfl⟩
      obtain ⟨q6, hq6⟩ : ∃ q : Int, q = 60000 := ⟨_, rfl⟩
      have hmx : max (n : Int) (-q6) = (n : Int) := by omega
      have hmn : min (n : Int) q6 = (n : Int) := by omega
      have hq2a : 0 ≤ q2 := by omega
      have hq2b : q2 ≤ 1000000 := by omega
      have hq6a : 0 ≤ q6 := by omega
      have hq6b : q6 ≤ 1000000 := by omega
      have HQ2 := Lib.hid hq2
      have HQ6 := Lib.hid hq6
      obtain ⟨l, hl, hpw⟩ := HPW.out n (by omega)
      have HPP := Lib.hid (HP.out w n (by omega))
      have HLW := Lib.hid hpw
      clear hpw HPW hq2 hq6
      go_enter Tryz.func18, Tryz.ntmps18
      rw [← HQ2.out, ← HQ6.out]
      go_wp2_with fail
      refine HPP.out.mono ?_
      rintro e w1 ⟨u, rfl, hu, hb1⟩
      have HM := Lib.hid (times_at w1 (HS.out.below hb1) hu HA.out HLW.out (by omega) (by omega))
      have HO1 := Lib.hid (HT.out.below hb1)
      have HB1 := Lib.hid hb1
      clear hu hb1
      go_wp2_with fail
      refine HM.out.mono ?_
      rintro e w2 ⟨v, rfl, hv, hb2⟩
      have HV := Lib.hid hv
      have HO2 := Lib.hid (HO1.out.below hb2)
      have HB2 := Lib.hid (below_then HB1.out hb2)
      clear hv hb2
      go_wp2
      go_ret2
      refine ⟨_, _, rfl, ?_, ?_, HB2.out⟩
      · have := HV.out; unfold sbN; rw [Int.toNat_natCast]; exact this
      · unfold sbD; rw [show (-(n : Int)).toNat = 0 by omega, Nat.pow_zero, Nat.mul_one]; exact HO2.out
    · obtain ⟨n, hn⟩ : ∃ n : Nat, (n : Int) = -e := ⟨(-e).toNat, by omega⟩
      have hlt : e < 0 := by omega
      clear hp
      obtain ⟨q2, hq2⟩ : ∃ q : Int, q = 200000 := ⟨_, rfl⟩
      obtain ⟨q6, hq6⟩ : ∃ q : Int, q = 60000 := ⟨_, rfl⟩
      have hmx : max e (-q6) = e := by omega
      have hmn : min e q6 = e := by omega
      have hq2a : 0 ≤ q2 := by omega
      have hq2b : q2 ≤ 1000000 := by omega
      have hq6a : 0 ≤ q6 := by omega
      have hq6b : q6 ≤ 1000000 := by omega
      have HQ2 := Lib.hid hq2
      have HQ6 := Lib.hid hq6
      obtain ⟨l, hl, hpw⟩ := HPW.out n (by omega)
      have hpp := HP.out w n (by omega)
      rw [hn] at hpp
      have HPP := Lib.hid hpp
      have HNE := Lib.hid hn
      clear hpp hn
      have HLW := Lib.hid hpw
      clear hpw HPW hq2 hq6
      go_enter Tryz.func18, Tryz.ntmps18
      rw [← HQ2.out, ← HQ6.out]
      go_wp2_with fail
      refine HPP.out.mono ?_
      rintro r w1 ⟨u, rfl, hu, hb1⟩
      have HM := Lib.hid (times_at w1 (HT.out.below hb1) hu HD.out HLW.out (by omega) (by omega))
      have HO1 := Lib.hid (HS.out.below hb1)
      have HB1 := Lib.hid hb1
      clear hu hb1
      go_wp2_with fail
      refine HM.out.mono ?_
      rintro r w2 ⟨v, rfl, hv, hb2⟩
      have HV := Lib.hid hv
      have HO2 := Lib.hid (HO1.out.below hb2)
      have HB2 := Lib.hid (below_then HB1.out hb2)
      clear hv hb2
      go_wp2
      go_ret2
      refine ⟨_, _, rfl, ?_, ?_, HB2.out⟩
      · unfold sbN; rw [show e.toNat = 0 by omega, Nat.pow_zero, Nat.mul_one]; exact HO2.out
      · have := HV.out; unfold sbD; rw [← HNE.out, Int.toNat_natCast]; exact this
end Go.Proofs.YtpodpdopgdkdkaaGreatDoor
namespace Go.Proofs.YtpodpdopgdkdkaaGreatDoor
set_option linter.unusedVariables false
set_option linter.unusedSimpArgs false
open Go.RowKit
theorem rscale2_calls (w : World) {s t : Value} {A D k : Nat} (e : Int) (hs : NatAt w A s) (ht : NatAt w D t) (hA : A < B64 ^ k) (hD : D < B64 ^ k) (hk : k ≤ 2000) (h0 : -20000 ≤ e) (h1 : e ≤ 20000) :
    Calls Tryz.prog 18 #[s, t, .int .u64 2, .int .i64 e] w (NatTwo w (sbN 2 A e) (sbD 2 D e)) :=
  rscale_any w (b := 2) e hs ht hA hD hk h0 h1 (.inl rfl) (fun W n hn => power2_calls W n hn)
theorem rscale10_calls (w : World) {s t : Value} {A D k : Nat} (e : Int) (hs : NatAt w A s) (ht : NatAt w D t) (hA : A < B64 ^ k) (hD : D < B64 ^ k) (hk : k ≤ 2000) (h0 : -20000 ≤ e) (h1 : e ≤ 20000) :
    Calls Tryz.prog 18 #[s, t, .int .u64 10, .int .i64 e] w (NatTwo w (scN A e) (scD D e)) :=
  rscale_any w (b := 10) e hs ht hA hD hk h0 h1 (.inr rfl) (fun W n hn => power10_calls W n hn)
set_option maxRecDepth 100000 in
set_option maxHeartbeats 2000000 in
theorem rtens_calls (w : World) {s t : Value} {A D k : Nat} {T : Int} (hs : NatAt w A s) (ht : NatAt w D t) (hA : A < B64 ^ k) (hD : D < B64 ^ k) (hk : k ≤ 300) (hT : isTens A D T) (hT0 : -5800 ≤ T) (hT1 : T ≤ 5800) :
    Calls Tryz.prog 34 #[s, t] w fun r w' => r = .returned (.int .i64 T) ∧ Below w.heap.size w w' := by
  have b1 := blen_lim hA
  have b2 := blen_lim hD
  have H1 := Lib.hid (refLen_at w hs hA (by omega))
  have H2 := Lib.hid (refLen_at w ht hD (by omega))
  have HSC := Lib.hid (fun (W : World) (hb : Below w.heap.size w W) (e : Int) (e0 : -12000 ≤ e) (e1 : e ≤ 12000) => rscale10_calls W e (hs.below hb) (ht.below hb) hA hD (by omega) (by omega) (by omega))
  have HT := Lib.hid (tens_iff hT)
  clear hs ht hA hD hT
  generalize blen A = la at b1 H1
  generalize blen D = lb at b2 H2
  obtain ⟨x, hx⟩ : ∃ x : Int, ((la : Int) - (lb : Int)) * 30103 = x := ⟨_, rfl⟩
  have hx0 : -577977600 ≤ x := by omega
  have hx1 : x ≤ 577977600 := by omega
  obtain ⟨c0, c1⟩ := tdiv_far5 hx0 hx1
  obtain ⟨e0, he0⟩ : ∃ e0 : Int, x.tdiv 100000 = e0 := ⟨_, rfl⟩
  rw [he0] at c0 c1
  clear hx0 hx1
  go_enter Tryz.func34, Tryz.ntmps34
  go_wp2_with fail
  refine H1.out.mono ?_
  rintro r w' ⟨rfl, rfl⟩
  go_wp2_with fail
  refine H2.out.mono ?_
  rintro r w' ⟨rfl, rfl⟩
  go_wp2_with fail
  go_loopw [5] (fun v wr => ∃ e : Int, v = .int .i64 e ∧ -5800 ≤ e ∧ e ≤ 5800 ∧ Below w'.heap.size w' wr) (fun v _ => (intOf v - T).natAbs)
  case atStart => exact ⟨e0, rfl, c0, c1, Below.refl _ _⟩
  case round =>
    obtain ⟨e, rfl, h0, h1, hb⟩ := hrel
    have hc := HSC.out _ hb (-e) (by omega) (by omega)
    have hiff := HT.out e
    have hcmp := cmp_tens (A := A) (D := D) e
    by_cases hlt : T < e
    · have hn : ¬ le10 A D e := fun h => by have := hiff.1 h; omega
      have HX := Lib.hid (hcmp.2 hn)
      have HC := Lib.hid hc
      have HW := Lib.hid hb
      clear hc hiff hb hcmp hn
      go_wp2_with fail
      refine HC.out.mono ?_
      rintro r w2 ⟨u, v, rfl, hu, hv, hb2⟩
      have HB2 := Lib.hid (below_then HW.out hb2)
      have hm := refCmp_at w2 hu hv
      rw [HX.out] at hm
      have HM := Lib.hid hm
      clear hb2 hu hv hm
      go_wp2_with fail
      refine HM.out.mono ?_
      rintro r w2 ⟨rfl, rfl⟩
      go_wp2
      go_roundw
      case rel => exact ⟨e - 1, by go_num, by omega, by omega, HB2.out⟩
      case measure => simp [intOf]; omega
    · have hn : le10 A D e := hiff.2 (by omega)
      obtain ⟨x1, hx1, hx2⟩ := hcmp.1 hn
      have hc2 := fun W hW => HSC.out W hW (-e - 1) (by omega) (by omega)
      have hiff2 := HT.out (e + 1)
      have hcmp2 := cmp_tens (A := A) (D := D) (e + 1)
      rw [show -(e + 1) = -e - 1 by omega] at hcmp2
      have HX := Lib.hid hx1
      have HC := Lib.hid hc
      have HC2 := Lib.hid hc2
      have HW := Lib.hid hb
      clear hc hiff hb hcmp hn hx1 hc2
      go_wp2_with fail
      refine HC.out.mono ?_
      rintro r w2 ⟨u, v, rfl, hu, hv, hb2⟩
      have HB2 := Lib.hid (below_then HW.out hb2)
      have hm := refCmp_at w2 hu hv
      rw [HX.out] at hm
      have HM := Lib.hid hm
      clear hb2 hu hv hm
      by_cases hlt2 : e < T
      · have hn : le10 A D (e + 1) := hiff2.2 (by omega)
        obtain ⟨x2, hx2', hx3⟩ := hcmp2.1 hn
        have HX2 := Lib.hid hx2'
        clear hcmp2 hiff2 hn hx2'
        go_wp2_with fail
        refine HM.out.mono ?_
        rintro r w2 ⟨rfl, rfl⟩
        go_wp2_with fail
        refine (HC2.out _ HB2.out).mono ?_
        rintro r w3 ⟨u, v, rfl, hu, hv, hb3⟩
        have HB3 := Lib.hid (below_then HB2.out hb3)
        have hm := refCmp_at w3 hu hv
        rw [HX2.out] at hm
        have HM3 := Lib.hid hm
        clear hb3 hu hv hm
        go_wp2_with fail
        refine HM3.out.mono ?_
        rintro r w2 ⟨rfl, rfl⟩
        go_wp2
        go_roundw
        case rel => exact ⟨e + 1, by go_num, by omega, by omega, HB3.out⟩
        case measure => simp [intOf]; omega
      · obtain rfl : e = T := by omega
        have HX2 := Lib.hid (hcmp2.2 (fun h => by have := hiff2.1 h; omega))
        clear hcmp2 hiff2
        go_wp2_with fail
        refine HM.out.mono ?_
        rintro r w2 ⟨rfl, rfl⟩
        go_wp2_with fail
        refine (HC2.out _ HB2.out).mono ?_
        rintro r w3 ⟨u, v, rfl, hu, hv, hb3⟩
        have HB3 := Lib.hid (below_then HB2.out hb3)
        have hm := refCmp_at w3 hu hv
        rw [HX2.out] at hm
        have HM3 := Lib.hid hm
        clear hb3 hu hv hm
        go_wp2_with fail
        refine HM3.out.mono ?_
        rintro r w2 ⟨rfl, rfl⟩
        go_wp2
        go_ret
        exact ⟨rfl, HB3.out⟩
end Go.Proofs.YtpodpdopgdkdkaaGreatDoor
namespace Go.Proofs.YtpodpdopgdkdkaaGreatDoor
set_option linter.unusedVariables false
set_option linter.unusedSimpArgs false
open Go.RowKit
set_option maxRecDepth 100000 in
set_option maxHeartbeats 2000000 in
theorem q2_calls (w : World) {s : Value} {n : Nat} (hs : NatAt w n s) : Calls Tryz.prog 91 #[s] w fun e w' => e = .returned (.bool (decide (n % 2 = 1))) ∧ w' = w := by
  by_cases h0 : n = 0
  · obtain ⟨a, c, rfl⟩ := hs.len0 h0
    subst h0
    clear hs
    go_enter Tryz.func91, Tryz.ntmps91
    go_wp2
    go_ret
    exact ⟨rfl, rfl⟩
  · obtain ⟨b, off, c, zs, rfl, g1, g2, g3, g4⟩ := hs.lenPos (Nat.pos_of_ne_zero h0)
    obtain ⟨x0, hx0⟩ : ∃ x0, zs.getD 0 0 = x0 := ⟨_, rfl⟩
    have hodd := odd_word g4
    rw [hx0, g2] at hodd
    obtain ⟨b3, off3, hae, hcell⟩ := g1.hcell 0 g4
    cases hae
    rw [hx0, Nat.add_zero] at hcell
    obtain ⟨ny, hny⟩ : ∃ ny, zs.length = ny := ⟨_, rfl⟩
    have hm1 := g1.hle
    have hm2 := g1.hmax
    rw [hny] at g4 hm1 ⊢
    have hpos : (0 : Int) < (ny : Int) := by omega
    have hmx : ny ≤ 9223372036854775807 := by omega
    have ho2 : x0 % 2 = 0 ∨ x0 % 2 = 1 := by omega
    rw [← hodd]
    clear g1 g2 g3 hs hx0 hodd hny h0 hm1 hm2
    rcases ho2 with ho | ho
    · have hr : ((x0 : Int) % 2) = 0 := by omega
      have hr2 : ((x0 : Int).tmod 2) = 0 := by rw [Int.tmod_eq_emod_of_nonneg (by omega)]; omega
      rw [ho]
      clear ho
      go_enter Tryz.func91, Tryz.ntmps91
      go_wp2
      go_ret
      exact ⟨rfl, rfl⟩
    · have hr : ((x0 : Int) % 2) = 1 := by omega
      have hr2 : ((x0 : Int).tmod 2) = 1 := by rw [Int.tmod_eq_emod_of_nonneg (by omega)]; omega
      rw [ho]
      clear ho
      go_enter Tryz.func91, Tryz.ntmps91
      go_wp2
      go_ret
      exact ⟨rfl, rfl⟩
set_option maxRecDepth 100000 in
set_option maxHeartbeats 4000000 in
theorem whole_calls (w : World) {s t : Value} {A D k : Nat} (d : Int) (sg : Bool) (h0 : 0 ≤ d) (h4 : d ≤ 4) (hs : NatAt w A s) (ht : NatAt w D t) (hA : A < B64 ^ k) (hD : D < B64 ^ k) (hk : k ≤ 2000) (hD0 : 0 < D) :
    Calls Tryz.prog 35 #[.int .i64 d, .bool sg, s, t] w (NatOneV w (quoR d sg A D) (.bool (decide (A % D = 0)))) := by
  have HD1 := Lib.hid (refOver_at w hs ht hA hD (by omega) (by omega) hD0)
  have HT := Lib.hid ht
  have HDk := Lib.hid hD
  have HAk := Lib.hid hA
  have HDp := Lib.hid hD0
  clear hs ht hA hD hD0
  by_cases hr : A % D = 0
  · rw [decide_eq_true hr]
    have HR := Lib.hid hr
    clear hr
    go_enter Tryz.func35, Tryz.ntmps35
    go_wp2_with fail
    refine HD1.out.mono ?_
    rintro e w1 ⟨u, v, rfl, hu, hv, hb1⟩
    obtain ⟨a, c, rfl⟩ := hv.len0 HR.out
    have HU := Lib.hid hu
    have HB1 := Lib.hid hb1
    clear hu hv hb1
    go_wp2
    go_ret2
    refine ⟨_, rfl, ?_, HB1.out⟩
    have := HU.out; unfold quoR; rw [if_pos HR.out]; exact this
  · rw [decide_eq_false hr]
    have HR := Lib.hid hr
    clear hr
    go_enter Tryz.func35, Tryz.ntmps35
    go_wp2_with fail
    refine HD1.out.mono ?_
    rintro e w1 ⟨u, v, rfl, hu, hv, hb1⟩
    obtain ⟨b, off, c, zs, hve, -, -, -, hz0⟩ := hv.lenPos (Nat.pos_of_ne_zero HR.out)
    obtain ⟨nz, hnz⟩ : ∃ nz, zs.length = nz := ⟨_, rfl⟩
    rw [hnz] at hz0 hve
    have hz1 : ((nz : Int) == 0) = false := by simp; omega
    have hrk : A % D < B64 ^ k := Nat.lt_trans (Nat.mod_lt A HDp.out) HDk.out
    have HS := Lib.hid (refLeft_at w1 1 hv hrk (by omega) (by omega))
    have HB1 := Lib.hid hb1
    have HU := Lib.hid hu
    rw [hve] at HS
    subst hve
    clear hu hv hb1 hnz hrk
    go_wp2_with fail
    refine HS.out.mono ?_
    rintro e w2 ⟨x, rfl, hx, hb2⟩
    have hcm := refCmp_at w2 hx (HT.out.below (below_then HB1.out hb2))
    have hch := cmp_half (Nat.mod_lt A HDp.out)
    rw [hch] at hcm
    obtain ⟨hf, hhf⟩ : ∃ hf, cmpI (A % D) (D - A % D) = hf := ⟨_, rfl⟩
    have hw := cmpI_ways (A % D) (D - A % D)
    rw [hhf] at hw hcm
    have HC := Lib.hid hcm
    have HHF := Lib.hid hhf
    have HB2 := Lib.hid (below_then HB1.out hb2)
    have hqk : A / D < B64 ^ k := Nat.lt_of_le_of_lt (Nat.div_le_self _ _) HAk.out
    have HU3 := Lib.hid (HU.out.below hb2)
    have HQ2 := Lib.hid (fun W (hW : Below w2.heap.size w2 W) => q2_calls W (HU3.out.below hW))
    have HAD := Lib.hid (fun W (hW : Below w2.heap.size w2 W) => refAdd_at (W.alloc (.cells #[.int .u64 1] 22)) ((HU3.out.below hW).below (below_alloc (Below.refl _ _) _)) (one_at W) hqk (show 1 < B64 ^ 1 by decide) (by omega) (by omega))
    have HB7 := Lib.hid (Below.refl w2.heap.size w2)
    have HB3 := HB2
    clear hx hb2 hcm hch hhf hqk
    go_wp2_with fail
    refine HC.out.mono ?_
    rintro e w7 ⟨rfl, rfl⟩
    rcases (show d = 0 ∨ d = 1 ∨ d = 2 ∨ d = 3 ∨ d = 4 by omega) with rfl | rfl | rfl | rfl | rfl
    · rcases hw with rfl | rfl | rfl
      · go_wp2_with fail
        go_ret2
        refine ⟨_, rfl, ?_, HB3.out⟩
        rw [quoR_down HR.out rfl HHF.out (by rfl)]; exact HU3.out
      · by_cases ho : A / D % 2 = 1
        · rw [decide_eq_true ho] at HQ2
          have HO := Lib.hid ho
          clear ho
          go_wp2_with fail
          refine (HQ2.out _ HB7.out).mono ?_
          rintro e w9 ⟨rfl, rfl⟩
          go_wp2_with fail
          refine (HAD.out _ HB7.out).mono ?_
          rintro e w8 ⟨z, rfl, hz, hb8⟩
          have HZ := Lib.hid hz
          have HB8 := Lib.hid (below_then HB3.out (below_then (below_alloc (Below.refl _ _) _) hb8))
          clear hz hb8
          go_wp2
          go_ret2
          refine ⟨_, rfl, ?_, HB8.out⟩
          rw [quoR_up HR.out rfl HHF.out (by rw [decide_eq_true HO.out]; rfl)]; exact HZ.out
        · rw [decide_eq_false ho] at HQ2
          have HO := Lib.hid ho
          clear ho
          go_wp2_with fail
          refine (HQ2.out _ HB7.out).mono ?_
          rintro e w9 ⟨rfl, rfl⟩
          go_wp2_with fail
          go_ret2
          refine ⟨_, rfl, ?_, HB3.out⟩
          rw [quoR_down HR.out rfl HHF.out (by rw [decide_eq_false HO.out]; rfl)]; exact HU3.out
      · go_wp2_with fail
        refine (HAD.out _ HB7.out).mono ?_
        rintro e w8 ⟨z, rfl, hz, hb8⟩
        have HZ := Lib.hid hz
        have HB8 := Lib.hid (below_then HB3.out (below_then (below_alloc (Below.refl _ _) _) hb8))
        clear hz hb8
        go_wp2
        go_ret2
        refine ⟨_, rfl, ?_, HB8.out⟩
        rw [quoR_up HR.out rfl HHF.out (by rfl)]; exact HZ.out
    · rcases hw with rfl | rfl | rfl
      · go_wp2_with fail
        go_ret2
        refine ⟨_, rfl, ?_, HB3.out⟩
        rw [quoR_down HR.out rfl HHF.out (by rfl)]; exact HU3.out
      · go_wp2_with fail
        refine (HAD.out _ HB7.out).mono ?_
        rintro e w8 ⟨z, rfl, hz, hb8⟩
        have HZ := Lib.hid hz
        have HB8 := Lib.hid (below_then HB3.out (below_then (below_alloc (Below.refl _ _) _) hb8))
        clear hz hb8
        go_wp2
        go_ret2
        refine ⟨_, rfl, ?_, HB8.out⟩
        rw [quoR_up HR.out rfl HHF.out (by rfl)]; exact HZ.out
      · go_wp2_with fail
        refine (HAD.out _ HB7.out).mono ?_
        rintro e w8 ⟨z, rfl, hz, hb8⟩
        have HZ := Lib.hid hz
        have HB8 := Lib.hid (below_then HB3.out (below_then (below_alloc (Below.refl _ _) _) hb8))
        clear hz hb8
        go_wp2
        go_ret2
        refine ⟨_, rfl, ?_, HB8.out⟩
        rw [quoR_up HR.out rfl HHF.out (by rfl)]; exact HZ.out
    · clear hw
      go_wp2_with fail
      go_ret2
      refine ⟨_, rfl, ?_, HB3.out⟩
      rw [quoR_down HR.out rfl HHF.out (by rfl)]; exact HU3.out
    · clear hw
      cases sg
      · go_wp2_with fail
        refine (HAD.out _ HB7.out).mono ?_
        rintro e w8 ⟨z, rfl, hz, hb8⟩
        have HZ := Lib.hid hz
        have HB8 := Lib.hid (below_then HB3.out (below_then (below_alloc (Below.refl _ _) _) hb8))
        clear hz hb8
        go_wp2
        go_ret2
        refine ⟨_, rfl, ?_, HB8.out⟩
        rw [quoR_up HR.out rfl HHF.out (by rfl)]; exact HZ.out
      · go_wp2_with fail
        go_ret2
        refine ⟨_, rfl, ?_, HB3.out⟩
        rw [quoR_down HR.out rfl HHF.out (by rfl)]; exact HU3.out
    · clear hw
      cases sg
      · go_wp2_with fail
        go_ret2
        refine ⟨_, rfl, ?_, HB3.out⟩
        rw [quoR_down HR.out rfl HHF.out (by rfl)]; exact HU3.out
      · go_wp2_with fail
        refine (HAD.out _ HB7.out).mono ?_
        rintro e w8 ⟨z, rfl, hz, hb8⟩
        have HZ := Lib.hid hz
        have HB8 := Lib.hid (below_then HB3.out (below_then (below_alloc (Below.refl _ _) _) hb8))
        clear hz hb8
        go_wp2
        go_ret2
        refine ⟨_, rfl, ?_, HB8.out⟩
        rw [quoR_up HR.out rfl HHF.out (by rfl)]; exact HZ.out
end Go.Proofs.YtpodpdopgdkdkaaGreatDoor
