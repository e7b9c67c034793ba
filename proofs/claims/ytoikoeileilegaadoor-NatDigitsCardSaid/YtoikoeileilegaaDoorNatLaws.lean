/- NatLaws: the walk over the law. -/
import Derived.Test.YtoikoeileilegaaDoorLaidNat
namespace Go.Proofs.YtoikoeileilegaaDoor
open Go.RowKit
theorem len_of_val {zs : List Nat} {n : Nat} (hz : sz zs = zs.length) (hv : val zs < B64 ^ n) : zs.length ≤ n := by
  rcases Nat.lt_or_ge n zs.length with h | h
  · exfalso
    obtain ⟨k, hk⟩ : ∃ k, zs.length = k + 1 := ⟨zs.length - 1, by omega⟩
    have h1 := sz_get_last (xs := zs) (by omega)
    rw [hz, hk, Nat.add_sub_cancel] at h1
    have h2 : valTo zs (k + 1) = valTo zs k + B64 ^ k * zs.getD k 0 := rfl
    rw [valTo_all (k + 1) (by omega)] at h2
    have h3 : B64 ^ k * 1 ≤ B64 ^ k * zs.getD k 0 := Nat.mul_le_mul_left _ (by omega)
    have h4 : B64 ^ n ≤ B64 ^ k := Nat.pow_le_pow_right (by decide) (by omega)
    omega
  · exact h
theorem mul_small {w : World} {a b : Option Addr} {la ca lb cb : Nat} {xs ys : List Nat} (ha : SlW w a la ca xs) (hb : SlW w b lb cb ys) (hl : la + lb ≤ 2000) :
    Calls Tryd.prog 13 #[.slice a la ca, .slice b lb cb] w (NatRes2 w (val xs * val ys) (la + lb) (.int .i64 0)) := by
  have z1 := ha.sz_le
  have z2 := hb.sz_le
  refine (mul_calls w a b la ca lb cb xs ys ha hb (by omega) (by omega)).mono ?_
  rintro e w' ⟨a', c', zs, rfl, r1, r2, r3, r4, r5⟩
  have hne : ¬ 2000 < sz xs + sz ys := by omega
  refine ⟨a', c', zs, ?_, r1, by rw [r2, mulVal, if_neg hne], r3, len_of_val r3 ?_, r5⟩
  · rw [mulErr, if_neg hne]
  · rw [r2, mulVal, if_neg hne, Nat.pow_add]
    have h1 := val_lt ha.hw
    have h2 := val_lt hb.hw
    rw [ha.hlen] at h1
    rw [hb.hlen] at h2
    exact Nat.mul_lt_mul'' h1 h2
theorem add_small {w : World} {a b : Option Addr} {la ca lb cb : Nat} {xs ys : List Nat} (ha : SlW w a la ca xs) (hb : SlW w b lb cb ys) {n : Nat} (h1 : la ≤ n) (h2 : lb ≤ n) (hn : n ≤ 100000) :
    Calls Tryd.prog 20 #[.slice a la ca, .slice b lb cb] w (NatRes w (val xs + val ys) (n + 1)) := by
  have z1 := ha.sz_le
  have z2 := hb.sz_le
  exact (add_calls w a b la ca lb cb xs ys ha hb (by omega) (by omega)).mono fun _ _ h => h.le (by omega)
set_option maxRecDepth 10000 in
set_option maxHeartbeats 4000000 in
theorem natLaws_calls (w : World) (a b c : Option Addr) (la ca lb cb lc cc : Nat) (xs ys zs : List Nat) (ha : SlW w a la ca xs) (hb : SlW w b lb cb ys) (hc : SlW w c lc cc zs) (htab : Tab10 w) :
    Calls Tryd.prog 5 #[.slice a la ca, .slice b lb cb, .slice c lc cc] w fun e w' => e = .returned (.bool true) ∧ Below w.heap.size w w' := by
  have HT := Lib.hid htab
  have HAW := Lib.hid (awake_calls w htab)
  have HALL := Lib.hid (And.intro ha (And.intro hb hc))
  clear htab ha hb hc
  by_cases hsm : la ≤ 200 ∧ lb ≤ 200 ∧ lc ≤ 200
  · obtain ⟨h1, h2, h3⟩ := hsm
    go_enter Tryd.func5, Tryd.ntmps5
    go_wp2_with fail
    refine HAW.out.mono ?_
    rintro e w1 ⟨rfl, hb1⟩
    have HB1 := Lib.hid hb1
    have A1 := Lib.hid (fun W (hW : Below w1.heap.size w1 W) => (HALL.out.1.below hb1).below hW)
    have A2 := Lib.hid (fun W (hW : Below w1.heap.size w1 W) => (HALL.out.2.1.below hb1).below hW)
    have A3 := Lib.hid (fun W (hW : Below w1.heap.size w1 W) => (HALL.out.2.2.below hb1).below hW)
    clear hb1
    go_wp2_with fail
    refine (add_small (A2.out w1 (Below.refl _ _)) (A3.out w1 (Below.refl _ _)) h2 h3 (by omega)).mono ?_
    rintro e w2 ⟨a1, c1, z1, rfl, p1, p2, p3, p4, p5⟩
    have b2 := p5
    go_wp2_with fail
    refine (mul_small (A1.out w2 b2) p1.sl (by omega)).mono ?_
    rintro e w3 ⟨a2, c2, z2, rfl, q1, q2, q3, q4, q5⟩
    have R2 := Lib.hid (And.intro q1 (And.intro q2 q3))
    have b3 := below_then b2 q5
    have HV1 : Hid (val z2 = val xs * (val ys + val zs)) := Lib.hid (by rw [q2, p2])
    clear p1 p2 p3 p5 q1 q2 q3 q5 b2
    go_wp2_with fail
    refine (mul_small (A1.out w3 b3) (A2.out w3 b3) (by omega)).mono ?_
    rintro e w4 ⟨a3, c3, z3, rfl, q1, q2, q3, q6, d4⟩
    have R3 := Lib.hid (And.intro q1 (And.intro q2 q3))
    have b4 := below_then b3 d4
    clear q1 q2 q3
    go_wp2_with fail
    refine (mul_small (A3.out w4 b4) (A1.out w4 b4) (by omega)).mono ?_
    rintro e w5 ⟨a4, c4, z4, rfl, q1, q2, q3, q7, d5⟩
    have R4 := Lib.hid (And.intro q1 (And.intro q2 q3))
    have b5 := below_then b4 d5
    have k35 := below_then d4 d5
    clear q1 q2 q3 d4
    go_wp2_with fail
    refine (mul_small (R2.out.1.keep k35).sl (A3.out w5 b5) (by omega)).mono ?_
    rintro e w6 ⟨a5, c5, z5, rfl, q1, q2, q3, q8, d6⟩
    have R5 := Lib.hid (And.intro q1 (And.intro q2 q3))
    have b6 := below_then b5 d6
    clear q1 q2 q3 b3 b4
    go_wp2_with fail
    refine (add_small (A2.out w6 b6) (A3.out w6 b6) h2 h3 (by omega)).mono ?_
    rintro e w7 ⟨a6, c6, z6, rfl, p1, p2, p3, q9, d7⟩
    have b7 := below_then b6 d7
    go_wp2_with fail
    refine (mul_small p1.sl ((R4.out.1.keep d6).keep d7).sl (by omega)).mono ?_
    rintro e w8 ⟨a7, c7, z7, rfl, q1, q2, q3, q10, d8⟩
    have b8 := below_then b7 d8
    have HV7 : Hid (val z7 = (val ys + val zs) * val z4) := Lib.hid (by rw [q2, p2])
    have R7 := Lib.hid (And.intro q1 q3)
    clear p1 p2 p3 q1 q2 q3 b5 b6 b7
    have k38 := below_then k35 (below_then d6 (below_then d7 d8))
    have k48 := below_then d5 (below_then d6 (below_then d7 d8))
    have k58 := below_then d6 (below_then d7 d8)
    have k68 := below_then d7 d8
    clear k35 d5 d6 d7 d8
    go_wp2_with fail
    refine (add_small (n := 400) (R4.out.1.keep k58).sl (R3.out.1.keep k48).sl (by omega) (by omega) (by omega)).mono ?_
    rintro e w9 ⟨a8, c8, z8, rfl, q1, q2, q3, q11, d9⟩
    have HS1 := Lib.hid (same_calls w9 _ _ _ _ _ _ _ _ q1.sl ((R2.out.1.keep k38).keep d9).sl (by rw [q2, HV1.out, R4.out.2.1, R3.out.2.1, Nat.mul_add, Nat.mul_comm (val zs), Nat.add_comm]) q3)
    have HS2 := Lib.hid (same_calls w9 _ _ _ _ _ _ _ _ ((R5.out.1.keep k68).keep d9).sl (R7.out.1.keep d9).sl (by rw [R5.out.2.1, HV1.out, HV7.out, R4.out.2.1, Nat.mul_comm (val xs), Nat.mul_assoc, Nat.mul_comm (val xs)]) R5.out.2.2)
    have HBE := Lib.hid (below_then HB1.out (below_then b8 d9))
    clear q1 q2 q3 d9 k38 k48 k58 k68 b8
    go_wp2_with fail
    refine HS1.out.mono ?_
    rintro e w10 ⟨rfl, rfl⟩
    go_wp2_with fail
    refine HS2.out.mono ?_
    rintro e w10 ⟨rfl, rfl⟩
    go_wp2
    go_ret
    exact ⟨rfl, HBE.out⟩
  · have fin : ∀ (h : 200 < la ∨ (la ≤ 200 ∧ 200 < lb) ∨ (la ≤ 200 ∧ lb ≤ 200 ∧ 200 < lc)), Calls Tryd.prog 5 #[.slice a la ca, .slice b lb cb, .slice c lc cc] w fun e w' => e = .returned (.bool true) ∧ Below w.heap.size w w' := by
      intro h
      clear hsm
      rcases h with h | ⟨h, h'⟩ | ⟨h, h', h''⟩ <;>
      · go_enter Tryd.func5, Tryd.ntmps5
        go_wp2_with fail
        refine HAW.out.mono ?_
        rintro e w1 ⟨rfl, hb1⟩
        have HB1 := Lib.hid hb1
        have HAW2 := Lib.hid (awake_calls w1 (tabIs_below HT.out hb1))
        clear hb1
        go_wp2_with fail
        refine HAW2.out.mono ?_
        rintro e w2 ⟨rfl, hb2⟩
        have HB2 := Lib.hid hb2
        clear hb2
        go_wp2
        go_ret
        exact ⟨rfl, below_then HB1.out HB2.out⟩
    exact fin (by omega)
theorem natLaws_row (a0 : Option Addr) (len0 cap0 : Nat) (z0 : List Int) (a1 : Option Addr) (len1 cap1 : Nat) (z1 : List Int) (a2 : Option Addr) (len2 cap2 : Nat) (z2 : List Int) (W : World) (w0 : RowAt .u64 W a0 len0 cap0 z0) (_ : len0 * 8 ≤ 140737488351232) (p0 : Plain a0) (w1 : RowAt .u64 W a1 len1 cap1 z1) (_ : len1 * 8 ≤ 140737488351232) (p1 : Plain a1) (w2 : RowAt .u64 W a2 len2 cap2 z2) (_ : len2 * 8 ≤ 140737488351232) (p2 : Plain a2) (hT : Tab10 W) :
    Calls Tryd.prog 5 #[.slice a0 len0 cap0, .slice a1 len1 cap1, .slice a2 len2 cap2] W fun e w' => e = .returned (.bool true) ∧ Below W.heap.size W w' :=
  natLaws_calls W a0 a1 a2 len0 cap0 len1 cap1 len2 cap2 _ _ _ (w0.slW p0) (w1.slW p1) (w2.slW p2) hT
end Go.Proofs.YtoikoeileilegaaDoor
