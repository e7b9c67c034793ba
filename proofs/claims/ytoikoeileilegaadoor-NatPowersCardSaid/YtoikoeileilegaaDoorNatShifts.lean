/- NatShifts: the contract of nat.Shl at every count; the walk over the law. -/
import Derived.Test.YtoikoeileilegaaDoorRefShift2
import Derived.Test.YtoikoeileilegaaDoorNatShr2
namespace Go.Proofs.YtoikoeileilegaaDoor
open Go.RowKit
set_option maxRecDepth 10000 in
set_option maxHeartbeats 2000000 in
theorem shl_calls (w : World) (a : Option Addr) (la ca : Nat) (xs : List Nat) (n : Int) (h0 : -9223372036854775808 ≤ n) (h1 : n ≤ 9223372036854775807) (ha : SlW w a la ca xs) (sa : la ≤ 4398046511104) :
    Calls Tryd.prog 16 #[.slice a la ca, .int .i64 n] w (NatRes2 w (shlVal xs n) (la + 2001) (.int .i64 (shlErr (sz xs) n))) := by
  have z1 := ha.sz_le
  have HA := Lib.hid ha
  have HS := Lib.hid (size_calls w a la ca xs ha)
  have m1 := ha.hle
  have m2 := ha.hmax
  unfold shlVal shlErr
  by_cases hneg : n < 0
  · rw [if_pos hneg, if_pos hneg]
    generalize sz xs = k at z1 HS ⊢
    clear ha
    go_enter Tryd.func16, Tryd.ntmps16
    go_wp2_with fail
    refine HS.out.mono ?_
    rintro e w' ⟨rfl, rfl⟩
    go_wp2
    go_ret2
    exact (natRes_nil (la + 2001) (Below.refl _ _)).two
  · rw [if_neg hneg, if_neg hneg]
    obtain ⟨m, rfl⟩ : ∃ m : Nat, n = m := ⟨n.toNat, by omega⟩
    rw [Int.toNat_natCast]
    by_cases hlt : 2000 < sz xs + (m + 63) / 64
    · rw [if_pos hlt, if_pos hlt]
      generalize sz xs = k at z1 HS hlt ⊢
      clear ha hneg h0
      obtain ⟨q, hq⟩ : ∃ q, m / 64 = q := ⟨_, rfl⟩
      have hqi : (m : Int) / 64 = (q : Nat) := by omega
      by_cases hbig : 2000 < q
      · have hbig' : (2000 : Int) < (q : Nat) := by omega
        clear hq
        go_enter Tryd.func16, Tryd.ntmps16
        go_wp2_with fail
        refine HS.out.mono ?_
        rintro e w' ⟨rfl, rfl⟩
        go_wp2
        go_ret2
        exact (natRes_nil (la + 2001) (Below.refl _ _)).two
      · have hbig' : (q : Int) ≤ 2000 := by omega
        obtain ⟨r, hr⟩ : ∃ r, (m + 63) / 64 = r := ⟨_, rfl⟩
        have hm2 : m ≤ 130000 := by omega
        have hri : ((m : Int) + 63) / 64 = (r : Nat) := by omega
        obtain ⟨K, hK⟩ : ∃ K, k + r = K := ⟨_, rfl⟩
        have hK1 : (k : Int) + (r : Int) = (K : Nat) := by omega
        rw [hr, hK] at hlt
        have hlt' : (2000 : Int) < (K : Nat) := by omega
        clear hq hr hK
        go_enter Tryd.func16, Tryd.ntmps16
        go_wp2_with fail
        refine HS.out.mono ?_
        rintro e w' ⟨rfl, rfl⟩
        go_wp2
        go_ret2
        exact (natRes_nil (la + 2001) (Below.refl _ _)).two
    · rw [if_neg hlt, if_neg hlt]
      refine (shl_ok w a la ca xs m ha (by omega)).mono ?_
      rintro e w' ⟨a', c', rs, rfl, r1, r2, r3, r4, r5⟩
      exact ⟨a', c', rs, rfl, r1, r2, r3, by omega, r5⟩
set_option maxRecDepth 10000 in
set_option maxHeartbeats 2000000 in
theorem natShifts_calls (w : World) (a : Option Addr) (la ca : Nat) (xs : List Nat) (n : Int) (h0 : -9223372036854775808 ≤ n) (h1 : n ≤ 9223372036854775807) (ha : SlW w a la ca xs) (pa : Plain a) (htab : Tab10 w) :
    Calls Tryd.prog 4 #[.slice a la ca, .int .i64 n] w fun e w' => e = .returned (.bool true) ∧ Below w.heap.size w w' := by
  have HA := Lib.hid ha
  have HT := Lib.hid htab
  have HAW := Lib.hid (awake_calls w htab)
  clear htab ha
  by_cases hla : (la : Int) ≤ 2500
  · have HF1 := Lib.hid (fun w => few_calls w a la ca true (decide_eq_true hla))
    go_enter Tryd.func4, Tryd.ntmps4
    go_wp2_with fail
    refine HAW.out.mono ?_
    rintro e w1 ⟨rfl, hb1⟩
    have HB1 := Lib.hid hb1
    clear hb1
    go_wp2_with fail
    refine (HF1.out _).mono ?_
    rintro e w1 ⟨rfl, rfl⟩
    have ba := HA.out.below HB1.out
    have HM1 := Lib.hid (shl_calls w1 a la ca xs n h0 h1 ba (by omega))
    have HM2 := Lib.hid (fun W (hW : Below w1.heap.size w1 W) => refShl_calls W a la ca xs n h0 h1 (ba.below hW) pa (by omega))
    have HM3 := Lib.hid (fun W (hW : Below w1.heap.size w1 W) => shr_calls W a la ca xs n h0 h1 (ba.below hW) pa (by omega))
    have HM4 := Lib.hid (fun W (hW : Below w1.heap.size w1 W) => refShr_calls W a la ca xs n h0 h1 (ba.below hW) pa (by omega))
    clear ba
    generalize shlVal xs n = V at HM1 HM2
    generalize shlErr (sz xs) n = E at HM1 HM2
    generalize shrVal xs n = U at HM3 HM4
    generalize shrGone xs n = G at HM3 HM4
    go_wp2_with fail
    refine HM1.out.mono ?_
    rintro e w2 ⟨a1, c1, z1, rfl, r1, r2, r3, r4, r5⟩
    have R1 := Lib.hid (And.intro r1 (And.intro r2 (And.intro r3 r5)))
    clear r1 r2 r3 r4
    go_wp2_with fail
    refine (HM2.out w2 r5).mono ?_
    rintro e w3 ⟨a2, c2, z2, rfl, r1, r2, r3, r4, r6⟩
    have R2 := Lib.hid (And.intro r1 (And.intro r2 (And.intro r3 r6)))
    have r7 := below_then r5 r6
    clear r1 r2 r3 r4 r5 r6
    go_wp2_with fail
    refine (HM3.out w3 r7).mono ?_
    rintro e w4 ⟨a3, c3, z3, rfl, r1, r2, r3, r4, r6⟩
    have R3 := Lib.hid (And.intro r1 (And.intro r2 (And.intro r3 r6)))
    have r8 := below_then r7 r6
    clear r1 r2 r3 r4 r6 r7
    go_wp2_with fail
    refine (HM4.out w4 r8).mono ?_
    rintro e w5 ⟨a4, c4, z4, rfl, r1, r2, r3, r4, r6⟩
    have R4 := Lib.hid (And.intro r1 (And.intro r2 (And.intro r3 r6)))
    have HBE := Lib.hid (below_then HB1.out (below_then r8 r6))
    clear r1 r2 r3 r4 r6 r8
    have s1 := ((R1.out.1.keep R2.out.2.2.2).keep R3.out.2.2.2).keep R4.out.2.2.2
    have s2 := (R2.out.1.keep R3.out.2.2.2).keep R4.out.2.2.2
    have s3 := R3.out.1.keep R4.out.2.2.2
    have HS1 := Lib.hid (same_calls w5 _ _ _ _ _ _ _ _ s1.sl s2.sl (by rw [R1.out.2.1, R2.out.2.1]) R1.out.2.2.1)
    have HS2 := Lib.hid (same_calls w5 _ _ _ _ _ _ _ _ s3.sl R4.out.1.sl (by rw [R3.out.2.1, R4.out.2.1]) R3.out.2.2.1)
    clear s1 s2 s3
    go_wp2_with fail
    refine HS1.out.mono ?_
    rintro e w6 ⟨rfl, rfl⟩
    go_wp2_with fail
    refine HS2.out.mono ?_
    rintro e w6 ⟨rfl, rfl⟩
    go_wp2
    go_ret
    exact ⟨rfl, HBE.out⟩
  · have HF1 := Lib.hid (fun w => few_calls w a la ca false (decide_eq_false hla))
    go_enter Tryd.func4, Tryd.ntmps4
    go_wp2_with fail
    refine HAW.out.mono ?_
    rintro e w1 ⟨rfl, hb1⟩
    have HB1 := Lib.hid hb1
    have HAW2 := Lib.hid (awake_calls w1 (tabIs_below HT.out hb1))
    clear hb1
    go_wp2_with fail
    refine (HF1.out _).mono ?_
    rintro e w1 ⟨rfl, rfl⟩
    go_wp2_with fail
    refine HAW2.out.mono ?_
    rintro e w2 ⟨rfl, hb2⟩
    have HB2 := Lib.hid hb2
    clear hb2
    go_wp2
    go_ret
    exact ⟨rfl, below_then HB1.out HB2.out⟩
theorem wf_i64 {n : Int} (h : (Lit.int .i64 n).wf = true) : -9223372036854775808 ≤ n ∧ n ≤ 9223372036854775807 := by
  have e1 : IntKind.i64.min = -9223372036854775808 := rfl
  have e2 : IntKind.i64.max = 9223372036854775807 := rfl
  simp [Lit.wf, e1, e2] at h
  omega
theorem natShifts_row (a0 : Option Addr) (len0 cap0 : Nat) (z0 : List Int) (a1 : Int) (W : World) (w0 : RowAt .u64 W a0 len0 cap0 z0) (_ : len0 * 8 ≤ 140737488351232) (p0 : Plain a0) (w1 : (Lit.int .i64 a1).wf = true) (hT : Tab10 W) :
    Calls Tryd.prog 4 #[.slice a0 len0 cap0, .int .i64 a1] W fun e w' => e = .returned (.bool true) ∧ Below W.heap.size W w' :=
  natShifts_calls W a0 len0 cap0 _ a1 (wf_i64 w1).1 (wf_i64 w1).2 (w0.slW p0) p0 hT
end Go.Proofs.YtoikoeileilegaaDoor
