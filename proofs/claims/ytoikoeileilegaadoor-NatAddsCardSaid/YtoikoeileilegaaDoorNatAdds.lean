/- NatAdds: the walk over the law. -/
import Derived.Test.YtoikoeileilegaaDoorLaidNat
namespace Go.Proofs.YtoikoeileilegaaDoor
open Go.RowKit
theorem cmpI_swap (x y : Nat) : cmpI y x = -cmpI x y := by
  rcases Nat.lt_trichotomy x y with h | h | h
  · rw [cmpI_lt h, cmpI_gt h]; rfl
  · rw [cmpI_eq h, cmpI_eq h.symm]; rfl
  · rw [cmpI_lt h, cmpI_gt h]
theorem cmp_below {w : World} {a b : Option Addr} {la ca lb cb : Nat} {xs ys : List Nat} (ha : SlW w a la ca xs) (hb : SlW w b lb cb ys) :
    Calls Tryd.prog 26 #[.slice a la ca, .slice b lb cb] w fun e w' => e = .returned (.int .i64 (cmpI (val xs) (val ys))) ∧ Below w.heap.size w w' := by
  refine (cmp_calls w a b la ca lb cb xs ys ha hb).mono ?_
  rintro e w' ⟨rfl, m, rfl⟩
  exact ⟨rfl, below_drewN' (Below.refl _ _) m⟩
set_option maxRecDepth 10000 in
set_option maxHeartbeats 4000000 in
theorem natAdds_calls (w : World) (a b : Option Addr) (la ca lb cb : Nat) (xs ys : List Nat) (ha : SlW w a la ca xs) (hb : SlW w b lb cb ys) (pa : Plain a) (htab : Tab10 w) :
    Calls Tryd.prog 7 #[.slice a la ca, .slice b lb cb] w fun e w' => e = .returned (.bool true) ∧ Below w.heap.size w w' := by
  have HA := Lib.hid ha
  have HB := Lib.hid hb
  have HT := Lib.hid htab
  have HAW := Lib.hid (awake_calls w htab)
  clear htab ha hb
  by_cases hla : (la : Int) ≤ 2500
  · have HF1 := Lib.hid (fun w => few_calls w a la ca true (decide_eq_true hla))
    by_cases hlb : (lb : Int) ≤ 2500
    · have HF2 := Lib.hid (fun w => few_calls w b lb cb true (decide_eq_true hlb))
      go_enter Tryd.func7, Tryd.ntmps7
      go_wp2_with fail
      refine HAW.out.mono ?_
      rintro e w1 ⟨rfl, hb1⟩
      have HB1 := Lib.hid hb1
      clear hb1
      go_wp2_with fail
      refine (HF1.out _).mono ?_
      rintro e w1 ⟨rfl, rfl⟩
      go_wp2_with fail
      refine (HF2.out _).mono ?_
      rintro e w1 ⟨rfl, rfl⟩
      have HA1 := Lib.hid (fun W (hW : Below w1.heap.size w1 W) => (HA.out.below HB1.out).below hW)
      have HB2 := Lib.hid (fun W (hW : Below w1.heap.size w1 W) => (HB.out.below HB1.out).below hW)
      have HM1 := Lib.hid (fun W hW => sub_calls W a b la ca lb cb xs ys (HA1.out W hW) (HB2.out W hW) (by omega) pa)
      have HM2 := Lib.hid (fun W hW => refSub_calls W a b la ca lb cb xs ys (HA1.out W hW) (HB2.out W hW) (by omega) (by omega))
      have HM3 := Lib.hid (fun W hW => trim_res (HA1.out W hW) pa (by omega))
      have HM4 := Lib.hid (fun W hW => cmp_below (HA1.out W hW) (HB2.out W hW))
      have HM5 := Lib.hid (fun W hW => refCmp_calls W a b la ca lb cb xs ys (HA1.out W hW) (HB2.out W hW))
      have HM6 := Lib.hid (fun W hW => cmp_below (HB2.out W hW) (HA1.out W hW))
      have HM7 := Lib.hid (fun W hW => add_calls W a b la ca lb cb xs ys (HA1.out W hW) (HB2.out W hW) (by omega) (by omega))
      have HM8 := Lib.hid (fun W hW => refAdd_calls W a b la ca lb cb xs ys (HA1.out W hW) (HB2.out W hW) (by omega) (by omega))
      have HM9 := Lib.hid (fun W hW => len_calls W a la ca xs (HA1.out W hW) (by omega))
      have HM10 := Lib.hid (fun W hW => refLen_calls W a la ca xs (HA1.out W hW) (by omega))
      rw [cmpI_swap] at HM6
      have hneg : IntKind.i64.wrap (-cmpI (val xs) (val ys)) = -cmpI (val xs) (val ys) := by unfold cmpI; split; rfl; split <;> rfl
      generalize cmpI (val xs) (val ys) = C at HM4 HM5 HM6 hneg
      generalize subErr (val xs) (val ys) = E at HM1 HM2
      generalize val xs - val ys = D at HM1 HM2
      generalize val xs + val ys = S at HM7 HM8
      generalize blen (val xs) = L at HM9 HM10
      go_wp2_with fail
      refine (HM1.out w1 (Below.refl _ _)).mono ?_
      rintro e w2 ⟨a1, c1, z1, rfl, r1, r2, r3, r4, r5⟩
      have R1 := Lib.hid (And.intro r1 (And.intro r2 (And.intro r3 r5)))
      clear r1 r2 r3 r4
      go_wp2_with fail
      refine (HM2.out w2 r5).mono ?_
      rintro e w3 ⟨a2, c2, z2, rfl, r1, r2, r3, r4, r6⟩
      have R2 := Lib.hid (And.intro r1 (And.intro r2 (And.intro r3 r6)))
      have r7 := below_then r5 r6
      clear r1 r2 r3 r4 r5 r6
      go_wp2_with fail
      refine (HM3.out w3 r7).mono ?_
      rintro e w4 ⟨a3, c3, z3, rfl, r1, r2, r3, r4, r6⟩
      have R3 := Lib.hid (And.intro r1 (And.intro r2 (And.intro r3 r6)))
      have r8 := below_then r7 r6
      have HS1 := Lib.hid (same_calls w4 _ _ _ _ _ _ _ _ r1.sl (HA1.out w4 r8) r2 r3)
      clear r1 r2 r3 r4 r6 r7
      go_wp2_with fail
      refine HS1.out.mono ?_
      rintro e w5 ⟨rfl, rfl⟩
      go_wp2_with fail
      refine (HM4.out w4 r8).mono ?_
      rintro e v1 ⟨rfl, d1⟩
      have r9 := below_then r8 d1
      go_wp2_with fail
      refine (HM5.out _ r9).mono ?_
      rintro e v2 ⟨rfl, rfl⟩
      go_wp2_with fail
      refine (HM6.out _ r9).mono ?_
      rintro e v2 ⟨rfl, d2⟩
      have r10 := below_then r9 d2
      go_wp2_with fail
      refine (HM4.out _ r10).mono ?_
      rintro e w5 ⟨rfl, d3⟩
      have r11 := below_then r10 d3
      have r12 : Below w4.heap.size w4 w5 := below_then d1 (below_then d2 d3)
      clear r10 r9 d1 d2 d3
      go_wp2_with fail
      refine (HM7.out w5 r11).mono ?_
      rintro e w6 ⟨a6, c6, z6, rfl, q1, q2, q3, q4, q5⟩
      have R6 := Lib.hid (And.intro q1 (And.intro q2 (And.intro q3 q5)))
      have r13 := below_then r11 q5
      clear q1 q2 q3 q4 q5
      go_wp2_with fail
      refine (HM8.out w6 r13).mono ?_
      rintro e w7 ⟨a7, c7, z7, rfl, q1, q2, q3, q4, q5⟩
      have r14 := below_then r13 q5
      have HS2 := Lib.hid (same_calls w7 _ _ _ _ _ _ _ _ (R6.out.1.keep q5).sl q1.sl (by rw [R6.out.2.1, q2]) R6.out.2.2.1)
      have r15 := below_then r12 (below_then R6.out.2.2.2 q5)
      clear q1 q2 q3 q4 q5 r13
      go_wp2_with fail
      refine HS2.out.mono ?_
      rintro e w8 ⟨rfl, rfl⟩
      have b25 := below_then R2.out.2.2.2 (below_then R3.out.2.2.2 r15)
      have HS3 := Lib.hid (same_calls w7 _ _ _ _ _ _ _ _ (R1.out.1.keep b25).sl (R2.out.1.keep (below_then R3.out.2.2.2 r15)).sl (by rw [R1.out.2.1, R2.out.2.1]) R1.out.2.2.1)
      clear b25 r15 r12 r11
      go_wp2_with fail
      refine HS3.out.mono ?_
      rintro e w8 ⟨rfl, rfl⟩
      go_wp2_with fail
      refine (HM9.out _ r14).mono ?_
      rintro e w8 ⟨rfl, rfl⟩
      go_wp2_with fail
      refine (HM10.out _ r14).mono ?_
      rintro e w8 ⟨rfl, rfl⟩
      have HBE := Lib.hid (below_then HB1.out r14)
      clear r14 r8
      go_wp2
      go_ret
      exact ⟨rfl, HBE.out⟩
    · have HF2 := Lib.hid (fun w => few_calls w b lb cb false (decide_eq_false hlb))
      go_enter Tryd.func7, Tryd.ntmps7
      go_wp2_with fail
      refine HAW.out.mono ?_
      rintro e w1 ⟨rfl, hb1⟩
      have HB1 := Lib.hid hb1
      have HAW2 := Lib.hid (awake_calls w1 (tabIs_below HT.out hb1))
      clear hb1
      go_wp2_with fail
      refine (HF1.out _).mono ?_
      rintro e w1 ⟨rfl, rfl⟩
      go_wp2_with fail
      refine (HF2.out _).mono ?_
      rintro e w1 ⟨rfl, rfl⟩
      go_wp2_with fail
      refine HAW2.out.mono ?_
      rintro e w2 ⟨rfl, hb2⟩
      have HB2 := Lib.hid hb2
      clear hb2
      go_wp2
      go_ret
      exact ⟨rfl, below_then HB1.out HB2.out⟩
  · have HF1 := Lib.hid (fun w => few_calls w a la ca false (decide_eq_false hla))
    go_enter Tryd.func7, Tryd.ntmps7
    go_wp2_with fail
    refine HAW.out.mono ?_
    rintro e w1 ⟨rfl, hb1⟩
    have HB1 := Lib.hid hb1
    have HAW2 := Lib.hid (awake_calls w1 (tabIs_below HT.out hb1))
    clear hb1
    go_wp2_with fail
    refine (HF1.out _).mono ?_
    rintro e w1 ⟨rfl, rfl⟩
    go_wp2_with fail
    refine HAW2.out.mono ?_
    rintro e w2 ⟨rfl, hb2⟩
    have HB2 := Lib.hid hb2
    clear hb2
    go_wp2
    go_ret
    exact ⟨rfl, below_then HB1.out HB2.out⟩
theorem natAdds_row (a0 : Option Addr) (len0 cap0 : Nat) (z0 : List Int) (a1 : Option Addr) (len1 cap1 : Nat) (z1 : List Int) (W : World) (w0 : RowAt .u64 W a0 len0 cap0 z0) (_ : len0 * 8 ≤ 140737488351232) (p0 : Plain a0) (w1 : RowAt .u64 W a1 len1 cap1 z1) (_ : len1 * 8 ≤ 140737488351232) (p1 : Plain a1) (hT : Tab10 W) :
    Calls Tryd.prog 7 #[.slice a0 len0 cap0, .slice a1 len1 cap1] W fun e w' => e = .returned (.bool true) ∧ Below W.heap.size W w' :=
  natAdds_calls W a0 a1 len0 cap0 len1 cap1 _ _ (w0.slW p0) (w1.slW p1) p0 hT
end Go.Proofs.YtoikoeileilegaaDoor
