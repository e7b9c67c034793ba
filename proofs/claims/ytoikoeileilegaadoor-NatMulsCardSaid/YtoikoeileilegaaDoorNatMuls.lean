/- NatMuls: the walk over the law. -/
import Derived.Test.YtoikoeileilegaaDoorLaidNat
namespace Go.Proofs.YtoikoeileilegaaDoor
open Go.RowKit
theorem mulVal_comm (xs ys : List Nat) : mulVal ys xs = mulVal xs ys := by
  unfold mulVal
  rw [Nat.add_comm (sz ys), Nat.mul_comm (val ys)]
theorem mulErr_comm (k l : Nat) : mulErr l k = mulErr k l := by unfold mulErr; rw [Nat.add_comm]
set_option maxRecDepth 10000 in
set_option maxHeartbeats 2000000 in
theorem natMuls_calls (w : World) (a b : Option Addr) (la ca lb cb : Nat) (xs ys : List Nat) (ha : SlW w a la ca xs) (hb : SlW w b lb cb ys) (pa : Plain a) (pb : Plain b) (htab : Tab10 w) :
    Calls Tryd.prog 3 #[.slice a la ca, .slice b lb cb] w fun e w' => e = .returned (.bool true) ∧ Below w.heap.size w w' := by
  have HA := Lib.hid ha
  have HB := Lib.hid hb
  have HT := Lib.hid htab
  have HAW := Lib.hid (awake_calls w htab)
  clear htab ha hb
  by_cases hla : (la : Int) ≤ 2500
  · have HF1 := Lib.hid (fun w => few_calls w a la ca true (decide_eq_true hla))
    by_cases hlb : (lb : Int) ≤ 2500
    · have HF2 := Lib.hid (fun w => few_calls w b lb cb true (decide_eq_true hlb))
      go_enter Tryd.func3, Tryd.ntmps3
      go_wp2_with fail
      refine HAW.out.mono ?_
      rintro e w1 ⟨rfl, hb1⟩
      have HB1 := Lib.hid hb1
      clear hb1
      go_wp2_with fail
      refine (HF1.out _).mono ?_
      rintro e w1 ⟨rfl, rfl⟩
      go_wp2_with fail
      refine (HF2.out _).mono ?_
      rintro e w1 ⟨rfl, rfl⟩
      have ba := HA.out.below HB1.out
      have bb := HB.out.below HB1.out
      have HM1 := Lib.hid (mul_calls w1 a b la ca lb cb xs ys ba bb (by omega) (by omega))
      have HM2 := Lib.hid (fun W (hW : Below w1.heap.size w1 W) => refMul_calls W a b la ca lb cb xs ys (ba.below hW) (bb.below hW) (by omega) (by omega) pa pb)
      have HM3 := Lib.hid (fun W (hW : Below w1.heap.size w1 W) => mul_calls W b a lb cb la ca ys xs (bb.below hW) (ba.below hW) (by omega) (by omega))
      rw [mulVal_comm, mulErr_comm] at HM3
      clear ba bb
      generalize mulVal xs ys = V at HM1 HM2 HM3
      generalize mulErr (sz xs) (sz ys) = E at HM1 HM2 HM3
      go_wp2_with fail
      refine HM1.out.mono ?_
      rintro e w2 ⟨a1, c1, z1, rfl, r1, r2, r3, r4, r5⟩
      have R1 := Lib.hid (And.intro r1 (And.intro r2 (And.intro r3 r5)))
      clear r1 r2 r3 r4
      go_wp2_with fail
      refine (HM2.out w2 r5).mono ?_
      rintro e w3 ⟨a2, c2, z2, rfl, r1, r2, r3, r4, r6⟩
      have R2 := Lib.hid (And.intro r1 (And.intro r2 (And.intro r3 r6)))
      have r7 := below_then r5 r6
      clear r1 r2 r3 r4 r5 r6
      go_wp2_with fail
      refine (HM3.out w3 r7).mono ?_
      rintro e w4 ⟨a3, c3, z3, rfl, r1, r2, r3, r4, r6⟩
      have R3 := Lib.hid (And.intro r1 (And.intro r2 (And.intro r3 r6)))
      clear r1 r2 r3 r4 r7
      have s1 := (R1.out.1.keep R2.out.2.2.2).keep r6
      have s2 := R2.out.1.keep r6
      have HS1 := Lib.hid (same_calls w4 _ _ _ _ _ _ _ _ s1.sl s2.sl (by rw [R1.out.2.1, R2.out.2.1]) R1.out.2.2.1)
      have HS2 := Lib.hid (same_calls w4 _ _ _ _ _ _ _ _ R3.out.1.sl s1.sl (by rw [R3.out.2.1, R1.out.2.1]) R3.out.2.2.1)
      have HBE := Lib.hid (below_then HB1.out (below_then R1.out.2.2.2 (below_then R2.out.2.2.2 r6)))
      clear s1 s2 r6
      go_wp2_with fail
      refine HS1.out.mono ?_
      rintro e w5 ⟨rfl, rfl⟩
      go_wp2_with fail
      refine HS2.out.mono ?_
      rintro e w5 ⟨rfl, rfl⟩
      go_wp2
      go_ret
      exact ⟨rfl, HBE.out⟩
    · have HF2 := Lib.hid (fun w => few_calls w b lb cb false (decide_eq_false hlb))
      go_enter Tryd.func3, Tryd.ntmps3
      go_wp2_with fail
      refine HAW.out.mono ?_
      rintro e w1 ⟨rfl, hb1⟩
      have HB1 := Lib.hid hb1
      have HAW2 := Lib.hid (awake_calls w1 (tabIs_below HT.out hb1))
      clear hb1
      go_wp2_with fail
      refine (HF1.out _).mono ?_
      rintro e w1 ⟨rfl, rfl⟩
      go_wp2_with fail
      refine (HF2.out _).mono ?_
      rintro e w1 ⟨rfl, rfl⟩
      go_wp2_with fail
      refine HAW2.out.mono ?_
      rintro e w2 ⟨rfl, hb2⟩
      have HB2 := Lib.hid hb2
      clear hb2
      go_wp2
      go_ret
      exact ⟨rfl, below_then HB1.out HB2.out⟩
  · have HF1 := Lib.hid (fun w => few_calls w a la ca false (decide_eq_false hla))
    go_enter Tryd.func3, Tryd.ntmps3
    go_wp2_with fail
    refine HAW.out.mono ?_
    rintro e w1 ⟨rfl, hb1⟩
    have HB1 := Lib.hid hb1
    have HAW2 := Lib.hid (awake_calls w1 (tabIs_below HT.out hb1))
    clear hb1
    go_wp2_with fail
    refine (HF1.out _).mono ?_
    rintro e w1 ⟨rfl, rfl⟩
    go_wp2_with fail
    refine HAW2.out.mono ?_
    rintro e w2 ⟨rfl, hb2⟩
    have HB2 := Lib.hid hb2
    clear hb2
    go_wp2
    go_ret
    exact ⟨rfl, below_then HB1.out HB2.out⟩
theorem natMuls_row (a0 : Option Addr) (len0 cap0 : Nat) (z0 : List Int) (a1 : Option Addr) (len1 cap1 : Nat) (z1 : List Int) (W : World) (w0 : RowAt .u64 W a0 len0 cap0 z0) (_ : len0 * 8 ≤ 140737488351232) (p0 : Plain a0) (w1 : RowAt .u64 W a1 len1 cap1 z1) (_ : len1 * 8 ≤ 140737488351232) (p1 : Plain a1) (hT : Tab10 W) :
    Calls Tryd.prog 3 #[.slice a0 len0 cap0, .slice a1 len1 cap1] W fun e w' => e = .returned (.bool true) ∧ Below W.heap.size W w' :=
  natMuls_calls W a0 a1 len0 cap0 len1 cap1 _ _ (w0.slW p0) (w1.slW p1) p0 p1 hT
end Go.Proofs.YtoikoeileilegaaDoor
