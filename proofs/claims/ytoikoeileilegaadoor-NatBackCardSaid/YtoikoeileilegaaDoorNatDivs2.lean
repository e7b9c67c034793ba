/- NatDivs: the walk over the law. -/
import Derived.Test.YtoikoeileilegaaDoorNatDivs
namespace Go.Proofs.YtoikoeileilegaaDoor
open Go.RowKit
theorem NatRes.slw {w w' : World} {n bd : Nat} {s : Value} (h : NatRes w n bd (.returned s) w') : ∃ a c zs, s = .slice a zs.length c ∧ SlW w' a zs.length c zs ∧ val zs = n ∧ sz zs = zs.length ∧ zs.length ≤ bd ∧ Plain a ∧ Below w.heap.size w w' := by
  obtain ⟨a, c, zs, rfl, r1, r2, r3, r4, r5⟩ := h.sides
  exact ⟨a, c, zs, rfl, r1.sl, r2, r3, r4, r1.plain, r5⟩
set_option maxRecDepth 10000 in
set_option maxHeartbeats 4000000 in
theorem natDivs_calls (w : World) (a b : Option Addr) (la ca lb cb : Nat) (xs ys : List Nat) (ha : SlW w a la ca xs) (hb : SlW w b lb cb ys) (pa : Plain a) (pb : Plain b) (htab : Tab10 w) :
    Calls Tryd.prog 8 #[.slice a la ca, .slice b lb cb] w fun e w' => e = .returned (.bool true) ∧ Below w.heap.size w w' := by
  have HA := Lib.hid ha
  have HB := Lib.hid hb
  have HT := Lib.hid htab
  have HAW := Lib.hid (awake_calls w htab)
  clear htab ha hb
  by_cases hfew : la ≤ 200 ∧ lb ≤ 200
  · obtain ⟨hla, hlb⟩ := hfew
    by_cases h0 : sz ys = 0
    · go_enter Tryd.func8, Tryd.ntmps8
      go_wp2_with fail
      refine HAW.out.mono ?_
      rintro e w1 ⟨rfl, hb1⟩
      have HB1 := Lib.hid hb1
      have HD1 := Lib.hid (divNo_calls w1 a b la ca lb cb xs ys (HA.out.below hb1) (HB.out.below hb1) h0)
      have HD2 := Lib.hid (fun W (hW : Below w1.heap.size w1 W) => refDivNo_calls W a b la ca lb cb ys ((HB.out.below hb1).below hW) h0)
      clear hb1 h0
      go_wp2_with fail
      refine HD1.out.mono ?_
      rintro e w2 ⟨s1, s2, rfl, n1, n2⟩
      obtain ⟨a1, c1, z1, rfl, r1, r2, r3, r4, -, r5⟩ := n1.slw
      obtain ⟨a2, c2, z2, rfl, t1, t2, t3, t4, -, -⟩ := n2.slw
      have R1 := Lib.hid (And.intro r1 (And.intro r2 (And.intro r3 r5)))
      have R2 := Lib.hid (And.intro t1 (And.intro t2 t3))
      clear r1 r2 r3 r4 r5 t1 t2 t3 t4 n1 n2
      go_wp2_with fail
      refine (HD2.out w2 R1.out.2.2.2).mono ?_
      rintro e w3 ⟨s3, s4, rfl, n1, n2⟩
      obtain ⟨a3, c3, z3, rfl, r1, r2, r3, r4, -, r5⟩ := n1.slw
      obtain ⟨a4, c4, z4, rfl, t1, t2, t3, t4, -, -⟩ := n2.slw
      have HS1 := Lib.hid (same_calls w3 _ _ _ _ _ _ _ _ (R1.out.1.below r5) r1 (by rw [R1.out.2.1, r2]) R1.out.2.2.1)
      have HS2 := Lib.hid (same_calls w3 _ _ _ _ _ _ _ _ (R2.out.1.below r5) t1 (by rw [R2.out.2.1, t2]) R2.out.2.2)
      have HBE := Lib.hid (below_then HB1.out (below_then R1.out.2.2.2 r5))
      clear r1 r2 r3 r4 r5 t1 t2 t3 t4 n1 n2
      go_wp2_with fail
      refine HS1.out.mono ?_
      rintro e w6 ⟨rfl, rfl⟩
      go_wp2_with fail
      refine HS2.out.mono ?_
      rintro e w6 ⟨rfl, rfl⟩
      go_wp2
      go_ret
      exact ⟨rfl, HBE.out⟩
    · have hY0 : 0 < val ys := Nat.pos_of_ne_zero fun e => h0 (sz_zero.2 e)
      have HDM := Lib.hid (Nat.div_add_mod (val xs) (val ys))
      have HLT := Lib.hid (Nat.mod_lt (val xs) hY0)
      go_enter Tryd.func8, Tryd.ntmps8
      go_wp2_with fail
      refine HAW.out.mono ?_
      rintro e w1 ⟨rfl, hb1⟩
      have HB1 := Lib.hid hb1
      have HA1 := Lib.hid (HA.out.below hb1)
      have HY1 := Lib.hid (HB.out.below hb1)
      have HD1 := Lib.hid (divOk_calls w1 a b la ca lb cb xs ys HA1.out HY1.out pa (by omega) (by omega) (by omega))
      have HD2 := Lib.hid (fun W (hW : Below w1.heap.size w1 W) => refDivOk_calls W a b la ca lb cb xs ys (HA1.out.below hW) (HY1.out.below hW) pa pb (by omega) (by omega) (by omega))
      clear hb1 h0 hY0
      go_wp2_with fail
      refine HD1.out.mono ?_
      rintro e w2 ⟨s1, s2, rfl, n1, n2⟩
      obtain ⟨a1, c1, z1, rfl, r1, r2, r3, hz1, -, r5⟩ := n1.slw
      obtain ⟨a2, c2, z2, rfl, t1, t2, t3, hz2, -, -⟩ := n2.slw
      have R1 := Lib.hid (And.intro r1 (And.intro r2 (And.intro r3 r5)))
      have R2 := Lib.hid (And.intro t1 (And.intro t2 t3))
      clear r1 r2 r3 r5 t1 t2 t3 n1 n2
      go_wp2_with fail
      refine (HD2.out w2 R1.out.2.2.2).mono ?_
      rintro e w3 ⟨s3, s4, rfl, n1, n2⟩
      obtain ⟨a3, c3, z3, rfl, r1, r2, r3, r4, -, r5⟩ := n1.slw
      obtain ⟨a4, c4, z4, rfl, t1, t2, t3, t4, -, -⟩ := n2.slw
      have HS1 := Lib.hid (same_calls w3 _ _ _ _ _ _ _ _ (R1.out.1.below r5) r1 (by rw [R1.out.2.1, r2]) R1.out.2.2.1)
      have HS2 := Lib.hid (same_calls w3 _ _ _ _ _ _ _ _ (R2.out.1.below r5) t1 (by rw [R2.out.2.1, t2]) R2.out.2.2)
      have HB3 := Lib.hid (below_then R1.out.2.2.2 r5)
      have HQ3 := Lib.hid (R1.out.1.below r5)
      have HR3 := Lib.hid (R2.out.1.below r5)
      have HA3 := Lib.hid (HA1.out.below HB3.out)
      have HY3 := Lib.hid (HY1.out.below HB3.out)
      clear r1 r2 r3 r4 r5 t1 t2 t3 t4 n1 n2
      go_wp2_with fail
      refine HS1.out.mono ?_
      rintro e w6 ⟨rfl, rfl⟩
      go_wp2_with fail
      refine HS2.out.mono ?_
      rintro e w6 ⟨rfl, rfl⟩
      go_wp2_with fail
      refine (refTimes_calls w3 _ _ _ _ _ _ z1 ys HQ3.out HY3.out (by omega) (by omega)).mono ?_
      rintro e w4 ⟨a5, c5, z5, rfl, r1, r2, r3, hz5, r5⟩
      rw [R1.out.2.1] at r2
      have R5 := Lib.hid (And.intro r1 (And.intro r2 (And.intro r3 r5)))
      clear r1 r2 r3 r5
      go_wp2_with fail
      refine (refAdd_calls w4 _ _ _ _ _ _ z5 z2 R5.out.1.sl (HR3.out.below R5.out.2.2.2) (by omega) (by omega)).mono ?_
      rintro e w5 ⟨a6, c6, z6, rfl, r1, r2, r3, hz6, r5⟩
      have hv6 : val z6 = val xs := by
        rw [r2, R5.out.2.1, R2.out.2.1, Nat.mul_comm]
        exact HDM.out
      have hsm := refSame_calls w5 _ _ _ _ _ _ z6 xs r1.sl ((HA3.out.below R5.out.2.2.2).below r5)
      rw [decide_eq_true hv6] at hsm
      have HSM := Lib.hid hsm
      have hcm := refCmp_calls w5 _ _ _ _ _ _ z2 ys ((HR3.out.below R5.out.2.2.2).below r5) ((HY3.out.below R5.out.2.2.2).below r5)
      rw [cmpI_lt (by rw [R2.out.2.1]; exact HLT.out)] at hcm
      have HCM := Lib.hid hcm
      have HBE := Lib.hid (below_then (below_then (below_then HB1.out HB3.out) R5.out.2.2.2) r5)
      clear r1 r2 r3 r5 hv6 hsm hcm
      go_wp2_with fail
      refine HSM.out.mono ?_
      rintro e w6 ⟨rfl, rfl⟩
      go_wp2_with fail
      refine HCM.out.mono ?_
      rintro e w6 ⟨rfl, rfl⟩
      go_wp2
      go_ret
      exact ⟨rfl, HBE.out⟩
  · go_enter Tryd.func8, Tryd.ntmps8
    go_wp2_with fail
    refine HAW.out.mono ?_
    rintro e w1 ⟨rfl, hb1⟩
    have HB1 := Lib.hid hb1
    have HAW2 := Lib.hid (awake_calls w1 (tabIs_below HT.out hb1))
    clear hb1
    by_cases hla : la ≤ 200
    · have hlb : (200 : Int) < (lb : Int) := by omega
      clear hfew
      go_wp2_with fail
      refine HAW2.out.mono ?_
      rintro e w2 ⟨rfl, hb2⟩
      have HB2 := Lib.hid hb2
      clear hb2
      go_wp2
      go_ret
      exact ⟨rfl, below_then HB1.out HB2.out⟩
    · have hla' : (200 : Int) < (la : Int) := by omega
      clear hfew hla
      go_wp2_with fail
      refine HAW2.out.mono ?_
      rintro e w2 ⟨rfl, hb2⟩
      have HB2 := Lib.hid hb2
      clear hb2
      go_wp2
      go_ret
      exact ⟨rfl, below_then HB1.out HB2.out⟩
theorem natDivs_row (a0 : Option Addr) (len0 cap0 : Nat) (z0 : List Int) (a1 : Option Addr) (len1 cap1 : Nat) (z1 : List Int) (W : World) (w0 : RowAt .u64 W a0 len0 cap0 z0) (_ : len0 * 8 ≤ 140737488351232) (p0 : Plain a0) (w1 : RowAt .u64 W a1 len1 cap1 z1) (_ : len1 * 8 ≤ 140737488351232) (p1 : Plain a1) (hT : Tab10 W) :
    Calls Tryd.prog 8 #[.slice a0 len0 cap0, .slice a1 len1 cap1] W fun e w' => e = .returned (.bool true) ∧ Below W.heap.size W w' :=
  natDivs_calls W a0 a1 len0 cap0 len1 cap1 _ _ (w0.slW p0) (w1.slW p1) p0 p1 hT
end Go.Proofs.YtoikoeileilegaaDoor
