/- NatBack: the walk over the law. -/
import Derived.Test.YtoikoeileilegaaDoorNatDivs2
namespace Go.Proofs.YtoikoeileilegaaDoor
open Go.RowKit
theorem NatRes2.slw {w w' : World} {n bd : Nat} {v : Value} {e : Ending} (h : NatRes2 w n bd v e w') : ∃ a c zs, e = .returned (.tuple #[.slice a zs.length c, v]) ∧ SlW w' a zs.length c zs ∧ val zs = n ∧ sz zs = zs.length ∧ zs.length ≤ bd ∧ Plain a ∧ Below w.heap.size w w' := by
  obtain ⟨a, c, zs, rfl, r1, r2, r3, r4, r5⟩ := h
  exact ⟨a, c, zs, rfl, r1.sl, r2, r3, r4, r1.plain, r5⟩
theorem NatRes.slw' {w w' : World} {n bd : Nat} {e : Ending} (h : NatRes w n bd e w') : ∃ a c zs, e = .returned (.slice a zs.length c) ∧ SlW w' a zs.length c zs ∧ val zs = n ∧ sz zs = zs.length ∧ zs.length ≤ bd ∧ Plain a ∧ Below w.heap.size w w' := by
  obtain ⟨a, c, zs, rfl, r1, r2, r3, r4, r5⟩ := h
  exact ⟨a, c, zs, rfl, r1.sl, r2, r3, r4, r1.plain, r5⟩
theorem nil_of_val {zs : List Nat} (hz : sz zs = zs.length) (hv : val zs = 0) : zs = [] :=
  List.eq_nil_of_length_eq_zero (by rw [← hz]; exact sz_zero.2 hv)
set_option maxRecDepth 20000 in
set_option maxHeartbeats 8000000 in
theorem natBack_calls (w : World) (a b c : Option Addr) (la ca lb cb lc cc : Nat) (xs ys us : List Nat) (ha : SlW w a la ca xs) (hb : SlW w b lb cb ys) (hc : SlW w c lc cc us) (htab : Tab10 w) :
    Calls Tryd.prog 9 #[.slice a la ca, .slice b lb cb, .slice c lc cc] w fun e w' => e = .returned (.bool true) ∧ Below w.heap.size w w' := by
  have HA := Lib.hid ha
  have HB := Lib.hid hb
  have HC := Lib.hid hc
  have HT := Lib.hid htab
  have HAW := Lib.hid (awake_calls w htab)
  clear htab ha hb hc
  by_cases hfew : la ≤ 300 ∧ lb ≤ 300 ∧ lc ≤ 300
  · obtain ⟨hla, hlb, hlc⟩ := hfew
    go_enter Tryd.func9, Tryd.ntmps9
    go_wp2_with fail
    refine HAW.out.mono ?_
    rintro e w1 ⟨rfl, hb1⟩
    have HB1 := Lib.hid hb1
    have HA1 := Lib.hid (HA.out.below hb1)
    have HY1 := Lib.hid (HB.out.below hb1)
    have HC1 := Lib.hid (HC.out.below hb1)
    clear hb1
    go_wp2_with fail
    refine (mul_small HA1.out HY1.out (by omega)).mono ?_
    rintro e w2 hp
    obtain ⟨a1, c1, ps, rfl, r1, r2, r3, hpl, p1, r5⟩ := hp.slw
    have HP := Lib.hid (And.intro r1 (And.intro r2 (And.intro r3 r5)))
    have HA2 := Lib.hid (HA1.out.below r5)
    have HC2 := Lib.hid (HC1.out.below r5)
    clear r1 r2 r3 r5 hp
    go_wp2_with fail
    refine (add_small HA2.out HC2.out (n := 300) (by omega) (by omega) (by omega)).mono ?_
    rintro e w3 hp
    obtain ⟨a2, c2, ss, rfl, r1, r2, r3, hsl, p2, r5⟩ := hp.slw'
    have HS := Lib.hid (And.intro r1 (And.intro r2 r3))
    have HB3 := Lib.hid r5
    clear r1 r2 r3 r5 hp
    go_wp2_with fail
    refine (sub_calls w3 a2 c _ c2 lc cc ss us HS.out.1 (HC2.out.below HB3.out) (by omega) p2).mono ?_
    rintro e w4 hp
    rw [HS.out.2.1, Nat.add_sub_cancel, show subErr (val xs + val us) (val us) = 0 from if_neg (by omega)] at hp
    obtain ⟨a3, c3, ds, rfl, r1, r2, r3, hdl, -, r5⟩ := hp.slw
    have HB4 := Lib.hid (below_then HB3.out r5)
    have HA4 := Lib.hid (HA2.out.below HB4.out)
    have HY4 := Lib.hid ((HY1.out.below HP.out.2.2.2).below HB4.out)
    have HC4 := Lib.hid (HC2.out.below HB4.out)
    have HP4 := Lib.hid (HP.out.1.below HB4.out)
    have HSM := Lib.hid (same_calls w4 _ _ _ _ _ _ _ _ r1 HA4.out r2 r3)
    have HBW4 := Lib.hid (below_then (below_then HB1.out HP.out.2.2.2) HB4.out)
    clear r1 r2 r3 r5 hp hsl hdl
    go_wp2_with fail
    refine HSM.out.mono ?_
    rintro e w6 ⟨rfl, rfl⟩
    by_cases h0 : sz ys = 0
    · have HD := Lib.hid (divNo_calls w4 a1 b _ c1 lb cb ps ys HP4.out HY4.out h0)
      go_wp2_with fail
      refine HD.out.mono ?_
      rintro e w5 ⟨s1, s2, rfl, n1, n2⟩
      obtain ⟨a4, c4, qs, rfl, r1, r2, r3, r4, -, r5⟩ := n1.slw
      obtain ⟨a5, c5, rs, rfl, t1, t2, t3, t4, -, -⟩ := n2.slw
      obtain rfl := nil_of_val r3 r2
      obtain rfl := nil_of_val t3 t2
      have hs := refSize_calls w5 b lb cb ys (HY4.out.below r5)
      rw [h0] at hs
      have HSZ := Lib.hid hs
      have HBE := Lib.hid (below_then HBW4.out r5)
      clear r1 r2 r3 r4 r5 t1 t2 t3 t4 n1 n2 hs h0
      go_wp2_with fail
      refine HSZ.out.mono ?_
      rintro e w6 ⟨rfl, rfl⟩
      go_wp2
      go_ret
      exact ⟨rfl, HBE.out⟩
    · have hY0 : 0 < val ys := Nat.pos_of_ne_zero fun e => h0 (sz_zero.2 e)
      have HYP := Lib.hid hY0
      have HD := Lib.hid (divOk_calls w4 a1 b _ c1 lb cb ps ys HP4.out HY4.out p1 (by omega) (by omega) (by omega))
      rw [HP.out.2.1, Nat.mul_div_cancel _ hY0, Nat.mul_mod_left] at HD
      go_wp2_with fail
      refine HD.out.mono ?_
      rintro e w5 ⟨s1, s2, rfl, n1, n2⟩
      obtain ⟨a4, c4, qs, rfl, r1, r2, r3, -, -, r5⟩ := n1.slw
      obtain ⟨a5, c5, rs, rfl, t1, t2, t3, -, -, -⟩ := n2.slw
      obtain rfl := nil_of_val t3 t2
      have hs := refSize_calls w5 b lb cb ys (HY4.out.below r5)
      obtain ⟨l, hl⟩ : ∃ l, sz ys = l := ⟨_, rfl⟩
      rw [hl] at hs h0
      have hl0 : ((l : Int) == 0) = false := by simp; omega
      have HSZ := Lib.hid hs
      have HLY := Lib.hid hl
      have HSM2 := Lib.hid (same_calls w5 _ _ _ _ _ _ _ _ r1 (HA4.out.below r5) r2 r3)
      have HP5 := Lib.hid (HP4.out.below r5)
      have HC5 := Lib.hid (HC4.out.below r5)
      have HY5 := Lib.hid (HY4.out.below r5)
      have HBW5 := Lib.hid (below_then HBW4.out r5)
      clear r1 r2 r3 r5 t1 t2 t3 n1 n2 hs hl hY0
      go_wp2_with fail
      refine HSZ.out.mono ?_
      rintro e w6 ⟨rfl, rfl⟩
      go_wp2_with fail
      refine HSM2.out.mono ?_
      rintro e w6 ⟨rfl, rfl⟩
      go_wp2_with fail
      refine (add_small HP5.out HC5.out (n := 600) (by omega) (by omega) (by omega)).mono ?_
      rintro e w6 hp
      obtain ⟨a6, c6, ts, rfl, r1, r2, r3, htl, p6, r5⟩ := hp.slw'
      have HTV := Lib.hid r2
      have HB6 := Lib.hid r5
      have HD2 := Lib.hid (divOk_calls w6 a6 b _ c6 lb cb ts ys r1 (HY5.out.below r5) p6 (by omega) (by omega) (by rw [HLY.out]; omega))
      rw [r2] at HD2
      clear r1 r2 r3 r5 hp
      go_wp2_with fail
      refine HD2.out.mono ?_
      rintro e w7 ⟨s1, s2, rfl, n1, n2⟩
      obtain ⟨a7, c7, vs, rfl, r1, r2, r3, hvl, -, r5⟩ := n1.slw
      obtain ⟨a8, c8, ws, rfl, t1, t2, t3, hwl, -, -⟩ := n2.slw
      have hb7 := below_then HB6.out r5
      have HV := Lib.hid (And.intro r1 r2)
      have HW := Lib.hid (And.intro t1 t2)
      have HP7 := Lib.hid (HP5.out.below hb7)
      have HC7 := Lib.hid (HC5.out.below hb7)
      have HY7 := Lib.hid (HY5.out.below hb7)
      have HBW7 := Lib.hid (below_then HBW5.out hb7)
      clear r1 r2 r3 r5 t1 t2 t3 n1 n2 hb7
      go_wp2_with fail
      refine (refTimes_calls w7 _ _ _ _ _ _ vs ys HV.out.1 HY7.out (by omega) (by omega)).mono ?_
      rintro e w8 hp
      obtain ⟨a9, c9, es, rfl, r1, r2, r3, hel, -, r5⟩ := hp.slw'
      rw [HV.out.2] at r2
      have HE := Lib.hid (And.intro r1 r2)
      have HW8 := Lib.hid (HW.out.1.below r5)
      have HP8 := Lib.hid (HP7.out.below r5)
      have HC8 := Lib.hid (HC7.out.below r5)
      have HY8 := Lib.hid (HY7.out.below r5)
      have HBW8 := Lib.hid (below_then HBW7.out r5)
      clear r1 r2 r3 r5 hp
      go_wp2_with fail
      refine (refAdd_calls w8 _ _ _ _ _ _ es ws HE.out.1 HW8.out (by omega) (by omega)).mono ?_
      rintro e w9 hp
      obtain ⟨a10, c10, fs, rfl, r1, r2, r3, hfl, -, r5⟩ := hp.slw'
      rw [HE.out.2, HW.out.2] at r2
      have HF := Lib.hid (And.intro r1 r2)
      have HW9 := Lib.hid (HW8.out.below r5)
      have HP9 := Lib.hid (HP8.out.below r5)
      have HC9 := Lib.hid (HC8.out.below r5)
      have HY9 := Lib.hid (HY8.out.below r5)
      have HBW9 := Lib.hid (below_then HBW8.out r5)
      clear r1 r2 r3 r5 hp
      go_wp2_with fail
      refine (refAdd_calls w9 _ _ _ _ _ _ ps us HP9.out HC9.out (by omega) (by omega)).mono ?_
      rintro e w10 hp
      obtain ⟨a11, c11, gs, rfl, r1, r2, r3, hgl, -, r5⟩ := hp.slw'
      have hve : val fs = val gs := by rw [HF.out.2, r2, Nat.mul_comm]; exact Nat.div_add_mod _ _
      have hsm := refSame_calls w10 _ _ _ _ _ _ fs gs (HF.out.1.below r5) r1
      rw [decide_eq_true hve] at hsm
      have HSM3 := Lib.hid hsm
      have hcm := cmp_calls w10 _ _ _ _ _ _ ws ys (HW9.out.below r5) (HY9.out.below r5)
      rw [cmpI_lt (by rw [HW.out.2]; exact Nat.mod_lt _ HYP.out)] at hcm
      have HCM := Lib.hid hcm
      have HBE := Lib.hid (below_then HBW9.out r5)
      clear r1 r2 r3 r5 hp hve hsm hcm
      go_wp2_with fail
      refine HSM3.out.mono ?_
      rintro e w11 ⟨rfl, rfl⟩
      go_wp2_with fail
      refine HCM.out.mono ?_
      rintro e w11 ⟨rfl, m, rfl⟩
      go_wp2
      go_ret
      exact ⟨rfl, below_drewN' HBE.out m⟩
  · go_enter Tryd.func9, Tryd.ntmps9
    go_wp2_with fail
    refine HAW.out.mono ?_
    rintro e w1 ⟨rfl, hb1⟩
    have HB1 := Lib.hid hb1
    have HAW2 := Lib.hid (awake_calls w1 (tabIs_below HT.out hb1))
    clear hb1
    by_cases hla : la ≤ 300
    · by_cases hlb : lb ≤ 300
      · have hlc : (300 : Int) < (lc : Int) := by omega
        clear hfew
        go_wp2_with fail
        refine HAW2.out.mono ?_
        rintro e w2 ⟨rfl, hb2⟩
        have HB2 := Lib.hid hb2
        clear hb2
        go_wp2
        go_ret
        exact ⟨rfl, below_then HB1.out HB2.out⟩
      · have hlb' : (300 : Int) < (lb : Int) := by omega
        clear hfew hlb
        go_wp2_with fail
        refine HAW2.out.mono ?_
        rintro e w2 ⟨rfl, hb2⟩
        have HB2 := Lib.hid hb2
        clear hb2
        go_wp2
        go_ret
        exact ⟨rfl, below_then HB1.out HB2.out⟩
    · have hla' : (300 : Int) < (la : Int) := by omega
      clear hfew hla
      go_wp2_with fail
      refine HAW2.out.mono ?_
      rintro e w2 ⟨rfl, hb2⟩
      have HB2 := Lib.hid hb2
      clear hb2
      go_wp2
      go_ret
      exact ⟨rfl, below_then HB1.out HB2.out⟩
theorem natBack_row (a0 : Option Addr) (len0 cap0 : Nat) (z0 : List Int) (a1 : Option Addr) (len1 cap1 : Nat) (z1 : List Int) (a2 : Option Addr) (len2 cap2 : Nat) (z2 : List Int) (W : World) (w0 : RowAt .u64 W a0 len0 cap0 z0) (_ : len0 * 8 ≤ 140737488351232) (p0 : Plain a0) (w1 : RowAt .u64 W a1 len1 cap1 z1) (_ : len1 * 8 ≤ 140737488351232) (p1 : Plain a1) (w2 : RowAt .u64 W a2 len2 cap2 z2) (_ : len2 * 8 ≤ 140737488351232) (p2 : Plain a2) (hT : Tab10 W) :
    Calls Tryd.prog 9 #[.slice a0 len0 cap0, .slice a1 len1 cap1, .slice a2 len2 cap2] W fun e w' => e = .returned (.bool true) ∧ Below W.heap.size W w' :=
  natBack_calls W a0 a1 a2 len0 cap0 len1 cap1 len2 cap2 _ _ _ (w0.slW p0) (w1.slW p1) (w2.slW p2) hT
end Go.Proofs.YtoikoeileilegaaDoor
