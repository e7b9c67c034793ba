/- The contract of the reference's Cut at a number. -/
import Derived.Test.YtiocdgehpiagjaaDoorRfCut
namespace Go.Proofs.YtiocdgehpiagjaaDoor
open Go.RowKit
def dotted (r : List UInt8) : Bool := match r with
  | [] => false
  | c :: _ => decide (c = 46)
theorem dotted_pure (r : List UInt8) : (dotted r = true → ∃ u, r = 46 :: u ∧ dotL r = runL u) ∧ (dotted r = false → dotL r = ([], r)) := by
  cases r with
  | nil => exact ⟨fun h => (by cases h), fun _ => rfl⟩
  | cons c u =>
    by_cases hc : c = 46
    · subst hc
      exact ⟨fun _ => ⟨u, rfl, rfl⟩, fun h => by simp [dotted] at h⟩
    · refine ⟨fun h => absurd (by simpa [dotted] using h) hc, fun _ => ?_⟩
      unfold dotL
      simp only [if_neg hc]
set_option maxRecDepth 10000 in
set_option maxHeartbeats 4000000 in
theorem rcut_fin (t : ByteArray) (l : List UInt8) (h : t.data.toList = l) (hl : l.length ≤ 4000) (w : World) (hp : wordL (signL l).2 = none)
    (neg : Bool) (r whole r1 part rest : List UInt8) (e1 : signL l = (neg, r)) (e2 : runL r = (whole, r1)) (e3 : dotL r1 = (part, rest)) :
    Calls Tryd.prog 10 #[.string t] w fun e w' => e = .returned (.tuple #[.agg (partsV (finL neg whole part rest).1), .int .i64 (finL neg whole part rest).2]) ∧ Below w.heap.size w w' := by
  have hs := str_size h
  have lr : r.length ≤ 4000 := by
    have : r.length ≤ l.length := by have := sign_len l; rw [e1] at this; exact this
    omega
  have lr1 : r1.length ≤ 4000 := by
    have : r1.length ≤ r.length := by have := (run_len r).2; rw [e2] at this; exact this
    omega
  have lw : whole.length ≤ 4000 := by
    have : whole.length ≤ r.length := by have := (run_len r).1; rw [e2] at this; exact this
    omega
  have K1 := fun w => refSign_calls t l h (by omega) w
  have K2 := fun W => refWord_calls ⟨r.toArray⟩ r rfl lr W
  have K3 := fun W => refRun_calls ⟨r.toArray⟩ r rfl (by omega) W
  obtain ⟨dp1, dp2⟩ := dotted_pure r1
  rw [e3] at dp1 dp2
  unfold wordR at K2
  rw [e1] at hp K1
  simp only [hp] at K2
  simp only [Option.getD_none, Option.isSome_none] at K2
  rw [e2] at K3
  simp only [] at K1 K3
  have J1 := Lib.hid K1
  have J2 := Lib.hid K2
  have J3 := Lib.hid K3
  have h2 : t.size ≤ 4000 := by omega
  have lrest : rest.length ≤ 4000 ∧ part.length ≤ 4000 := by
    cases ok : dotted r1
    · have := dp2 ok
      simp only [Prod.mk.injEq] at this
      rw [this.1, this.2]
      exact ⟨lr1, by simp⟩
    · obtain ⟨u, hu, hd⟩ := dp1 ok
      have h3 := run_len u
      rw [← hd] at h3
      simp only [] at h3
      rw [hu] at lr1
      simp at lr1
      omega
  have HD := Lib.hid (And.intro dp1 dp2)
  obtain ⟨dt, hdt⟩ : ∃ q, dotted r1 = q := ⟨_, rfl⟩
  have HDT := Lib.hid hdt
  obtain ⟨n, hn⟩ : ∃ n, t.size = n := ⟨_, rfl⟩
  rw [hn] at h2
  obtain ⟨b, hb⟩ : ∃ b, w.heap.size = b := ⟨_, rfl⟩
  have HBB : Hid (w.heap.size ≤ b) := Lib.hid (by rw [hb]; exact Nat.le_refl _)
  obtain ⟨WB, hWB⟩ : ∃ q : ByteArray, (⟨whole.toArray⟩ : ByteArray) = q := ⟨_, rfl⟩
  obtain ⟨PB, hPB⟩ : ∃ q : ByteArray, (⟨part.toArray⟩ : ByteArray) = q := ⟨_, rfl⟩
  obtain ⟨RB, hRB⟩ : ∃ q : ByteArray, (⟨rest.toArray⟩ : ByteArray) = q := ⟨_, rfl⟩
  obtain ⟨R1, hR1⟩ : ∃ q : ByteArray, (⟨r1.toArray⟩ : ByteArray) = q := ⟨_, rfl⟩
  have HW : Hid (WB.data.toList = whole) := Lib.hid (by rw [← hWB])
  have HPB : Hid (PB.data.toList = part ∧ (⟨part.toArray⟩ : ByteArray) = PB) := Lib.hid ⟨by rw [← hPB], hPB⟩
  have HRB : Hid (RB.data.toList = rest ∧ (⟨rest.toArray⟩ : ByteArray) = RB) := Lib.hid ⟨by rw [← hRB], hRB⟩
  have HR1 : Hid (R1.data.toList = r1 ∧ (⟨r1.toArray⟩ : ByteArray) = R1) := Lib.hid ⟨by rw [← hR1], hR1⟩
  rw [hWB, hR1] at J3
  have HLR := Lib.hid lr1
  clear h hl hs hp K1 K2 K3 dp1 dp2 e1 e2 e3 lr lr1 hWB hPB hRB hR1 hdt
  go_enter Tryd.func10, Tryd.ntmps10
  go_wp2_with fail
  refine (J1.out _).mono ?_
  rintro e w1 ⟨rfl, hb1⟩
  have HB1 := Lib.hid (below_then (below_alloc (Below.refl w.heap.size w) _) hb1)
  have HX1 : Hid (w1.heap[b]? = some (.cells #[.int .i64 0, .bool false, .bool false, .string ⟨#[]⟩, .int .i64 0] 28 (0, 0))) := Lib.hid (below_heap hb1 (by rw [← hb]; exact heap_new _ _))
  clear hb hb1 J1
  go_wp2_with fail
  refine (J2.out _).mono ?_
  rintro e w2 ⟨rfl, hb2⟩
  have HB2 := Lib.hid (below_then HB1.out hb2)
  have HX2 := Lib.hid (below_heap hb2 HX1.out)
  clear hb2 HB1 HX1 J2
  go_wp2_with (first
    | ((with_reducible refine gate_store 28 ?_); refine st_box 28 28 (w0 := w) HB2.out rparts_info (fun W3 hb3 hk3 hX3 => ?_) (hn := rfl) (h1 := partsV_one noParts); have HY3 := Lib.hid (below_heap hk3 HX2.out); have HB3 := Lib.hid hb3; clear hb3 hk3 hX3)
    | fail)
  refine (J3.out _).mono ?_
  rintro e w5 ⟨rfl, hb5⟩
  have HB5 := Lib.hid (below_then HB3.out hb5)
  have HY5 := Lib.hid (below_heap hb5 HY3.out)
  clear hb5 HB2 HX2 HY3 HB3 J3
  go_upto_region 10 with fail
  go_cut [43] (fun s43 wx => s43 = .bool dt ∧ wx = w5)
  case first =>
    cases hS : r1 with
    | nil =>
      have h0 : R1 = ⟨#[]⟩ := bytes_of (by rw [HR1.out.1, hS])
      have hs : Hid (dt = false) := Lib.hid (by rw [← HDT.out, hS]; rfl)
      subst h0
      clear hS
      go_wp2
      go_meet
      exact ⟨by rw [hs.out], rfl⟩
    | cons c u =>
      have hsz : R1.size = u.length + 1 := by rw [str_size HR1.out.1, hS]; simp
      have h0 : 0 < R1.size := by omega
      have hg : R1[0]'h0 = c := get_of (l := c :: u) (by rw [HR1.out.1, hS]) h0 (by simp)
      have hs : Hid (dt = decide (c = 46)) := Lib.hid (by rw [← HDT.out, hS]; rfl)
      have hni : (0 : Int) < (R1.size : Int) := by omega
      have hsm : R1.size ≤ 5000 := by have := HLR.out; rw [hS] at this; simp at this; omega
      clear hS hsz
      by_cases hc : c = 46
      · subst hc
        go_wp2
        go_meet
        exact ⟨by rw [hs.out]; rfl, rfl⟩
      · have q3 : (((c.toNat : Nat) : Int) == 46) = false := beq_eq_false_iff_ne.2 (fun e => hc (UInt8.toNat_inj.1 (by show c.toNat = 46; omega)))
        have hs2 : Hid (dt = false) := Lib.hid (by rw [hs.out]; simp [hc])
        clear hc
        go_wp2
        go_meet
        exact ⟨by rw [hs2.out], rfl⟩
  case rest =>
  obtain ⟨rfl, rfl⟩ := hcut
  go_upto_if 43 with fail
  go_cut [9, 8] (fun s9 s8 wx => s9 = .string PB ∧ s8 = .string RB ∧ Below wc.heap.size wc wx)
  case first =>
    cases dt
    · have hd := HD.out.2 HDT.out
      simp only [Prod.mk.injEq] at hd
      have HE : Hid ((⟨#[]⟩ : ByteArray) = PB ∧ R1 = RB) := Lib.hid ⟨by rw [← HPB.out.2, hd.1], by rw [← HRB.out.2, ← HR1.out.2, hd.2]⟩
      clear hd
      go_wp2
      go_meet
      exact ⟨by rw [← HE.out.1], by rw [← HE.out.2], Below.refl _ _⟩
    · obtain ⟨u, hu, hd⟩ := HD.out.1 HDT.out
      have hsz : R1.size = u.length + 1 := by rw [str_size HR1.out.1, hu]; simp
      have hul : u.length ≤ 4000 := by have := HLR.out; rw [hu] at this; simp at this; omega
      have hx : (R1.extract 1 R1.size).data.toList = u := by
        rw [ext_drop HR1.out.1 1, hu]
        rfl
      have K5 := refRun_calls (R1.extract 1 R1.size) u hx (by omega) wc
      rw [← hd] at K5
      simp only [] at K5
      rw [HPB.out.2, HRB.out.2] at K5
      have J5 := Lib.hid K5
      have hni : (1 : Int) ≤ (R1.size : Int) := by omega
      have hsm : R1.size ≤ 5000 := by omega
      clear hd hu hsz hul hx K5
      go_wp2_with fail
      refine J5.out.mono ?_
      rintro e w7 ⟨rfl, hb7⟩
      have HB7 := Lib.hid hb7
      clear hb7
      go_wp2
      go_meet
      exact ⟨rfl, rfl, HB7.out⟩
  case rest =>
  obtain ⟨rfl, rfl, hbc⟩ := hcut
  have HBC := Lib.hid (below_then HB5.out hbc)
  have HYC := Lib.hid (below_heap hbc HY5.out)
  clear hbc HB5 HY5 HD HDT HLR HR1
  obtain ⟨wE, hwE⟩ : ∃ q, WB.toList.isEmpty = q := ⟨_, rfl⟩
  obtain ⟨pE, hpE⟩ : ∃ q, PB.toList.isEmpty = q := ⟨_, rfl⟩
  have hcat : WB.size + PB.size ≤ 8000 := by rw [str_size HW.out, str_size HPB.out.1]; omega
  obtain ⟨e0, he0⟩ : ∃ q, (wE && pE) = q := ⟨_, rfl⟩
  have hE0 : (whole ++ part).isEmpty = e0 := by
    have a1 : whole.isEmpty = wE := by rw [← hwE]; exact (isEmpty_of HW.out).symm
    have a2 : part.isEmpty = pE := by rw [← hpE]; exact (isEmpty_of HPB.out.1).symm
    rw [← he0, ← a1, ← a2]
    cases whole <;> cases part <;> rfl
  have HE0 := Lib.hid hE0
  have HE1 := Lib.hid he0
  clear hE0 he0
  go_upto_region 12 with fail
  go_cut [55] (fun s55 wx => s55 = .bool e0 ∧ wx = wc)
  case first =>
    cases wE
    · go_wp2
      go_meet
      exact ⟨by rw [← HE1.out]; rfl, rfl⟩
    · cases pE
      · go_wp2
        go_meet
        exact ⟨by rw [← HE1.out]; rfl, rfl⟩
      · go_wp2
        go_meet
        exact ⟨by rw [← HE1.out]; rfl, rfl⟩
  case rest =>
  obtain ⟨rfl, rfl⟩ := hcut
  clear hwE hpE HE1
  cases e0
  · have hne : Hid (¬ whole ++ part = []) := Lib.hid (by simpa using HE0.out)
    clear HE0
    have HRL := Lib.hid lrest
    clear lrest
    have hrs := str_size HRB.out.1
    obtain ⟨nr, hnr⟩ : ∃ nr, rest.length = nr := ⟨_, rfl⟩
    rw [hnr] at hrs
    have hnr4 : nr ≤ 4000 := by rw [← hnr]; exact HRL.out.1
    have HNR := Lib.hid hnr
    clear hnr
    obtain ⟨rP, hrP⟩ : ∃ q, decide (0 < nr) = q := ⟨_, rfl⟩
    have HRP := Lib.hid hrP
    go_upto_if 59 with fail
    go_cut [10] (fun s10 wx => ∃ ev : Int, tailL rest = some ev ∧ s10 = .int .i64 ev ∧ wx.heap[b]? = some (.cells #[.int .i64 0, .bool false, .bool false, .string ⟨#[]⟩, .int .i64 0] 28 (0, 0)) ∧ Below w.heap.size w wx)
    case first =>
      clear hrP
      cases hrest : rest with
      | nil =>
        have hz : nr = 0 := by rw [← HNR.out, hrest]; rfl
        obtain rfl : rP = false := by rw [← HRP.out, hz]; rfl
        have HTL : Hid (tailL rest = some 0) := Lib.hid (by rw [hrest]; rfl)
        clear hrest HRP hz
        go_wp2
        go_meet
        exact ⟨0, HTL.out, rfl, HYC.out, HBC.out⟩
      | cons c u =>
        have hz : nr = u.length + 1 := by rw [← HNR.out, hrest]; rfl
        obtain rfl : rP = true := by rw [← HRP.out]; exact decide_eq_true (by omega)
        have h0 : 0 < RB.size := by omega
        have hb0 : RB[0]'h0 = c := get_of (l := c :: u) (by rw [HRB.out.1, hrest]) h0 (by simp)
        have hx : (RB.extract 1 nr).data.toList = u := by
          rw [← hrs, ext_drop HRB.out.1 1, hrest]
          rfl
        have hul : u.length ≤ 4000 := by omega
        have HEX := Lib.hid (refExp_calls (RB.extract 1 nr) u hx hul wc)
        have hsz2 : (1 : Int) ≤ (nr : Int) := by omega
        have hsz0 : (0 : Int) < (nr : Int) := by omega
        have HTL : Hid (tailL rest = if c = 101 ∨ c = 69 then expL u else none) := Lib.hid (by rw [hrest]; rfl)
        clear hx hul hrest HRP hz
        by_cases hc1 : c = 101
        · have HTL2 : Hid (tailL rest = expL u) := Lib.hid (by rw [HTL.out, if_pos (.inl hc1)])
          subst hc1
          cases hexp : expL u with
          | none =>
            have HFI : Hid (finL neg whole part rest = (noParts, 2)) := Lib.hid (by unfold finL; rw [if_neg hne.out, HTL2.out, hexp])
            have HX := HEX.out
            rw [hexp] at HX
            have JX := Lib.hid HX
            clear hexp HEX HTL2 HTL HX
            go_wp2_with fail
            refine JX.out.mono ?_
            rintro e w7 ⟨rfl, hb7⟩
            have HB7 := Lib.hid (below_then HBC.out hb7)
            have HY7 := Lib.hid (below_heap hb7 HYC.out)
            clear hb7 HBC HYC
            have hexv : expV none = .tuple #[.int .i64 0, .bool false] := rfl
            rw [hexv]
            clear hexv
            go_wp2_with ((with_reducible refine gate_store 28 ?_); refine st_row 28 b 28 HY7.out rparts_info ?_)
            exact bodyPost_ret (results_ct rfl _ _ b 28 (partsV noParts) _ _ rfl (setRow_heap _ _ _ _ _ _ HY7.out) Tryd.underlying28 rfl rparts_info) rfl
              ⟨by rw [HFI.out]; rfl, below_setRow HB7.out HBB.out _⟩
          | some v =>
            have HX := HEX.out
            rw [hexp] at HX
            have JX := Lib.hid HX
            have HTV : Hid (tailL rest = some v) := Lib.hid (by rw [HTL2.out, hexp])
            clear hexp HEX HTL2 HTL HX
            go_wp2_with fail
            refine JX.out.mono ?_
            rintro e w7 ⟨rfl, hb7⟩
            have HB7 := Lib.hid (below_then HBC.out hb7)
            have HY7 := Lib.hid (below_heap hb7 HYC.out)
            clear hb7 HBC HYC
            have hexv : expV (some v) = .tuple #[.int .i64 v, .bool true] := rfl
            rw [hexv]
            clear hexv
            go_wp2
            go_meet
            exact ⟨v, HTV.out, rfl, HY7.out, HB7.out⟩
        · by_cases hc2 : c = 69
          · have HTL2 : Hid (tailL rest = expL u) := Lib.hid (by rw [HTL.out, if_pos (.inr hc2)])
            subst hc2
            clear hc1
            cases hexp : expL u with
            | none =>
              have HFI : Hid (finL neg whole part rest = (noParts, 2)) := Lib.hid (by unfold finL; rw [if_neg hne.out, HTL2.out, hexp])
              have HX := HEX.out
              rw [hexp] at HX
              have JX := Lib.hid HX
              clear hexp HEX HTL2 HTL HX
              go_wp2_with fail
              refine JX.out.mono ?_
              rintro e w7 ⟨rfl, hb7⟩
              have HB7 := Lib.hid (below_then HBC.out hb7)
              have HY7 := Lib.hid (below_heap hb7 HYC.out)
              clear hb7 HBC HYC
              have hexv : expV none = .tuple #[.int .i64 0, .bool false] := rfl
              rw [hexv]
              clear hexv
              go_wp2_with ((with_reducible refine gate_store 28 ?_); refine st_row 28 b 28 HY7.out rparts_info ?_)
              exact bodyPost_ret (results_ct rfl _ _ b 28 (partsV noParts) _ _ rfl (setRow_heap _ _ _ _ _ _ HY7.out) Tryd.underlying28 rfl rparts_info) rfl
                ⟨by rw [HFI.out]; rfl, below_setRow HB7.out HBB.out _⟩
            | some v =>
              have HX := HEX.out
              rw [hexp] at HX
              have JX := Lib.hid HX
              have HTV : Hid (tailL rest = some v) := Lib.hid (by rw [HTL2.out, hexp])
              clear hexp HEX HTL2 HTL HX
              go_wp2_with fail
              refine JX.out.mono ?_
              rintro e w7 ⟨rfl, hb7⟩
              have HB7 := Lib.hid (below_then HBC.out hb7)
              have HY7 := Lib.hid (below_heap hb7 HYC.out)
              clear hb7 HBC HYC
              have hexv : expV (some v) = .tuple #[.int .i64 v, .bool true] := rfl
              rw [hexv]
              clear hexv
              go_wp2
              go_meet
              exact ⟨v, HTV.out, rfl, HY7.out, HB7.out⟩
          · have HFI : Hid (finL neg whole part rest = (noParts, 2)) := Lib.hid (by unfold finL; rw [if_neg hne.out, HTL.out, if_neg (by rintro (h | h); exact hc1 h; exact hc2 h)])
            have q1 : (((c.toNat : Nat) : Int) == 101) = false := beq_eq_false_iff_ne.2 (fun e => hc1 (UInt8.toNat_inj.1 (by show c.toNat = 101; omega)))
            have q2 : (((c.toNat : Nat) : Int) == 69) = false := beq_eq_false_iff_ne.2 (fun e => hc2 (UInt8.toNat_inj.1 (by show c.toNat = 69; omega)))
            have q1' : (((c.toNat : Nat) : Int) != 101) = true := by unfold bne; rw [q1]; rfl
            have q2' : (((c.toNat : Nat) : Int) != 69) = true := by unfold bne; rw [q2]; rfl
            clear HTL HEX hc1 hc2
            go_wp2_with ((with_reducible refine gate_store 28 ?_); refine st_row 28 b 28 HYC.out rparts_info ?_)
            exact bodyPost_ret (results_ct rfl _ _ b 28 (partsV noParts) _ _ rfl (setRow_heap _ _ _ _ _ _ HYC.out) Tryd.underlying28 rfl rparts_info) rfl
              ⟨by rw [HFI.out]; rfl, below_setRow HBC.out HBB.out _⟩
    case rest =>
    obtain ⟨ev, hte, rfl, hY, hB⟩ := hcut
    have HYD := Lib.hid hY
    have HBD := Lib.hid hB
    have hev := tail_in hte
    have HTE := Lib.hid hte
    have hpl : PB.size = part.length := str_size HPB.out.1
    have HFI : Hid (finL neg whole part rest = (⟨1, neg, false, bareL (whole ++ part), clampE (ev - (part.length : Int))⟩, 0)) := Lib.hid (by unfold finL; rw [if_neg hne.out, HTE.out])
    have hpl4 := HRL.out.2
    have KB := Lib.hid (fun w => refBare_calls (WB ++ PB) (whole ++ part) (by rw [ByteArray.data_append, Array.toList_append, HW.out, HPB.out.1]) (by simp; omega) w)
    generalize part.length = pl at *
    clear hY hB hte HYC HBC hrP HRP
    go_wp2_with fail
    refine (KB.out _).mono ?_
    rintro e w8 ⟨rfl, rfl⟩
    go_wp2_with ((with_reducible refine gate_store 28 ?_); refine st_row 28 b 28 HYD.out rparts_info ?_)
    exact bodyPost_ret (results_ct rfl _ _ b 28 _ _ _ rfl (setRow_heap _ _ _ _ _ _ HYD.out) Tryd.underlying28 rfl rparts_info) rfl
      ⟨by rw [HFI.out, clamp_minmax]; rfl, below_setRow HBD.out HBB.out _⟩
  · have HFI : Hid (finL neg whole part rest = (noParts, 2)) := Lib.hid (by unfold finL; rw [if_pos (by simpa using HE0.out)])
    clear HE0
    go_wp2_with ((with_reducible refine gate_store 28 ?_); refine st_row 28 b 28 HYC.out rparts_info ?_)
    exact bodyPost_ret (results_ct rfl _ _ b 28 (partsV noParts) _ _ rfl (setRow_heap _ _ _ _ _ _ HYC.out) Tryd.underlying28 rfl rparts_info) rfl
      ⟨by rw [HFI.out]; rfl, below_setRow HBC.out HBB.out _⟩
theorem refCut_calls (t : ByteArray) (l : List UInt8) (h : t.data.toList = l) (hm : l.length ≤ 140737488351232) (w : World) :
    Calls Tryd.prog 10 #[.string t] w fun e w' => e = .returned (cutV (cutL l)) ∧ Below w.heap.size w w' := by
  unfold cutL
  by_cases hl : 4000 < l.length
  · rw [if_pos hl]
    exact rcut_long t l h hl hm w
  · rw [if_neg hl]
    unfold bodyL
    cases hp : wordL (signL l).2 with
    | some p => exact rcut_word t l h (by omega) w p hp
    | none => exact rcut_fin t l h (by omega) w hp (signL l).1 (signL l).2 _ _ _ _ rfl rfl rfl
end Go.Proofs.YtiocdgehpiagjaaDoor
