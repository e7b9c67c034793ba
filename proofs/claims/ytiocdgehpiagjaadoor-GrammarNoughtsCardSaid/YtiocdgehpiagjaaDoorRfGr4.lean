/- The reference's Exponent: the good way. -/
import Derived.Test.YtiocdgehpiagjaaDoorRfGr3
namespace Go.Proofs.YtiocdgehpiagjaaDoor
open Go.RowKit
set_option maxRecDepth 10000 in
set_option maxHeartbeats 4000000 in
theorem refExp_good (t : ByteArray) (l : List UInt8) (h : t.data.toList = l) (hl : l.length ≤ 4000) (w : World) (h0 : (signL l).2 ≠ []) (hd : digs (signL l).2 = true) :
    Calls Tryd.prog 25 #[.string t] w fun e w' => e = .returned (.tuple #[.int .i64 (if (signL l).1 then - clipE (signL l).2 else clipE (signL l).2), .bool true]) ∧ Below w.heap.size w w' := by
  have K1 := Lib.hid (refSign_calls t l h (by omega) w)
  have hsl := sign_len l
  generalize (signL l).1 = neg at K1 ⊢
  generalize (signL l).2 = r at K1 h0 hd hsl ⊢
  have K2 := fun w => is_digs (⟨r.toArray⟩ : ByteArray) r rfl (by omega) w
  have e : (!r.isEmpty && digs r) = true := by rw [hd]; simpa using h0
  rw [e] at K2
  have J2 := Lib.hid K2
  have K3 := Lib.hid (fun w => refBare_calls (⟨r.toArray⟩ : ByteArray) r rfl (by omega) w)
  obtain ⟨n, hn⟩ : ∃ n, clipE r = n := ⟨_, rfl⟩
  have hn0 : 0 ≤ n ∧ n ≤ 2000000000 := by rw [← hn]; unfold clipE; split <;> omega
  have hdb := bare_digs hd
  have hways := exp_ways hd hn
  have hbl : (bareL r).length ≤ r.length := by
    obtain ⟨k, hk⟩ := bare_split r
    have := congrArg List.length hk
    simp at this
    omega
  rw [hn]
  generalize bareL r = D at K3 hdb hways hbl
  obtain ⟨DB, hDB⟩ : ∃ q : ByteArray, (⟨D.toArray⟩ : ByteArray) = q := ⟨_, rfl⟩
  have HL : Hid (DB.data.toList = D) := Lib.hid (by rw [← hDB])
  rw [hDB] at K3
  have hsz := str_size HL.out
  obtain ⟨q, hq⟩ : ∃ q, D.length = q := ⟨_, rfl⟩
  rw [hq] at hsz hways hbl
  have HQ := Lib.hid hq
  have HW := Lib.hid hways
  have HDD := Lib.hid hdb
  have hq4 : q ≤ 4000 := by omega
  clear K2 e h0 hd hn hways hdb hDB hq h hsl hbl hl
  go_enter Tryd.func25, Tryd.ntmps25
  go_wp2_with fail
  refine K1.out.mono ?_
  rintro e w1 ⟨rfl, hb⟩
  have HB := Lib.hid hb
  clear hb
  go_wp2_with fail
  refine (J2.out _).mono ?_
  rintro e w2 ⟨rfl, rfl⟩
  go_wp2_with fail
  refine (K3.out _).mono ?_
  rintro e w2 ⟨rfl, rfl⟩
  go_upto_if 20 with fail
  go_cut [6] (fun s6 wx => s6 = .int .i64 n ∧ Below w2.heap.size w2 wx)
  case first =>
    rcases HW.out with ⟨h9, hv⟩ | ⟨h10, hls, c, u, hD, hv, hu, hud, hc1, hc2⟩ | ⟨h10, hls, hv⟩ | ⟨h10, hv⟩
    · have HV := Lib.hid hv
      clear hv HW
      go_wp2
      go_loop [6, 7] (fun v i => ∃ (k x : Nat), k ≤ q ∧ i = .int .i64 k ∧ v = .int .i64 x ∧ x = dval (D.take k)) (fun _ i => q - (intOf i).toNat)
      case atStart => exact ⟨0, 0, Nat.zero_le _, rfl, rfl, rfl⟩
      case round =>
        obtain ⟨k, x, hk, rfl, rfl, hx⟩ := hrel
        have HX := Lib.hid hx
        have hxb : x < 1000000000000000000 := by rw [hx]; exact dval_take_lt HDD.out k (by omega)
        clear hx
        by_cases hlt : k < q
        · have hkl : k < D.length := by rw [HQ.out]; exact hlt
          have hkt : k < DB.size := by omega
          have hg := get_of HL.out hkt hkl
          have hdk := isDig_iff.1 (List.all_eq_true.1 HDD.out _ (List.getElem_mem hkl))
          have hst := dval_take hkl
          rw [← HX.out] at hst
          have hyb : dval (D.take (k + 1)) < 1000000000000000000 := dval_take_lt HDD.out (k + 1) (by omega)
          obtain ⟨c, hc⟩ : ∃ c, D[k]'hkl = c := ⟨_, rfl⟩
          rw [hc] at hg hdk hst
          have h1 : (48 : Int) ≤ (c.toNat : Int) := by omega
          have h2 : (c.toNat : Int) ≤ 57 := by omega
          have h3 : 10 * (x : Int) ≤ 10000000000000000000 := by omega
          have HST := Lib.hid hst
          have hyb2 : 10 * x + (c.toNat - 48) < 1000000000000000000 := by omega
          clear hst hyb hdk hc
          go_wp2
          go_round
          case rel => exact ⟨k + 1, 10 * x + (c.toNat - 48), by omega, by go_num, by congr 1; omega, by rw [HST.out]⟩
          case measure => simp [intOf]; omega
        · obtain rfl : k = q := by omega
          have HF : Hid ((x : Int) = n) := Lib.hid (by rw [HV.out, HX.out, List.take_of_length_le (by rw [HQ.out]; exact Nat.le_refl _)])
          go_wp2
          go_meet
          exact ⟨by rw [HF.out], Below.refl _ _⟩
    · have HV := Lib.hid hv
      have HTL : Hid (Op.bytesLess DB.toList [50, 48, 48, 48, 48, 48, 48, 48, 48, 48] = true) := Lib.hid (by rw [Lib.toList_data, HL.out]; exact hls)
      have h1t : 1 < DB.size := by omega
      have hg := get_of HL.out h1t (show 1 < D.length by rw [HQ.out]; omega)
      have hg2 : DB[1]'h1t = c := by rw [hg]; simp [hD]
      have hx : (DB.extract 2 10).data.toList = u := by
        rw [ByteArray.data_extract, Array.toList_extract, HL.out, hD]
        simp [List.take_of_length_le, hu]
      have KT := Lib.hid (fun w => tail_calls (DB.extract 2 10) u hx hud (by omega) w)
      have hub : (dval u : Int) < 100000000 := by
        have := dval_lt hud
        rw [hu] at this
        have h3 : (10 : Nat) ^ 8 = 100000000 := by decide
        omega
      obtain ⟨du, hdu⟩ : ∃ du : Nat, dval u = du := ⟨_, rfl⟩
      rw [hdu] at hub
      have KT' := KT.out
      rw [hdu] at KT'
      have KT2 := Lib.hid KT'
      have HV2 : Hid (n = 1000000000 + ((c.toNat : Int) - 48) * 100000000 + (du : Nat)) := Lib.hid (by rw [HV.out, hdu])
      have hc1i : (48 : Int) ≤ (c.toNat : Int) := by omega
      have hc2i : (c.toNat : Int) ≤ 57 := by omega
      have hdu0 : (0 : Int) ≤ (du : Int) := by omega
      have htl := HTL.out
      clear hv HW hls hD hg hx KT KT' hdu hu hud HV HTL hc1 hc2
      have HUB := Lib.hid (And.intro hub (And.intro hc1i (And.intro hc2i (And.intro hg2 hdu0))))
      clear hub hc1i hc2i hg2 hdu0
      go_wp2_with fail
      obtain ⟨hub, hc1i, hc2i, hg2, hdu0⟩ := HUB.out
      go_quiet ((go_at_call 38; exact Calls.quiet_of_same (KT2.out _)))
      go_wp2
      go_meet
      exact ⟨by rw [HV2.out], below_drewN' (Below.refl _ _) nq⟩
    · have HV := Lib.hid hv
      have htl : Op.bytesLess DB.toList [50, 48, 48, 48, 48, 48, 48, 48, 48, 48] = false := by rw [Lib.toList_data, HL.out]; exact hls
      clear hv HW hls
      go_wp2
      go_meet
      exact ⟨by rw [HV.out], Below.refl _ _⟩
    · have HV := Lib.hid hv
      have hqi : (10 : Int) < (q : Int) := by omega
      have q1 : ((q : Int) == 10) = false := beq_eq_false_iff_ne.2 (by omega)
      clear hv HW
      go_wp2
      go_meet
      exact ⟨by rw [HV.out], Below.refl _ _⟩
  case rest =>
  obtain ⟨rfl, hbc⟩ := hcut
  have HBC := Lib.hid (below_then HB.out hbc)
  clear hbc HW
  cases neg
  · go_wp2
    go_ret2
    exact ⟨rfl, HBC.out⟩
  · have hw := IntWalk.wrap64_in (-n) (by omega)
    go_wp2
    go_ret2
    exact ⟨rfl, HBC.out⟩
theorem refExp_calls (t : ByteArray) (l : List UInt8) (h : t.data.toList = l) (hl : l.length ≤ 4000) (w : World) :
    Calls Tryd.prog 25 #[.string t] w fun e w' => e = .returned (expV (expL l)) ∧ Below w.heap.size w w' := by
  unfold expL
  by_cases hb : (signL l).2 = [] ∨ digs (signL l).2 = false
  · rw [if_pos hb]
    exact refExp_bad t l h hl w hb
  · rw [if_neg hb]
    exact refExp_good t l h hl w (fun e => hb (.inl e)) (by simpa using fun e => hb (.inr e))
end Go.Proofs.YtiocdgehpiagjaaDoor
