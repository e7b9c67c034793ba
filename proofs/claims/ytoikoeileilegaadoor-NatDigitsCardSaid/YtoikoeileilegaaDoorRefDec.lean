/- The contracts of the reference's Decimal and Digits. -/
import Derived.Test.YtoikoeileilegaaDoorByts
namespace Go.Proofs.YtoikoeileilegaaDoor
open Go.RowKit
theorem small18_calls (w : World) (a : Option Addr) (la ca : Nat) (xs : List Nat) (ha : SlW w a la ca xs) (sa : la ≤ 4398046511104) :
    Calls Tryd.prog 71 #[.slice a la ca, .int .u64 1000000000000000000] w (NatPair w (val xs / 10 ^ 18) (val xs % 10 ^ 18) la 1) := refSmall_calls w a la ca xs 1000000000000000000 ha sa (by decide) (by decide)
theorem val_word {zs : List Nat} (h : zs.length ≤ 1) : val zs = wd zs 0 := by
  rw [← valTo_all 1 h, valTo_wd]
  simp [valTo]
theorem chunk_bound {A L m a : Nat} (hA : A < B64 ^ L) (ha : A / 10 ^ m = a) (h0 : 0 < a) : m ≤ 64 * L := by
  have h1 : 10 ^ m ≤ A := by
    rcases Nat.lt_or_ge A (10 ^ m) with h | h
    · rw [Nat.div_eq_of_lt h] at ha
      omega
    · exact h
  have h2 : 2 ^ m ≤ 10 ^ m := Nat.pow_le_pow_left (by decide) m
  rw [B64_pow] at hA
  have h3 := (Nat.pow_lt_pow_iff_right (a := 2) (by decide)).1 (Nat.lt_of_le_of_lt (Nat.le_trans h2 h1) hA)
  omega
set_option maxRecDepth 10000 in
set_option maxHeartbeats 4000000 in
theorem decimal_calls (w : World) (a : Option Addr) (la ca : Nat) (xs : List Nat) (ha : SlW w a la ca xs) (pa : Plain a) (sa : la ≤ 10000) (h0 : 0 < val xs) :
    Calls Tryd.prog 63 #[.slice a la ca] w fun e w' => e = .returned (.string ⟨(Lib.decDigits (val xs)).toArray⟩) ∧ Below w.heap.size w w' := by
  have hAb : val xs < B64 ^ la := by have := val_lt ha.hw; rw [ha.hlen] at this; exact this
  have HT := Lib.hid (refTrim_calls w a la ca xs ha pa (by omega))
  obtain ⟨A, hA⟩ : ∃ A, val xs = A := ⟨_, rfl⟩
  rw [hA] at hAb HT h0 ⊢
  have HAB := Lib.hid hAb
  have HA0 := Lib.hid h0
  clear ha hAb hA h0
  go_enter Tryd.func63, Tryd.ntmps63
  go_wp2_with fail
  refine HT.out.mono ?_
  rintro e w1 ⟨a1, c1, rs, rfl, r1, r2, r3, r4, r5⟩
  have R := Lib.hid (And.intro r1 (And.intro r2 (And.intro r3 r5)))
  clear r1 r2 r3 r5
  go_wp2_with fail
  go_loopw [0, 3] (fun av ov wr => ∃ (m : Nat) (a o : Option Addr) (c oc : Nat) (zs : List Nat), av = .slice a zs.length c ∧ ov = .slice o m oc ∧ OwnW w.heap.size wr a zs.length c zs ∧ sz zs = zs.length ∧ zs.length ≤ la ∧ val zs = A / 10 ^ m ∧ m ≤ 64 * la + 18 ∧ OwnY w.heap.size wr o m oc (lowK m A) ∧ Below w.heap.size w wr) (fun _ ov _ => 64 * la + 19 - lenOf ov)
  case atStart => exact ⟨0, a1, none, c1, 0, rs, rfl, rfl, R.out.1, R.out.2.2.1, r4, by rw [R.out.2.1, Nat.pow_zero, Nat.div_one], by omega, ownY_nil _ _, R.out.2.2.2⟩
  case round =>
    clear R r4
    obtain ⟨m, a, o, c, oc, zs, rfl, rfl, hz, hzz, hzl, hv, hm, ho, hb⟩ := hrel
    have HZ := Lib.hid hz
    have HZZ := Lib.hid hzz
    have HV := Lib.hid hv
    have HO := Lib.hid ho
    have HBR := Lib.hid hb
    clear hz hzz hv ho hb
    by_cases hz0 : 0 < zs.length
    · have hvz : 0 < A / 10 ^ m := by
        rw [← HV.out]
        exact Nat.pos_of_ne_zero fun e => by have := sz_zero.2 e; rw [HZZ.out] at this; omega
      have hmb := chunk_bound HAB.out rfl hvz
      have HS := Lib.hid (small18_calls wr a _ c zs HZ.out.sl (by omega))
      rw [HV.out] at HS
      clear hvz
      go_wp2_with fail
      refine HS.out.mono ?_
      rintro e w2 ⟨a2, c2, qs, a3, c3, ts, rfl, ⟨q1, q2, q3, q4⟩, ⟨t1, t2, t3, t4⟩, hb2⟩
      have HQ := Lib.hid (And.intro (q1.mono HBR.out.size) (And.intro q2 q3))
      have HB2 := Lib.hid (below_then HBR.out hb2)
      have HO2 := Lib.hid (HO.out.keep hb2)
      have hw := word_of t1.sl 0
      rw [← val_word t4, t2] at hw
      have HW := Lib.hid hw
      have hql : qs.length ≤ la := by omega
      obtain ⟨r, hr⟩ : ∃ r, A / 10 ^ m % 10 ^ 18 = r := ⟨_, rfl⟩
      rw [hr] at HW
      have HR := Lib.hid hr
      clear q1 q2 q3 q4 t1 t2 t3 t4 hb2 hw hr
      go_wp2_with fail
      refine HW.out.mono ?_
      rintro e w2 ⟨rfl, rfl⟩
      go_wp2_with fail
      go_loopw [22, 3, 6] (fun iv ov nv wr => ∃ (t u : Nat) (o : Option Addr) (oc n : Nat), t ≤ 18 ∧ m + t = u ∧ iv = .int .i64 t ∧ ov = .slice o u oc ∧ nv = .int .u64 (n : Nat) ∧ n = r / 10 ^ t ∧ OwnY w.heap.size wr o u oc (lowK u A) ∧ OwnW w.heap.size wr a2 qs.length c2 qs ∧ Below w.heap.size w wr) (fun iv _ _ _ => 18 - (intOf iv).toNat)
      case atStart => exact ⟨0, m, o, oc, r, by omega, by omega, rfl, rfl, rfl, by rw [Nat.pow_zero, Nat.div_one], HO2.out, HQ.out.1, HB2.out⟩
      case round =>
        clear HO2 HB2 HO HBR
        obtain ⟨t, u, o, oc, n, ht, hu, rfl, rfl, rfl, hn, ho, hq, hb⟩ := hrel
        have HO := Lib.hid ho
        have HQ1 := Lib.hid hq
        have HBR := Lib.hid hb
        have HN := Lib.hid hn
        clear hn ho hq hb
        by_cases hlt : t < 18
        · obtain ⟨dg, hdg⟩ : ∃ d, n % 10 = d := ⟨_, rfl⟩
          obtain ⟨b, hb⟩ : ∃ b, 48 + dg = b := ⟨_, rfl⟩
          obtain ⟨n2, hn2⟩ : ∃ d, n / 10 = d := ⟨_, rfl⟩
          have hdgi : (n : Int) % 10 = (dg : Nat) := by omega
          have hbi : (48 : Int) + (dg : Int) = (b : Nat) := by omega
          have hn2i : (n : Int) / 10 = (n2 : Nat) := by omega
          have hb2 : b < 256 := by omega
          have hwb : IntKind.u8.wrap (b : Int) = (b : Nat) := by rw [IntKind.wrap_u8]; omega
          have hwb2 : IntKind.u64.wrap (b : Int) = (b : Nat) := wrapS (by unfold B64; omega)
          have HLS : Hid (lowK (u + 1) A = lowK u A ++ [UInt8.ofNat b]) := Lib.hid (by
            rw [lowK_succ, ← hu, ← hb, ← hdg, HN.out, ← HR.out, digit_mod hlt, Nat.div_div_eq_div_mul, ← Nat.pow_add])
          have HN2 : Hid (n2 = r / 10 ^ (t + 1)) := Lib.hid (by rw [← hn2, HN.out, Nat.div_div_eq_div_mul, ← Nat.pow_succ])
          have HBO := Lib.hid (byte_of hb2)
          have hub : u ≤ 640036 := by omega
          have hwn : IntKind.u64.wrap (n2 : Int) = (n2 : Nat) := wrapS (by
            have h1 : n ≤ r := by rw [HN.out]; exact Nat.div_le_self _ _
            have h2 : r < 10 ^ 18 := by rw [← HR.out]; exact Nat.mod_lt _ (by decide)
            unfold B64
            omega)
          clear hdg hb hn2
          go_wp2_with ((with_reducible refine gate_append 78 ?_); go_must (refine app_byte (w0 := w) (HBR.out.alloc HBR.out.size _) (UInt8.ofNat b) (HO.out.keep ((Below.refl _ _).alloc (Nat.le_refl _) _)) (by rw [World.cell?_alloc_new]; exact congrArg some HBO.out) (by omega) (fun W a' c' hbW hoW hgW => ?_)); have HBW := Lib.hid hbW; have HOW := Lib.hid hoW; have HGW := Lib.hid hgW; clear hbW hoW hgW)
          rw [← HLS.out] at HOW
          have HQ2 := Lib.hid ((HQ1.out.keep ((Below.refl _ _).alloc (Nat.le_refl _) _)).grown HGW.out (fun ad e he => by
            cases o with
            | none => cases he
            | some ad' => exact own_ne HQ1.out HO.out ad ad' e rfl (by simpa using he)))
          go_wp2
          go_roundw
          case rel => exact ⟨t + 1, u + 1, a', c', n2, by omega, by omega, by go_num, rfl, rfl, HN2.out, HOW.out, HQ2.out, HBW.out⟩
          case measure => simp [intOf]; omega
        · have ht18 : t = 18 := by omega
          have HV2 : Hid (val qs = A / 10 ^ u) := Lib.hid (by rw [HQ.out.2.1, Nat.div_div_eq_div_mul, ← Nat.pow_add, ← hu, ht18])
          have huu : u = m + 18 := by omega
          clear ht18 hu
          go_wp2
          go_roundw
          case rel => exact ⟨u, a2, o, c2, oc, qs, rfl, rfl, HQ1.out, HQ.out.2.2, hql, HV2.out, by omega, HO.out, HBR.out⟩
          case measure => simp [lenOf]; omega
    · have hz1 : zs = [] := List.eq_nil_of_length_eq_zero (by omega)
      subst hz1
      have hlt0 : A < 10 ^ m := by
        have h1 : A / 10 ^ m = 0 := HV.out.symm
        rcases Nat.lt_or_ge A (10 ^ m) with h | h
        · exact h
        · have := Nat.div_pos h (Nat.pow_pos (show 0 < 10 by decide))
          omega
      have hm1 : 0 < m := by
        rcases Nat.eq_zero_or_pos m with h | h
        · subst h
          have := HA0.out
          rw [Nat.pow_zero] at hlt0
          omega
        · exact h
      have HLT := Lib.hid hlt0
      have hnd := nDigits_le hlt0 hm1
      have hnp := Lib.nDigits_pos A
      obtain ⟨nd, hnde⟩ : ∃ k, Lib.nDigits A = k := ⟨_, rfl⟩
      have HND := Lib.hid hnde
      rw [hnde] at hnd hnp
      have hob := HO.out.bounds
      clear hlt0 hnde hz0 hzl
      go_wp2_with fail
      go_loop [7] (fun kv => ∃ k : Nat, nd ≤ k ∧ k ≤ m ∧ kv = .int .i64 k) (fun kv => (intOf kv).toNat)
      case atStart => exact ⟨m, hnd, Nat.le_refl _, rfl⟩
      case round =>
        obtain ⟨k, hk1, hk2, rfl⟩ := hrel
        obtain ⟨k1, hk1e⟩ : ∃ j, k - 1 = j := ⟨_, rfl⟩
        have hki : (k : Int) - 1 = (k1 : Nat) := by omega
        have hk0 : 0 < k := by omega
        have hk1m : k1 < m := by omega
        obtain ⟨g, rfl, hc⟩ := HO.out.cellD k1 hk1m
        by_cases hgt : nd < k
        · have h48 := strip1 HLT.out (i := k1) (by rw [HND.out]; omega) hk1m
          rw [h48] at hc
          have hc' : wr.cell? ⟨g, k1, none⟩ = some (.int .u8 48) := hc
          clear hc h48
          go_wp2
          go_round
          case rel => exact ⟨k1, by omega, by omega, rfl⟩
          case measure => simp [intOf]; omega
        · have hke : k = nd := by omega
          have h48 := strip2 HLT.out HA0.out hm1
          rw [HND.out, ← hke, hk1e] at h48
          have HD3 := Lib.hid (fun j (hj : j < nd) => strip3 (j := j) HLT.out (by rw [HND.out]; exact hj) hm1)
          rw [HND.out] at HD3
          obtain ⟨y, hy⟩ : ∃ y, ((lowK m A).getD k1 0).toNat = y := ⟨_, rfl⟩
          have hy48 : ((y : Int) == 48) = false := by
            simp
            intro e
            exact h48 (UInt8.toNat_inj.1 (by rw [hy, show (48 : UInt8).toNat = 48 from rfl]; omega))
          rw [hy] at hc
          have HDL : Hid ((Lib.decDigits A).length = nd) := Lib.hid (by rw [dec_length, HND.out])
          subst hke
          clear h48 hy hgt
          obtain ⟨w5, rfl⟩ : ∃ x, x = wr := ⟨_, rfl⟩
          go_wp2_with fail
          go_loopw [50, 8] (fun iv sv wq => ∃ (i : Nat) (sa : Option Addr) (sc : Nat), i ≤ k ∧ iv = .int .i64 i ∧ sv = .slice sa i sc ∧ OwnY w5.heap.size wq sa i sc ((Lib.decDigits A).take i) ∧ Below w5.heap.size w5 wq) (fun iv _ _ => k - (intOf iv).toNat)
          case atStart => exact ⟨0, none, 0, by omega, rfl, rfl, ownY_nil _ _, Below.refl _ _⟩
          case round =>
            obtain ⟨i, sa, sc, hi, rfl, rfl, hs, hbq⟩ := hrel
            have HS := Lib.hid hs
            have HBQ := Lib.hid hbq
            clear hs hbq
            by_cases hlt : i < k
            · obtain ⟨j, hj⟩ : ∃ j, k1 - i = j := ⟨_, rfl⟩
              have hji : (k1 : Int) - (i : Int) = (j : Nat) := by omega
              have hjm : j < m := by omega
              obtain ⟨g', e, hcj⟩ := HO.out.cellD j hjm
              cases e
              have h3 := HD3.out i hlt
              rw [show k - 1 - i = j by omega] at h3
              rw [h3] at hcj
              have hcq : wr.cell? ⟨g, j, none⟩ = some (.int .u8 (((Lib.decDigits A).getD i 0).toNat : Int)) := by rw [HBQ.out.cell (World.block_lt_of_cell? w5 _ hcj)]; exact hcj
              have HTK := Lib.hid (take_getD (l := Lib.decDigits A) (j := i) (by rw [HDL.out]; exact hlt))
              clear hcj h3 hj hc
              go_wp2_with ((with_reducible refine gate_append 78 ?_); go_must (refine app_byte (w0 := w5) (HBQ.out.alloc HBQ.out.size _) ((Lib.decDigits A).getD i 0) (HS.out.keep ((Below.refl _ _).alloc (Nat.le_refl _) _)) (by rw [World.cell?_alloc_new]; rfl) (by omega) (fun W a' c' hbW hoW _ => ?_)); have HBW := Lib.hid hbW; have HOW := Lib.hid hoW; clear hbW hoW)
              go_roundw
              case rel => exact ⟨i + 1, a', c', by omega, by go_num, rfl, by rw [HTK.out]; exact HOW.out, HBW.out⟩
              case measure => simp [intOf]; omega
            · have hie : i = k := by omega
              subst hie
              have hst := run_string_own HS.out (by omega)
              have HTA : Hid ((Lib.decDigits A).take i = Lib.decDigits A) := Lib.hid (List.take_of_length_le (by rw [HDL.out]; exact Nat.le_refl _))
              rw [HTA.out] at hst
              go_wp2
              go_ret
              exact ⟨rfl, below_then HBR.out HBQ.out⟩
end Go.Proofs.YtoikoeileilegaaDoor
