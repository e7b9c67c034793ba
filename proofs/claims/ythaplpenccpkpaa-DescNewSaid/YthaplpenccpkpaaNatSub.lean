/- The contract of nat.Sub. -/
import Derived.Test.YthaplpenccpkpaaNatMul2
namespace Go.Proofs.Ythaplpenccpkpaa
open Go.RowKit
theorem sub_end' {zs ts xs ys : List Nat} {c k : Nat} (hv : valTo zs k + valTo ys k = valTo ts k + B64 ^ k * c) (hw : W64 zs) (hle : val ys ≤ val xs) (hk : sz xs = k) (ht : ts.length = k) (hts : val ts = val xs) (hxw : W64 xs) (hz : zs.length = k) : val zs = val xs - val ys := by
  have hy : sz ys ≤ k := by
    rcases Nat.lt_or_ge k (sz ys) with h | h
    · have := sz_lt_val hxw (show sz xs < sz ys by omega)
      omega
    · exact h
  rw [valTo_all k (by omega), valTo_ge_sz k hy, valTo_all k (by omega), hts] at hv
  have e := no_borrow hv (val_lt' hw (by omega)) hle
  rw [e, Nat.mul_zero, Nat.add_zero] at hv
  omega
theorem run_sub64_0 (x c : Nat) (hc : c ≤ 1) (w : World) : (callFunc 63 #[.int .u64 (x : Nat), .int .u64 0, .int .u64 (c : Nat)]).run Try.prog w =
    .ok (.value (.tuple #[.int .u64 (subLo x 0 c : Nat), .int .u64 (subHi x 0 c : Nat)])) w := run_sub64 x 0 c hc w
theorem SlW.nil {w : World} {len cap : Nat} {xs : List Nat} (h : SlW w none len cap xs) : len = 0 ∧ cap = 0 := by
  have := h.hnil rfl
  have := h.hle
  omega
theorem SlW.nil0 (w : World) : SlW w none 0 0 [] := (ownW_nil 0 w).sl
set_option maxRecDepth 10000 in
set_option maxHeartbeats 1000000 in
theorem sub_calls (w : World) (a b : Option Addr) (la ca lb cb : Nat) (xs ys : List Nat) (ha : SlW w a la ca xs) (hb : SlW w b lb cb ys) (sa : la ≤ 4398046511104) (pa : Plain a) :
    Calls Try.prog 89 #[.slice a la ca, .slice b lb cb] w (NatRes2 w (val xs - val ys) la (.int .i64 (subErr (val xs) (val ys)))) := by
  have m1 := ha.hle
  have m2 := ha.hmax
  have m3 := hb.hle
  have m4 := hb.hmax
  have HC := Lib.hid (cmp_calls w a b la ca lb cb xs ys ha hb)
  have hn := cmpI_neg (val xs) (val ys)
  generalize cmpI (val xs) (val ys) = C at HC hn
  unfold subErr
  by_cases hlt : val xs < val ys
  · rw [if_pos hlt, show val xs - val ys = 0 by omega]
    rw [show decide (val xs < val ys) = true by simp; exact hlt] at hn
    clear hlt ha hb
    go_enter Try.func89, Try.ntmps89
    go_wp2_with fail
    refine HC.out.mono ?_
    rintro e w' ⟨rfl, m, rfl⟩
    go_wp2
    go_ret2
    exact (natRes_nil la (below_drewN' (Below.refl _ _) m)).two
  · rw [if_neg hlt]
    rw [show decide (val xs < val ys) = false by simp; omega] at hn
    have HLE := Lib.hid (show val ys ≤ val xs by omega)
    have HA := Lib.hid ha
    have HB := Lib.hid hb
    have HX := Lib.hid ha.hw
    have HY := Lib.hid hb.hw
    have HT := Lib.hid (val_take_sz xs)
    have z1 := ha.sz_le
    clear hlt ha hb
    go_enter Try.func89, Try.ntmps89
    go_wp2_with fail
    refine HC.out.mono ?_
    rintro e w' ⟨rfl, m, rfl⟩
    go_wp2_with fail
    refine (trim_calls _ a la ca xs (HA.out.drewN m) pa (by omega)).mono ?_
    rintro e W ⟨a1, c1, rfl, t1, t2⟩
    have HBW := Lib.hid (below_then (below_drewN' (Below.refl _ _) m) t2)
    have e1 := t1.hlen
    have w1 := t1.hw
    have HTW := Lib.hid w1
    generalize xs.take (sz xs) = ts at t1 e1 HT HTW
    generalize hk : sz xs = k at t1 e1 z1
    have HK := Lib.hid hk
    have HTL := Lib.hid e1
    have hcc := t1.words
    clear t2 t1 e1 w1 hk
    rcases hcc with ⟨rfl, rfl, rfl, rfl⟩ | ⟨g, rfl, hg1, hg2⟩
    · have hv0 : val xs = 0 := HT.out.symm
      have HV0 := Lib.hid hv0
      clear hv0
      go_wp2_with fail
      go_loop [18] (fun i => i = .int .i64 0) (fun _ => 0)
      case atStart => rfl
      case round =>
        subst hrel
        go_wp2_with fail
        refine (size_calls W none 0 0 [] (SlW.nil0 W)).mono ?_
        rintro e w' ⟨rfl, rfl⟩
        go_wp2
        go_ret2
        rw [show val xs - val ys = 0 by rw [HV0.out]; omega]
        exact (natRes_nil la HBW.out).two
    · have HGB := Lib.hid hg1
      have HG := Lib.hid hg2
      have mc := hg2.hle
      have md := hg2.hmax
      rw [HTL.out] at mc
      unfold maxLen at md
      clear hg1 hg2
      go_wp2_with fail
      go_loopw [18, 7] (fun i cr wr => ∃ (t c : Nat) (zs : List Nat), t ≤ k ∧ i = .int .i64 t ∧ cr = .int .u64 (c : Nat) ∧ c ≤ 1 ∧ WordsC wr g c1 zs ∧ zs.length = k ∧ W64 zs ∧ valTo zs t + valTo ys t = valTo ts t + B64 ^ t * c ∧ (∀ j, t ≤ j → wd zs j = wd ts j) ∧ Below w.heap.size w wr) (fun i _ _ => k - (intOf i).toNat)
      case atStart => exact ⟨0, 0, ts, by omega, rfl, rfl, by omega, HG.out, HTL.out, HTW.out, by simp [valTo], fun j _ => rfl, HBW.out⟩
      case round =>
        obtain ⟨t, c, zs, ht, rfl, rfl, hc, hz, hzl, hzw, hv, hq, hbw⟩ := hrel
        have HZ := Lib.hid hz
        have HZL := Lib.hid hzl
        have HZW := Lib.hid hzw
        have HV := Lib.hid hv
        have HQ := Lib.hid hq
        have HBR := Lib.hid hbw
        clear hz hzl hzw hv hbw hq HBW HG
        by_cases hlt : t < k
        · have hzr := HZ.out.cell t (by rw [HZL.out]; exact hlt)
          have HE : Hid (wd zs t = wd ts t) := HQ.out t (Nat.le_refl _)
          by_cases hb : t < lb
          · obtain ⟨p', o', rfl, hy⟩ := HB.out.wcell t hb
            have hyr : wr.cell? ⟨p', o' + t, none⟩ = some (.int .u64 ((wd ys t : Nat) : Int)) := by rw [HBR.out.cell (World.block_lt_of_cell? w _ hy)]; exact hy
            clear hy
            have HS := Lib.hid (sub_step (zs := zs) HV.out (valTo_wd ts t) (valTo_wd ys t) (by rw [HZL.out]; omega) (wd_lt HTW.out t) (wd_lt HY.out t) hc)
            rw [← HE.out] at HS
            have hqq := subHi_le (wd zs t) (wd ys t) c
            have HW := Lib.hid (HZW.out.set t _ (subLo_lt (wd zs t) (wd ys t) c))
            have HQ2 : Hid (∀ j, t + 1 ≤ j → wd (zs.set t (subLo (wd zs t) (wd ys t) c)) j = wd ts j) := fun j hj => by rw [wd_set_ne _ (by omega)]; exact HQ.out j (by omega)
            have hadd := run_sub64 (wd zs t) (wd ys t) c hc
            go_wp2_with ((with_reducible refine gate_store 59 ?_); refine st_wordC HBR.out HZ.out HGB.out t (subLo (wd zs t) (wd ys t) c) (by rw [HZL.out]; omega) (fun W2 hB2 _ _ hz2 => ?_); have HB2 := Lib.hid hB2; have HZ2 := Lib.hid hz2; clear hB2 hz2)
            go_roundw
            case rel => exact ⟨t + 1, subHi (wd zs t) (wd ys t) c, zs.set t (subLo (wd zs t) (wd ys t) c), by omega, by go_num, rfl, hqq, HZ2.out, by rw [List.length_set]; exact HZL.out, HW.out, HS.out, HQ2.out, HB2.out⟩
            case measure => simp [intOf]; omega
          · have hy0 : wd ys t = 0 := by unfold wd; rw [List.getD_eq_getElem?_getD, List.getElem?_eq_none (by rw [HB.out.hlen]; omega)]; rfl
            have HS := Lib.hid (sub_step (zs := zs) HV.out (valTo_wd ts t) (valTo_wd ys t) (by rw [HZL.out]; omega) (wd_lt HTW.out t) (wd_lt HY.out t) hc)
            rw [← HE.out, hy0] at HS
            clear hy0
            have hqq := subHi_le (wd zs t) 0 c
            have HW := Lib.hid (HZW.out.set t _ (subLo_lt (wd zs t) 0 c))
            have HQ2 : Hid (∀ j, t + 1 ≤ j → wd (zs.set t (subLo (wd zs t) 0 c)) j = wd ts j) := fun j hj => by rw [wd_set_ne _ (by omega)]; exact HQ.out j (by omega)
            have hadd := run_sub64_0 (wd zs t) c hc
            go_wp2_with ((with_reducible refine gate_store 59 ?_); refine st_wordC HBR.out HZ.out HGB.out t (subLo (wd zs t) 0 c) (by rw [HZL.out]; omega) (fun W2 hB2 _ _ hz2 => ?_); have HB2 := Lib.hid hB2; have HZ2 := Lib.hid hz2; clear hB2 hz2)
            go_roundw
            case rel => exact ⟨t + 1, subHi (wd zs t) 0 c, zs.set t (subLo (wd zs t) 0 c), by omega, by go_num, rfl, hqq, HZ2.out, by rw [List.length_set]; exact HZL.out, HW.out, HS.out, HQ2.out, HB2.out⟩
            case measure => simp [intOf]; omega
        · have hte : k = t := by omega
          subst hte
          have HN : Hid (val zs = val xs - val ys) := sub_end' HV.out HZW.out HLE.out HK.out HTL.out HT.out HX.out HZL.out
          go_wp2_with fail
          refine (size_calls wr _ k c1 zs (HZ.out.slAll HZW.out HZL.out)).mono ?_
          rintro e w' ⟨rfl, rfl⟩
          have hsz := sz_le zs
          have hs2 : sz zs ≤ k := by rw [← HZL.out]; exact hsz
          clear hsz
          go_wp2
          go_ret2
          exact (natRes_mkC (w := w) HZ.out HGB.out HZW.out HN.out (by rw [HZL.out]; exact z1) HBR.out).two
end Go.Proofs.Ythaplpenccpkpaa
