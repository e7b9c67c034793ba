/- The contract of nat.Add. · The contracts of the reference's word, Cmp, Trim. · The contracts of the reference's Add and Less. -/
import Derived.Test.YtpodpdopgdkdkaaGreatDoorMw03
set_option linter.unusedVariables false
set_option linter.unusedSimpArgs false
namespace Go.Proofs.YtpodpdopgdkdkaaGreatDoor
open Go.RowKit
theorem add_step {zs xs ys : List Nat} {t c x y : Nat} (hv : valTo zs t + B64 ^ t * c = valTo xs t + valTo ys t) (hx : valTo xs (t + 1) = valTo xs t + B64 ^ t * x) (hy : valTo ys (t + 1) = valTo ys t + B64 ^ t * y) (hl : t < zs.length) :
    valTo (zs.set t (addLo x y c)) (t + 1) + B64 ^ (t + 1) * addHi x y c = valTo xs (t + 1) + valTo ys (t + 1) := by
  rw [valTo_set_succ hl, hx, hy, Nat.pow_succ, Nat.mul_assoc, Nat.add_assoc, ← Nat.mul_add, add_eq, Nat.mul_add, Nat.mul_add]
  omega
set_option maxRecDepth 10000 in
set_option maxHeartbeats 2000000 in
theorem add_calls (w : World) (a b : Option Addr) (la ca lb cb : Nat) (xs ys : List Nat) (ha : SlW w a la ca xs) (hb : SlW w b lb cb ys) (sa : la ≤ 8796093022208) (sb : lb ≤ 8796093022208) :
    Calls Tryz.prog 78 #[.slice a la ca, .slice b lb cb] w (NatRes w (val xs + val ys) (max (sz xs) (sz ys) + 1)) := by
  have s1 : SzOf w a la ca (sz xs) := ⟨xs, ha, rfl⟩
  have s2 : SzOf w b lb cb (sz ys) := ⟨ys, hb, rfl⟩
  have z1 := ha.sz_le
  have z2 := hb.sz_le
  have m1 := ha.hle
  have m2 := ha.hmax
  have m3 := hb.hle
  have m4 := hb.hmax
  have hxw := ha.hw
  have hyw := hb.hw
  have HA := Lib.hid ha
  have HB := Lib.hid hb
  have HX := Lib.hid hxw
  have HY := Lib.hid hyw
  generalize hk : sz xs = k at s1 z1 ⊢
  generalize hl : sz ys = l at s2 z2 ⊢
  have HK := Lib.hid hk
  have HL := Lib.hid hl
  clear ha hb hk hl hxw hyw
  go_enter Tryz.func78, Tryz.ntmps78
  go_wp2_with fail
  go_quiet ((go_at_call 96; exact Calls.quiet_of_same (size_of (by assumption) _)))
  clear s1 s2
  have HB0 : Hid (Below w.heap.size w (w.drewN nq)) := below_drewN' (Below.refl _ _) nq
  by_cases hkl : k < l
  · have hkl' : decide (k < l) = true := by simp [hkl]
    go_wp2_with ((with_reducible refine gate_make 36 ?_); refine mk_words HB0.out (l + 1) (by omega) (fun W g hgB _ hBW _ hgw => ?_))
    have HBW := Lib.hid hBW
    have HGW := Lib.hid hgw
    have HGB := Lib.hid hgB
    clear hBW hgw hgB HB0
    go_loopw [31, 6] (fun i cr wr => ∃ (t c : Nat) (zs : List Nat), t ≤ l ∧ i = .int .i64 t ∧ cr = .int .u64 (c : Nat) ∧ c ≤ 1 ∧ WordsAt wr g zs ∧ zs.length = l + 1 ∧ W64 zs ∧ valTo zs t + B64 ^ t * c = valTo ys t + valTo xs t ∧ Below w.heap.size w wr) (fun i _ _ => l - (intOf i).toNat)
    case atStart => exact ⟨0, 0, List.replicate (l + 1) 0, by omega, rfl, rfl, by omega, HGW.out, by simp, W64.zeros _, by simp [valTo], HBW.out⟩
    case round =>
      obtain ⟨t, c, zs, ht, rfl, rfl, hc, hz, hzl, hzw, hv, hbw⟩ := hrel
      have HZ := Lib.hid hz
      have HZL := Lib.hid hzl
      have HZW := Lib.hid hzw
      have HV := Lib.hid hv
      have HBR := Lib.hid hbw
      clear hz hzl hzw hv hbw HBW HGW
      by_cases hlt : t < l
      · obtain ⟨p, o, rfl, hx⟩ := HB.out.hcell t (by omega)
        have hxr : wr.cell? ⟨p, o + t, none⟩ = some (.int .u64 ((ys.getD t 0 : Nat) : Int)) := by rw [HBR.out.cell (World.block_lt_of_cell? w _ hx)]; exact hx
        clear hx
        have hXb := HY.out.get t
        by_cases hb : t < k
        · obtain ⟨p', o', rfl, hy⟩ := HA.out.hcell t (by omega)
          have hyr : wr.cell? ⟨p', o' + t, none⟩ = some (.int .u64 ((xs.getD t 0 : Nat) : Int)) := by rw [HBR.out.cell (World.block_lt_of_cell? w _ hy)]; exact hy
          clear hy
          have hYb := HX.out.get t
          have HD := Lib.hid (show valTo ys (t + 1) = valTo ys t + B64 ^ t * ys.getD t 0 ∧ valTo xs (t + 1) = valTo xs t + B64 ^ t * xs.getD t 0 from ⟨rfl, rfl⟩)
          generalize ys.getD t 0 = x at hxr hXb HD
          generalize xs.getD t 0 = y at hyr hYb HD
          have HS := Lib.hid (add_step (zs := zs) HV.out HD.out.1 HD.out.2 (by rw [HZL.out]; omega))
          have hq := addHi_le hXb hYb hc
          have HW := Lib.hid (HZW.out.set t _ (addLo_lt x y c))
          have hadd := run_add64 x y c hc
          clear hXb hYb
          go_wp2_with ((with_reducible refine gate_store 22 ?_); refine st_word HBR.out HZ.out HGB.out t (addLo x y c) (by rw [HZL.out]; omega) (fun W2 hB2 _ _ hz2 => ?_); have HB2 := Lib.hid hB2; have HZ2 := Lib.hid hz2; clear hB2 hz2)
          go_roundw
          case rel => exact ⟨t + 1, addHi x y c, zs.set t (addLo x y c), by omega, by go_num, rfl, hq, HZ2.out, by rw [List.length_set]; exact HZL.out, HW.out, HS.out, HB2.out⟩
          case measure => simp [intOf]; omega
        · have hY0 : xs.getD t 0 = 0 := sz_get_beyond t (by rw [HK.out]; omega)
          have HD := Lib.hid (show valTo ys (t + 1) = valTo ys t + B64 ^ t * ys.getD t 0 ∧ valTo xs (t + 1) = valTo xs t + B64 ^ t * 0 from ⟨rfl, by rw [← hY0]; rfl⟩)
          clear hY0
          generalize ys.getD t 0 = x at hxr hXb HD
          have HS := Lib.hid (add_step (zs := zs) HV.out HD.out.1 HD.out.2 (by rw [HZL.out]; omega))
          have hq := addHi_le hXb (show 0 < B64 by decide) hc
          have HW := Lib.hid (HZW.out.set t _ (addLo_lt x 0 c))
          have hadd := run_add64_0 x c hc
          clear hXb
          go_wp2_with ((with_reducible refine gate_store 22 ?_); refine st_word HBR.out HZ.out HGB.out t (addLo x 0 c) (by rw [HZL.out]; omega) (fun W2 hB2 _ _ hz2 => ?_); have HB2 := Lib.hid hB2; have HZ2 := Lib.hid hz2; clear hB2 hz2)
          go_roundw
          case rel => exact ⟨t + 1, addHi x 0 c, zs.set t (addLo x 0 c), by omega, by go_num, rfl, hq, HZ2.out, by rw [List.length_set]; exact HZL.out, HW.out, HS.out, HB2.out⟩
          case measure => simp [intOf]; omega
      · have hte : t = l := by omega
        subst hte
        have hcB : c < B64 := by unfold B64; omega
        have HW := Lib.hid (HZW.out.set t c hcB)
        have HN := Lib.hid (show val (zs.set t c) = val xs + val ys by
          rw [← valTo_all (t + 1) (by rw [List.length_set]; have := HZL.out; omega), valTo_set_succ (by have := HZL.out; omega), HV.out, valTo_ge_sz t (by rw [HL.out]; omega), valTo_ge_sz t (by rw [HK.out]; omega), Nat.add_comm])
        clear hcB
        go_wp2_with ((with_reducible refine gate_store 22 ?_); refine st_word HBR.out HZ.out HGB.out t c (by rw [HZL.out]; omega) (fun W2 hB2 _ _ hz2 => ?_); have HB2 := Lib.hid hB2; have HZ2 := Lib.hid hz2; clear hB2 hz2)
        have HR : Hid ((zs.set t c).length = t + 1) := by rw [List.length_set]; exact HZL.out
        generalize zs.set t c = R at HW HN HZ2 HR
        refine (size_calls W2 _ (t + 1) (t + 1) R (HZ2.out.slAll HW.out HR.out (by omega))).mono ?_
        rintro e w' ⟨rfl, rfl⟩
        have hsz := sz_le R
        have hs2 : sz R ≤ t + 1 := by rw [← HR.out]; exact hsz
        clear hsz
        go_wp2
        go_ret
        exact natRes_mk HZ2.out HGB.out HW.out HR.out (by omega) HN.out (by omega) HB2.out
  · have hkl' : decide (k < l) = false := by simp [hkl]
    go_wp2_with ((with_reducible refine gate_make 36 ?_); refine mk_words HB0.out (k + 1) (by omega) (fun W g hgB _ hBW _ hgw => ?_))
    have HBW := Lib.hid hBW
    have HGW := Lib.hid hgw
    have HGB := Lib.hid hgB
    clear hBW hgw hgB HB0
    go_loopw [31, 6] (fun i cr wr => ∃ (t c : Nat) (zs : List Nat), t ≤ k ∧ i = .int .i64 t ∧ cr = .int .u64 (c : Nat) ∧ c ≤ 1 ∧ WordsAt wr g zs ∧ zs.length = k + 1 ∧ W64 zs ∧ valTo zs t + B64 ^ t * c = valTo xs t + valTo ys t ∧ Below w.heap.size w wr) (fun i _ _ => k - (intOf i).toNat)
    case atStart => exact ⟨0, 0, List.replicate (k + 1) 0, by omega, rfl, rfl, by omega, HGW.out, by simp, W64.zeros _, by simp [valTo], HBW.out⟩
    case round =>
      obtain ⟨t, c, zs, ht, rfl, rfl, hc, hz, hzl, hzw, hv, hbw⟩ := hrel
      have HZ := Lib.hid hz
      have HZL := Lib.hid hzl
      have HZW := Lib.hid hzw
      have HV := Lib.hid hv
      have HBR := Lib.hid hbw
      clear hz hzl hzw hv hbw HBW HGW
      by_cases hlt : t < k
      · obtain ⟨p, o, rfl, hx⟩ := HA.out.hcell t (by omega)
        have hxr : wr.cell? ⟨p, o + t, none⟩ = some (.int .u64 ((xs.getD t 0 : Nat) : Int)) := by rw [HBR.out.cell (World.block_lt_of_cell? w _ hx)]; exact hx
        clear hx
        have hXb := HX.out.get t
        by_cases hb : t < l
        · obtain ⟨p', o', rfl, hy⟩ := HB.out.hcell t (by omega)
          have hyr : wr.cell? ⟨p', o' + t, none⟩ = some (.int .u64 ((ys.getD t 0 : Nat) : Int)) := by rw [HBR.out.cell (World.block_lt_of_cell? w _ hy)]; exact hy
          clear hy
          have hYb := HY.out.get t
          have HD := Lib.hid (show valTo xs (t + 1) = valTo xs t + B64 ^ t * xs.getD t 0 ∧ valTo ys (t + 1) = valTo ys t + B64 ^ t * ys.getD t 0 from ⟨rfl, rfl⟩)
          generalize xs.getD t 0 = x at hxr hXb HD
          generalize ys.getD t 0 = y at hyr hYb HD
          have HS := Lib.hid (add_step (zs := zs) HV.out HD.out.1 HD.out.2 (by rw [HZL.out]; omega))
          have hq := addHi_le hXb hYb hc
          have HW := Lib.hid (HZW.out.set t _ (addLo_lt x y c))
          have hadd := run_add64 x y c hc
          clear hXb hYb
          go_wp2_with ((with_reducible refine gate_store 22 ?_); refine st_word HBR.out HZ.out HGB.out t (addLo x y c) (by rw [HZL.out]; omega) (fun W2 hB2 _ _ hz2 => ?_); have HB2 := Lib.hid hB2; have HZ2 := Lib.hid hz2; clear hB2 hz2)
          go_roundw
          case rel => exact ⟨t + 1, addHi x y c, zs.set t (addLo x y c), by omega, by go_num, rfl, hq, HZ2.out, by rw [List.length_set]; exact HZL.out, HW.out, HS.out, HB2.out⟩
          case measure => simp [intOf]; omega
        · have hY0 : ys.getD t 0 = 0 := sz_get_beyond t (by rw [HL.out]; omega)
          have HD := Lib.hid (show valTo xs (t + 1) = valTo xs t + B64 ^ t * xs.getD t 0 ∧ valTo ys (t + 1) = valTo ys t + B64 ^ t * 0 from ⟨rfl, by rw [← hY0]; rfl⟩)
          clear hY0
          generalize xs.getD t 0 = x at hxr hXb HD
          have HS := Lib.hid (add_step (zs := zs) HV.out HD.out.1 HD.out.2 (by rw [HZL.out]; omega))
          have hq := addHi_le hXb (show 0 < B64 by decide) hc
          have HW := Lib.hid (HZW.out.set t _ (addLo_lt x 0 c))
          have hadd := run_add64_0 x c hc
          clear hXb
          go_wp2_with ((with_reducible refine gate_store 22 ?_); refine st_word HBR.out HZ.out HGB.out t (addLo x 0 c) (by rw [HZL.out]; omega) (fun W2 hB2 _ _ hz2 => ?_); have HB2 := Lib.hid hB2; have HZ2 := Lib.hid hz2; clear hB2 hz2)
          go_roundw
          case rel => exact ⟨t + 1, addHi x 0 c, zs.set t (addLo x 0 c), by omega, by go_num, rfl, hq, HZ2.out, by rw [List.length_set]; exact HZL.out, HW.out, HS.out, HB2.out⟩
          case measure => simp [intOf]; omega
      · have hte : t = k := by omega
        subst hte
        have hcB : c < B64 := by unfold B64; omega
        have HW := Lib.hid (HZW.out.set t c hcB)
        have HN := Lib.hid (show val (zs.set t c) = val xs + val ys by
          rw [← valTo_all (t + 1) (by rw [List.length_set]; have := HZL.out; omega), valTo_set_succ (by have := HZL.out; omega), HV.out, valTo_ge_sz t (by rw [HK.out]; omega), valTo_ge_sz t (by rw [HL.out]; omega)])
        clear hcB
        go_wp2_with ((with_reducible refine gate_store 22 ?_); refine st_word HBR.out HZ.out HGB.out t c (by rw [HZL.out]; omega) (fun W2 hB2 _ _ hz2 => ?_); have HB2 := Lib.hid hB2; have HZ2 := Lib.hid hz2; clear hB2 hz2)
        have HR : Hid ((zs.set t c).length = t + 1) := by rw [List.length_set]; exact HZL.out
        generalize zs.set t c = R at HW HN HZ2 HR
        refine (size_calls W2 _ (t + 1) (t + 1) R (HZ2.out.slAll HW.out HR.out (by omega))).mono ?_
        rintro e w' ⟨rfl, rfl⟩
        have hsz := sz_le R
        have hs2 : sz R ≤ t + 1 := by rw [← HR.out]; exact hsz
        clear hsz
        go_wp2
        go_ret
        exact natRes_mk HZ2.out HGB.out HW.out HR.out (by omega) HN.out (by omega) HB2.out
end Go.Proofs.YtpodpdopgdkdkaaGreatDoor
namespace Go.Proofs.YtpodpdopgdkdkaaGreatDoor
open Go.RowKit
/-- A word, behind a name that no walk opens. -/
def wd (xs : List Nat) (i : Nat) : Nat := xs.getD i 0
theorem wd_lt {xs : List Nat} (h : W64 xs) (i : Nat) : wd xs i < B64 := h.get i
theorem valTo_wd (xs : List Nat) (t : Nat) : valTo xs (t + 1) = valTo xs t + B64 ^ t * wd xs t := rfl
set_option maxRecDepth 10000 in
set_option maxHeartbeats 1000000 in
theorem word_of {w : World} {a : Option Addr} {len cap : Nat} {xs : List Nat} (h : SlW w a len cap xs) (i : Nat) :
    Calls Tryz.prog 48 #[.slice a len cap, .int .i64 (i : Nat)] w fun e w' => e = .returned (.int .u64 (wd xs i : Nat)) ∧ w = w' := by
  have m1 := h.hle
  have m2 := h.hmax
  by_cases hi : i < len
  · obtain ⟨b, off, rfl, hc⟩ := h.hcell i hi
    clear h
    unfold wd
    generalize xs.getD i 0 = X at hc ⊢
    go_enter Tryz.func48, Tryz.ntmps48
    go_wp2
    go_ret
    exact ⟨rfl, rfl⟩
  · have e : xs.getD i 0 = 0 := by rw [List.getD_eq_getElem?_getD, List.getElem?_eq_none (by rw [h.hlen]; omega)]; rfl
    unfold wd
    rw [e]
    clear h e
    go_enter Tryz.func48, Tryz.ntmps48
    go_wp2
    go_ret
    exact ⟨rfl, rfl⟩
set_option maxRecDepth 10000 in
set_option maxHeartbeats 1000000 in
theorem refCmp_calls (w : World) (a b : Option Addr) (la ca lb cb : Nat) (xs ys : List Nat) (ha : SlW w a la ca xs) (hb : SlW w b lb cb ys) :
    Calls Tryz.prog 16 #[.slice a la ca, .slice b lb cb] w fun e w' => e = .returned (.int .i64 (cmpI (val xs) (val ys))) ∧ w = w' := by
  have m1 := ha.hle
  have m2 := ha.hmax
  have m3 := hb.hle
  have m4 := hb.hmax
  have HX := Lib.hid ha.hw
  have HY := Lib.hid hb.hw
  have HZ : Hid (∀ j, max la lb ≤ j → xs.getD j 0 = ys.getD j 0) := fun j hj => by
    rw [List.getD_eq_getElem?_getD, List.getElem?_eq_none (by rw [ha.hlen]; omega), List.getD_eq_getElem?_getD, List.getElem?_eq_none (by rw [hb.hlen]; omega)]
  obtain ⟨M, hM⟩ : ∃ M, max la lb = M := ⟨_, rfl⟩
  rw [hM] at HZ
  have hM1 : max (la : Int) (lb : Int) = (M : Int) := by omega
  have hM2 : M ≤ 9223372036854775807 := by omega
  clear hM
  go_enter Tryz.func16, Tryz.ntmps16
  go_wp2_with fail
  go_loop [5] (fun i => ∃ t : Nat, t ≤ M ∧ i = .int .i64 ((t : Int) - 1) ∧ ∀ j, t ≤ j → xs.getD j 0 = ys.getD j 0) (fun i => (intOf i + 1).toNat)
  case atStart => exact ⟨M, by omega, by first | rfl | simp, HZ.out⟩
  case round =>
    obtain ⟨t, ht, rfl, hq⟩ := hrel
    have HQ := Lib.hid hq
    clear hq
    by_cases h0 : 0 < t
    · obtain ⟨u, rfl⟩ : ∃ u, t = u + 1 := ⟨t - 1, by omega⟩
      have e0 : (((u + 1 : Nat) : Int) - 1) = (u : Nat) := by omega
      rw [e0]
      rcases Nat.lt_trichotomy (xs.getD u 0) (ys.getD u 0) with hlt | heq | hgt
      · have HF := Lib.hid (cmpI_lt (lt_of_top u HX.out (fun j hj => HQ.out j (by omega)) hlt))
        have t2 : decide (wd xs u < wd ys u) = true := by simp only [decide_eq_true_eq]; exact hlt
        clear hlt
        go_wp2_with (go_at_call 48; refine (word_of (by assumption) _).mono ?_; rintro e w' ⟨rfl, rfl⟩)
        go_ret
        rw [HF.out]
        exact ⟨rfl, rfl⟩
      · have t2 : decide (wd xs u < wd ys u) = false := by simp only [decide_eq_false_iff_not]; unfold wd; omega
        have t3 : decide (wd ys u < wd xs u) = false := by simp only [decide_eq_false_iff_not]; unfold wd; omega
        have HE := Lib.hid heq
        clear heq
        go_wp2_with (go_at_call 48; refine (word_of (by assumption) _).mono ?_; rintro e w' ⟨rfl, rfl⟩)
        go_round
        case rel => exact ⟨u, by omega, by first | rfl | simp, fun j hj => by
          by_cases e : j = u
          · rw [e]; exact HE.out
          · exact HQ.out j (by omega)⟩
        case measure => simp [intOf]
      · have HF := Lib.hid (cmpI_gt (lt_of_top u HY.out (fun j hj => (HQ.out j (by omega)).symm) hgt))
        have t2 : decide (wd xs u < wd ys u) = false := by simp only [decide_eq_false_iff_not]; unfold wd; omega
        have t3 : decide (wd ys u < wd xs u) = true := by simp only [decide_eq_true_eq]; exact hgt
        clear hgt
        go_wp2_with (go_at_call 48; refine (word_of (by assumption) _).mono ?_; rintro e w' ⟨rfl, rfl⟩)
        go_ret
        rw [HF.out]
        exact ⟨rfl, rfl⟩
    · have ht0 : t = 0 := by omega
      subst ht0
      have HF := Lib.hid (cmpI_eq (val_eq_of_get fun i => HQ.out i (by omega)))
      go_wp2
      go_ret
      rw [HF.out]
      exact ⟨rfl, rfl⟩
theorem natRes_take {w W : World} {a : Option Addr} {k c bd : Nat} {xs : List Nat} (he : sz xs = k) (ho : OwnW w.heap.size W a (0 + k) c ([] ++ xs.take k)) (hb : Below w.heap.size w W) (hd : k ≤ bd) :
    NatRes w (val xs) bd (.returned (.slice a k c)) W := by
  subst he
  rw [Nat.zero_add, List.nil_append] at ho
  have e := ho.hlen
  refine ⟨a, c, xs.take (sz xs), by rw [e], by rw [e]; exact ho, val_take_sz xs, by rw [sz_take_sz, e], by omega, hb⟩
theorem trim_empty (w : World) : OwnW w.heap.size (w.alloc (.cells #[] 22)) (some ⟨w.heap.size, 0, none⟩) 0 0 [] :=
  ⟨⟨rfl, .inr ⟨w.heap.size, 0, #[], rfl, Nat.le_refl _, heap_new w _, Nat.le_refl _, by unfold maxLen; omega, rfl, rfl⟩⟩, rfl, W64.nil⟩
set_option maxRecDepth 10000 in
set_option maxHeartbeats 1000000 in
theorem refTrim_calls (w : World) (a : Option Addr) (len cap : Nat) (xs : List Nat) (h : SlW w a len cap xs) (hp : Plain a) (hs : len ≤ 17592186044416) :
    Calls Tryz.prog 47 #[.slice a len cap] w (NatRes w (val xs) len) := by
  have hm : len ≤ 9223372036854775807 := by have := h.hle; have := h.hmax; omega
  have mc := h.hle
  have md := h.hmax
  have H := Lib.hid h
  clear h
  go_enter Tryz.func47, Tryz.ntmps47
  go_wp2_with fail
  go_loop [3] (fun i => ∃ k : Nat, k ≤ len ∧ i = .int .i64 k ∧ ∀ j, k ≤ j → j < len → xs.getD j 0 = 0) (fun i => (intOf i).toNat)
  case atStart => exact ⟨len, by omega, rfl, fun j h1 h2 => by omega⟩
  case round =>
    obtain ⟨k, hk, rfl, hz⟩ := hrel
    have HZ := Lib.hid hz
    clear hz
    by_cases hk0 : 0 < k
    · obtain ⟨b, off, rfl, hc⟩ := H.out.hcell (k - 1) (by omega)
      have h0 : (0 : Int) ≤ (k : Int) - 1 := by omega
      have e1 : ((k : Int) - 1).toNat = k - 1 := by omega
      by_cases hx : xs.getD (k - 1) 0 = 0
      · rw [hx] at hc
        have HX := Lib.hid hx
        clear hx
        go_wp2
        go_round
        case rel => exact ⟨k - 1, by omega, by rw [show ((k : Int) - 1) = ((k - 1 : Nat) : Int) by omega], fun j h1 h2 => by
          by_cases e : j = k - 1
          · rw [e]; exact HX.out
          · exact HZ.out j (by omega) h2⟩
        case measure => simp [intOf]; omega
      · obtain ⟨X, hX⟩ : ∃ X, xs.getD (k - 1) 0 = X := ⟨_, rfl⟩
        rw [hX] at hc hx
        have hX0 : (((X : Nat) : Int) == 0) = false := by simp; exact hx
        have HX := Lib.hid hX
        have HXn := Lib.hid hx
        clear hX hx
        have HE := Lib.hid (show sz xs = k from sz_unique (by rw [H.out.hlen]; omega) (fun i h1 h2 => HZ.out i h1 (by rw [← H.out.hlen]; exact h2)) (.inr (by rw [HX.out]; exact HXn.out)))
        go_wp2_with ((with_reducible refine gate_append 36 ?_); refine app_words (w0 := w) (sa := some ⟨w.heap.size, 0, none⟩) (sc := 0) ((Below.refl _ _).alloc (Nat.le_refl _) _) (trim_empty w) ((H.out.take (k := k) (by omega)).below ((Below.refl _ _).alloc (Nat.le_refl _) _)) hp (by omega) (fun W a' c' hbW hoW => ?_); have HBW := Lib.hid hbW; have HOW := Lib.hid hoW; clear hbW hoW)
        go_ret
        exact natRes_take HE.out HOW.out HBW.out (by omega)
    · have hk1 : k = 0 := by omega
      subst hk1
      have HE := Lib.hid (show sz xs = 0 from sz_unique (xs := xs) (k := 0) (by omega) (fun i h1 h2 => HZ.out i h1 (by rw [← H.out.hlen]; exact h2)) (.inl rfl))
      go_wp2_with ((with_reducible refine gate_append 36 ?_); refine app_words (w0 := w) (sa := some ⟨w.heap.size, 0, none⟩) (sc := 0) ((Below.refl _ _).alloc (Nat.le_refl _) _) (trim_empty w) ((H.out.take (k := 0) (by omega)).below ((Below.refl _ _).alloc (Nat.le_refl _) _)) hp (by omega) (fun W a' c' hbW hoW => ?_); have HBW := Lib.hid hbW; have HOW := Lib.hid hoW; clear hbW hoW)
      go_ret
      exact natRes_take HE.out HOW.out HBW.out (by omega)
end Go.Proofs.YtpodpdopgdkdkaaGreatDoor
namespace Go.Proofs.YtpodpdopgdkdkaaGreatDoor
open Go.RowKit
theorem natRes_trans {w w1 w2 : World} {n bd : Nat} {e : Ending} (hb : Below w.heap.size w w1) (h : NatRes w1 n bd e w2) : NatRes w n bd e w2 := by
  obtain ⟨a, c, zs, h1, h2, h3, h4, h5, h6⟩ := h
  exact ⟨a, c, zs, h1, h2.mono hb.size, h3, h4, h5, below_then hb h6⟩
theorem no_carry {z a b c P B : Nat} (hv : z + P * B * c = a + b) (ha : a < P) (hb : b < P) (hB : 2 ≤ B) : c = 0 := by
  rcases Nat.eq_zero_or_pos c with rfl | hc
  · rfl
  · have h1 : P * 2 ≤ P * B := Nat.mul_le_mul_left _ hB
    have h2 : P * B * 1 ≤ P * B * c := Nat.mul_le_mul_left _ hc
    omega
theorem no_borrow {z a b c P : Nat} (hv : z + b = a + P * c) (hz : z < P) (hle : b ≤ a) : c = 0 := by
  rcases Nat.eq_zero_or_pos c with rfl | hc
  · rfl
  · have h2 : P * 1 ≤ P * c := Nat.mul_le_mul_left _ hc
    omega
theorem val_lt' {xs : List Nat} (h : W64 xs) {M : Nat} (hl : xs.length ≤ M) : val xs < B64 ^ M :=
  Nat.lt_of_lt_of_le (val_lt h) (Nat.pow_le_pow_right (by decide) hl)
theorem add_end {xs ys zs : List Nat} {M c : Nat} (hv : valTo zs (M + 1) + B64 ^ (M + 1) * c = valTo xs (M + 1) + valTo ys (M + 1)) (hx : W64 xs) (hy : W64 ys) (hl : xs.length ≤ M) (hk : ys.length ≤ M) (hz : zs.length = M + 1) : val zs = val xs + val ys := by
  rw [valTo_all (M + 1) (by omega), valTo_all (M + 1) (by omega), valTo_all (M + 1) (by omega), Nat.pow_succ] at hv
  have e := no_carry hv (val_lt' hx hl) (val_lt' hy hk) (by decide)
  rw [e, Nat.mul_zero, Nat.add_zero] at hv
  exact hv
theorem sub_step {zs xs ys : List Nat} {t c x y : Nat} (hv : valTo zs t + valTo ys t = valTo xs t + B64 ^ t * c) (hx : valTo xs (t + 1) = valTo xs t + B64 ^ t * x) (hy : valTo ys (t + 1) = valTo ys t + B64 ^ t * y) (hl : t < zs.length) (bx : x < B64) (bY : y < B64) (hc : c ≤ 1) :
    valTo (zs.set t (subLo x y c)) (t + 1) + valTo ys (t + 1) = valTo xs (t + 1) + B64 ^ (t + 1) * subHi x y c := by
  rw [valTo_set_succ hl, hx, hy, Nat.pow_succ, Nat.mul_assoc]
  have e := congrArg (B64 ^ t * ·) (sub_eq bx bY hc)
  simp only [Nat.mul_add] at e
  omega
theorem sub_end {xs ys zs : List Nat} {M c : Nat} (hv : valTo zs M + valTo ys M = valTo xs M + B64 ^ M * c) (hw : W64 zs) (hle : val ys ≤ val xs) (hl : xs.length ≤ M) (hk : ys.length ≤ M) (hz : zs.length = M) : val zs = val xs - val ys := by
  rw [valTo_all M (by omega), valTo_all M (by omega), valTo_all M (by omega)] at hv
  have e := no_borrow hv (val_lt' hw (by omega)) hle
  rw [e, Nat.mul_zero, Nat.add_zero] at hv
  omega
set_option maxRecDepth 10000 in
set_option maxHeartbeats 1000000 in
theorem refAdd_calls (w : World) (a b : Option Addr) (la ca lb cb : Nat) (xs ys : List Nat) (ha : SlW w a la ca xs) (hb : SlW w b lb cb ys) (sa : la ≤ 8796093022208) (sb : lb ≤ 8796093022208) :
    Calls Tryz.prog 88 #[.slice a la ca, .slice b lb cb] w (NatRes w (val xs + val ys) (max la lb + 1)) := by
  have m1 := ha.hle
  have m2 := ha.hmax
  have m3 := hb.hle
  have m4 := hb.hmax
  have HX := Lib.hid ha.hw
  have HY := Lib.hid hb.hw
  have HLA := Lib.hid ha.hlen
  have HLB := Lib.hid hb.hlen
  obtain ⟨M, hM⟩ : ∃ M, max la lb = M := ⟨_, rfl⟩
  have HMM : Hid (la ≤ M ∧ lb ≤ M) := ⟨by omega, by omega⟩
  have hM1 : max (la : Int) (lb : Int) = (M : Int) := by omega
  have hM2 : M ≤ 8796093022208 := by omega
  rw [hM]
  clear hM
  go_enter Tryz.func88, Tryz.ntmps88
  go_wp2_with ((with_reducible refine gate_make 36 ?_); refine mk_words (Below.refl w.heap.size w) (M + 1) (by omega) (fun W g hgB _ hBW _ hgw => ?_); have HBW := Lib.hid hBW; have HGW := Lib.hid hgw; have HGB := Lib.hid hgB; clear hBW hgw hgB)
  go_loopw [17, 6] (fun i cr wr => ∃ (t c : Nat) (zs : List Nat), t ≤ M + 1 ∧ i = .int .i64 t ∧ cr = .int .u64 (c : Nat) ∧ c ≤ 1 ∧ WordsAt wr g zs ∧ zs.length = M + 1 ∧ W64 zs ∧ valTo zs t + B64 ^ t * c = valTo xs t + valTo ys t ∧ Below w.heap.size w wr) (fun i _ _ => M + 1 - (intOf i).toNat)
  case atStart => exact ⟨0, 0, List.replicate (M + 1) 0, by omega, rfl, rfl, by omega, HGW.out, by simp, W64.zeros _, by simp [valTo], HBW.out⟩
  case round =>
    obtain ⟨t, c, zs, ht, rfl, rfl, hc, hz, hzl, hzw, hv, hbw⟩ := hrel
    have HZ := Lib.hid hz
    have HZL := Lib.hid hzl
    have HZW := Lib.hid hzw
    have HV := Lib.hid hv
    have HBR := Lib.hid hbw
    clear hz hzl hzw hv hbw HBW HGW
    by_cases hlt : t < M + 1
    · have haw := ha.below HBR.out
      have hbw := hb.below HBR.out
      have hq := addHi_le (wd_lt HX.out t) (wd_lt HY.out t) hc
      have HS := Lib.hid (add_step (zs := zs) HV.out (valTo_wd xs t) (valTo_wd ys t) (by rw [HZL.out]; omega))
      have HW := Lib.hid (HZW.out.set t _ (addLo_lt (wd xs t) (wd ys t) c))
      have hadd := run_add64 (wd xs t) (wd ys t) c hc
      go_wp2_with (first | (go_at_call 48; refine (word_of (by assumption) _).mono ?_; rintro e w' ⟨rfl, rfl⟩) | ((with_reducible refine gate_store 22 ?_); refine st_word HBR.out HZ.out HGB.out t (addLo (wd xs t) (wd ys t) c) (by rw [HZL.out]; omega) (fun W2 hB2 _ _ hz2 => ?_); have HB2 := Lib.hid hB2; have HZ2 := Lib.hid hz2; clear hB2 hz2))
      go_roundw
      case rel => exact ⟨t + 1, addHi (wd xs t) (wd ys t) c, zs.set t (addLo (wd xs t) (wd ys t) c), by omega, by go_num, rfl, hq, HZ2.out, by rw [List.length_set]; exact HZL.out, HW.out, HS.out, HB2.out⟩
      case measure => simp [intOf]; omega
    · have hte : M + 1 = t := by omega
      subst hte
      have HN : Hid (val zs = val xs + val ys) := add_end HV.out HX.out HY.out (by rw [HLA.out]; exact HMM.out.1) (by rw [HLB.out]; exact HMM.out.2) HZL.out
      go_wp2_with fail
      refine (refTrim_calls wr _ (M + 1) (M + 1) zs (HZ.out.slAll HZW.out HZL.out (by omega)) (.inr ⟨_, _, rfl⟩) (by omega)).mono ?_
      rintro e w2 hr
      have hr2 := natRes_trans HBR.out hr
      rw [HN.out] at hr2
      obtain ⟨a', c', rs, rfl, r1, r2, r3, r4, r5⟩ := hr2
      have R := Lib.hid (And.intro r1 (And.intro r2 (And.intro r3 (And.intro r4 r5))))
      clear r1 r2 r3 r4 r5 hr
      go_wp2
      go_ret
      exact ⟨a', c', rs, rfl, R.out.1, R.out.2.1, R.out.2.2.1, R.out.2.2.2.1, R.out.2.2.2.2⟩
set_option maxRecDepth 10000 in
set_option maxHeartbeats 1000000 in
theorem refLess_calls (w : World) (a b : Option Addr) (la ca lb cb : Nat) (xs ys : List Nat) (ha : SlW w a la ca xs) (hb : SlW w b lb cb ys) (sa : la ≤ 8796093022208) (sb : lb ≤ 8796093022208) (hle : val ys ≤ val xs) :
    Calls Tryz.prog 17 #[.slice a la ca, .slice b lb cb] w (NatRes w (val xs - val ys) (max la lb)) := by
  have m1 := ha.hle
  have m2 := ha.hmax
  have m3 := hb.hle
  have m4 := hb.hmax
  have HX := Lib.hid ha.hw
  have HY := Lib.hid hb.hw
  have HLE := Lib.hid hle
  clear hle
  have HLA := Lib.hid ha.hlen
  have HLB := Lib.hid hb.hlen
  obtain ⟨M, hM⟩ : ∃ M, max la lb = M := ⟨_, rfl⟩
  have HMM : Hid (la ≤ M ∧ lb ≤ M) := ⟨by omega, by omega⟩
  have hM1 : max (la : Int) (lb : Int) = (M : Int) := by omega
  have hM2 : M ≤ 8796093022208 := by omega
  rw [hM]
  clear hM
  go_enter Tryz.func17, Tryz.ntmps17
  go_wp2_with ((with_reducible refine gate_make 36 ?_); refine mk_words (Below.refl w.heap.size w) (M) (by omega) (fun W g hgB _ hBW _ hgw => ?_); have HBW := Lib.hid hBW; have HGW := Lib.hid hgw; have HGB := Lib.hid hgB; clear hBW hgw hgB)
  go_loopw [16, 6] (fun i cr wr => ∃ (t c : Nat) (zs : List Nat), t ≤ M ∧ i = .int .i64 t ∧ cr = .int .u64 (c : Nat) ∧ c ≤ 1 ∧ WordsAt wr g zs ∧ zs.length = M ∧ W64 zs ∧ valTo zs t + valTo ys t = valTo xs t + B64 ^ t * c ∧ Below w.heap.size w wr) (fun i _ _ => M - (intOf i).toNat)
  case atStart => exact ⟨0, 0, List.replicate (M) 0, by omega, rfl, rfl, by omega, HGW.out, by simp, W64.zeros _, by simp [valTo], HBW.out⟩
  case round =>
    obtain ⟨t, c, zs, ht, rfl, rfl, hc, hz, hzl, hzw, hv, hbw⟩ := hrel
    have HZ := Lib.hid hz
    have HZL := Lib.hid hzl
    have HZW := Lib.hid hzw
    have HV := Lib.hid hv
    have HBR := Lib.hid hbw
    clear hz hzl hzw hv hbw HBW HGW
    by_cases hlt : t < M
    · have haw := ha.below HBR.out
      have hbw := hb.below HBR.out
      have hq := subHi_le (wd xs t) (wd ys t) c
      have HS := Lib.hid (sub_step (zs := zs) HV.out (valTo_wd xs t) (valTo_wd ys t) (by rw [HZL.out]; omega) (wd_lt HX.out t) (wd_lt HY.out t) hc)
      have HW := Lib.hid (HZW.out.set t _ (subLo_lt (wd xs t) (wd ys t) c))
      have hadd := run_sub64 (wd xs t) (wd ys t) c hc
      go_wp2_with (first | (go_at_call 48; refine (word_of (by assumption) _).mono ?_; rintro e w' ⟨rfl, rfl⟩) | ((with_reducible refine gate_store 22 ?_); refine st_word HBR.out HZ.out HGB.out t (subLo (wd xs t) (wd ys t) c) (by rw [HZL.out]; omega) (fun W2 hB2 _ _ hz2 => ?_); have HB2 := Lib.hid hB2; have HZ2 := Lib.hid hz2; clear hB2 hz2))
      go_roundw
      case rel => exact ⟨t + 1, subHi (wd xs t) (wd ys t) c, zs.set t (subLo (wd xs t) (wd ys t) c), by omega, by go_num, rfl, hq, HZ2.out, by rw [List.length_set]; exact HZL.out, HW.out, HS.out, HB2.out⟩
      case measure => simp [intOf]; omega
    · have hte : M = t := by omega
      subst hte
      have HN : Hid (val zs = val xs - val ys) := sub_end HV.out HZW.out HLE.out (by rw [HLA.out]; exact HMM.out.1) (by rw [HLB.out]; exact HMM.out.2) HZL.out
      go_wp2_with fail
      refine (refTrim_calls wr _ (M) (M) zs (HZ.out.slAll HZW.out HZL.out (by omega)) (.inr ⟨_, _, rfl⟩) (by omega)).mono ?_
      rintro e w2 hr
      have hr2 := natRes_trans HBR.out hr
      rw [HN.out] at hr2
      obtain ⟨a', c', rs, rfl, r1, r2, r3, r4, r5⟩ := hr2
      have R := Lib.hid (And.intro r1 (And.intro r2 (And.intro r3 (And.intro r4 r5))))
      clear r1 r2 r3 r4 r5 hr
      go_wp2
      go_ret
      exact ⟨a', c', rs, rfl, R.out.1, R.out.2.1, R.out.2.2.1, R.out.2.2.2.1, R.out.2.2.2.2⟩
end Go.Proofs.YtpodpdopgdkdkaaGreatDoor
