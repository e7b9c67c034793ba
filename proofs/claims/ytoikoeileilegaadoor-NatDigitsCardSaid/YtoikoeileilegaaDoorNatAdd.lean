/- The contract of nat.Add. -/
import Derived.Test.YtoikoeileilegaaDoorNatOps
namespace Go.Proofs.YtoikoeileilegaaDoor
open Go.RowKit
theorem add_step {zs xs ys : List Nat} {t c x y : Nat} (hv : valTo zs t + B64 ^ t * c = valTo xs t + valTo ys t) (hx : valTo xs (t + 1) = valTo xs t + B64 ^ t * x) (hy : valTo ys (t + 1) = valTo ys t + B64 ^ t * y) (hl : t < zs.length) :
    valTo (zs.set t (addLo x y c)) (t + 1) + B64 ^ (t + 1) * addHi x y c = valTo xs (t + 1) + valTo ys (t + 1) := by
  rw [valTo_set_succ hl, hx, hy, Nat.pow_succ, Nat.mul_assoc, Nat.add_assoc, ← Nat.mul_add, add_eq, Nat.mul_add, Nat.mul_add]
  omega
set_option maxRecDepth 10000 in
set_option maxHeartbeats 2000000 in
theorem add_calls (w : World) (a b : Option Addr) (la ca lb cb : Nat) (xs ys : List Nat) (ha : SlW w a la ca xs) (hb : SlW w b lb cb ys) (sa : la ≤ 8796093022208) (sb : lb ≤ 8796093022208) :
    Calls Tryd.prog 20 #[.slice a la ca, .slice b lb cb] w (NatRes w (val xs + val ys) (max (sz xs) (sz ys) + 1)) := by
  have s1 : SzOf w a la ca (sz xs) := ⟨xs, ha, rfl⟩
  have s2 : SzOf w b lb cb (sz ys) := ⟨ys, hb, rfl⟩
  have z1 := ha.sz_le
  have z2 := hb.sz_le
  have m1 := ha.hle
  have m2 := ha.hmax
  have m3 := hb.hle
  have m4 := hb.hmax
  have hxw := ha.hw
  have hyw := hb.hw
  have HA := Lib.hid ha
  have HB := Lib.hid hb
  have HX := Lib.hid hxw
  have HY := Lib.hid hyw
  generalize hk : sz xs = k at s1 z1 ⊢
  generalize hl : sz ys = l at s2 z2 ⊢
  have HK := Lib.hid hk
  have HL := Lib.hid hl
  clear ha hb hk hl hxw hyw
  go_enter Tryd.func20, Tryd.ntmps20
  go_wp2_with fail
  go_quiet ((go_at_call 40; exact Calls.quiet_of_same (size_of (by assumption) _)))
  clear s1 s2
  have HB0 : Hid (Below w.heap.size w (w.drewN nq)) := below_drewN' (Below.refl _ _) nq
  by_cases hkl : k < l
  · have hkl' : decide (k < l) = true := by simp [hkl]
    go_wp2_with ((with_reducible refine gate_make 22 ?_); refine mk_words HB0.out (l + 1) (by omega) (fun W g hgB _ hBW _ hgw => ?_))
    have HBW := Lib.hid hBW
    have HGW := Lib.hid hgw
    have HGB := Lib.hid hgB
    clear hBW hgw hgB HB0
    go_loopw [31, 6] (fun i cr wr => ∃ (t c : Nat) (zs : List Nat), t ≤ l ∧ i = .int .i64 t ∧ cr = .int .u64 (c : Nat) ∧ c ≤ 1 ∧ WordsAt wr g zs ∧ zs.length = l + 1 ∧ W64 zs ∧ valTo zs t + B64 ^ t * c = valTo ys t + valTo xs t ∧ Below w.heap.size w wr) (fun i _ _ => l - (intOf i).toNat)
    case atStart => exact ⟨0, 0, List.replicate (l + 1) 0, by omega, rfl, rfl, by omega, HGW.out, by simp, W64.zeros _, by simp [valTo], HBW.out⟩
    case round =>
      obtain ⟨t, c, zs, ht, rfl, rfl, hc, hz, hzl, hzw, hv, hbw⟩ := hrel
      have HZ := Lib.hid hz
      have HZL := Lib.hid hzl
      have HZW := Lib.hid hzw
      have HV := Lib.hid hv
      have HBR := Lib.hid hbw
      clear hz hzl hzw hv hbw HBW HGW
      by_cases hlt : t < l
      · obtain ⟨p, o, rfl, hx⟩ := HB.out.hcell t (by omega)
        have hxr : wr.cell? ⟨p, o + t, none⟩ = some (.int .u64 ((ys.getD t 0 : Nat) : Int)) := by rw [HBR.out.cell (World.block_lt_of_cell? w _ hx)]; exact hx
        clear hx
        have hXb := HY.out.get t
        by_cases hb : t < k
        · obtain ⟨p', o', rfl, hy⟩ := HA.out.hcell t (by omega)
          have hyr : wr.cell? ⟨p', o' + t, none⟩ = some (.int .u64 ((xs.getD t 0 : Nat) : Int)) := by rw [HBR.out.cell (World.block_lt_of_cell? w _ hy)]; exact hy
          clear hy
          have hYb := HX.out.get t
          have HD := Lib.hid (show valTo ys (t + 1) = valTo ys t + B64 ^ t * ys.getD t 0 ∧ valTo xs (t + 1) = valTo xs t + B64 ^ t * xs.getD t 0 from ⟨rfl, rfl⟩)
          generalize ys.getD t 0 = x at hxr hXb HD
          generalize xs.getD t 0 = y at hyr hYb HD
          have HS := Lib.hid (add_step (zs := zs) HV.out HD.out.1 HD.out.2 (by rw [HZL.out]; omega))
          have hq := addHi_le hXb hYb hc
          have HW := Lib.hid (HZW.out.set t _ (addLo_lt x y c))
          have hadd := run_add64 x y c hc
          clear hXb hYb
          go_wp2_with ((with_reducible refine gate_store 46 ?_); refine st_word HBR.out HZ.out HGB.out t (addLo x y c) (by rw [HZL.out]; omega) (fun W2 hB2 _ _ hz2 => ?_); have HB2 := Lib.hid hB2; have HZ2 := Lib.hid hz2; clear hB2 hz2)
          go_roundw
          case rel => exact ⟨t + 1, addHi x y c, zs.set t (addLo x y c), by omega, by go_num, rfl, hq, HZ2.out, by rw [List.length_set]; exact HZL.out, HW.out, HS.out, HB2.out⟩
          case measure => simp [intOf]; omega
        · have hY0 : xs.getD t 0 = 0 := sz_get_beyond t (by rw [HK.out]; omega)
          have HD := Lib.hid (show valTo ys (t + 1) = valTo ys t + B64 ^ t * ys.getD t 0 ∧ valTo xs (t + 1) = valTo xs t + B64 ^ t * 0 from ⟨rfl, by rw [← hY0]; rfl⟩)
          clear hY0
          generalize ys.getD t 0 = x at hxr hXb HD
          have HS := Lib.hid (add_step (zs := zs) HV.out HD.out.1 HD.out.2 (by rw [HZL.out]; omega))
          have hq := addHi_le hXb (show 0 < B64 by decide) hc
          have HW := Lib.hid (HZW.out.set t _ (addLo_lt x 0 c))
          have hadd := run_add64_0 x c hc
          clear hXb
          go_wp2_with ((with_reducible refine gate_store 46 ?_); refine st_word HBR.out HZ.out HGB.out t (addLo x 0 c) (by rw [HZL.out]; omega) (fun W2 hB2 _ _ hz2 => ?_); have HB2 := Lib.hid hB2; have HZ2 := Lib.hid hz2; clear hB2 hz2)
          go_roundw
          case rel => exact ⟨t + 1, addHi x 0 c, zs.set t (addLo x 0 c), by omega, by go_num, rfl, hq, HZ2.out, by rw [List.length_set]; exact HZL.out, HW.out, HS.out, HB2.out⟩
          case measure => simp [intOf]; omega
      · have hte : t = l := by omega
        subst hte
        have hcB : c < B64 := by unfold B64; omega
        have HW := Lib.hid (HZW.out.set t c hcB)
        have HN := Lib.hid (show val (zs.set t c) = val xs + val ys by
          rw [← valTo_all (t + 1) (by rw [List.length_set]; have := HZL.out; omega), valTo_set_succ (by have := HZL.out; omega), HV.out, valTo_ge_sz t (by rw [HL.out]; omega), valTo_ge_sz t (by rw [HK.out]; omega), Nat.add_comm])
        clear hcB
        go_wp2_with ((with_reducible refine gate_store 46 ?_); refine st_word HBR.out HZ.out HGB.out t c (by rw [HZL.out]; omega) (fun W2 hB2 _ _ hz2 => ?_); have HB2 := Lib.hid hB2; have HZ2 := Lib.hid hz2; clear hB2 hz2)
        have HR : Hid ((zs.set t c).length = t + 1) := by rw [List.length_set]; exact HZL.out
        generalize zs.set t c = R at HW HN HZ2 HR
        refine (size_calls W2 _ (t + 1) (t + 1) R (HZ2.out.slAll HW.out HR.out (by omega))).mono ?_
        rintro e w' ⟨rfl, rfl⟩
        have hsz := sz_le R
        have hs2 : sz R ≤ t + 1 := by rw [← HR.out]; exact hsz
        clear hsz
        go_wp2
        go_ret
        exact natRes_mk HZ2.out HGB.out HW.out HR.out (by omega) HN.out (by omega) HB2.out
  · have hkl' : decide (k < l) = false := by simp [hkl]
    go_wp2_with ((with_reducible refine gate_make 22 ?_); refine mk_words HB0.out (k + 1) (by omega) (fun W g hgB _ hBW _ hgw => ?_))
    have HBW := Lib.hid hBW
    have HGW := Lib.hid hgw
    have HGB := Lib.hid hgB
    clear hBW hgw hgB HB0
    go_loopw [31, 6] (fun i cr wr => ∃ (t c : Nat) (zs : List Nat), t ≤ k ∧ i = .int .i64 t ∧ cr = .int .u64 (c : Nat) ∧ c ≤ 1 ∧ WordsAt wr g zs ∧ zs.length = k + 1 ∧ W64 zs ∧ valTo zs t + B64 ^ t * c = valTo xs t + valTo ys t ∧ Below w.heap.size w wr) (fun i _ _ => k - (intOf i).toNat)
    case atStart => exact ⟨0, 0, List.replicate (k + 1) 0, by omega, rfl, rfl, by omega, HGW.out, by simp, W64.zeros _, by simp [valTo], HBW.out⟩
    case round =>
      obtain ⟨t, c, zs, ht, rfl, rfl, hc, hz, hzl, hzw, hv, hbw⟩ := hrel
      have HZ := Lib.hid hz
      have HZL := Lib.hid hzl
      have HZW := Lib.hid hzw
      have HV := Lib.hid hv
      have HBR := Lib.hid hbw
      clear hz hzl hzw hv hbw HBW HGW
      by_cases hlt : t < k
      · obtain ⟨p, o, rfl, hx⟩ := HA.out.hcell t (by omega)
        have hxr : wr.cell? ⟨p, o + t, none⟩ = some (.int .u64 ((xs.getD t 0 : Nat) : Int)) := by rw [HBR.out.cell (World.block_lt_of_cell? w _ hx)]; exact hx
        clear hx
        have hXb := HX.out.get t
        by_cases hb : t < l
        · obtain ⟨p', o', rfl, hy⟩ := HB.out.hcell t (by omega)
          have hyr : wr.cell? ⟨p', o' + t, none⟩ = some (.int .u64 ((ys.getD t 0 : Nat) : Int)) := by rw [HBR.out.cell (World.block_lt_of_cell? w _ hy)]; exact hy
          clear hy
          have hYb := HY.out.get t
          have HD := Lib.hid (show valTo xs (t + 1) = valTo xs t + B64 ^ t * xs.getD t 0 ∧ valTo ys (t + 1) = valTo ys t + B64 ^ t * ys.getD t 0 from ⟨rfl, rfl⟩)
          generalize xs.getD t 0 = x at hxr hXb HD
          generalize ys.getD t 0 = y at hyr hYb HD
          have HS := Lib.hid (add_step (zs := zs) HV.out HD.out.1 HD.out.2 (by rw [HZL.out]; omega))
          have hq := addHi_le hXb hYb hc
          have HW := Lib.hid (HZW.out.set t _ (addLo_lt x y c))
          have hadd := run_add64 x y c hc
          clear hXb hYb
          go_wp2_with ((with_reducible refine gate_store 46 ?_); refine st_word HBR.out HZ.out HGB.out t (addLo x y c) (by rw [HZL.out]; omega) (fun W2 hB2 _ _ hz2 => ?_); have HB2 := Lib.hid hB2; have HZ2 := Lib.hid hz2; clear hB2 hz2)
          go_roundw
          case rel => exact ⟨t + 1, addHi x y c, zs.set t (addLo x y c), by omega, by go_num, rfl, hq, HZ2.out, by rw [List.length_set]; exact HZL.out, HW.out, HS.out, HB2.out⟩
          case measure => simp [intOf]; omega
        · have hY0 : ys.getD t 0 = 0 := sz_get_beyond t (by rw [HL.out]; omega)
          have HD := Lib.hid (show valTo xs (t + 1) = valTo xs t + B64 ^ t * xs.getD t 0 ∧ valTo ys (t + 1) = valTo ys t + B64 ^ t * 0 from ⟨rfl, by rw [← hY0]; rfl⟩)
          clear hY0
          generalize xs.getD t 0 = x at hxr hXb HD
          have HS := Lib.hid (add_step (zs := zs) HV.out HD.out.1 HD.out.2 (by rw [HZL.out]; omega))
          have hq := addHi_le hXb (show 0 < B64 by decide) hc
          have HW := Lib.hid (HZW.out.set t _ (addLo_lt x 0 c))
          have hadd := run_add64_0 x c hc
          clear hXb
          go_wp2_with ((with_reducible refine gate_store 46 ?_); refine st_word HBR.out HZ.out HGB.out t (addLo x 0 c) (by rw [HZL.out]; omega) (fun W2 hB2 _ _ hz2 => ?_); have HB2 := Lib.hid hB2; have HZ2 := Lib.hid hz2; clear hB2 hz2)
          go_roundw
          case rel => exact ⟨t + 1, addHi x 0 c, zs.set t (addLo x 0 c), by omega, by go_num, rfl, hq, HZ2.out, by rw [List.length_set]; exact HZL.out, HW.out, HS.out, HB2.out⟩
          case measure => simp [intOf]; omega
      · have hte : t = k := by omega
        subst hte
        have hcB : c < B64 := by unfold B64; omega
        have HW := Lib.hid (HZW.out.set t c hcB)
        have HN := Lib.hid (show val (zs.set t c) = val xs + val ys by
          rw [← valTo_all (t + 1) (by rw [List.length_set]; have := HZL.out; omega), valTo_set_succ (by have := HZL.out; omega), HV.out, valTo_ge_sz t (by rw [HK.out]; omega), valTo_ge_sz t (by rw [HL.out]; omega)])
        clear hcB
        go_wp2_with ((with_reducible refine gate_store 46 ?_); refine st_word HBR.out HZ.out HGB.out t c (by rw [HZL.out]; omega) (fun W2 hB2 _ _ hz2 => ?_); have HB2 := Lib.hid hB2; have HZ2 := Lib.hid hz2; clear hB2 hz2)
        have HR : Hid ((zs.set t c).length = t + 1) := by rw [List.length_set]; exact HZL.out
        generalize zs.set t c = R at HW HN HZ2 HR
        refine (size_calls W2 _ (t + 1) (t + 1) R (HZ2.out.slAll HW.out HR.out (by omega))).mono ?_
        rintro e w' ⟨rfl, rfl⟩
        have hsz := sz_le R
        have hs2 : sz R ≤ t + 1 := by rw [← HR.out]; exact hsz
        clear hsz
        go_wp2
        go_ret
        exact natRes_mk HZ2.out HGB.out HW.out HR.out (by omega) HN.out (by omega) HB2.out
end Go.Proofs.YtoikoeileilegaaDoor
