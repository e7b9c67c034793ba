/- The contract of nat.shift. -/
import Derived.Test.YtoikoeileilegaaDoorNatLong2
namespace Go.Proofs.YtoikoeileilegaaDoor
open Go.RowKit
theorem left_step0 {zs xs : List Nat} {t s z : Nat} (hs : s ≤ 64) (hv : val zs = valTo xs t * 2 ^ s) (hz : wd zs t = z) (hz1 : wd zs (t + 1) = 0) (hl : t + 1 < zs.length) :
    val ((zs.set t (loS s (wd xs t) + z)).set (t + 1) (hiS s (wd xs t))) = valTo xs (t + 1) * 2 ^ s := by
  have h := left_step (q := 0) (xs := xs) (zs := zs) (t := t) (z := z) hs (by rw [Nat.mul_zero, Nat.zero_add]; exact hv) hz hz1 hl
  rw [Nat.mul_zero, Nat.zero_add] at h
  exact h
set_option maxRecDepth 10000 in
set_option maxHeartbeats 2000000 in
theorem shift_calls (w : World) (a : Option Addr) (la ca : Nat) (xs : List Nat) (s : Nat) (ha : SlW w a la ca xs) (sa : la ≤ 4398046511104) (hs64 : s < 64) :
    Calls Tryd.prog 69 #[.slice a la ca, .int .i64 (s : Nat)] w (NatRes2 w (val xs * 2 ^ s) (la + 1) (.bool true)) := by
  have m1 := ha.hle
  have m2 := ha.hmax
  have HX := Lib.hid ha.hw
  have HA := Lib.hid ha
  clear ha
  go_enter Tryd.func69, Tryd.ntmps69
  go_wp2_with ((with_reducible refine gate_make 22 ?_); refine mk_words (Below.refl w.heap.size w) (la + 1) (by omega) (fun W g hgB _ hBW _ hgw => ?_); have HBW := Lib.hid hBW; have HGW := Lib.hid hgw; have HGB := Lib.hid hgB; clear hBW hgw hgB)
  go_loopw [15] (fun i wr => ∃ (t : Nat) (zs : List Nat), t ≤ la ∧ i = .int .i64 t ∧ WordsAt wr g zs ∧ zs.length = la + 1 ∧ W64 zs ∧ val zs = valTo xs t * 2 ^ s ∧ wd zs t < 2 ^ s ∧ (∀ j, t + 1 ≤ j → wd zs j = 0) ∧ Below w.heap.size w wr) (fun i _ => la - (intOf i).toNat)
  case atStart => exact ⟨0, List.replicate (la + 1) 0, by omega, rfl, HGW.out, by simp, W64.zeros _, by rw [val_zeros']; simp [valTo], by rw [wd_zeros]; exact Nat.two_pow_pos s, fun j _ => wd_zeros _ _, HBW.out⟩
  case round =>
    obtain ⟨t, zs, ht, rfl, hz, hzl, hzw, hv, hz1, hz0, hbw⟩ := hrel
    have HZ := Lib.hid hz
    have HZL := Lib.hid hzl
    have HZW := Lib.hid hzw
    have HV := Lib.hid hv
    have HZ1 := Lib.hid hz1
    have HZ0 := Lib.hid hz0
    have HBR := Lib.hid hbw
    clear hz hzl hzw hv hbw HBW HGW hz0 hz1
    by_cases hlt : t < la
    · obtain ⟨p, o, rfl, hx⟩ := HA.out.wcell t hlt
      have hxr : wr.cell? ⟨p, o + t, none⟩ = some (.int .u64 ((wd xs t : Nat) : Int)) := by rw [HBR.out.cell (World.block_lt_of_cell? w _ hx)]; exact hx
      have hzr := HZ.out.wcell t (by rw [HZL.out]; omega)
      clear hx
      have e1 := bits_hilo (x := wd xs t) (y := wd zs t) (s := s) (by omega) HZ1.out
      have hzu1 : wd zs (t + 1) = 0 := HZ0.out _ (by omega)
      have HS := Lib.hid (left_step0 (s := s) (z := wd zs t) (by omega) HV.out rfl hzu1 (by rw [HZL.out]; omega))
      have hlo : loS s (wd xs t) + wd zs t < B64 := lo_add_lt (by omega) HZ1.out
      have HW1 := Lib.hid (HZW.out.set t _ hlo)
      have hhi := hiS_lt (s := s) (x := wd xs t) (by omega) (wd_lt HX.out t)
      have HW2 := Lib.hid (HW1.out.set (t + 1) _ (Nat.lt_of_lt_of_le hhi (pow2_le64 (by omega))))
      have HHI := Lib.hid hhi
      have HZU := Lib.hid hzu1
      clear hlo hhi hzu1
      have i2 : IntKind.i64.wrap (t : Int) = (t : Nat) := wrapI (by omega) (by omega)
      have i3 : (t : Int) < (la : Int) + 1 := by omega
      have i6 : min s 64 = s := by omega
      have i7 : (64 : Int) - (s : Int) = ((64 - s : Nat) : Int) := by omega
      have i8 : min (64 - s) 64 = 64 - s := by omega
      have e2 := hiS_cast s (wd xs t)
      go_wp2_with fail
      go_still_tail 8, (by kernel_rfl)
      change wpList _ _ _ _ _ wr.drew
      have HZ2 : Hid (WordsAt wr.drew g zs) := Lib.hid HZ.out
      have HBR2 := Lib.hid HBR.out.drew
      clear HBR HZ hzr hxr
      generalize wr.drew = wv at HZ2 HBR2 ⊢
      by_cases hs0 : 0 < s
      · go_wp2_with ((with_reducible refine gate_store 46 ?_); first | (refine st_word HBR2.out HZ2.out HGB.out t (loS s (wd xs t) + wd zs t) (by rw [HZL.out]; omega) (fun W2 hB2 _ _ hz2 => ?_); have HB2 := Lib.hid hB2; have HZ3 := Lib.hid hz2; clear hB2 hz2) | (refine st_word HB2.out HZ3.out HGB.out (t + 1) (hiS s (wd xs t)) (by rw [List.length_set, HZL.out]; omega) (fun W3 hB3 _ _ hz3 => ?_); have HB3 := Lib.hid hB3; have HZ4 := Lib.hid hz3; clear hB3 hz3))
        go_roundw
        case rel =>
          refine ⟨t + 1, (zs.set t (loS s (wd xs t) + wd zs t)).set (t + 1) (hiS s (wd xs t)), by omega, by go_num, HZ4.out, by rw [List.length_set, List.length_set]; exact HZL.out, HW2.out, HS.out, ?_, fun j hj => ?_, HB3.out⟩
          · have e : wd ((zs.set t (loS s (wd xs t) + wd zs t)).set (t + 1) (hiS s (wd xs t))) (t + 1) = hiS s (wd xs t) := by
              unfold wd
              simp [List.getD_eq_getElem?_getD, HZL.out, show t + 1 < la + 1 by omega]
            rw [e]
            exact HHI.out
          · rw [wd_set_ne _ (by omega), wd_set_ne _ (by omega)]
            exact HZ0.out j (by omega)
        case measure => simp [intOf]; omega
      · have HS1 := Lib.hid (show s = 0 by omega)
        go_wp2_with ((with_reducible refine gate_store 46 ?_); refine st_word HBR2.out HZ2.out HGB.out t (loS s (wd xs t) + wd zs t) (by rw [HZL.out]; omega) (fun W2 hB2 _ _ hz2 => ?_); have HB2 := Lib.hid hB2; have HZ3 := Lib.hid hz2; clear hB2 hz2)
        go_roundw
        case rel =>
          have h0 : hiS s (wd xs t) = 0 := by rw [HS1.out]; exact hiS_zero (wd_lt HX.out t)
          have hz9 : wd (zs.set t (loS s (wd xs t) + wd zs t)) (t + 1) = 0 := by rw [wd_set_ne _ (by omega)]; exact HZU.out
          have e9 := val_set (xs := zs.set t (loS s (wd xs t) + wd zs t)) (t + 1) 0 (by rw [List.length_set, HZL.out]; omega)
          have hz9' : (zs.set t (loS s (wd xs t) + wd zs t)).getD (t + 1) 0 = 0 := hz9
          rw [hz9'] at e9
          have e10 := HS.out
          rw [h0] at e10
          refine ⟨t + 1, zs.set t (loS s (wd xs t) + wd zs t), by omega, by go_num, HZ3.out, by rw [List.length_set]; exact HZL.out, HW1.out, by rw [← e10]; omega, ?_, fun j hj => ?_, HB2.out⟩
          · rw [hz9]
            exact Nat.two_pow_pos s
          · rw [wd_set_ne _ (by omega)]
            exact HZ0.out j (by omega)
        case measure => simp [intOf]; omega
    · have hte : la = t := by omega
      subst hte
      have HN : Hid (val zs = val xs * 2 ^ s) := Lib.hid (by rw [HV.out, valTo_all la (by rw [HA.out.hlen]; exact Nat.le_refl _)])
      go_wp2_with fail
      refine (size_calls wr _ (la + 1) (la + 1) zs (HZ.out.slAll HZW.out HZL.out (by omega))).mono ?_
      rintro e w' ⟨rfl, rfl⟩
      have hsz := sz_le zs
      have hs2 : sz zs ≤ la + 1 := by rw [← HZL.out]; exact hsz
      clear hsz
      go_wp2
      go_ret2
      exact (natRes_mk HZ.out HGB.out HZW.out HZL.out (by omega) HN.out (by omega) HBR.out).two
end Go.Proofs.YtoikoeileilegaaDoor
