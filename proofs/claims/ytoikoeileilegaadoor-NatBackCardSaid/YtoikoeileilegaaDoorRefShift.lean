/- The contracts of the reference's Left, Shl. -/
import Derived.Test.YtoikoeileilegaaDoorShiftMath
namespace Go.Proofs.YtoikoeileilegaaDoor
open Go.RowKit
theorem wrapI {n : Int} (h1 : -9223372036854775808 ≤ n) (h2 : n ≤ 9223372036854775807) : IntKind.i64.wrap n = n := by
  have e : IntKind.i64.wrap n = if (true && decide (n % 18446744073709551616 ≥ 9223372036854775808)) = true then n % 18446744073709551616 - 18446744073709551616 else n % 18446744073709551616 := rfl
  rw [e]
  simp
  split <;> omega
set_option maxRecDepth 10000 in
set_option maxHeartbeats 2000000 in
theorem left_calls (w : World) (a : Option Addr) (la ca : Nat) (xs : List Nat) (n : Nat) (ha : SlW w a la ca xs) (sa : la ≤ 4398046511104) (hn : n ≤ 4398046511104) :
    Calls Tryd.prog 44 #[.slice a la ca, .int .i64 (n : Nat)] w (NatRes w (val xs * 2 ^ n) (la + n / 64 + 1)) := by
  have m1 := ha.hle
  have m2 := ha.hmax
  have HX := Lib.hid ha.hw
  have HA := Lib.hid ha
  clear ha
  obtain ⟨q, hq⟩ : ∃ q, n / 64 = q := ⟨_, rfl⟩
  obtain ⟨s, hs⟩ : ∃ s, n % 64 = s := ⟨_, rfl⟩
  have hs64 : s < 64 := by omega
  have HNQ : Hid (n = 64 * q + s) := Lib.hid (by omega)
  have hqi : (n : Int) / 64 = (q : Nat) := by omega
  have hsi : (n : Int) % 64 = (s : Nat) := by omega
  obtain ⟨M, hM⟩ : ∃ M, la + q = M := ⟨_, rfl⟩
  have HMM := Lib.hid hM
  have hM1 : (la : Int) + (q : Int) = (M : Int) := by omega
  have hM2 : M ≤ 8796093022208 := by omega
  rw [hq, hM]
  clear hM hq hs
  go_enter Tryd.func44, Tryd.ntmps44
  go_wp2_with ((with_reducible refine gate_make 22 ?_); refine mk_words (Below.refl w.heap.size w) (M + 1) (by omega) (fun W g hgB _ hBW _ hgw => ?_); have HBW := Lib.hid hBW; have HGW := Lib.hid hgw; have HGB := Lib.hid hgB; clear hBW hgw hgB)
  go_loopw [16] (fun i wr => ∃ (t : Nat) (zs : List Nat), t ≤ la ∧ i = .int .i64 t ∧ WordsAt wr g zs ∧ zs.length = M + 1 ∧ W64 zs ∧ val zs = valTo xs t * 2 ^ (64 * q + s) ∧ wd zs (t + q) < 2 ^ s ∧ (∀ j, t + q + 1 ≤ j → wd zs j = 0) ∧ Below w.heap.size w wr) (fun i _ => la - (intOf i).toNat)
  case atStart => exact ⟨0, List.replicate (M + 1) 0, by omega, rfl, HGW.out, by simp, W64.zeros _, by rw [val_zeros']; simp [valTo], by rw [wd_zeros]; exact Nat.two_pow_pos s, fun j _ => wd_zeros _ _, HBW.out⟩
  case round =>
    obtain ⟨t, zs, ht, rfl, hz, hzl, hzw, hv, hz1, hz0, hbw⟩ := hrel
    have HZ := Lib.hid hz
    have HZL := Lib.hid hzl
    have HZW := Lib.hid hzw
    have HV := Lib.hid hv
    have HZ1 := Lib.hid hz1
    have HZ0 := Lib.hid hz0
    have HBR := Lib.hid hbw
    clear hz hzl hzw hv hbw HBW HGW hz0 hz1
    by_cases hlt : t < la
    · obtain ⟨u, hu⟩ : ∃ u, t + q = u := ⟨_, rfl⟩
      have hu1 : (t : Int) + (q : Int) = (u : Int) := by omega
      have hum : u + 1 < M + 1 := by have := HMM.out; omega
      obtain ⟨p, o, rfl, hx⟩ := HA.out.wcell t hlt
      have hxr : wr.cell? ⟨p, o + t, none⟩ = some (.int .u64 ((wd xs t : Nat) : Int)) := by rw [HBR.out.cell (World.block_lt_of_cell? w _ hx)]; exact hx
      have hzr := HZ.out.wcell u (by rw [HZL.out]; omega)
      have HPX := Lib.hid hx
      clear hx
      have e1 := bits_hilo (x := wd xs t) (y := wd zs u) (s := s) (by omega) (by rw [← hu]; exact HZ1.out)
      have hzu1 : wd zs (u + 1) = 0 := HZ0.out _ (by omega)
      have HS := Lib.hid (left_step (s := s) (q := q) (z := wd zs u) (by omega) HV.out (by rw [hu]) (by rw [hu]; exact hzu1) (by rw [HZL.out, hu]; omega))
      rw [hu] at HS
      have hlo : loS s (wd xs t) + wd zs u < B64 := lo_add_lt (by omega) (by rw [← hu]; exact HZ1.out)
      have HW1 := Lib.hid (HZW.out.set u _ hlo)
      have hhi := hiS_lt (s := s) (x := wd xs t) (by omega) (wd_lt HX.out t)
      have HW2 := Lib.hid (HW1.out.set (u + 1) _ (Nat.lt_of_lt_of_le hhi (pow2_le64 (by omega))))
      have HHI := Lib.hid hhi
      have HZU := Lib.hid hzu1
      clear hlo hhi hzu1
      have i1 : IntKind.i64.wrap (q : Int) = (q : Nat) := wrapI (by omega) (by omega)
      have i2 : IntKind.i64.wrap (u : Int) = (u : Nat) := wrapI (by omega) (by omega)
      have i3 : (u : Int) < (M : Int) + 1 := by omega
      have i4 : (n : Int).tmod 64 = (s : Nat) := by rw [Int.tmod_eq_emod_of_nonneg (by omega)]; exact hsi
      have i5 : IntKind.u64.wrap (s : Int) = (s : Nat) := wrapS (by unfold B64; omega)
      have i6 : min s 64 = s := by omega
      by_cases hs0 : 0 < s
      · have e2 := hiS_cast s (wd xs t)
        go_wp2_with fail
        go_still_tail 21, (by kernel_rfl)
        change wpList _ _ _ _ _ wr.drew
        have HZ2 : Hid (WordsAt wr.drew g zs) := Lib.hid HZ.out
        have HBR2 := Lib.hid HBR.out.drew
        clear HBR HZ hzr hxr
        generalize wr.drew = wv at HZ2 HBR2 ⊢
        go_wp2_with ((with_reducible refine gate_store 46 ?_); first | (refine st_word HBR2.out HZ2.out HGB.out u (loS s (wd xs t) + wd zs u) (by rw [HZL.out]; omega) (fun W2 hB2 _ _ hz2 => ?_); have hx2 : W2.cell? ⟨p, o + t, none⟩ = some (.int .u64 ((wd xs t : Nat) : Int)) := (by rw [hB2.cell (World.block_lt_of_cell? w _ HPX.out)]; exact HPX.out); have HB2 := Lib.hid hB2; have HZ3 := Lib.hid hz2; clear hB2 hz2) | (refine st_word HB2.out HZ3.out HGB.out (u + 1) (hiS s (wd xs t)) (by rw [List.length_set, HZL.out]; omega) (fun W3 hB3 _ _ hz3 => ?_); have HB3 := Lib.hid hB3; have HZ4 := Lib.hid hz3; clear hB3 hz3))
        go_roundw
        case rel =>
          refine ⟨t + 1, (zs.set u (loS s (wd xs t) + wd zs u)).set (u + 1) (hiS s (wd xs t)), by omega, by go_num, HZ4.out, by rw [List.length_set, List.length_set]; exact HZL.out, HW2.out, HS.out, ?_, fun j hj => ?_, HB3.out⟩
          · have e : wd ((zs.set u (loS s (wd xs t) + wd zs u)).set (u + 1) (hiS s (wd xs t))) (t + 1 + q) = hiS s (wd xs t) := by
              rw [show t + 1 + q = u + 1 by omega]
              unfold wd
              simp [List.getD_eq_getElem?_getD, HZL.out, show u + 1 < M + 1 by omega]
            rw [e]
            exact HHI.out
          · rw [wd_set_ne _ (by omega), wd_set_ne _ (by omega)]
            exact HZ0.out j (by omega)
        case measure => simp [intOf]; omega
      · have HS1 := Lib.hid (show s = 0 by omega)
        go_wp2_with fail
        go_still_tail 21, (by kernel_rfl)
        change wpList _ _ _ _ _ wr.drew
        have HZ2 : Hid (WordsAt wr.drew g zs) := Lib.hid HZ.out
        have HBR2 := Lib.hid HBR.out.drew
        clear HBR HZ hzr hxr
        generalize wr.drew = wv at HZ2 HBR2 ⊢
        go_wp2_with ((with_reducible refine gate_store 46 ?_); refine st_word HBR2.out HZ2.out HGB.out u (loS s (wd xs t) + wd zs u) (by rw [HZL.out]; omega) (fun W2 hB2 _ _ hz2 => ?_); have HB2 := Lib.hid hB2; have HZ3 := Lib.hid hz2; clear hB2 hz2)
        go_roundw
        case rel =>
          have h0 : hiS s (wd xs t) = 0 := by rw [HS1.out]; exact hiS_zero (wd_lt HX.out t)
          have hz9 : wd (zs.set u (loS s (wd xs t) + wd zs u)) (u + 1) = 0 := by rw [wd_set_ne _ (by omega)]; exact HZU.out
          have e9 := val_set (xs := zs.set u (loS s (wd xs t) + wd zs u)) (u + 1) 0 (by rw [List.length_set, HZL.out]; omega)
          have hz9' : (zs.set u (loS s (wd xs t) + wd zs u)).getD (u + 1) 0 = 0 := hz9
          rw [hz9'] at e9
          have e10 := HS.out
          rw [h0] at e10
          refine ⟨t + 1, zs.set u (loS s (wd xs t) + wd zs u), by omega, by go_num, HZ3.out, by rw [List.length_set]; exact HZL.out, HW1.out, by rw [← e10]; omega, ?_, fun j hj => ?_, HB2.out⟩
          · rw [show t + 1 + q = u + 1 by omega, hz9]
            exact Nat.two_pow_pos s
          · rw [wd_set_ne _ (by omega)]
            exact HZ0.out j (by omega)
        case measure => simp [intOf]; omega
    · have hte : la = t := by omega
      subst hte
      have HN : Hid (val zs = val xs * 2 ^ n) := Lib.hid (by rw [HV.out, valTo_all la (by rw [HA.out.hlen]; exact Nat.le_refl _), ← HNQ.out])
      go_wp2_with fail
      refine (refTrim_calls wr _ (M + 1) (M + 1) zs (HZ.out.slAll HZW.out HZL.out (by omega)) (.inr ⟨_, _, rfl⟩) (by omega)).mono ?_
      rintro e w2 hr
      have hr2 := natRes_trans HBR.out hr
      rw [HN.out] at hr2
      obtain ⟨a', c', rs, rfl, r1, r2, r3, r4, r5⟩ := hr2
      have R := Lib.hid (And.intro r1 (And.intro r2 (And.intro r3 (And.intro r4 r5))))
      clear r1 r2 r3 r4 r5 hr
      go_wp2
      go_ret
      exact ⟨a', c', rs, rfl, R.out.1, R.out.2.1, R.out.2.2.1, R.out.2.2.2.1, R.out.2.2.2.2⟩
end Go.Proofs.YtoikoeileilegaaDoor
