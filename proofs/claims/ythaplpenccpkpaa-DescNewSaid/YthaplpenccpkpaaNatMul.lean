/- The contracts of nat.product, nat.Mul and the reference's Mul. -/
import Derived.Test.YthaplpenccpkpaaNatOps2
namespace Go.Proofs.Ythaplpenccpkpaa
open Go.RowKit
set_option maxRecDepth 10000 in
set_option maxHeartbeats 1000000 in
theorem product_calls (w : World) (a b : Option Addr) (la ca lb cb : Nat) (xs ys : List Nat) (ha : SlW w a la ca xs) (hb : SlW w b lb cb ys) (sa : la ≤ 4398046511104) (sb : lb ≤ 4398046511104) :
    Calls Try.prog 111 #[.slice a la ca, .slice b lb cb] w (NatRes w (val xs * val ys) (la + lb)) := by
  have m1 := ha.hle
  have m2 := ha.hmax
  have m3 := hb.hle
  have m4 := hb.hmax
  have HX := Lib.hid ha.hw
  have HY := Lib.hid hb.hw
  have HA := Lib.hid ha
  have HB := Lib.hid hb
  clear ha hb
  obtain ⟨M, hM⟩ : ∃ M, la + lb = M := ⟨_, rfl⟩
  have HMM := Lib.hid hM
  have hM1 : (la : Int) + (lb : Int) = (M : Int) := by omega
  have hM2 : M ≤ 8796093022208 := by omega
  rw [hM]
  clear hM
  go_enter Try.func111, Try.ntmps111
  go_wp2_with ((with_reducible refine gate_make 69 ?_); refine mk_words (Below.refl w.heap.size w) M (by omega) (fun W g hgB _ hBW _ hgw => ?_); have HBW := Lib.hid hBW; have HGW := Lib.hid hgw; have HGB := Lib.hid hgB; clear hBW hgw hgB)
  go_loopw [22] (fun i wr => ∃ (t : Nat) (zs : List Nat), t ≤ la ∧ i = .int .i64 t ∧ WordsAt wr g zs ∧ zs.length = M ∧ W64 zs ∧ val zs = valTo xs t * val ys ∧ (∀ j, t + lb ≤ j → wd zs j = 0) ∧ Below w.heap.size w wr) (fun i _ => la - (intOf i).toNat)
  case atStart => exact ⟨0, List.replicate M 0, by omega, rfl, HGW.out, by simp, W64.zeros _, by rw [val_zeros']; simp [valTo], fun j _ => wd_zeros _ _, HBW.out⟩
  case round =>
    obtain ⟨t, zs, ht, rfl, hz, hzl, hzw, hv, hz0, hbw⟩ := hrel
    have HZ := Lib.hid hz
    have HZL := Lib.hid hzl
    have HZW := Lib.hid hzw
    have HV := Lib.hid hv
    have HZ0 := Lib.hid hz0
    have HBR := Lib.hid hbw
    clear hz hzl hzw hv hbw HBW HGW hz0
    by_cases hlt : t < la
    · have htm : t + lb < M := by have := HMM.out; omega
      obtain ⟨p, o, rfl, hx⟩ := HA.out.wcell t hlt
      have hxr : wr.cell? ⟨p, o + t, none⟩ = some (.int .u64 ((wd xs t : Nat) : Int)) := by rw [HBR.out.cell (World.block_lt_of_cell? w _ hx)]; exact hx
      clear hx
      go_wp2_with fail
      go_loopw [29, 8] (fun i cr wr => ∃ (k c : Nat) (zs : List Nat), k ≤ lb ∧ i = .int .i64 k ∧ cr = .int .u64 (c : Nat) ∧ c < B64 ∧ WordsAt wr g zs ∧ zs.length = M ∧ W64 zs ∧ val zs + B64 ^ (t + k) * c = valTo xs t * val ys + B64 ^ t * (wd xs t * valTo ys k) ∧ (∀ j, t + lb ≤ j → wd zs j = 0) ∧ Below w.heap.size w wr) (fun i _ _ => lb - (intOf i).toNat)
      case atStart => exact ⟨0, 0, zs, by omega, rfl, rfl, by decide, HZ.out, HZL.out, HZW.out, by simp [valTo, HV.out], HZ0.out, HBR.out⟩
      case round =>
        obtain ⟨k, c, zs, hk, rfl, rfl, hc, hz, hzl, hzw, hv, hz0, hbw⟩ := hrel
        have HZ := Lib.hid hz
        have HZL := Lib.hid hzl
        have HZW := Lib.hid hzw
        have HV := Lib.hid hv
        have HZ0 := Lib.hid hz0
        have HBR := Lib.hid hbw
        clear hz hzl hzw hv hbw hz0 hxr
        by_cases hlk : k < lb
        · obtain ⟨u, hu⟩ : ∃ u, t + k = u := ⟨_, rfl⟩
          have hu1 : (t : Int) + (k : Int) = (u : Int) := by omega
          have hum : u < M := by omega
          obtain ⟨p', o', rfl, hy⟩ := HB.out.wcell k hlk
          have hyr : wr.cell? ⟨p', o' + k, none⟩ = some (.int .u64 ((wd ys k : Nat) : Int)) := by rw [HBR.out.cell (World.block_lt_of_cell? w _ hy)]; exact hy
          have hzr := HZ.out.wcell u (by rw [HZL.out]; omega)
          clear hy
          have bx := wd_lt HX.out t
          have bY := wd_lt HY.out k
          have bz := wd_lt HZW.out u
          have hm := mac_le bx bY bz hc
          have he := mac_eq' (wd xs t) (wd ys k) (wd zs u) c
          have hH := mac_hi he hm
          have HS := Lib.hid (mac_step (x := wd xs t) (H := mulHi (wd xs t) (wd ys k) + addHi (mulLo (wd xs t) (wd ys k)) c 0 + addHi (wd zs u) (addLo (mulLo (wd xs t) (wd ys k)) c 0) 0) HV.out he rfl (by rw [hu]) (by rw [HZL.out]; omega))
          have HW := Lib.hid (HZW.out.set u _ (addLo_lt (wd zs u) (addLo (mulLo (wd xs t) (wd ys k)) c 0) 0))
          have hZ0' : ∀ j, t + lb ≤ j → wd (zs.set u (addLo (wd zs u) (addLo (mulLo (wd xs t) (wd ys k)) c 0) 0)) j = 0 := fun j hj => by rw [wd_set_ne _ (by omega)]; exact HZ0.out j hj
          have HZ0' := Lib.hid hZ0'
          clear hm he hZ0'
          have hHH := Lib.hid hH
          have hq1 : (mulHi (wd xs t) (wd ys k) + addHi (mulLo (wd xs t) (wd ys k)) c 0 : Nat) < B64 := by omega
          have HM := Lib.hid (mul64_calls (wd xs t) (wd ys k) bx bY)
          have a1 := run_add64_c0 (mulLo (wd xs t) (wd ys k)) c
          have a2 := run_add64_c0 (wd zs u) (addLo (mulLo (wd xs t) (wd ys k)) c 0)
          go_wp2_with (first | (go_at_call 112; refine (HM.out _).mono ?_; rintro e w' ⟨rfl, rfl⟩) | ((with_reducible refine gate_store 59 ?_); refine st_word HBR.out HZ.out HGB.out u (addLo (wd zs u) (addLo (mulLo (wd xs t) (wd ys k)) c 0) 0) (by rw [HZL.out]; omega) (fun W2 hB2 _ _ hz2 => ?_); have HB2 := Lib.hid hB2; have HZ3 := Lib.hid hz2; clear hB2 hz2))
          go_roundw
          case rel => exact ⟨k + 1, mulHi (wd xs t) (wd ys k) + addHi (mulLo (wd xs t) (wd ys k)) c 0 + addHi (wd zs u) (addLo (mulLo (wd xs t) (wd ys k)) c 0) 0, _, by omega, by go_num, congrArg (fun n : Nat => Value.int .u64 (n : Int)) (mod2 hHH.out), hHH.out, HZ3.out, by rw [List.length_set]; exact HZL.out, HW.out, by rw [← hu]; rw [← hu] at HS; exact HS.out, HZ0'.out, HB2.out⟩
          case measure => simp [intOf]; omega
        · have hlk' : lb = k := by omega
          subst hlk'
          obtain ⟨u, hu⟩ : ∃ u, t + lb = u := ⟨_, rfl⟩
          have hu1 : (t : Int) + (lb : Int) = (u : Int) := by omega
          have hum : u < M := by omega
          have HS := Lib.hid (mac_end HV.out rfl HB.out.hlen (HZ0.out _ (Nat.le_refl _)) (by rw [HZL.out]; omega))
          have HW := Lib.hid (HZW.out.set u _ hc)
          have hZ0' : ∀ j, t + 1 + lb ≤ j → wd (zs.set u c) j = 0 := fun j hj => by rw [wd_set_ne _ (by omega)]; exact HZ0.out j (by omega)
          have HZ0' := Lib.hid hZ0'
          clear hZ0'
          go_wp2_with ((with_reducible refine gate_store 59 ?_); refine st_word HBR.out HZ.out HGB.out u c (by rw [HZL.out]; omega) (fun W2 hB2 _ _ hz2 => ?_); have HB2 := Lib.hid hB2; have HZ3 := Lib.hid hz2; clear hB2 hz2)
          go_roundw
          case rel => exact ⟨t + 1, zs.set u c, by omega, by go_num, HZ3.out, by rw [List.length_set]; exact HZL.out, HW.out, by rw [← hu]; exact HS.out, HZ0'.out, HB2.out⟩
          case measure => simp [intOf]; omega
    · have hte : la = t := by omega
      subst hte
      have HN : Hid (val zs = val xs * val ys) := by rw [valTo_all la (by rw [HA.out.hlen]; exact Nat.le_refl _)] at HV; exact HV
      go_wp2_with fail
      refine (size_calls wr _ M M zs (HZ.out.slAll HZW.out HZL.out (by omega))).mono ?_
      rintro e w' ⟨rfl, rfl⟩
      have hsz := sz_le zs
      have hs2 : sz zs ≤ M := by rw [← HZL.out]; exact hsz
      clear hsz
      go_wp2
      go_ret
      exact natRes_mk HZ.out HGB.out HZW.out HZL.out (by omega) HN.out (by omega) HBR.out
end Go.Proofs.Ythaplpenccpkpaa
