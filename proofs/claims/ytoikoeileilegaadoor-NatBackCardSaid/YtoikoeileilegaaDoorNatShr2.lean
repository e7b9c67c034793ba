/- The contract of nat.Shr. -/
import Derived.Test.YtoikoeileilegaaDoorNatShr
import Derived.Deep.DeepCutAuto
namespace Go.Proofs.YtoikoeileilegaaDoor
open Go.RowKit
set_option maxRecDepth 10000 in
set_option maxHeartbeats 4000000 in
theorem shr_calls (w : World) (a : Option Addr) (la ca : Nat) (xs : List Nat) (n : Int) (h0 : -9223372036854775808 ≤ n) (h1 : n ≤ 9223372036854775807) (ha : SlW w a la ca xs) (pa : Plain a) (sa : la ≤ 4398046511104) :
    Calls Tryd.prog 18 #[.slice a la ca, .int .i64 n] w (NatRes2 w (shrVal xs n) la (.bool (shrGone xs n))) := by
  unfold shrVal shrGone
  have z1 := ha.sz_le
  have m1 := ha.hle
  have m2 := ha.hmax
  have HS := Lib.hid (size_calls w a la ca xs ha)
  have HVX := Lib.hid (val_take_sz xs)
  have HK := Lib.hid (sz_take_sz xs)
  generalize sz xs = k at z1 HS HVX HK
  have HA := Lib.hid (ha.take z1)
  clear ha
  generalize xs.take k = ys at HVX HK HA
  rw [← HVX.out]
  clear HVX
  by_cases hneg : n < 1
  · rw [if_pos hneg, if_pos hneg]
    go_enter Tryd.func18, Tryd.ntmps18
    go_wp2_with fail
    refine HS.out.mono ?_
    rintro e w' ⟨rfl, rfl⟩
    go_wp2_with fail
    refine (trim_res HA.out pa (by omega)).mono ?_
    rintro e w1 hr
    have hr2 := hr.le (bd' := la) (by omega)
    obtain ⟨a', c', rs, rfl, r⟩ := hr2
    have R := Lib.hid r
    clear r hr
    go_wp2
    go_ret2
    exact ⟨a', c', rs, rfl, R.out⟩
  · rw [if_neg hneg, if_neg hneg]
    obtain ⟨m, rfl⟩ : ∃ m : Nat, n = m := ⟨n.toNat, by omega⟩
    rw [Int.toNat_natCast]
    obtain ⟨q, hq⟩ : ∃ q, m / 64 = q := ⟨_, rfl⟩
    obtain ⟨s, hs⟩ : ∃ s, m % 64 = s := ⟨_, rfl⟩
    have hqi : (m : Int) / 64 = (q : Nat) := by omega
    have hsi : (m : Int) % 64 = (s : Nat) := by omega
    have hs64 : s < 64 := by omega
    have HMQ := Lib.hid (show m = 64 * q + s by omega)
    clear hq hs
    by_cases hbig : k ≤ q
    · have hz := shr_zero (n := m) (q := q) HA.out.hw (by have := HA.out.sz_le; omega) (by have := HMQ.out; omega)
      rw [hz.1, hz.2, gone_all HK.out]
      clear hz
      go_enter Tryd.func18, Tryd.ntmps18
      go_wp2_with fail
      refine HS.out.mono ?_
      rintro e w' ⟨rfl, rfl⟩
      go_wp2
      go_ret2
      refine ⟨none, 0, [], ?_, ownW_nil _ _, rfl, rfl, Nat.zero_le _, Below.refl _ _⟩
      simp
    · have hqk : q < k := by omega
      obtain ⟨b, off, rfl, hc⟩ := HA.out.wcell q hqk
      obtain ⟨z, hz⟩ : ∃ z, sz (ys.take q) = z := ⟨_, rfl⟩
      have HZ : SzOf w (some ⟨b, off, none⟩) q ca z := ⟨_, HA.out.take (by omega), hz⟩
      obtain ⟨x, hx⟩ : ∃ x, wd ys q % 2 ^ s = x := ⟨_, rfl⟩
      obtain ⟨gb, hgb⟩ : ∃ g, goneB (val ys % 2 ^ m) = g := ⟨_, rfl⟩
      rw [hgb]
      have hg := gone_parts HA.out.hw (s := s) (by omega) HMQ.out hz hx (by rw [HA.out.hlen]; omega)
      rw [hgb] at hg
      have HG := Lib.hid hg
      have HCL := Lib.hid (fun m : Nat => clone_calls (w.drewN m) _ _ _ _ ((HA.out.drop (q := q) (by omega)).drewN m) (.inr ⟨_, _, rfl⟩) (by omega))
      have k3 := mask_and hs64 (wd_lt HA.out.hw q)
      rw [hx] at k3
      clear hz hx hg hgb
      go_enter Tryd.func18, Tryd.ntmps18
      go_wp2_with fail
      refine HS.out.mono ?_
      rintro e w' ⟨rfl, rfl⟩
      go_upto_region 8 with fail
      go_cut [8] (fun g8 wx => g8 = .bool gb ∧ ∃ nq, wx = w'.drewN nq)
      case first =>
        by_cases hx0 : x = 0
        · subst hx0
          by_cases hz0 : 0 < z
          · have HG2 := Lib.hid (show gb = true by rw [HG.out]; simp [hz0])
            go_quiet ((go_at_call 40; exact Calls.quiet_of_same (size_of (by assumption) _)))
            go_wp2
            go_meet
            exact ⟨by rw [HG2.out], _, rfl⟩
          · have HG2 := Lib.hid (show gb = false by rw [HG.out]; simp [hz0])
            go_quiet ((go_at_call 40; exact Calls.quiet_of_same (size_of (by assumption) _)))
            go_wp2
            go_meet
            exact ⟨by rw [HG2.out], _, rfl⟩
        · have hX0 : (((x : Nat) : Int) == 0) = false := by simp; exact hx0
          have hX1 : (((x : Nat) : Int) != 0) = true := by simp; exact hx0
          have HG2 := Lib.hid (show gb = true by rw [HG.out]; simp [hx0])
          clear hx0
          go_quiet ((go_at_call 40; exact Calls.quiet_of_same (size_of (by assumption) _)))
          go_wp2
          go_meet
          exact ⟨by rw [HG2.out], _, rfl⟩
      case rest =>
        obtain ⟨rfl, nq, rfl⟩ := hcut
        go_wp2_with fail
        rw [hsi]
        refine (HCL.out nq).mono ?_
        rintro e W ⟨a1, c1, rfl, t1, t2⟩
        have HBW := Lib.hid (below_then (below_drewN' (Below.refl _ _) nq) t2)
        have e1 := t1.hlen
        have w1 := t1.hw
        have mc := t1.sl.hle
        have md := t1.sl.hmax
        have HXW := Lib.hid HA.out.hw
        have HXL := Lib.hid HA.out.hlen
        have HQS := Lib.hid (shr_split (s := s) (q := q) HA.out.hw (by omega))
        rw [← HMQ.out] at HQS
        rcases t1.words with ⟨-, h9, -⟩ | ⟨g, rfl, hg1, hg2⟩
        · exfalso
          omega
        have HGB := Lib.hid hg1
        have HGG := Lib.hid hg2
        clear t1 t2 hg1 hg2
        by_cases hs0 : 0 < s
        · obtain ⟨L, hL⟩ : ∃ L, k - q = L := ⟨_, rfl⟩
          have hLi : (k : Int) - (q : Int) = (L : Nat) := by omega
          have HLL := Lib.hid (show k = q + L by omega)
          rw [hL] at mc e1 ⊢
          have i7 : (64 : Int) - (s : Int) = ((64 - s : Nat) : Int) := by omega
          have i8 : IntKind.i64.wrap ((64 - s : Nat) : Int) = ((64 - s : Nat) : Int) := wrapI (by omega) (by omega)
          have i9 : min (64 - s) 64 = 64 - s := by omega
          have i6 : min s 64 = s := by omega
          have HE1 := Lib.hid e1
          clear hL e1
          go_wp2_with fail
          go_loopw [54] (fun i wr => ∃ (t : Nat) (zs : List Nat), t ≤ L ∧ i = .int .i64 t ∧ WordsC wr g c1 zs ∧ zs.length = L ∧ W64 zs ∧ val (zs.take t) * 2 ^ s + wd ys q % 2 ^ s = valTo (ys.drop q) t + B64 ^ t * (wd ys (q + t) % 2 ^ s) ∧ (∀ j, t ≤ j → wd zs j = wd ys (q + j)) ∧ Below w'.heap.size w' wr) (fun i _ => L - (intOf i).toNat)
          case atStart => exact ⟨0, ys.drop q, by omega, rfl, HGG.out, HE1.out, w1, by simp [val, valTo], fun j _ => wd_drop ys q j, HBW.out⟩
          case round =>
            obtain ⟨t, zs, ht, rfl, hz, hzl, hzw, hv, he, hb⟩ := hrel
            have HZ := Lib.hid hz
            have HZL := Lib.hid hzl
            have HZW := Lib.hid hzw
            have HV := Lib.hid hv
            have HE := Lib.hid he
            have HBR := Lib.hid hb
            clear hz hzl hzw hv he hb
            by_cases hlt : t < L
            · obtain ⟨u, hu⟩ : ∃ u, q + t = u := ⟨_, rfl⟩
              obtain ⟨v, hv⟩ : ∃ v, u + 1 = v := ⟨_, rfl⟩
              have hu1 : (q : Int) + (t : Int) = (u : Nat) := by omega
              have hv1 : (u : Int) + 1 = (v : Nat) := by omega
              have hc1 := HZ.out.cell t (by rw [HZL.out]; exact hlt)
              rw [HE.out t (Nat.le_refl _), hu] at hc1
              have k4 := shr_cast s (wd ys u)
              have HS := Lib.hid (shr_step (s := s) (by omega) HV.out (by rw [List.length_take, HZL.out]; omega))
              rw [hu, hv] at HS
              have HSL := Lib.hid (shrW_lt (s := s) (y := wd ys v) (by omega) (wd_lt HXW.out u))
              have hS1 : srS s (wd ys u) < B64 := Nat.lt_of_le_of_lt (Nat.div_le_self _ _) (wd_lt HXW.out u)
              have HW1 := Lib.hid (HZW.out.set t _ hS1)
              have HU := Lib.hid (And.intro hu hv)
              have huk : u < k := by have := HLL.out; omega
              have i1 : IntKind.i64.wrap (u : Int) = (u : Nat) := wrapI (by omega) (by omega)
              have i2 : IntKind.i64.wrap (v : Int) = (v : Nat) := wrapI (by omega) (by omega)
              clear hS1
              have HREL : ∀ X, X = shrW s (wd ys u) (wd ys v) → Hid (val ((zs.set t X).take (t + 1)) * 2 ^ s + wd ys q % 2 ^ s = valTo (ys.drop q) (t + 1) + B64 ^ (t + 1) * (wd ys (q + (t + 1)) % 2 ^ s)) := fun X hX => by
                rw [take_set_succ (by rw [HZL.out]; exact hlt), hX, show q + (t + 1) = v by have := HU.out; omega]
                exact HS.out
              have HRE : ∀ X, ∀ j, t + 1 ≤ j → wd (zs.set t X) j = wd ys (q + j) := fun X j hj => by rw [wd_set_ne _ (by omega)]; exact HE.out j (by omega)
              have HRL := Lib.hid HREL
              have HRR := Lib.hid HRE
              clear HREL HRE hu hv
              by_cases hl2 : t + 1 < L
              · have hl3 : (t : Int) + 1 < (L : Nat) := by omega
                go_wp2_with ((with_reducible refine gate_store 46 ?_); refine st_wordC HBR.out HZ.out HGB.out t (srS s (wd ys u)) (by rw [HZL.out]; exact hlt) (fun W2 hB2 _ _ hz2 => ?_); have HB2 := Lib.hid hB2; have HZ2 := Lib.hid hz2; clear hB2 hz2)
                obtain ⟨b2, o2, e2, hx⟩ := HA.out.wcell v (by have := HU.out; have := HLL.out; omega)
                cases e2
                have hxr : W2.cell? ⟨b, off + v, none⟩ = some (.int .u64 ((wd ys v : Nat) : Int)) := by rw [HB2.out.cell (World.block_lt_of_cell? w' _ hx)]; exact hx
                have hz2 := HZ2.out.cell t (by rw [List.length_set, HZL.out]; exact hlt)
                have e3 : wd (zs.set t (srS s (wd ys u))) t = srS s (wd ys u) := by unfold wd; simp [List.getD_eq_getElem?_getD, HZL.out, hlt]
                rw [e3] at hz2
                have k5 := bits_shr (s := s) (y := wd ys v) (by omega) (wd_lt HXW.out u)
                have hvk : v < k := by have := HU.out; have := HLL.out; omega
                clear e3 hx
                go_still_tail 15, (by kernel_rfl)
                change wpList _ _ _ _ _ W2.drew
                have HZ3 : Hid (WordsC W2.drew g c1 _) := Lib.hid (HZ2.out.drewN 1)
                have HBR2 := Lib.hid HB2.out.drew
                clear HBR HZ hz2 hxr
                generalize W2.drew = wv at HZ3 HBR2 ⊢
                go_wp2_with ((with_reducible refine gate_store 46 ?_); refine st_wordC HBR2.out HZ3.out HGB.out t (shrW s (wd ys u) (wd ys v)) (by rw [List.length_set, HZL.out]; exact hlt) (fun W3 hB3 _ _ hz3 => ?_); have HB3 := Lib.hid hB3; have HZ4 := Lib.hid hz3; clear hB3 hz3)
                rw [List.set_set] at HZ4
                go_roundw
                case rel => exact ⟨t + 1, zs.set t (shrW s (wd ys u) (wd ys v)), by omega, by go_num, HZ4.out, by rw [List.length_set]; exact HZL.out, HZW.out.set t _ HSL.out, (HRL.out _ rfl).out, HRR.out _, HB3.out⟩
                case measure => simp [intOf]; omega
              · have hl3 : (L : Int) ≤ (t : Int) + 1 := by omega
                have HX0 : Hid (srS s (wd ys u) = shrW s (wd ys u) (wd ys v)) := Lib.hid (by rw [wd_beyond (xs := ys) (i := v) (by rw [HXL.out]; have := HU.out; have := HLL.out; omega)]; exact shrW_last)
                go_wp2_with ((with_reducible refine gate_store 46 ?_); refine st_wordC HBR.out HZ.out HGB.out t (srS s (wd ys u)) (by rw [HZL.out]; exact hlt) (fun W2 hB2 _ _ hz2 => ?_); have HB2 := Lib.hid hB2; have HZ2 := Lib.hid hz2; clear hB2 hz2)
                go_roundw
                case rel => exact ⟨t + 1, zs.set t (srS s (wd ys u)), by omega, by go_num, HZ2.out, by rw [List.length_set]; exact HZL.out, HW1.out, (HRL.out _ HX0.out).out, HRR.out _, HB2.out⟩
                case measure => simp [intOf]; omega
            · have hte : L = t := by omega
              subst hte
              have HN : Hid (val zs = val ys / 2 ^ m) := Lib.hid (by
                rw [HMQ.out]
                have h9 := HV.out
                rw [List.take_of_length_le (by rw [HZL.out]; exact Nat.le_refl _)] at h9
                exact shr_end HXW.out (by omega) h9 (by rw [HXL.out, HLL.out]; exact Nat.le_refl _))
              go_wp2_with fail
              refine (size_calls wr _ L c1 zs (HZ.out.slAll HZW.out HZL.out)).mono ?_
              rintro e w9 ⟨rfl, rfl⟩
              have hsz := sz_le zs
              have hs2 : sz zs ≤ L := by rw [← HZL.out]; exact hsz
              clear hsz
              go_wp2
              go_ret2
              exact (natRes_mkC (w := w') HZ.out HGB.out HZW.out HN.out (by rw [HZL.out]; have := HLL.out; omega) HBR.out).two
        · have hs1 : s = 0 := by omega
          have HN : Hid (val (ys.drop q) = val ys / 2 ^ m) := Lib.hid (by rw [HQS.out.2, hs1]; simp)
          clear hs1
          go_wp2_with fail
          refine (size_calls W _ (k - q) c1 (ys.drop q) (HGG.out.slAll w1 e1)).mono ?_
          rintro e w9 ⟨rfl, rfl⟩
          have hsz := sz_le (ys.drop q)
          have hs2 : sz (ys.drop q) ≤ k - q := by rw [← e1]; exact hsz
          have HE1 := Lib.hid e1
          clear hsz e1
          go_wp2
          go_ret2
          exact (natRes_mkC (w := w') HGG.out HGB.out w1 HN.out (by rw [HE1.out]; omega) HBW.out).two
end Go.Proofs.YtoikoeileilegaaDoor
