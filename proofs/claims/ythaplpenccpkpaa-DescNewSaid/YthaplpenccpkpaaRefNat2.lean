/- The contracts of the reference's Add and Less. -/
import Derived.Test.YthaplpenccpkpaaNatAdd
import Derived.Test.YthaplpenccpkpaaRefNat1
namespace Go.Proofs.Ythaplpenccpkpaa
open Go.RowKit
theorem natRes_trans {w w1 w2 : World} {n bd : Nat} {e : Ending} (hb : Below w.heap.size w w1) (h : NatRes w1 n bd e w2) : NatRes w n bd e w2 := by
  obtain ⟨a, c, zs, h1, h2, h3, h4, h5, h6⟩ := h
  exact ⟨a, c, zs, h1, h2.mono hb.size, h3, h4, h5, below_then hb h6⟩
theorem no_carry {z a b c P B : Nat} (hv : z + P * B * c = a + b) (ha : a < P) (hb : b < P) (hB : 2 ≤ B) : c = 0 := by
  rcases Nat.eq_zero_or_pos c with rfl | hc
  · rfl
  · have h1 : P * 2 ≤ P * B := Nat.mul_le_mul_left _ hB
    have h2 : P * B * 1 ≤ P * B * c := Nat.mul_le_mul_left _ hc
    omega
theorem no_borrow {z a b c P : Nat} (hv : z + b = a + P * c) (hz : z < P) (hle : b ≤ a) : c = 0 := by
  rcases Nat.eq_zero_or_pos c with rfl | hc
  · rfl
  · have h2 : P * 1 ≤ P * c := Nat.mul_le_mul_left _ hc
    omega
theorem val_lt' {xs : List Nat} (h : W64 xs) {M : Nat} (hl : xs.length ≤ M) : val xs < B64 ^ M :=
  Nat.lt_of_lt_of_le (val_lt h) (Nat.pow_le_pow_right (by decide) hl)
theorem add_end {xs ys zs : List Nat} {M c : Nat} (hv : valTo zs (M + 1) + B64 ^ (M + 1) * c = valTo xs (M + 1) + valTo ys (M + 1)) (hx : W64 xs) (hy : W64 ys) (hl : xs.length ≤ M) (hk : ys.length ≤ M) (hz : zs.length = M + 1) : val zs = val xs + val ys := by
  rw [valTo_all (M + 1) (by omega), valTo_all (M + 1) (by omega), valTo_all (M + 1) (by omega), Nat.pow_succ] at hv
  have e := no_carry hv (val_lt' hx hl) (val_lt' hy hk) (by decide)
  rw [e, Nat.mul_zero, Nat.add_zero] at hv
  exact hv
theorem sub_step {zs xs ys : List Nat} {t c x y : Nat} (hv : valTo zs t + valTo ys t = valTo xs t + B64 ^ t * c) (hx : valTo xs (t + 1) = valTo xs t + B64 ^ t * x) (hy : valTo ys (t + 1) = valTo ys t + B64 ^ t * y) (hl : t < zs.length) (bx : x < B64) (bY : y < B64) (hc : c ≤ 1) :
    valTo (zs.set t (subLo x y c)) (t + 1) + valTo ys (t + 1) = valTo xs (t + 1) + B64 ^ (t + 1) * subHi x y c := by
  rw [valTo_set_succ hl, hx, hy, Nat.pow_succ, Nat.mul_assoc]
  have e := congrArg (B64 ^ t * ·) (sub_eq bx bY hc)
  simp only [Nat.mul_add] at e
  omega
theorem sub_end {xs ys zs : List Nat} {M c : Nat} (hv : valTo zs M + valTo ys M = valTo xs M + B64 ^ M * c) (hw : W64 zs) (hle : val ys ≤ val xs) (hl : xs.length ≤ M) (hk : ys.length ≤ M) (hz : zs.length = M) : val zs = val xs - val ys := by
  rw [valTo_all M (by omega), valTo_all M (by omega), valTo_all M (by omega)] at hv
  have e := no_borrow hv (val_lt' hw (by omega)) hle
  rw [e, Nat.mul_zero, Nat.add_zero] at hv
  omega
set_option maxRecDepth 10000 in
set_option maxHeartbeats 1000000 in
theorem refLess_calls (w : World) (a b : Option Addr) (la ca lb cb : Nat) (xs ys : List Nat) (ha : SlW w a la ca xs) (hb : SlW w b lb cb ys) (sa : la ≤ 8796093022208) (sb : lb ≤ 8796093022208) (hle : val ys ≤ val xs) :
    Calls Try.prog 38 #[.slice a la ca, .slice b lb cb] w (NatRes w (val xs - val ys) (max la lb)) := by
  have m1 := ha.hle
  have m2 := ha.hmax
  have m3 := hb.hle
  have m4 := hb.hmax
  have HX := Lib.hid ha.hw
  have HY := Lib.hid hb.hw
  have HLE := Lib.hid hle
  clear hle
  have HLA := Lib.hid ha.hlen
  have HLB := Lib.hid hb.hlen
  obtain ⟨M, hM⟩ : ∃ M, max la lb = M := ⟨_, rfl⟩
  have HMM : Hid (la ≤ M ∧ lb ≤ M) := ⟨by omega, by omega⟩
  have hM1 : max (la : Int) (lb : Int) = (M : Int) := by omega
  have hM2 : M ≤ 8796093022208 := by omega
  rw [hM]
  clear hM
  go_enter Try.func38, Try.ntmps38
  go_wp2_with ((with_reducible refine gate_make 69 ?_); refine mk_words (Below.refl w.heap.size w) (M) (by omega) (fun W g hgB _ hBW _ hgw => ?_); have HBW := Lib.hid hBW; have HGW := Lib.hid hgw; have HGB := Lib.hid hgB; clear hBW hgw hgB)
  go_loopw [16, 6] (fun i cr wr => ∃ (t c : Nat) (zs : List Nat), t ≤ M ∧ i = .int .i64 t ∧ cr = .int .u64 (c : Nat) ∧ c ≤ 1 ∧ WordsAt wr g zs ∧ zs.length = M ∧ W64 zs ∧ valTo zs t + valTo ys t = valTo xs t + B64 ^ t * c ∧ Below w.heap.size w wr) (fun i _ _ => M - (intOf i).toNat)
  case atStart => exact ⟨0, 0, List.replicate (M) 0, by omega, rfl, rfl, by omega, HGW.out, by simp, W64.zeros _, by simp [valTo], HBW.out⟩
  case round =>
    obtain ⟨t, c, zs, ht, rfl, rfl, hc, hz, hzl, hzw, hv, hbw⟩ := hrel
    have HZ := Lib.hid hz
    have HZL := Lib.hid hzl
    have HZW := Lib.hid hzw
    have HV := Lib.hid hv
    have HBR := Lib.hid hbw
    clear hz hzl hzw hv hbw HBW HGW
    by_cases hlt : t < M
    · have haw := ha.below HBR.out
      have hbw := hb.below HBR.out
      have hq := subHi_le (wd xs t) (wd ys t) c
      have HS := Lib.hid (sub_step (zs := zs) HV.out (valTo_wd xs t) (valTo_wd ys t) (by rw [HZL.out]; omega) (wd_lt HX.out t) (wd_lt HY.out t) hc)
      have HW := Lib.hid (HZW.out.set t _ (subLo_lt (wd xs t) (wd ys t) c))
      have hadd := run_sub64 (wd xs t) (wd ys t) c hc
      go_wp2_with (first | (go_at_call 64; refine (word_of (by assumption) _).mono ?_; rintro e w' ⟨rfl, rfl⟩) | ((with_reducible refine gate_store 59 ?_); refine st_word HBR.out HZ.out HGB.out t (subLo (wd xs t) (wd ys t) c) (by rw [HZL.out]; omega) (fun W2 hB2 _ _ hz2 => ?_); have HB2 := Lib.hid hB2; have HZ2 := Lib.hid hz2; clear hB2 hz2))
      go_roundw
      case rel => exact ⟨t + 1, subHi (wd xs t) (wd ys t) c, zs.set t (subLo (wd xs t) (wd ys t) c), by omega, by go_num, rfl, hq, HZ2.out, by rw [List.length_set]; exact HZL.out, HW.out, HS.out, HB2.out⟩
      case measure => simp [intOf]; omega
    · have hte : M = t := by omega
      subst hte
      have HN : Hid (val zs = val xs - val ys) := sub_end HV.out HZW.out HLE.out (by rw [HLA.out]; exact HMM.out.1) (by rw [HLB.out]; exact HMM.out.2) HZL.out
      go_wp2_with fail
      refine (refTrim_calls wr _ (M) (M) zs (HZ.out.slAll HZW.out HZL.out (by omega)) (.inr ⟨_, _, rfl⟩) (by omega)).mono ?_
      rintro e w2 hr
      have hr2 := natRes_trans HBR.out hr
      rw [HN.out] at hr2
      obtain ⟨a', c', rs, rfl, r1, r2, r3, r4, r5⟩ := hr2
      have R := Lib.hid (And.intro r1 (And.intro r2 (And.intro r3 (And.intro r4 r5))))
      clear r1 r2 r3 r4 r5 hr
      go_wp2
      go_ret
      exact ⟨a', c', rs, rfl, R.out.1, R.out.2.1, R.out.2.2.1, R.out.2.2.2.1, R.out.2.2.2.2⟩
end Go.Proofs.Ythaplpenccpkpaa
