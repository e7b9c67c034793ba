/- The contracts of the reference's Pow and Power, and of nat.Power. -/
import Derived.Test.YthaplpenccpkpaaNatPow
namespace Go.Proofs.Ythaplpenccpkpaa
open Go.RowKit
theorem pow_round {o s k T : Nat} (h : o * s ^ k = T) (hk : k % 2 = 1) : o * s * (s * s) ^ (k / 2) = T := by
  rw [← h, Nat.mul_assoc, Nat.mul_pow, ← Nat.pow_add, ← Nat.pow_succ']
  congr 2
  omega
theorem pow_round0 {o s k T : Nat} (h : o * s ^ k = T) (hk : k % 2 = 0) : o * (s * s) ^ (k / 2) = T := by
  rw [← h, Nat.mul_pow, ← Nat.pow_add]
  congr 2
  omega
theorem pow_bounds {o s k T : Nat} (h : o * s ^ k = T) (hT : 0 < T) : o ≤ T ∧ (0 < k → s ≤ T) := by
  have ho : 0 < o := by
    rcases Nat.eq_zero_or_pos o with e | e
    · rw [e, Nat.zero_mul] at h; omega
    · exact e
  have hs : 0 < s ^ k := by
    rcases Nat.eq_zero_or_pos (s ^ k) with e | e
    · rw [e, Nat.mul_zero] at h; omega
    · exact e
  refine ⟨?_, fun hk => ?_⟩
  · rw [← h]; exact Nat.le_mul_of_pos_right _ hs
  · rw [← h]
    have h1 : s ^ 1 ≤ s ^ k := by
      rcases Nat.eq_zero_or_pos s with e | e
      · rw [e]; simp
      · exact Nat.pow_le_pow_right e hk
    rw [Nat.pow_one] at h1
    exact Nat.le_trans h1 (Nat.le_mul_of_pos_left _ ho)
theorem one_own {B g n : Nat} (w : World) (hn : n < B64) (hg : w.heap.size = g) (hB : B ≤ g) : OwnW B (w.alloc (.cells #[.int .u64 (n : Nat)] 59)) (some ⟨g, 0, none⟩) 1 1 [n] := by
  subst hg
  exact (one_word w n).own (k := 1) hB (w64_one hn) (by simp) (Nat.le_refl _)
set_option maxRecDepth 10000 in
set_option maxHeartbeats 2000000 in
theorem refPow_calls (b : Nat) (hb : b < B64) (hb0 : 0 < b) (n : Nat) (hn : n ≤ 1000000) (w : World) :
    Calls Try.prog 61 #[.int .u64 (b : Nat), .int .i64 (n : Nat)] w (NatRes w (b ^ n) (n + 1)) := by
  have hT := pow_lt_words hb n
  have hT0 : 0 < b ^ n := Nat.pow_pos hb0
  have HBB := Lib.hid hb
  obtain ⟨T, hTe⟩ : ∃ T, b ^ n = T := ⟨_, rfl⟩
  rw [hTe] at hT hT0 ⊢
  have HI : Hid (1 * b ^ n = T) := Lib.hid (by rw [Nat.one_mul]; exact hTe)
  have HT := Lib.hid hT
  have HT0 := Lib.hid hT0
  clear hT hTe hT0 hb
  go_enter Try.func61, Try.ntmps61
  go_wp2_with fail
  go_loopw [1, 5, 6] (fun i o s wr => ∃ (k : Nat) (oa sa : Option Addr) (oc sc : Nat) (zs ys : List Nat), k ≤ n ∧ i = .int .i64 (k : Nat) ∧ o = .slice oa zs.length oc ∧ s = .slice sa ys.length sc ∧ OwnW w.heap.size wr oa zs.length oc zs ∧ sz zs = zs.length ∧ OwnW w.heap.size wr sa ys.length sc ys ∧ (0 < k → ys.length ≤ n + 1) ∧ val zs * val ys ^ k = T ∧ Below w.heap.size w wr) (fun i _ _ _ => (intOf i).toNat)
  case atStart =>
    exact ⟨n, some ⟨w.heap.size, 0, none⟩, some ⟨w.heap.size + 1, 0, none⟩, 1, 1, [1], [b], Nat.le_refl _, rfl, rfl, rfl, (one_own w (by decide) rfl (Nat.le_refl _)).keep ((Below.refl _ _).alloc (Nat.le_refl _) _), rfl, one_own _ HBB.out (by simp) (by omega), fun _ => by simp, by rw [val_one, val_one]; exact HI.out, ((Below.refl _ _).alloc (Nat.le_refl _) _).alloc (by simp) _⟩
  case round =>
    obtain ⟨k, oa, sa, oc, sc, zs, ys, hk, rfl, rfl, rfl, ho, hz, hs, hy, hv, hbw⟩ := hrel
    have HO := Lib.hid ho
    have HZ := Lib.hid hz
    have HS := Lib.hid hs
    have HV := Lib.hid hv
    have HB := Lib.hid hbw
    have hpb := pow_bounds hv HT0.out
    have hzl : zs.length ≤ n + 1 := len_of_val hz (Nat.lt_of_le_of_lt hpb.1 HT.out)
    clear ho hz hs hv hbw hpb
    by_cases hk0 : 0 < k
    · have hyl := hy hk0
      obtain ⟨q, hq⟩ : ∃ q, k / 2 = q := ⟨_, rfl⟩
      obtain ⟨r, hr⟩ : ∃ r, k % 2 = r := ⟨_, rfl⟩
      have hqi : (k : Int) / 2 = (q : Nat) := by omega
      have hri : (k : Int) % 2 = (r : Nat) := by omega
      have hqk : q < k := by omega
      have HQ := Lib.hid hq
      clear hy
      rcases (show r = 0 ∨ r = 1 by omega) with rfl | rfl
      · have HR := Lib.hid hr
        have hq0 : 0 < q := by omega
        have HI2 := Lib.hid (pow_round0 HV.out HR.out)
        rw [hq] at HI2
        clear hr hq
        go_wp2_with fail
        refine (refTimes_calls wr sa sa _ sc _ sc ys ys HS.out.sl HS.out.sl (by omega) (by omega)).mono ?_
        rintro e w3 ⟨a3, c3, us, rfl, p1, p2, p3, p4, p5⟩
        have R3 := Lib.hid (And.intro (p1.mono HB.out.size) (And.intro p2 p3))
        have HB3 := Lib.hid (below_then HB.out p5)
        have HO3 := Lib.hid (HO.out.keep p5)
        have HI3 := Lib.hid HI2.out
        rw [← p2] at HI3
        have hul : us.length ≤ n + 1 := len_of_val p3 (Nat.lt_of_le_of_lt ((pow_bounds HI3.out HT0.out).2 hq0) HT.out)
        clear p1 p2 p3 p4 p5
        go_wp2
        go_roundw
        case rel => exact ⟨q, oa, a3, oc, c3, zs, us, by omega, rfl, rfl, rfl, HO3.out, HZ.out, R3.out.1, fun _ => hul, HI3.out, HB3.out⟩
        case measure => simp [intOf]; exact hqk
      · have HR := Lib.hid hr
        clear hr
        go_wp2_with fail
        refine (refTimes_calls wr oa sa _ oc _ sc zs ys HO.out.sl HS.out.sl (by omega) (by omega)).mono ?_
        rintro e w2 ⟨a2, c2, xs, rfl, p1, p2, p3, p4, p5⟩
        have R2 := Lib.hid (And.intro (p1.mono HB.out.size) (And.intro p2 p3))
        have HB2 := Lib.hid (below_then HB.out p5)
        have HS2 := Lib.hid (HS.out.keep p5)
        have HI2 := Lib.hid (pow_round HV.out HR.out)
        rw [← p2, hq] at HI2
        have hxl : xs.length ≤ n + 1 := len_of_val p3 (Nat.lt_of_le_of_lt (pow_bounds HI2.out HT0.out).1 HT.out)
        clear p1 p2 p3 p4 p5
        by_cases hq0 : 0 < q
        · clear hq
          go_wp2_with fail
          refine (refTimes_calls w2 sa sa _ sc _ sc ys ys HS2.out.sl HS2.out.sl (by omega) (by omega)).mono ?_
          rintro e w3 ⟨a3, c3, us, rfl, p1, p2, p3, p4, p5⟩
          have R3 := Lib.hid (And.intro (p1.mono HB2.out.size) (And.intro p2 p3))
          have HB3 := Lib.hid (below_then HB2.out p5)
          have HO3 := Lib.hid (R2.out.1.keep p5)
          have HI3 := Lib.hid HI2.out
          rw [← p2] at HI3
          have hul : us.length ≤ n + 1 := len_of_val p3 (Nat.lt_of_le_of_lt ((pow_bounds HI3.out HT0.out).2 hq0) HT.out)
          clear p1 p2 p3 p4 p5
          go_wp2
          go_roundw
          case rel => exact ⟨q, a2, a3, c2, c3, xs, us, by omega, rfl, rfl, rfl, HO3.out, R2.out.2.2, R3.out.1, fun _ => hul, HI3.out, HB3.out⟩
          case measure => simp [intOf]; exact hqk
        · have hq1 : q = 0 := by omega
          subst hq1
          have HI3 : Hid (val xs * val ys ^ 0 = T) := Lib.hid (by have := HI2.out; rw [Nat.pow_zero] at this ⊢; exact this)
          clear hq
          go_wp2
          go_roundw
          case rel => exact ⟨0, a2, sa, c2, sc, xs, ys, by omega, rfl, rfl, rfl, R2.out.1, R2.out.2.2, HS2.out, fun h => absurd h (by omega), HI3.out, HB2.out⟩
          case measure => simp [intOf]; exact hqk
    · have hk1 : k = 0 := by omega
      subst hk1
      have HN : Hid (val zs = T) := Lib.hid (by have := HV.out; rw [Nat.pow_zero, Nat.mul_one] at this; exact this)
      go_wp2
      go_ret
      exact ⟨oa, oc, zs, rfl, HO.out, HN.out, HZ.out, hzl, HB.out⟩
end Go.Proofs.Ythaplpenccpkpaa
