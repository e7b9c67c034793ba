/- NatShifts: the contract of nat.Shl at every count; the walk over the law. · The contracts of nat.power, nat.Power and of the reference's Pow, Power. · The contracts of the reference's Pow and Power, and of nat.Power. · caliperref05.Unpack. No conditions. -/
import Derived.Test.YtpodpdopgdkdkaaGreatDoorMw16
import Derived.Test.YtpodpdopgdkdkaaGreatDoorMw12
import Derived.Test.YtpodpdopgdkdkaaGreatDoorMw19
import Derived.Deep.RegionHeld3
set_option linter.unusedVariables false
set_option linter.unusedSimpArgs false
namespace Go.Proofs.YtpodpdopgdkdkaaGreatDoor
open Go.RowKit
set_option maxRecDepth 10000 in
set_option maxHeartbeats 2000000 in
theorem shl_calls (w : World) (a : Option Addr) (la ca : Nat) (xs : List Nat) (n : Int) (h0 : -9223372036854775808 ≤ n) (h1 : n ≤ 9223372036854775807) (ha : SlW w a la ca xs) (sa : la ≤ 4398046511104) :
    Calls Tryz.prog 55 #[.slice a la ca, .int .i64 n] w (NatRes2 w (shlVal xs n) (la + 2001) (.int .i64 (shlErr (sz xs) n))) := by
  have z1 := ha.sz_le
  have HA := Lib.hid ha
  have HS := Lib.hid (size_calls w a la ca xs ha)
  have m1 := ha.hle
  have m2 := ha.hmax
  unfold shlVal shlErr
  by_cases hneg : n < 0
  · rw [if_pos hneg, if_pos hneg]
    generalize sz xs = k at z1 HS ⊢
    clear ha
    go_enter Tryz.func55, Tryz.ntmps55
    go_wp2_with fail
    refine HS.out.mono ?_
    rintro e w' ⟨rfl, rfl⟩
    go_wp2
    go_ret2
    exact (natRes_nil (la + 2001) (Below.refl _ _)).two
  · rw [if_neg hneg, if_neg hneg]
    obtain ⟨m, rfl⟩ : ∃ m : Nat, n = m := ⟨n.toNat, by omega⟩
    rw [Int.toNat_natCast]
    by_cases hlt : 2000 < sz xs + (m + 63) / 64
    · rw [if_pos hlt, if_pos hlt]
      generalize sz xs = k at z1 HS hlt ⊢
      clear ha hneg h0
      obtain ⟨q, hq⟩ : ∃ q, m / 64 = q := ⟨_, rfl⟩
      have hqi : (m : Int) / 64 = (q : Nat) := by omega
      by_cases hbig : 2000 < q
      · have hbig' : (2000 : Int) < (q : Nat) := by omega
        clear hq
        go_enter Tryz.func55, Tryz.ntmps55
        go_wp2_with fail
        refine HS.out.mono ?_
        rintro e w' ⟨rfl, rfl⟩
        go_wp2
        go_ret2
        exact (natRes_nil (la + 2001) (Below.refl _ _)).two
      · have hbig' : (q : Int) ≤ 2000 := by omega
        obtain ⟨r, hr⟩ : ∃ r, (m + 63) / 64 = r := ⟨_, rfl⟩
        have hm2 : m ≤ 130000 := by omega
        have hri : ((m : Int) + 63) / 64 = (r : Nat) := by omega
        obtain ⟨K, hK⟩ : ∃ K, k + r = K := ⟨_, rfl⟩
        have hK1 : (k : Int) + (r : Int) = (K : Nat) := by omega
        rw [hr, hK] at hlt
        have hlt' : (2000 : Int) < (K : Nat) := by omega
        clear hq hr hK
        go_enter Tryz.func55, Tryz.ntmps55
        go_wp2_with fail
        refine HS.out.mono ?_
        rintro e w' ⟨rfl, rfl⟩
        go_wp2
        go_ret2
        exact (natRes_nil (la + 2001) (Below.refl _ _)).two
    · rw [if_neg hlt, if_neg hlt]
      refine (shl_ok w a la ca xs m ha (by omega)).mono ?_
      rintro e w' ⟨a', c', rs, rfl, r1, r2, r3, r4, r5⟩
      exact ⟨a', c', rs, rfl, r1, r2, r3, by omega, r5⟩
theorem wf_i64 {n : Int} (h : (Lit.int .i64 n).wf = true) : -9223372036854775808 ≤ n ∧ n ≤ 9223372036854775807 := by
  have e1 : IntKind.i64.min = -9223372036854775808 := rfl
  have e2 : IntKind.i64.max = 9223372036854775807 := rfl
  simp [Lit.wf, e1, e2] at h
  omega
end Go.Proofs.YtpodpdopgdkdkaaGreatDoor
namespace Go.Proofs.YtpodpdopgdkdkaaGreatDoor
open Go.RowKit
theorem NatRes.small {w w' : World} {n bd m : Nat} {e : Ending} (h : NatRes w n bd e w') (hm : n < B64 ^ m) : NatRes w n m e w' := by
  obtain ⟨a', c', zs, rfl, r1, r2, r3, r4, r5⟩ := h
  exact ⟨a', c', zs, rfl, r1, r2, r3, len_of_val r3 (by rw [r2]; exact hm), r5⟩
theorem pow_lt_words {b : Nat} (hb : b < B64) (n : Nat) : b ^ n < B64 ^ (n + 1) := by
  have h1 : b ^ n ≤ B64 ^ n := Nat.pow_le_pow_left (by omega) n
  have h2 : B64 ^ n < B64 ^ (n + 1) := Nat.pow_lt_pow_right (by decide) (by omega)
  omega
theorem pow_half (b n : Nat) : b ^ (n / 2) * b ^ (n / 2) = b ^ (n - n % 2) := by
  rw [← Nat.pow_add]
  congr 1
  omega
theorem pow_odd {b n : Nat} (h : n % 2 = 1) : b ^ (n / 2) * b ^ (n / 2) * b = b ^ n := by
  rw [pow_half, h, ← Nat.pow_succ]
  congr 1
  omega
theorem pow_even {b n : Nat} (h : n % 2 = 0) : b ^ (n / 2) * b ^ (n / 2) = b ^ n := by
  rw [pow_half, h]
  rfl
set_option maxRecDepth 10000 in
set_option maxHeartbeats 2000000 in
theorem power_calls (b : Nat) (hb : b < B64) (k : Nat) : ∀ (n : Nat) (w : World), n ≤ k → n ≤ 1000000 →
    Calls Tryz.prog 97 #[.int .u64 (b : Nat), .int .i64 (n : Nat)] w (NatRes w (b ^ n) (n + 1)) := by
  induction k with
  | zero =>
    intro n w hk _
    have hn : n = 0 := by omega
    subst hn
    have H1 := Lib.hid (natOf_calls w 1 (by decide))
    clear hb hk
    go_enter Tryz.func97, Tryz.ntmps97
    go_wp2_with fail
    refine H1.out.mono ?_
    rintro e w1 ⟨a', c', rs, rfl, r⟩
    have R := Lib.hid r
    clear r
    go_wp2
    go_ret
    exact ⟨a', c', rs, rfl, R.out⟩
  | succ k ih =>
    intro n w hk hn
    by_cases h0 : n = 0
    · subst h0
      exact ih 0 w (by omega) (by omega)
    · have hpl := Lib.hid (pow_lt_words hb n)
      have hpl2 := Lib.hid (pow_lt_words hb (n / 2))
      have HB := Lib.hid hb
      have IH := Lib.hid (ih (n / 2) w (by omega) (by omega))
      have HO := Lib.hid (fun h => pow_odd (b := b) (n := n) h)
      have HE := Lib.hid (fun h => pow_even (b := b) (n := n) h)
      clear ih hb
      obtain ⟨q, hq⟩ : ∃ q, n / 2 = q := ⟨_, rfl⟩
      have hqi : (n : Int) / 2 = (q : Nat) := by omega
      have hq0 : ((n : Int) == 0) = false := by simp; exact h0
      rw [hq] at IH HO HE hpl2
      have hqb : q ≤ 500000 := by omega
      clear hq
      obtain ⟨r, hr⟩ : ∃ r, n % 2 = r := ⟨_, rfl⟩
      have hri : (n : Int) % 2 = (r : Nat) := by omega
      rw [hr] at HO HE
      have hr1 : r = 0 ∨ r = 1 := by omega
      clear hr h0
      go_enter Tryz.func97, Tryz.ntmps97
      go_wp2_with fail
      refine IH.out.mono ?_
      rintro e w1 ⟨a1, c1, xs, rfl, r1, r2, r3, r4, r5⟩
      have R1 := Lib.hid (And.intro r1 (And.intro r2 (And.intro r3 r5)))
      clear r1 r2 r3 r5
      go_wp2_with fail
      refine (product_calls w1 a1 a1 _ c1 _ c1 xs xs R1.out.1.sl R1.out.1.sl (by omega) (by omega)).mono ?_
      rintro e w2 hp
      rw [R1.out.2.1] at hp
      obtain ⟨a2, c2, ys, rfl, p1, p2, p3, p4, p5⟩ := hp
      have R2 := Lib.hid (And.intro p1 (And.intro p2 (And.intro p3 (And.intro p4 p5))))
      have HB2 := Lib.hid (below_then R1.out.2.2.2 p5)
      clear p1 p2 p3 p5
      rcases hr1 with rfl | rfl
      · go_wp2
        go_ret
        have hv := R2.out.2.1
        rw [HE.out (by first | rfl | trivial)] at hv
        exact ⟨a2, c2, ys, rfl, R2.out.1.mono R1.out.2.2.2.size, hv, R2.out.2.2.1, len_of_val R2.out.2.2.1 (by rw [hv]; exact hpl.out), HB2.out⟩
      · go_wp2_with fail
        refine (product_calls _ a2 _ _ c2 1 1 ys [b] (R2.out.1.keep ((Below.refl _ _).alloc (Nat.le_refl _) _)).sl ((one_word w2 b).slAll (w64_one HB.out) rfl (by omega)) (by omega) (by omega)).mono ?_
        rintro e w3 hp
        rw [R2.out.2.1, val_one, HO.out (by first | rfl | trivial)] at hp
        have hp2 := natRes_trans (HB2.out.alloc HB2.out.size _) (hp.small hpl.out)
        obtain ⟨a3, c3, zs, rfl, p1, p2, p3, p4, p5⟩ := hp2
        have R3 := Lib.hid (And.intro p1 (And.intro p2 (And.intro p3 (And.intro p4 p5))))
        clear p1 p2 p3 p4 p5 hp
        go_wp2
        go_ret
        exact ⟨a3, c3, zs, rfl, R3.out⟩
end Go.Proofs.YtpodpdopgdkdkaaGreatDoor
namespace Go.Proofs.YtpodpdopgdkdkaaGreatDoor
open Go.RowKit
theorem pow_round {o s k T : Nat} (h : o * s ^ k = T) (hk : k % 2 = 1) : o * s * (s * s) ^ (k / 2) = T := by
  rw [← h, Nat.mul_assoc, Nat.mul_pow, ← Nat.pow_add, ← Nat.pow_succ']
  congr 2
  omega
theorem pow_round0 {o s k T : Nat} (h : o * s ^ k = T) (hk : k % 2 = 0) : o * (s * s) ^ (k / 2) = T := by
  rw [← h, Nat.mul_pow, ← Nat.pow_add]
  congr 2
  omega
theorem pow_bounds {o s k T : Nat} (h : o * s ^ k = T) (hT : 0 < T) : o ≤ T ∧ (0 < k → s ≤ T) := by
  have ho : 0 < o := by
    rcases Nat.eq_zero_or_pos o with e | e
    · rw [e, Nat.zero_mul] at h; omega
    · exact e
  have hs : 0 < s ^ k := by
    rcases Nat.eq_zero_or_pos (s ^ k) with e | e
    · rw [e, Nat.mul_zero] at h; omega
    · exact e
  refine ⟨?_, fun hk => ?_⟩
  · rw [← h]; exact Nat.le_mul_of_pos_right _ hs
  · rw [← h]
    have h1 : s ^ 1 ≤ s ^ k := by
      rcases Nat.eq_zero_or_pos s with e | e
      · rw [e]; simp
      · exact Nat.pow_le_pow_right e hk
    rw [Nat.pow_one] at h1
    exact Nat.le_trans h1 (Nat.le_mul_of_pos_left _ ho)
theorem one_own {B g n : Nat} (w : World) (hn : n < B64) (hg : w.heap.size = g) (hB : B ≤ g) : OwnW B (w.alloc (.cells #[.int .u64 (n : Nat)] 22)) (some ⟨g, 0, none⟩) 1 1 [n] := by
  subst hg
  exact (one_word w n).own (k := 1) hB (w64_one hn) (by simp) (Nat.le_refl _)
set_option maxRecDepth 10000 in
set_option maxHeartbeats 2000000 in
theorem refPow_calls (b : Nat) (hb : b < B64) (hb0 : 0 < b) (n : Nat) (hn : n ≤ 1000000) (w : World) :
    Calls Tryz.prog 58 #[.int .u64 (b : Nat), .int .i64 (n : Nat)] w (NatRes w (b ^ n) (n + 1)) := by
  have hT := pow_lt_words hb n
  have hT0 : 0 < b ^ n := Nat.pow_pos hb0
  have HBB := Lib.hid hb
  obtain ⟨T, hTe⟩ : ∃ T, b ^ n = T := ⟨_, rfl⟩
  rw [hTe] at hT hT0 ⊢
  have HI : Hid (1 * b ^ n = T) := Lib.hid (by rw [Nat.one_mul]; exact hTe)
  have HT := Lib.hid hT
  have HT0 := Lib.hid hT0
  clear hT hTe hT0 hb
  go_enter Tryz.func58, Tryz.ntmps58
  go_wp2_with fail
  go_loopw [1, 5, 6] (fun i o s wr => ∃ (k : Nat) (oa sa : Option Addr) (oc sc : Nat) (zs ys : List Nat), k ≤ n ∧ i = .int .i64 (k : Nat) ∧ o = .slice oa zs.length oc ∧ s = .slice sa ys.length sc ∧ OwnW w.heap.size wr oa zs.length oc zs ∧ sz zs = zs.length ∧ OwnW w.heap.size wr sa ys.length sc ys ∧ (0 < k → ys.length ≤ n + 1) ∧ val zs * val ys ^ k = T ∧ Below w.heap.size w wr) (fun i _ _ _ => (intOf i).toNat)
  case atStart =>
    exact ⟨n, some ⟨w.heap.size, 0, none⟩, some ⟨w.heap.size + 1, 0, none⟩, 1, 1, [1], [b], Nat.le_refl _, rfl, rfl, rfl, (one_own w (by decide) rfl (Nat.le_refl _)).keep ((Below.refl _ _).alloc (Nat.le_refl _) _), rfl, one_own _ HBB.out (by simp) (by omega), fun _ => by simp, by rw [val_one, val_one]; exact HI.out, ((Below.refl _ _).alloc (Nat.le_refl _) _).alloc (by simp) _⟩
  case round =>
    obtain ⟨k, oa, sa, oc, sc, zs, ys, hk, rfl, rfl, rfl, ho, hz, hs, hy, hv, hbw⟩ := hrel
    have HO := Lib.hid ho
    have HZ := Lib.hid hz
    have HS := Lib.hid hs
    have HV := Lib.hid hv
    have HB := Lib.hid hbw
    have hpb := pow_bounds hv HT0.out
    have hzl : zs.length ≤ n + 1 := len_of_val hz (Nat.lt_of_le_of_lt hpb.1 HT.out)
    clear ho hz hs hv hbw hpb
    by_cases hk0 : 0 < k
    · have hyl := hy hk0
      obtain ⟨q, hq⟩ : ∃ q, k / 2 = q := ⟨_, rfl⟩
      obtain ⟨r, hr⟩ : ∃ r, k % 2 = r := ⟨_, rfl⟩
      have hqi : (k : Int) / 2 = (q : Nat) := by omega
      have hri : (k : Int) % 2 = (r : Nat) := by omega
      have hqk : q < k := by omega
      have HQ := Lib.hid hq
      clear hy
      rcases (show r = 0 ∨ r = 1 by omega) with rfl | rfl
      · have HR := Lib.hid hr
        have hq0 : 0 < q := by omega
        have HI2 := Lib.hid (pow_round0 HV.out HR.out)
        rw [hq] at HI2
        clear hr hq
        go_wp2_with fail
        refine (refTimes_calls wr sa sa _ sc _ sc ys ys HS.out.sl HS.out.sl (by omega) (by omega)).mono ?_
        rintro e w3 ⟨a3, c3, us, rfl, p1, p2, p3, p4, p5⟩
        have R3 := Lib.hid (And.intro (p1.mono HB.out.size) (And.intro p2 p3))
        have HB3 := Lib.hid (below_then HB.out p5)
        have HO3 := Lib.hid (HO.out.keep p5)
        have HI3 := Lib.hid HI2.out
        rw [← p2] at HI3
        have hul : us.length ≤ n + 1 := len_of_val p3 (Nat.lt_of_le_of_lt ((pow_bounds HI3.out HT0.out).2 hq0) HT.out)
        clear p1 p2 p3 p4 p5
        go_wp2
        go_roundw
        case rel => exact ⟨q, oa, a3, oc, c3, zs, us, by omega, rfl, rfl, rfl, HO3.out, HZ.out, R3.out.1, fun _ => hul, HI3.out, HB3.out⟩
        case measure => simp [intOf]; exact hqk
      · have HR := Lib.hid hr
        clear hr
        go_wp2_with fail
        refine (refTimes_calls wr oa sa _ oc _ sc zs ys HO.out.sl HS.out.sl (by omega) (by omega)).mono ?_
        rintro e w2 ⟨a2, c2, xs, rfl, p1, p2, p3, p4, p5⟩
        have R2 := Lib.hid (And.intro (p1.mono HB.out.size) (And.intro p2 p3))
        have HB2 := Lib.hid (below_then HB.out p5)
        have HS2 := Lib.hid (HS.out.keep p5)
        have HI2 := Lib.hid (pow_round HV.out HR.out)
        rw [← p2, hq] at HI2
        have hxl : xs.length ≤ n + 1 := len_of_val p3 (Nat.lt_of_le_of_lt (pow_bounds HI2.out HT0.out).1 HT.out)
        clear p1 p2 p3 p4 p5
        by_cases hq0 : 0 < q
        · clear hq
          go_wp2_with fail
          refine (refTimes_calls w2 sa sa _ sc _ sc ys ys HS2.out.sl HS2.out.sl (by omega) (by omega)).mono ?_
          rintro e w3 ⟨a3, c3, us, rfl, p1, p2, p3, p4, p5⟩
          have R3 := Lib.hid (And.intro (p1.mono HB2.out.size) (And.intro p2 p3))
          have HB3 := Lib.hid (below_then HB2.out p5)
          have HO3 := Lib.hid (R2.out.1.keep p5)
          have HI3 := Lib.hid HI2.out
          rw [← p2] at HI3
          have hul : us.length ≤ n + 1 := len_of_val p3 (Nat.lt_of_le_of_lt ((pow_bounds HI3.out HT0.out).2 hq0) HT.out)
          clear p1 p2 p3 p4 p5
          go_wp2
          go_roundw
          case rel => exact ⟨q, a2, a3, c2, c3, xs, us, by omega, rfl, rfl, rfl, HO3.out, R2.out.2.2, R3.out.1, fun _ => hul, HI3.out, HB3.out⟩
          case measure => simp [intOf]; exact hqk
        · have hq1 : q = 0 := by omega
          subst hq1
          have HI3 : Hid (val xs * val ys ^ 0 = T) := Lib.hid (by have := HI2.out; rw [Nat.pow_zero] at this ⊢; exact this)
          clear hq
          go_wp2
          go_roundw
          case rel => exact ⟨0, a2, sa, c2, sc, xs, ys, by omega, rfl, rfl, rfl, R2.out.1, R2.out.2.2, HS2.out, fun h => absurd h (by omega), HI3.out, HB2.out⟩
          case measure => simp [intOf]; exact hqk
    · have hk1 : k = 0 := by omega
      subst hk1
      have HN : Hid (val zs = T) := Lib.hid (by have := HV.out; rw [Nat.pow_zero, Nat.mul_one] at this; exact this)
      go_wp2
      go_ret
      exact ⟨oa, oc, zs, rfl, HO.out, HN.out, HZ.out, hzl, HB.out⟩
end Go.Proofs.YtpodpdopgdkdkaaGreatDoor
namespace Go.Proofs.YtpodpdopgdkdkaaGreatDoor
set_option linter.unusedVariables false
set_option linter.unusedSimpArgs false
open Go.RowKit
set_option maxRecDepth 100000 in
set_option maxHeartbeats 4000000 in
theorem runpack_fin (n c L m y : Int) (P X : Nat) (hL : -20000 ≤ L ∧ L ≤ 0) (hP : 2 ≤ P) (hP2 : P ≤ 241) (hX1 : 1 ≤ X) (hX : X ≤ 15) (s : ByteArray) (d : Bool) (b0 b1 b2 b3 : Nat) (hb : W64 [b0, b1, b2, b3]) (w : World)
    (hgood : ∀ w, Calls Tryz.prog 83 #[.int .i64 n, bitsV b0 b1 b2 b3] w fun e w' => e = .returned (.bool true) ∧ Below w.heap.size w w')
    (hof : ∀ w, Calls Tryz.prog 84 #[.int .i64 n] w fun e w' => e = .returned (.tuple #[.agg (infV c s 2 ((P + X : Nat) : Int) (P : Nat) (X : Nat) L m y d), .int .i64 0]) ∧ Below w.heap.size w w') :
    Calls Tryz.prog 32 #[.int .i64 n, bitsV b0 b1 b2 b3] w (UnpRes (val [b0, b1, b2, b3]) P X L w) := by
  obtain ⟨V, hV⟩ : ∃ V, val [b0, b1, b2, b3] = V := ⟨_, rfl⟩
  have HRF := Lib.hid (fun W at0 n h1 h2 => rfield_calls W b0 b1 b2 b3 hb at0 n h1 h2)
  rw [hV] at HRF ⊢
  clear hV
  unfold bitsV infV at *
  have HG := Lib.hid hgood
  have HO := Lib.hid hof
  have HBW := Lib.hid hb
  have HL := Lib.hid hL
  have HPX := Lib.hid (And.intro (And.intro hP hP2) (And.intro hX1 hX))
  clear hL hof hb hP hP2 hX1 hX hgood
  obtain ⟨p, hp⟩ : ∃ p, P - 1 = p := ⟨_, rfl⟩
  obtain ⟨q, hq⟩ : ∃ q, P + X - 1 = q := ⟨_, rfl⟩
  obtain ⟨W8, hW8⟩ : ∃ W8, P + X = W8 := ⟨_, rfl⟩
  have e1 : IntKind.i64.wrap ((P : Int) - 1) = (p : Nat) := by have := HPX.out; rw [IntWalk.i64_in _ (by omega)]; omega
  have HF1 : Hid (∀ W, Calls Tryz.prog 85 #[.agg #[.int .u64 (b0 : Nat), .int .u64 (b1 : Nat), .int .u64 (b2 : Nat), .int .u64 (b3 : Nat)], .int .i64 0, .int .i64 (p : Nat)] W (NatRes W (V / 2 ^ 0 % 2 ^ p) 4)) := Lib.hid (fun W => (HRF.out W 0 p (by omega) (by have := HPX.out; omega)).mono (fun e w' h => h.fits (Nat.lt_of_lt_of_le (Nat.mod_lt _ (Nat.two_pow_pos p)) (by rw [show B64 ^ 4 = 2 ^ 256 from rfl]; exact Nat.pow_le_pow_right (by decide) (by have := HPX.out; omega)))))
  have HF2 := Lib.hid (fun W => HRF.out W p X (by have := HPX.out; omega) (by have := HPX.out; omega))
  rw [hW8] at HO
  have e3 : IntKind.i64.wrap ((p : Int) + (X : Int)) = (q : Nat) := by have := HPX.out; rw [IntWalk.i64_in _ (by omega)]; omega
  have HF3 : Hid (∀ W, Calls Tryz.prog 85 #[.agg #[.int .u64 (b0 : Nat), .int .u64 (b1 : Nat), .int .u64 (b2 : Nat), .int .u64 (b3 : Nat)], .int .i64 (q : Nat), .int .i64 1] W (NatRes W (V / 2 ^ q % 2 ^ 1) 8)) := Lib.hid (fun W => HRF.out W q 1 (by have := HPX.out; omega) (by omega))
  have HP := Lib.hid hp
  have HQ := Lib.hid (And.intro hq hW8)
  clear hp hq hW8
  go_enter Tryz.func32, Tryz.ntmps32
  go_wp2_with fail
  have HB0 := Lib.hid (below_alloc (below_alloc (Below.refl w.heap.size w) (.cells #[.int .u64 (b0 : Nat), .int .u64 (b1 : Nat), .int .u64 (b2 : Nat), .int .u64 (b3 : Nat)] 24)) (.cells #[.int .i64 0, .bool false, .bool false, .int .i64 0, .int .u64 0, .int .u64 0, .int .u64 0, .int .u64 0] 31))
  have HP0 : Hid ((w.alloc (.cells #[.int .u64 (b0 : Nat), .int .u64 (b1 : Nat), .int .u64 (b2 : Nat), .int .u64 (b3 : Nat)] 24)).heap[w.heap.size]? = _) := Lib.hid (heap_new w (.cells #[.int .u64 (b0 : Nat), .int .u64 (b1 : Nat), .int .u64 (b2 : Nat), .int .u64 (b3 : Nat)] 24))
  have HS0 : (w.alloc (.cells #[.int .u64 (b0 : Nat), .int .u64 (b1 : Nat), .int .u64 (b2 : Nat), .int .u64 (b3 : Nat)] 24)).heap.size = w.heap.size + 1 := by simp
  generalize (w.alloc (.cells #[.int .u64 (b0 : Nat), .int .u64 (b1 : Nat), .int .u64 (b2 : Nat), .int .u64 (b3 : Nat)] 24)) = v0 at HB0 HP0 HS0 ⊢
  have HR0 := heap_new v0 (.cells #[.int .i64 0, .bool false, .bool false, .int .i64 0, .int .u64 0, .int .u64 0, .int .u64 0, .int .u64 0] 31)
  have HP1 := Lib.hid ((heap_keep v0 (.cells #[.int .i64 0, .bool false, .bool false, .int .i64 0, .int .u64 0, .int .u64 0, .int .u64 0, .int .u64 0] 31) (lt_of_heap HP0.out)).trans HP0.out)
  rw [HS0] at HR0
  generalize (v0.alloc (.cells #[.int .i64 0, .bool false, .bool false, .int .i64 0, .int .u64 0, .int .u64 0, .int .u64 0, .int .u64 0] 31)) = v1 at HB0 HR0 HP1 ⊢
  refine (HG.out _).mono ?_
  rintro e w1 ⟨rfl, hb1⟩
  have HB1 := Lib.hid (below_then HB0.out hb1)
  have HP2 := Lib.hid (below_heap hb1 HP1.out)
  have HR2 := Lib.hid (below_heap hb1 HR0)
  clear hb1 HB0 HP1 HR0 HP0 HS0
  go_wp2_with fail
  refine (HO.out _).mono ?_
  rintro e w2 ⟨rfl, hb2⟩
  have HB2 := Lib.hid (below_then HB1.out hb2)
  have HP3 := Lib.hid (below_heap hb2 HP2.out)
  have HR3 := Lib.hid (below_heap hb2 HR2.out)
  clear hb2 HB1 HP2 HR2 HO HG
  go_wp2_with (first | ((with_reducible refine gate_store 122 ?_); refine st_box 122 122 HB2.out Tryz.sizeRefInfo (fun W4 hBW hkW hXW => ?_) (hn := rfl) (h1 := by simp [Value.oneCell']); have HP4 := Lib.hid (below_heap hkW HP3.out); have HR4 := Lib.hid (below_heap hkW HR3.out); have HI4 := Lib.hid hXW; have HB4 := Lib.hid hBW; have gI : w.heap.size + 1 < w2.heap.size := lt_of_heap HR3.out; obtain ⟨gi, hgi⟩ : ∃ g, w2.heap.size = g := ⟨_, rfl⟩; rw [hgi] at HI4 gI ⊢; clear hBW hkW hXW HP3 HR3 HB2; have x0 : W4.cell? ⟨w.heap.size, 0, none⟩ = some (.int .u64 (b0 : Nat)) := cell_of_heap HP4.out 0; have x1 : W4.cell? ⟨w.heap.size, 1, none⟩ = some (.int .u64 (b1 : Nat)) := cell_of_heap HP4.out 1; have x2 : W4.cell? ⟨w.heap.size, 2, none⟩ = some (.int .u64 (b2 : Nat)) := cell_of_heap HP4.out 2; have x3 : W4.cell? ⟨w.heap.size, 3, none⟩ = some (.int .u64 (b3 : Nat)) := cell_of_heap HP4.out 3; have z4 : W4.cell? ⟨gi, 4, none⟩ = some (.int .i64 (P : Nat)) := cell_of_heap HI4.out 4; have z5 : W4.cell? ⟨gi, 5, none⟩ = some (.int .i64 (X : Nat)) := cell_of_heap HI4.out 5) | fail)
  have x0' : W4.drew.cell? ⟨w.heap.size, 0, none⟩ = some (.int .u64 (b0 : Nat)) := x0
  have hd4 : Below W4.drew.heap.size W4 W4.drew := ⟨rfl, rfl, rfl, Nat.le_refl _, fun _ _ => rfl⟩
  replace HP4 : Hid (W4.drew.heap[w.heap.size]? = _) := HP4
  replace HR4 : Hid (W4.drew.heap[w.heap.size + 1]? = _) := HR4
  replace HI4 : Hid (W4.drew.heap[gi]? = _) := HI4
  replace HB4 : Hid (Below w.heap.size w W4.drew) := Lib.hid HB4.out.drew
  go_region_held3 (fun w' => w'.cell? ⟨w.heap.size, 0, none⟩ = some (.int .u64 (b0 : Nat)) ∧ w'.cell? ⟨w.heap.size, 1, none⟩ = some (.int .u64 (b1 : Nat)) ∧ w'.cell? ⟨w.heap.size, 2, none⟩ = some (.int .u64 (b2 : Nat)) ∧ w'.cell? ⟨w.heap.size, 3, none⟩ = some (.int .u64 (b3 : Nat)) ∧ w'.cell? ⟨gi, 5, none⟩ = some (.int .i64 (X : Nat)))
    (first | exact ⟨x0, x1, x2, x3, z5⟩)
    (first
    | (go_at_call 85; (with_reducible refine (HF1.out _).mono ?_); go_must (rintro e w5 ⟨fa, fc, fs, rfl, fo, fv, fz, fl, hb⟩); have HFO := Lib.hid fo; have HFV := Lib.hid (And.intro fv (And.intro fz fl)); (try have HEO := Lib.hid (HEO.out.keep hb)); have HP4 := Lib.hid (below_heap hb HP4.out); have HR4 := Lib.hid (below_heap hb HR4.out); have HI4 := Lib.hid (below_heap hb HI4.out); have HB4 := Lib.hid (below_then HB4.out hb); clear fo fv fz fl hb; have x0 : w5.cell? ⟨w.heap.size, 0, none⟩ = some (.int .u64 (b0 : Nat)) := cell_of_heap HP4.out 0; have x1 : w5.cell? ⟨w.heap.size, 1, none⟩ = some (.int .u64 (b1 : Nat)) := cell_of_heap HP4.out 1; have x2 : w5.cell? ⟨w.heap.size, 2, none⟩ = some (.int .u64 (b2 : Nat)) := cell_of_heap HP4.out 2; have x3 : w5.cell? ⟨w.heap.size, 3, none⟩ = some (.int .u64 (b3 : Nat)) := cell_of_heap HP4.out 3; have z5 : w5.cell? ⟨gi, 5, none⟩ = some (.int .i64 (X : Nat)) := cell_of_heap HI4.out 5)
    | (go_at_call 85; (with_reducible refine (HF2.out _).mono ?_); go_must (rintro e w5 ⟨ea, ec, es, rfl, eo, ev, ez, el, hb⟩); have HEO := Lib.hid eo; have HEV := Lib.hid (And.intro ev (And.intro ez el)); (try have HFO := Lib.hid (HFO.out.keep hb)); have HP4 := Lib.hid (below_heap hb HP4.out); have HR4 := Lib.hid (below_heap hb HR4.out); have HI4 := Lib.hid (below_heap hb HI4.out); have HB4 := Lib.hid (below_then HB4.out hb); clear eo ev ez el hb; have x0 : w5.cell? ⟨w.heap.size, 0, none⟩ = some (.int .u64 (b0 : Nat)) := cell_of_heap HP4.out 0; have x1 : w5.cell? ⟨w.heap.size, 1, none⟩ = some (.int .u64 (b1 : Nat)) := cell_of_heap HP4.out 1; have x2 : w5.cell? ⟨w.heap.size, 2, none⟩ = some (.int .u64 (b2 : Nat)) := cell_of_heap HP4.out 2; have x3 : w5.cell? ⟨w.heap.size, 3, none⟩ = some (.int .u64 (b3 : Nat)) := cell_of_heap HP4.out 3; have z5 : w5.cell? ⟨gi, 5, none⟩ = some (.int .i64 (X : Nat)) := cell_of_heap HI4.out 5)
    | (go_at_call 86; go_must (refine (rnum_calls _ ea _ ec es HEO.out.sl (by rw [HEV.out.1]; exact Nat.lt_of_lt_of_le (Nat.mod_lt _ (Nat.two_pow_pos X)) (Nat.le_trans (Nat.pow_le_pow_right (by decide) HPX.out.2.2) (by decide))) (by have := HEV.out.2.2; omega)).mono ?_); go_must (rintro e w7 ⟨rfl, rfl⟩)))
  all_goals
    go_wp2_with fail
    refine (HF3.out _).mono ?_
    rintro e w6 ⟨ga, gc, gs, rfl, go, gv, gz, gl, hb⟩
    have HGO := Lib.hid go
    have HGV := Lib.hid (And.intro gv (And.intro gz gl))
    have HP6 := Lib.hid (below_heap hb HP4.out)
    have HR6 := Lib.hid (below_heap hb HR4.out)
    have HI6 := Lib.hid (below_heap hb HI4.out)
    have HB6 := Lib.hid (below_then HB4.out hb)
    have HFO6 := Lib.hid (HFO.out.keep hb)
    clear go gv gz gl hb x0 x1 x2 x3 z5
    go_wp2_with fail
    refine (rnum_calls _ ga _ gc gs HGO.out.sl (by rw [HGV.out.1]; exact Nat.lt_of_lt_of_le (Nat.mod_lt _ (Nat.two_pow_pos 1)) (by decide)) (by have := HGV.out.2.2; omega)).mono ?_
    rintro e w7 ⟨rfl, rfl⟩
    go_wp2_with (first | ((with_reducible refine gate_store 31 ?_); refine st_box 31 31 HB6.out (n := 8) (by kernel_rfl) (fun W8w hBW hkW hXW => ?_) (hn := rfl) (h1 := by simp [Value.oneCell']); have HP8 := Lib.hid (below_heap hkW HP6.out); have HR8 := Lib.hid (below_heap hkW HR6.out); have HI8 := Lib.hid (below_heap hkW HI6.out); have HD8 := Lib.hid hXW; have HB8 := Lib.hid hBW; have HFO8 := Lib.hid (HFO6.out.keep hkW); have gD : gi < w6.heap.size := lt_of_heap HI6.out; obtain ⟨gd, hgd⟩ : ∃ g, w6.heap.size = g := ⟨_, rfl⟩; rw [hgd] at HD8 gD ⊢; clear hBW hkW hXW HP6 HR6 HI6 HB6 HFO6; refine Hid.out ?_) | fail)
    obtain ⟨sg, hsg⟩ : ∃ sg : Bool, ((val gs : Int) == 1) = sg := ⟨_, rfl⟩
    rw [hsg] at HD8 ⊢
    have HSG := Lib.hid hsg
    obtain ⟨E, hE⟩ : ∃ E, val es = E := ⟨_, rfl⟩
    have HE := Lib.hid hE
    rw [hE] at HEV ⊢
    clear hsg hE e1 e3
    refine Lib.hid ?_
    have z5 : W8w.cell? ⟨gi, 5, none⟩ = some (.int .i64 (X : Nat)) := cell_of_heap HI8.out 5
    have z6 : W8w.cell? ⟨gi, 6, none⟩ = some (.int .i64 L) := cell_of_heap HI8.out 6
    have d0 : W8w.cell? ⟨gd, 0, none⟩ = some (.int .i64 1) := cell_of_heap HD8.out 0
    have fd0 := free_of_heap HD8.out 0
    have d1 : W8w.cell? ⟨gd, 1, none⟩ = some (.bool sg) := cell_of_heap HD8.out 1
    have fd1 := free_of_heap HD8.out 1
    have d2 : W8w.cell? ⟨gd, 2, none⟩ = some (.bool false) := cell_of_heap HD8.out 2
    have fd2 := free_of_heap HD8.out 2
    have d3 : W8w.cell? ⟨gd, 3, none⟩ = some (.int .i64 0) := cell_of_heap HD8.out 3
    have fd3 := free_of_heap HD8.out 3
    have d4 : W8w.cell? ⟨gd, 4, none⟩ = some (.int .u64 0) := cell_of_heap HD8.out 4
    have fd4 := free_of_heap HD8.out 4
    have d5 : W8w.cell? ⟨gd, 5, none⟩ = some (.int .u64 0) := cell_of_heap HD8.out 5
    have fd5 := free_of_heap HD8.out 5
    have d6 : W8w.cell? ⟨gd, 6, none⟩ = some (.int .u64 0) := cell_of_heap HD8.out 6
    have fd6 := free_of_heap HD8.out 6
    have d7 : W8w.cell? ⟨gd, 7, none⟩ = some (.int .u64 0) := cell_of_heap HD8.out 7
    have fd7 := free_of_heap HD8.out 7
    have n2 : gi ≠ gd := by omega
    have n3 : gd ≠ w.heap.size + 1 := by omega
    have hX0 : (0 : Int) ≤ (X : Nat) := by omega
    have hX64 : ((X : Nat) : Int) ≤ 64 := by have := HPX.out; omega
    have hXu : IntKind.u64.wrap ((X : Nat) : Int) = ((X : Nat) : Int) := wrapS (by have := HPX.out; unfold B64; omega)
    obtain ⟨T, hT⟩ : ∃ T, 2 ^ X = T := ⟨_, rfl⟩
    have hT2 : T ≤ 2 ^ 15 := by rw [← hT]; exact Nat.pow_le_pow_right (by decide) HPX.out.2.2
    have hT3 : 2 ≤ T := by rw [← hT]; exact Nat.pow_le_pow_right (n := 2) (i := 1) (by decide) HPX.out.2.1
    have hw1 : IntKind.i64.wrap ((2 : Int) ^ X) = (T : Nat) := by
      have : ((2 : Int) ^ X) = ((2 ^ X : Nat) : Int) := by push_cast; rfl
      rw [this, hT]; exact IntWalk.i64_in _ (by omega)
    obtain ⟨M, hM⟩ : ∃ M, T - 1 = M := ⟨_, rfl⟩
    have hw2 : IntKind.i64.wrap ((T : Int) - 1) = (M : Nat) := by rw [IntWalk.i64_in _ (by omega)]; omega
    have hET : E < T := by rw [HEV.out.1, ← hT]; exact Nat.mod_lt _ (Nat.two_pow_pos X)
    have HT := Lib.hid (And.intro (And.intro hT hT2) (And.intro (And.intro hT3 hET) hM))
    have hLw : IntKind.i64.wrap L = L := IntWalk.i64_in _ (by have := HL.out; omega)
    clear hT hT2 hT3
    by_cases hlt : E < M
    · have hne : ((E : Int) == (M : Int)) = false := by simp; omega
      have hne2 : ¬ (E : Int) = (M : Int) := by omega
      rcases Nat.eq_zero_or_pos E with he | hpos
      · subst he
        clear hM hlt hET
        go_wp2_with fail
        go_region_with (first
          | (go_at_call 87; go_must (refine (rbits_calls _ fa _ fc fs HFO8.out.sl.drew (by have := HFV.out.2.2; omega)).mono ?_); go_must (rintro e w9 ⟨c0, c1, c2, c3, hw, hv, rfl, hb⟩); go_must (unfold bitsV); have hbv := (⟨hb.os, hb.tape, hb.output, hb.size, hb.block⟩ : Below W8w.heap.size W8w w9); have HC9 := Lib.hid (And.intro hw hv); have HD9 := Lib.hid (below_heap hbv HD8.out); have HR9 := Lib.hid (below_heap hbv HR8.out); have HB9 := Lib.hid (below_then HB8.out hbv); have z6 : w9.cell? ⟨gi, 6, none⟩ = some (.int .i64 L) := cell_of_heap (below_heap hbv HI8.out) 6; clear hw hv hb hbv; have d0 : w9.cell? ⟨gd, 0, none⟩ = some (.int .i64 1) := cell_of_heap HD9.out 0; have fd0 := free_of_heap HD9.out 0; have d1 : w9.cell? ⟨gd, 1, none⟩ = some (.bool sg) := cell_of_heap HD9.out 1; have fd1 := free_of_heap HD9.out 1; have d2 : w9.cell? ⟨gd, 2, none⟩ = some (.bool false) := cell_of_heap HD9.out 2; have fd2 := free_of_heap HD9.out 2; have d3 : w9.cell? ⟨gd, 3, none⟩ = some (.int .i64 0) := cell_of_heap HD9.out 3; have fd3 := free_of_heap HD9.out 3; have d4 : w9.cell? ⟨gd, 4, none⟩ = some (.int .u64 0) := cell_of_heap HD9.out 4; have fd4 := free_of_heap HD9.out 4; have d5 : w9.cell? ⟨gd, 5, none⟩ = some (.int .u64 0) := cell_of_heap HD9.out 5; have fd5 := free_of_heap HD9.out 5; have d6 : w9.cell? ⟨gd, 6, none⟩ = some (.int .u64 0) := cell_of_heap HD9.out 6; have fd6 := free_of_heap HD9.out 6; have d7 : w9.cell? ⟨gd, 7, none⟩ = some (.int .u64 0) := cell_of_heap HD9.out 7; have fd7 := free_of_heap HD9.out 7))
        all_goals
          have hD10 : (((((w9.setCell ⟨gd, 4, none⟩ (.int .u64 (c0 : Nat))).setCell ⟨gd, 5, none⟩ (.int .u64 (c1 : Nat))).setCell ⟨gd, 6, none⟩ (.int .u64 (c2 : Nat))).setCell ⟨gd, 7, none⟩ (.int .u64 (c3 : Nat))).setCell ⟨gd, 3, none⟩ (.int .i64 (L))).heap[gd]? = some (.cells #[.int .i64 1, .bool sg, .bool false, .int .i64 (L), .int .u64 (c0 : Nat), .int .u64 (c1 : Nat), .int .u64 (c2 : Nat), .int .u64 (c3 : Nat)] 31 (0, 0)) := heap_set (heap_set (heap_set (heap_set (heap_set HD9.out 4 _) 5 _) 6 _) 7 _) 3 _
          have hR10 : (((((w9.setCell ⟨gd, 4, none⟩ (.int .u64 (c0 : Nat))).setCell ⟨gd, 5, none⟩ (.int .u64 (c1 : Nat))).setCell ⟨gd, 6, none⟩ (.int .u64 (c2 : Nat))).setCell ⟨gd, 7, none⟩ (.int .u64 (c3 : Nat))).setCell ⟨gd, 3, none⟩ (.int .i64 (L))).heap[w.heap.size + 1]? = _ := (heap_set_other n3.symm _ _).trans ((heap_set_other n3.symm _ _).trans ((heap_set_other n3.symm _ _).trans ((heap_set_other n3.symm _ _).trans ((heap_set_other n3.symm _ _).trans HR9.out))))
          have hB10 : Below w.heap.size w (((((w9.setCell ⟨gd, 4, none⟩ (.int .u64 (c0 : Nat))).setCell ⟨gd, 5, none⟩ (.int .u64 (c1 : Nat))).setCell ⟨gd, 6, none⟩ (.int .u64 (c2 : Nat))).setCell ⟨gd, 7, none⟩ (.int .u64 (c3 : Nat))).setCell ⟨gd, 3, none⟩ (.int .i64 (L))) := by
            have hgd : w.heap.size ≤ gd := by omega
            exact ((((HB9.out.setCell hgd _).setCell hgd _).setCell hgd _).setCell hgd _).setCell hgd _
          generalize (((((w9.setCell ⟨gd, 4, none⟩ (.int .u64 (c0 : Nat))).setCell ⟨gd, 5, none⟩ (.int .u64 (c1 : Nat))).setCell ⟨gd, 6, none⟩ (.int .u64 (c2 : Nat))).setCell ⟨gd, 7, none⟩ (.int .u64 (c3 : Nat))).setCell ⟨gd, 3, none⟩ (.int .i64 (L))) = W10 at hD10 hR10 hB10 ⊢
          have HD10 := Lib.hid hD10
          have HR10 := Lib.hid hR10
          have HB10 := Lib.hid hB10
          clear hD10 hR10 hB10 d0 d1 d2 d3 d4 d5 d6 d7 fd0 fd1 fd2 fd3 fd4 fd5 fd6 fd7 z6
          go_wp2_with (first | ((with_reducible refine gate_load 31 ?_); go_must (refine ld_row 31 gd 31 HD10.out Tryz.underlying31 (n := 8) (by kernel_rfl) ?_ (hn := rfl))) | ((with_reducible refine gate_store 31 ?_); go_must (refine st_row 31 (w.heap.size + 1) 31 HR10.out (n := 8) (by kernel_rfl) ?_ (hn := rfl) (h1 := by simp [Value.oneCell']))) | fail)
          have hsg : (((V / 2 ^ q % 2 : Nat) : Int) == 1) = sg := by rw [← HSG.out, HGV.out.1]
          refine bodyPost_ret (results_ct rfl _ _ (w.heap.size + 1) 31 _ _ _ rfl (setRow_heap _ _ _ _ _ _ HR10.out) Tryz.underlying31 rfl (by kernel_rfl)) rfl ⟨below_setRow HB10.out (by omega) _, fun _ => ⟨c0, c1, c2, c3, HC9.out.1, ?_, ?_⟩, fun h => (h ?_).elim⟩
          · rw [HP.out, ← HEV.out.1, if_pos rfl, HC9.out.2, HFV.out.1]; simp
          · rw [HP.out, HQ.out.1, ← HEV.out.1, hsg, show max (((0 : Nat) : Int) - 1) 0 = 0 from rfl, Int.add_zero]; rfl
          · rw [HP.out, ← HEV.out.1, HT.out.1.1]; have := HT.out.2.1.1; omega
      · have hne0 : ((E : Int) == 0) = false := by simp; omega
        have hne3 : ¬ (E : Int) = 0 := by omega
        have HEP := Lib.hid (And.intro hpos hlt)
        have hl1 : IntKind.i64.wrap (L - 1) = L - 1 := IntWalk.i64_in _ (by have := HL.out; omega)
        have hl2 : IntKind.i64.wrap (L - 1 + (E : Nat)) = L - 1 + (E : Nat) := IntWalk.i64_in _ (by have := HL.out; have := HT.out.1.2; omega)
        have HPW : Hid (∀ W, Calls Tryz.prog 58 #[.int .u64 2, .int .i64 (p : Nat)] W (NatRes W (2 ^ p) 4)) := Lib.hid (fun W => (refPow_calls 2 (by decide) (by decide) p (by have := HPX.out; have := HP.out; omega) W).mono (fun e w' h => h.fits (by rw [show B64 ^ 4 = 2 ^ 256 from rfl]; exact Nat.pow_lt_pow_right (by decide) (by have := HPX.out; have := HP.out; omega))))
        clear hM hlt hET hpos
        go_wp2_with fail
        go_region_with (first
          | (go_at_call 58; (with_reducible refine (HPW.out _).mono ?_); go_must (rintro e w9 ⟨pa, pc, ps, rfl, po, pv, pz, pl, hb⟩); have hbv := (⟨hb.os, hb.tape, hb.output, hb.size, hb.block⟩ : Below W8w.heap.size W8w w9); have HPO := Lib.hid po; have HPV := Lib.hid (And.intro pv pl); have HFO9 := Lib.hid (HFO8.out.keep hbv); have HD9 := Lib.hid (below_heap hbv HD8.out); have HR9 := Lib.hid (below_heap hbv HR8.out); have HB9 := Lib.hid (below_then HB8.out hbv); have HI9 := Lib.hid (below_heap hbv HI8.out); have z6 : w9.cell? ⟨gi, 6, none⟩ = some (.int .i64 L) := cell_of_heap HI9.out 6; clear po pv pz pl hb hbv)
          | (go_at_call 88; go_must (refine ((refAdd_calls _ fa pa _ fc _ pc fs ps HFO9.out.sl HPO.out.sl (by have := HFV.out.2.2; omega) (by have := HPV.out.2; omega)).mono (fun e w' h => h.fits (m := 4) (by rw [HFV.out.1, HPV.out.1, show B64 ^ 4 = 2 ^ 256 from rfl, Nat.pow_zero, Nat.div_one]; (have h1 := Nat.mod_lt V (Nat.two_pow_pos p); have h2 : (2 : Nat) ^ (p + 1) < 2 ^ 256 := Nat.pow_lt_pow_right (by decide) (by have := HPX.out; have := HP.out; omega); rw [Nat.pow_succ] at h2; omega)))).mono ?_); go_must (rintro e w9 ⟨sa, sc, ss, rfl, so, sv, sz1, sl, hb⟩); have HSO := Lib.hid so; have HSV := Lib.hid (And.intro sv sl); have HD9 := Lib.hid (below_heap hb HD9.out); have HR9 := Lib.hid (below_heap hb HR9.out); have HB9 := Lib.hid (below_then HB9.out hb); have HI9 := Lib.hid (below_heap hb HI9.out); have z6 : w9.cell? ⟨gi, 6, none⟩ = some (.int .i64 L) := cell_of_heap HI9.out 6; clear so sv sz1 sl hb)
          | (go_at_call 87; go_must (refine (rbits_calls _ sa _ sc ss HSO.out.sl (by have := HSV.out.2; omega)).mono ?_); go_must (rintro e w9 ⟨c0, c1, c2, c3, hw, hv, rfl, hb⟩); go_must (unfold bitsV); have HC9 := Lib.hid (And.intro hw hv); have HD9 := Lib.hid (below_heap hb HD9.out); have HR9 := Lib.hid (below_heap hb HR9.out); have HB9 := Lib.hid (below_then HB9.out hb); have z6 : w9.cell? ⟨gi, 6, none⟩ = some (.int .i64 L) := cell_of_heap (below_heap hb HI9.out) 6; clear hw hv hb; have d0 : w9.cell? ⟨gd, 0, none⟩ = some (.int .i64 1) := cell_of_heap HD9.out 0; have fd0 := free_of_heap HD9.out 0; have d1 : w9.cell? ⟨gd, 1, none⟩ = some (.bool sg) := cell_of_heap HD9.out 1; have fd1 := free_of_heap HD9.out 1; have d2 : w9.cell? ⟨gd, 2, none⟩ = some (.bool false) := cell_of_heap HD9.out 2; have fd2 := free_of_heap HD9.out 2; have d3 : w9.cell? ⟨gd, 3, none⟩ = some (.int .i64 0) := cell_of_heap HD9.out 3; have fd3 := free_of_heap HD9.out 3; have d4 : w9.cell? ⟨gd, 4, none⟩ = some (.int .u64 0) := cell_of_heap HD9.out 4; have fd4 := free_of_heap HD9.out 4; have d5 : w9.cell? ⟨gd, 5, none⟩ = some (.int .u64 0) := cell_of_heap HD9.out 5; have fd5 := free_of_heap HD9.out 5; have d6 : w9.cell? ⟨gd, 6, none⟩ = some (.int .u64 0) := cell_of_heap HD9.out 6; have fd6 := free_of_heap HD9.out 6; have d7 : w9.cell? ⟨gd, 7, none⟩ = some (.int .u64 0) := cell_of_heap HD9.out 7; have fd7 := free_of_heap HD9.out 7))
        all_goals
          have hD10 : (((((w9.setCell ⟨gd, 4, none⟩ (.int .u64 (c0 : Nat))).setCell ⟨gd, 5, none⟩ (.int .u64 (c1 : Nat))).setCell ⟨gd, 6, none⟩ (.int .u64 (c2 : Nat))).setCell ⟨gd, 7, none⟩ (.int .u64 (c3 : Nat))).setCell ⟨gd, 3, none⟩ (.int .i64 (L - 1 + (E : Nat)))).heap[gd]? = some (.cells #[.int .i64 1, .bool sg, .bool false, .int .i64 (L - 1 + (E : Nat)), .int .u64 (c0 : Nat), .int .u64 (c1 : Nat), .int .u64 (c2 : Nat), .int .u64 (c3 : Nat)] 31 (0, 0)) := heap_set (heap_set (heap_set (heap_set (heap_set HD9.out 4 _) 5 _) 6 _) 7 _) 3 _
          have hR10 : (((((w9.setCell ⟨gd, 4, none⟩ (.int .u64 (c0 : Nat))).setCell ⟨gd, 5, none⟩ (.int .u64 (c1 : Nat))).setCell ⟨gd, 6, none⟩ (.int .u64 (c2 : Nat))).setCell ⟨gd, 7, none⟩ (.int .u64 (c3 : Nat))).setCell ⟨gd, 3, none⟩ (.int .i64 (L - 1 + (E : Nat)))).heap[w.heap.size + 1]? = _ := (heap_set_other n3.symm _ _).trans ((heap_set_other n3.symm _ _).trans ((heap_set_other n3.symm _ _).trans ((heap_set_other n3.symm _ _).trans ((heap_set_other n3.symm _ _).trans HR9.out))))
          have hB10 : Below w.heap.size w (((((w9.setCell ⟨gd, 4, none⟩ (.int .u64 (c0 : Nat))).setCell ⟨gd, 5, none⟩ (.int .u64 (c1 : Nat))).setCell ⟨gd, 6, none⟩ (.int .u64 (c2 : Nat))).setCell ⟨gd, 7, none⟩ (.int .u64 (c3 : Nat))).setCell ⟨gd, 3, none⟩ (.int .i64 (L - 1 + (E : Nat)))) := by
            have hgd : w.heap.size ≤ gd := by omega
            exact ((((HB9.out.setCell hgd _).setCell hgd _).setCell hgd _).setCell hgd _).setCell hgd _
          generalize (((((w9.setCell ⟨gd, 4, none⟩ (.int .u64 (c0 : Nat))).setCell ⟨gd, 5, none⟩ (.int .u64 (c1 : Nat))).setCell ⟨gd, 6, none⟩ (.int .u64 (c2 : Nat))).setCell ⟨gd, 7, none⟩ (.int .u64 (c3 : Nat))).setCell ⟨gd, 3, none⟩ (.int .i64 (L - 1 + (E : Nat)))) = W10 at hD10 hR10 hB10 ⊢
          have HD10 := Lib.hid hD10
          have HR10 := Lib.hid hR10
          have HB10 := Lib.hid hB10
          clear hD10 hR10 hB10 d0 d1 d2 d3 d4 d5 d6 d7 fd0 fd1 fd2 fd3 fd4 fd5 fd6 fd7 z6
          go_wp2_with (first | ((with_reducible refine gate_load 31 ?_); go_must (refine ld_row 31 gd 31 HD10.out Tryz.underlying31 (n := 8) (by kernel_rfl) ?_ (hn := rfl))) | ((with_reducible refine gate_store 31 ?_); go_must (refine st_row 31 (w.heap.size + 1) 31 HR10.out (n := 8) (by kernel_rfl) ?_ (hn := rfl) (h1 := by simp [Value.oneCell']))) | fail)
          have hsg : (((V / 2 ^ q % 2 : Nat) : Int) == 1) = sg := by rw [← HSG.out, HGV.out.1]
          refine bodyPost_ret (results_ct rfl _ _ (w.heap.size + 1) 31 _ _ _ rfl (setRow_heap _ _ _ _ _ _ HR10.out) Tryz.underlying31 rfl (by kernel_rfl)) rfl ⟨below_setRow HB10.out (by omega) _, fun _ => ⟨c0, c1, c2, c3, HC9.out.1, ?_, ?_⟩, fun h => (h ?_).elim⟩
          · rw [HP.out, ← HEV.out.1, if_neg (by have := HEP.out; omega), HC9.out.2, HSV.out.1, HFV.out.1, HPV.out.1]
            have h1 := Nat.two_pow_add_eq_or_of_lt (i := p) (b := V % 2 ^ p) (Nat.mod_lt _ (Nat.two_pow_pos p)) 1
            rw [Nat.mul_one] at h1
            rw [Nat.pow_zero, Nat.div_one, Nat.or_comm, ← h1, Nat.add_comm]
          · rw [HP.out, HQ.out.1, ← HEV.out.1, hsg, show max ((E : Int) - 1) 0 = (E : Int) - 1 by have := HEP.out; omega, show L + ((E : Int) - 1) = L - 1 + (E : Nat) by omega]; rfl
          · rw [HP.out, ← HEV.out.1, HT.out.1.1]; have := HEP.out; have := HT.out.2.2; omega
    · obtain rfl : E = M := by omega
      have hnE : ¬ V / 2 ^ (P - 1) % 2 ^ X < 2 ^ X - 1 := by rw [HP.out, ← HEV.out.1, HT.out.1.1]; have := HT.out.2.2; omega
      have n5 : w.heap.size ≠ gd := by omega
      clear hM hlt hET
      have HFO9 := HFO8
      obtain ⟨lf, hlf0⟩ : ∃ lf, fs.length = lf := ⟨_, rfl⟩
      rw [hlf0]
      clear hlf0
      by_cases hlf : lf = 0
      · subst hlf
        go_wp2_with (first | ((with_reducible refine gate_load 31 ?_); refine Hid.out ?_) | fail)
        refine Lib.hid ?_
        have hD9 : (W8w.setCell ⟨gd, 0, none⟩ (.int .i64 2)).heap[gd]? = some (.cells #[.int .i64 2, .bool sg, .bool false, .int .i64 0, .int .u64 0, .int .u64 0, .int .u64 0, .int .u64 0] 31 (0, 0)) := heap_set HD8.out 0 _
        have hR9 : (W8w.setCell ⟨gd, 0, none⟩ (.int .i64 2)).heap[w.heap.size + 1]? = _ := (heap_set_other n3.symm _ _).trans HR8.out
        have hP9 : (W8w.setCell ⟨gd, 0, none⟩ (.int .i64 2)).heap[w.heap.size]? = _ := (heap_set_other n5 _ _).trans HP8.out
        have hB9 : Below w.heap.size w (W8w.setCell ⟨gd, 0, none⟩ (.int .i64 2)) := HB8.out.setCell (by show w.heap.size ≤ gd; omega) _
        generalize (W8w.setCell ⟨gd, 0, none⟩ (.int .i64 2)) = W9 at hD9 hR9 hP9 hB9 ⊢
        have HD9 := Lib.hid hD9
        have HR9 := Lib.hid hR9
        have HP9 := Lib.hid hP9
        have HB9 := Lib.hid hB9
        clear hD9 hR9 hP9 hB9
        clear z5 z6 d0 d1 d2 d3 d4 d5 d6 d7 fd0 fd1 fd2 fd3 fd4 fd5 fd6 fd7
        go_wp2_with (first | ((with_reducible refine gate_load 31 ?_); go_must (refine ld_row 31 gd 31 HD9.out Tryz.underlying31 (n := 8) (by kernel_rfl) ?_ (hn := rfl))) | ((with_reducible refine gate_store 31 ?_); go_must (refine st_row 31 (w.heap.size + 1) 31 HR9.out (n := 8) (by kernel_rfl) ?_ (hn := rfl) (h1 := by simp [Value.oneCell']))) | fail)
        refine bodyPost_ret (results_ct rfl _ _ (w.heap.size + 1) 31 _ _ _ rfl (setRow_heap _ _ _ _ _ _ HR9.out) Tryz.underlying31 rfl (by kernel_rfl)) rfl ⟨below_setRow HB9.out (by omega) _, fun h => (hnE h).elim, fun _ => ⟨2, sg, false, 0, 0, 0, 0, Or.inl rfl, rfl⟩⟩
      · have hlf2 : ((lf : Int) == 0) = false := by simp; omega
        have hlf3 : ¬ (lf : Int) = 0 := by omega
        obtain ⟨p1, hp1⟩ : ∃ p1, p - 1 = p1 := ⟨_, rfl⟩
        have hwp : IntKind.i64.wrap ((p : Int) - 1) = (p1 : Nat) := by have := HPX.out; have := HP.out; rw [IntWalk.i64_in _ (by omega)]; omega
        have HP1 := Lib.hid hp1
        have HG1 : Hid (∀ W, Calls Tryz.prog 85 #[.agg #[.int .u64 (b0 : Nat), .int .u64 (b1 : Nat), .int .u64 (b2 : Nat), .int .u64 (b3 : Nat)], .int .i64 (p1 : Nat), .int .i64 1] W (NatRes W (V / 2 ^ p1 % 2 ^ 1) 8)) := Lib.hid (fun W => HRF.out W p1 1 (by have := HPX.out; have := HP.out; have := HP1.out; omega) (by omega))
        have HG2 : Hid (∀ W, Calls Tryz.prog 85 #[.agg #[.int .u64 (b0 : Nat), .int .u64 (b1 : Nat), .int .u64 (b2 : Nat), .int .u64 (b3 : Nat)], .int .i64 0, .int .i64 (p1 : Nat)] W (NatRes W (V / 2 ^ 0 % 2 ^ p1) 4)) := Lib.hid (fun W => (HRF.out W 0 p1 (by omega) (by have := HPX.out; have := HP.out; have := HP1.out; omega)).mono (fun e w' h => h.fits (Nat.lt_of_lt_of_le (Nat.mod_lt _ (Nat.two_pow_pos p1)) (by rw [show B64 ^ 4 = 2 ^ 256 from rfl]; exact Nat.pow_le_pow_right (by decide) (by have := HPX.out; have := HP.out; have := HP1.out; omega)))))
        clear hp1 hlf
        have x0 : W8w.cell? ⟨w.heap.size, 0, none⟩ = some (.int .u64 (b0 : Nat)) := cell_of_heap HP8.out 0
        have x1 : W8w.cell? ⟨w.heap.size, 1, none⟩ = some (.int .u64 (b1 : Nat)) := cell_of_heap HP8.out 1
        have x2 : W8w.cell? ⟨w.heap.size, 2, none⟩ = some (.int .u64 (b2 : Nat)) := cell_of_heap HP8.out 2
        have x3 : W8w.cell? ⟨w.heap.size, 3, none⟩ = some (.int .u64 (b3 : Nat)) := cell_of_heap HP8.out 3
        go_wp2_with fail
        have hD9 : (W8w.setCell ⟨gd, 0, none⟩ (.int .i64 3)).heap[gd]? = some (.cells #[.int .i64 3, .bool sg, .bool false, .int .i64 0, .int .u64 0, .int .u64 0, .int .u64 0, .int .u64 0] 31 (0, 0)) := heap_set HD8.out 0 _
        have hR9 : (W8w.setCell ⟨gd, 0, none⟩ (.int .i64 3)).heap[w.heap.size + 1]? = _ := (heap_set_other n3.symm _ _).trans HR8.out
        have hP9 : (W8w.setCell ⟨gd, 0, none⟩ (.int .i64 3)).heap[w.heap.size]? = _ := (heap_set_other n5 _ _).trans HP8.out
        have hB9 : Below w.heap.size w (W8w.setCell ⟨gd, 0, none⟩ (.int .i64 3)) := HB8.out.setCell (by show w.heap.size ≤ gd; omega) _
        generalize (W8w.setCell ⟨gd, 0, none⟩ (.int .i64 3)) = W9 at hD9 hR9 hP9 hB9 ⊢
        have HD9 := Lib.hid hD9
        have HR9 := Lib.hid hR9
        have HP9 := Lib.hid hP9
        have HB9 := Lib.hid hB9
        clear hD9 hR9 hP9 hB9
        clear z5 z6 d0 d1 d2 d3 d4 d5 d6 d7 fd0 fd1 fd2 fd3 fd4 fd5 fd6 fd7
        clear x0 x1 x2 x3
        refine (HG1.out _).mono ?_
        rintro e w10 ⟨ha, hc, hs, rfl, ho, hv, hz, hl, hb⟩
        have HHO := Lib.hid ho
        have HHV := Lib.hid (And.intro hv hl)
        have HD10 := Lib.hid (below_heap hb HD9.out)
        have HR10 := Lib.hid (below_heap hb HR9.out)
        have HP10 := Lib.hid (below_heap hb HP9.out)
        have HB10 := Lib.hid (below_then HB9.out hb)
        clear ho hv hz hl hb
        go_wp2_with fail
        refine (rnum_calls _ ha _ hc hs HHO.out.sl (by rw [HHV.out.1]; exact Nat.lt_of_lt_of_le (Nat.mod_lt _ (Nat.two_pow_pos 1)) (by decide)) (by have := HHV.out.2; omega)).mono ?_
        rintro e w11 ⟨rfl, rfl⟩
        generalize val hs = vh
        have x0 : w10.cell? ⟨w.heap.size, 0, none⟩ = some (.int .u64 (b0 : Nat)) := cell_of_heap HP10.out 0
        have x1 : w10.cell? ⟨w.heap.size, 1, none⟩ = some (.int .u64 (b1 : Nat)) := cell_of_heap HP10.out 1
        have x2 : w10.cell? ⟨w.heap.size, 2, none⟩ = some (.int .u64 (b2 : Nat)) := cell_of_heap HP10.out 2
        have x3 : w10.cell? ⟨w.heap.size, 3, none⟩ = some (.int .u64 (b3 : Nat)) := cell_of_heap HP10.out 3
        have d2 := cell_of_heap HD10.out 2
        have fd2 := free_of_heap HD10.out 2
        simp at d2
        go_wp2_with fail
        obtain ⟨si, hsi⟩ : ∃ si : Bool, ((vh : Int) == 0) = si := ⟨_, rfl⟩
        rw [hsi]
        clear hsi
        have hD12 : (w10.setCell ⟨gd, 2, none⟩ (.bool si)).heap[gd]? = some (.cells #[.int .i64 3, .bool sg, .bool si, .int .i64 0, .int .u64 0, .int .u64 0, .int .u64 0, .int .u64 0] 31 (0, 0)) := heap_set HD10.out 2 _
        have hR12 : (w10.setCell ⟨gd, 2, none⟩ (.bool si)).heap[w.heap.size + 1]? = _ := (heap_set_other n3.symm _ _).trans HR10.out
        have hP12 : (w10.setCell ⟨gd, 2, none⟩ (.bool si)).heap[w.heap.size]? = _ := (heap_set_other n5 _ _).trans HP10.out
        have hB12 : Below w.heap.size w (w10.setCell ⟨gd, 2, none⟩ (.bool si)) := HB10.out.setCell (by show w.heap.size ≤ gd; omega) _
        generalize (w10.setCell ⟨gd, 2, none⟩ (.bool si)) = W12 at hD12 hR12 hP12 hB12 ⊢
        have HD12 := Lib.hid hD12
        have HR12 := Lib.hid hR12
        have HP12 := Lib.hid hP12
        have HB12 := Lib.hid hB12
        clear hD12 hR12 hP12 hB12
        clear x0 x1 x2 x3 d2 fd2
        refine (HG2.out _).mono ?_
        rintro e w13 ⟨ka, kc, ks, rfl, ko, kv, kz, kl, hb⟩
        have HKO := Lib.hid ko
        have HD13 := Lib.hid (below_heap hb HD12.out)
        have HR13 := Lib.hid (below_heap hb HR12.out)
        have HP13 := Lib.hid (below_heap hb HP12.out)
        have HB13 := Lib.hid (below_then HB12.out hb)
        clear ko kv kz hb
        go_wp2_with fail
        refine (rbits_calls _ ka _ kc ks HKO.out.sl (by omega)).mono ?_
        rintro e w14 ⟨c0, c1, c2, c3, hw, hv, rfl, hb⟩
        unfold bitsV
        have HD14 := Lib.hid (below_heap hb HD13.out)
        have HR14 := Lib.hid (below_heap hb HR13.out)
        have HP14 := Lib.hid (below_heap hb HP13.out)
        have HB14 := Lib.hid (below_then HB13.out hb)
        clear hw hv hb
        have d4 := cell_of_heap HD14.out 4
        have fd4 := free_of_heap HD14.out 4
        have d5 := cell_of_heap HD14.out 5
        have fd5 := free_of_heap HD14.out 5
        have d6 := cell_of_heap HD14.out 6
        have fd6 := free_of_heap HD14.out 6
        have d7 := cell_of_heap HD14.out 7
        have fd7 := free_of_heap HD14.out 7
        simp at d4 d5 d6 d7
        go_wp2_with (first | ((with_reducible refine gate_load 31 ?_); refine Hid.out ?_) | fail)
        refine Lib.hid ?_
        have hD15 : ((((w14.setCell ⟨gd, 4, none⟩ (.int .u64 (c0 : Nat))).setCell ⟨gd, 5, none⟩ (.int .u64 (c1 : Nat))).setCell ⟨gd, 6, none⟩ (.int .u64 (c2 : Nat))).setCell ⟨gd, 7, none⟩ (.int .u64 (c3 : Nat))).heap[gd]? = some (.cells #[.int .i64 3, .bool sg, .bool si, .int .i64 0, .int .u64 (c0 : Nat), .int .u64 (c1 : Nat), .int .u64 (c2 : Nat), .int .u64 (c3 : Nat)] 31 (0, 0)) := heap_set (heap_set (heap_set (heap_set HD14.out 4 _) 5 _) 6 _) 7 _
        have hR15 : ((((w14.setCell ⟨gd, 4, none⟩ (.int .u64 (c0 : Nat))).setCell ⟨gd, 5, none⟩ (.int .u64 (c1 : Nat))).setCell ⟨gd, 6, none⟩ (.int .u64 (c2 : Nat))).setCell ⟨gd, 7, none⟩ (.int .u64 (c3 : Nat))).heap[w.heap.size + 1]? = _ := (heap_set_other n3.symm _ _).trans ((heap_set_other n3.symm _ _).trans ((heap_set_other n3.symm _ _).trans ((heap_set_other n3.symm _ _).trans HR14.out)))
        have hB15 : Below w.heap.size w ((((w14.setCell ⟨gd, 4, none⟩ (.int .u64 (c0 : Nat))).setCell ⟨gd, 5, none⟩ (.int .u64 (c1 : Nat))).setCell ⟨gd, 6, none⟩ (.int .u64 (c2 : Nat))).setCell ⟨gd, 7, none⟩ (.int .u64 (c3 : Nat))) := by
          have hgd : w.heap.size ≤ gd := by omega
          exact (((HB14.out.setCell hgd _).setCell hgd _).setCell hgd _).setCell hgd _
        generalize ((((w14.setCell ⟨gd, 4, none⟩ (.int .u64 (c0 : Nat))).setCell ⟨gd, 5, none⟩ (.int .u64 (c1 : Nat))).setCell ⟨gd, 6, none⟩ (.int .u64 (c2 : Nat))).setCell ⟨gd, 7, none⟩ (.int .u64 (c3 : Nat))) = W15 at hD15 hR15 hB15 ⊢
        have HD15 := Lib.hid hD15
        have HR15 := Lib.hid hR15
        have HB15 := Lib.hid hB15
        clear hD15 hR15 hB15 d4 d5 d6 d7 fd4 fd5 fd6 fd7
        go_wp2_with (first | ((with_reducible refine gate_load 31 ?_); go_must (refine ld_row 31 gd 31 HD15.out Tryz.underlying31 (n := 8) (by kernel_rfl) ?_ (hn := rfl))) | ((with_reducible refine gate_store 31 ?_); go_must (refine st_row 31 (w.heap.size + 1) 31 HR15.out (n := 8) (by kernel_rfl) ?_ (hn := rfl) (h1 := by simp [Value.oneCell']))) | fail)
        refine bodyPost_ret (results_ct rfl _ _ (w.heap.size + 1) 31 _ _ _ rfl (setRow_heap _ _ _ _ _ _ HR15.out) Tryz.underlying31 rfl (by kernel_rfl)) rfl ⟨below_setRow HB15.out (by omega) _, fun h => (hnE h).elim, fun _ => ⟨3, sg, si, c0, c1, c2, c3, Or.inr rfl, rfl⟩⟩
end Go.Proofs.YtpodpdopgdkdkaaGreatDoor
