/- limbs.Shl of one, at four words; binary.mask, Field, Lay, Of. No conditions. · binary.mask, Field, Of, Lay. No conditions. · binary.Lay of a one. No conditions. -/
import Derived.Test.YtpodpdopgdkdkaaGreatDoorMw13
import Derived.RegionCalls
import Derived.Deep.RegionHeld3
import Derived.Deep.RegionWith
import Derived.Test.YtpodpdopgdkdkaaGreatDoorMw11
import Derived.Test.YtpodpdopgdkdkaaGreatDoorMw12
set_option linter.unusedVariables false
set_option linter.unusedSimpArgs false
namespace Go.Proofs.YtpodpdopgdkdkaaGreatDoor
set_option linter.unusedVariables false
set_option linter.unusedSimpArgs false
open Go.RowKit
theorem one_words {zs : List Nat} {q r : Nat} (hq : q < 4) (hz : zs.length = 4) (h : ∀ j, j < 4 → wd zs j = if j = q then 2 ^ r else 0) : val zs = 2 ^ (64 * q + r) := by
  have e0 := h 0 (by omega)
  have e1 := h 1 (by omega)
  have e2 := h 2 (by omega)
  have e3 := h 3 (by omega)
  obtain ⟨c0, c1, c2, c3, rfl⟩ := four_of hz
  simp only [wd4] at e0 e1 e2 e3
  rw [pow_words]
  rcases (show q = 0 ∨ q = 1 ∨ q = 2 ∨ q = 3 by omega) with rfl | rfl | rfl | rfl
  all_goals
    simp at e0 e1 e2 e3
    rw [e0, e1, e2, e3, val4]
    simp [Nat.pow_succ, Nat.mul_assoc]
set_option maxRecDepth 10000 in
set_option maxHeartbeats 2000000 in
theorem limShl1_calls (w : World) (n : Nat) (hn : n < 256) :
    Calls Tryz.prog 110 #[.agg #[.int .u64 1, .int .u64 0, .int .u64 0, .int .u64 0], .int .i64 (n : Nat)] w (BitsRes w (2 ^ n)) := by
  by_cases h0 : n = 0
  · subst h0
    go_enter Tryz.func110, Tryz.ntmps110
    go_wp2
    refine bodyPost_ret (results_cell rfl _ _ (w.heap.size + 1) 23 _ _ _ rfl (?_ : _ = some (Obj.cells #[.int .u64 1, .int .u64 0, .int .u64 0, .int .u64 0] 23 (0, 0))) Tryz.underlying23 rfl (by kernel_rfl)) rfl ⟨1, 0, 0, 0, by intro x hx; simp at hx; rcases hx with rfl | rfl <;> decide, by simp [val4], rfl, below_alloc (below_alloc (Below.refl _ _) _) _⟩
    have := heap_new (w.alloc (.cells #[.int .u64 1, .int .u64 0, .int .u64 0, .int .u64 0] 23)) (.cells #[.int .u64 1, .int .u64 0, .int .u64 0, .int .u64 0] 23)
    simpa using this
  obtain ⟨q, r, hr, hqr⟩ : ∃ q r, r < 64 ∧ n = 64 * q + r := ⟨n / 64, n % 64, by omega, by omega⟩
  have hq : q < 4 := by omega
  have H3 := Lib.hid (three_new w 23 23 23 [1, 0, 0, 0] [0, 0, 0, 0] [0, 0, 0, 0] (.cells #[.int .u64 1, .int .u64 0, .int .u64 0, .int .u64 0] 23) (.cells #[.int .u64 0, .int .u64 0, .int .u64 0, .int .u64 0] 23) (.cells #[.int .u64 0, .int .u64 0, .int .u64 0, .int .u64 0] 23) rfl rfl rfl)
  have HQR := Lib.hid hqr
  have e2 : (n : Int) / 64 = (q : Nat) := by omega
  have e3 : (n : Int) % 64 = (r : Nat) := by omega
  have e4 : (n : Int).tmod 64 = (r : Nat) := by rw [Int.tmod_eq_emod_of_nonneg (by omega)]; exact e3
  have e5 : (n : Int).tdiv 64 = (q : Nat) := by rw [Int.tdiv_eq_ediv_of_nonneg (by omega)]; exact e2
  have i5 : IntKind.u64.wrap (r : Int) = (r : Nat) := wrapS (by unfold B64; omega)
  have hn1 : ¬ (n : Int) < 1 := by omega
  clear hqr h0
  go_enter Tryz.func110, Tryz.ntmps110
  go_wp2_with fail
  generalize (((w.alloc (.cells #[.int .u64 1, .int .u64 0, .int .u64 0, .int .u64 0] 23)).alloc (.cells #[.int .u64 0, .int .u64 0, .int .u64 0, .int .u64 0] 23)).alloc (.cells #[.int .u64 0, .int .u64 0, .int .u64 0, .int .u64 0] 23)) = W0 at H3 ⊢
  clear e2 e3 e4 e5 i5 hn1
  go_loopw [8] (fun i wr => ∃ (k : Nat) (zs : List Nat), q ≤ k ∧ k ≤ 4 ∧ i = .int .i64 ((k : Int) - 1) ∧ Hid (ArrAt 23 wr w.heap.size [1, 0, 0, 0]) ∧ Hid (ArrAt 23 wr (w.heap.size + 1) [0, 0, 0, 0]) ∧ Hid (ArrAt 23 wr (w.heap.size + 1 + 1) zs) ∧ Hid (zs.length = 4) ∧ Hid (W64 zs) ∧ Hid (∀ j, j < 4 → wd zs j = if j = q ∧ k = q then 2 ^ r else 0) ∧ Hid (Below w.heap.size w wr)) (fun i _ => (intOf i + 1).toNat)
  case atStart => exact ⟨4, [0, 0, 0, 0], by omega, by omega, rfl, Lib.hid H3.out.1, Lib.hid H3.out.2.1, Lib.hid H3.out.2.2.1, Lib.hid rfl, Lib.hid (by intro x hx; simp at hx; rw [hx]; decide), Lib.hid (fun j hj => by rw [if_neg (by omega)]; rcases (show j = 0 ∨ j = 1 ∨ j = 2 ∨ j = 3 by omega) with rfl | rfl | rfl | rfl <;> rfl), Lib.hid H3.out.2.2.2⟩
  case round =>
    obtain ⟨k, zs, hqk, hk, rfl, HXA, HR, HZ, HZL, HZW, HD, HB⟩ := hrel
    clear H3
    by_cases hlt : q < k
    · obtain ⟨m, rfl⟩ : ∃ m, k = m + 1 := ⟨k - 1, by omega⟩
      have em : (((m + 1 : Nat) : Int) - 1) = (m : Int) := by omega
      rw [em]
      obtain ⟨d, rfl⟩ : ∃ d, m = q + d := ⟨m - q, by omega⟩
      obtain ⟨m, hm⟩ : ∃ m, q + d = m := ⟨_, rfl⟩
      rw [hm]
      have hmq : (m : Int) - (q : Int) = (d : Int) := by omega
      have hd0 : (0 : Int) ≤ (d : Int) := by omega
      have hd4 : (d : Int) < 4 := by omega
      have hm0 : (0 : Int) ≤ (m : Int) := by omega
      have hm4 : (m : Int) < 4 := by omega
      have hge : decide ((q : Int) ≤ (m : Int)) = true := by simp; omega
      have z0 := HZ.out.cell m (by rw [HZL.out]; omega)
      have f0 := HZ.out.free m
      have ax := HXA.out.cell d (by simp; omega)
      have hzm : wd zs m = 0 := by rw [HD.out m (by omega), if_neg (by omega)]
      rw [hzm] at z0
      by_cases hd : d = 0
      · subst hd
        have hq0 : decide ((q : Int) < (m : Int)) = false := by simp; omega
        have hsh : IntKind.u64.wrap ((2 : Int) ^ r) = ((2 ^ r : Nat) : Int) := by rw [two_cast]; exact wrapS (Nat.pow_lt_pow_right (a := 2) (by decide) hr)
        have ax' : wr.cell? ⟨w.heap.size, 0, none⟩ = some (.int .u64 1) := ax
        have hp64 : 2 ^ r < B64 := Nat.pow_lt_pow_right (a := 2) (by decide) hr
        have HW := Lib.hid (HZW.out.set m _ hp64)
        obtain ⟨P, hP⟩ : ∃ P, 2 ^ r = P := ⟨_, rfl⟩
        rw [hP] at hsh HW
        have HPP := Lib.hid hP
        have HMQ := Lib.hid hm
        clear ax hp64 hP hzm
        by_cases hr0 : 0 < r
        all_goals
          go_wp2
          go_roundw
          case rel => exact ⟨q, zs.set m P, by omega, by omega, by have := HMQ.out; first | rfl | (rw [← HMQ.out]; go_num) | go_num, Lib.hid (HXA.out.other (by omega) m _), Lib.hid (HR.out.other (by omega) m _), Lib.hid (HZ.out.set m _), Lib.hid (by rw [List.length_set]; exact HZL.out), HW, Lib.hid (fun j hj => by
            have := HMQ.out
            by_cases e : j = m
            · rw [e, wd_set_eq (by rw [HZL.out]; omega), if_pos (by omega), HPP.out]
            · rw [wd_set_ne _ (by omega), HD.out j hj, if_neg (by omega), if_neg (by omega)]), Lib.hid (HB.out.setCell (by show w.heap.size ≤ w.heap.size + 1 + 1; omega) _)⟩
          case measure => simp [intOf]; try omega
      · obtain ⟨e, rfl⟩ : ∃ e, d = e + 1 := ⟨d - 1, by omega⟩
        have hq1 : decide ((q : Int) < (m : Int)) = true := by simp; omega
        have ax0 : wr.cell? ⟨w.heap.size, e + 1, none⟩ = some (.int .u64 0) := by
          have h1 : wd [1, 0, 0, 0] (e + 1) = 0 := by
            rcases (show e = 0 ∨ e = 1 ∨ e = 2 by omega) with rfl | rfl | rfl <;> rfl
          rw [h1] at ax
          exact ax
        have hset : zs.set m 0 = zs := by
          refine List.ext_getElem? fun j => ?_
          by_cases h : m = j
          · subst h
            have h1 := hzm
            unfold wd at h1
            rw [List.getElem?_set_self (by rw [HZL.out]; omega), List.getElem?_eq_getElem (by rw [HZL.out]; omega)]
            simp [List.getD_eq_getElem?_getD, List.getElem?_eq_getElem (show m < zs.length by rw [HZL.out]; omega)] at h1
            rw [h1]
          · rw [List.getElem?_set_ne h]
        have HSET := Lib.hid hset
        have i7 : (64 : Int) - (r : Int) = ((64 - r : Nat) : Int) := by omega
        have i8 : IntKind.u64.wrap ((64 - r : Nat) : Int) = ((64 - r : Nat) : Int) := wrapS (by unfold B64; omega)
        have i9 : min (64 - r) 64 = 64 - r := by omega
        have hor : bits .or .u64 0 0 = 0 := by decide
        have HMQ := Lib.hid hm
        have HDN : Hid (∀ j, j < 4 → wd zs j = if j = q ∧ m = q then 2 ^ r else 0) := Lib.hid (fun j hj => by rw [HD.out j hj, if_neg (by omega), if_neg (by omega)])
        obtain ⟨W1, hW1⟩ : ∃ W, W = wr.setCell ⟨w.heap.size + 1 + 1, m, none⟩ (.int .u64 0) := ⟨_, rfl⟩
        have HZ1 : Hid (ArrAt 23 W1 (w.heap.size + 1 + 1) zs) := Lib.hid (by have := HZ.out.set m 0; rw [HSET.out] at this; rw [hW1]; exact this)
        have HX1 : Hid (ArrAt 23 W1 w.heap.size [1, 0, 0, 0]) := Lib.hid (by rw [hW1]; exact HXA.out.other (by omega) m _)
        have HR1 : Hid (ArrAt 23 W1 (w.heap.size + 1) [0, 0, 0, 0]) := Lib.hid (by rw [hW1]; exact HR.out.other (by omega) m _)
        have HB1 : Hid (Below w.heap.size w W1) := Lib.hid (by rw [hW1]; exact HB.out.setCell (by show w.heap.size ≤ w.heap.size + 1 + 1; omega) _)
        have hem : (e : Int) + 1 - 1 = (e : Int) := by omega
        clear ax hset hzm hd
        by_cases hr0 : 0 < r
        · have hdr : decide (0 < (r : Int)) = true := by simp; omega
          have z1 := HZ1.out.cell m (by rw [HZL.out]; omega)
          have hzm : wd zs m = 0 := by rw [HDN.out m (by omega), if_neg (by have := HMQ.out; omega)]
          rw [hzm] at z1
          have f1 := HZ1.out.free m
          have y1 := HX1.out.cell e (by simp; omega)
          obtain ⟨Y, hY⟩ : ∃ Y, wd [1, 0, 0, 0] e = Y := ⟨_, rfl⟩
          rw [hY] at y1
          have hsr : (Y : Int) / 2 ^ (64 - r) = 0 := by
            have h1 : Y ≤ 1 := by
              rw [← hY]
              rcases (show e = 0 ∨ e = 1 ∨ e = 2 by omega) with rfl | rfl | rfl <;> decide
            have h2 : 2 ^ 1 ≤ 2 ^ (64 - r) := Nat.pow_le_pow_right (by decide) (by omega)
            rw [two_cast, ← Int.natCast_ediv, Nat.div_eq_of_lt (by omega)]
            rfl
          rw [hW1] at z1 f1 y1
          have HXN : Hid (ArrAt 23 (W1.setCell ⟨w.heap.size + 1 + 1, m, none⟩ (.int .u64 0)).drew w.heap.size [1, 0, 0, 0]) := Lib.hid (HX1.out.other (by omega) m _)
          have HRN : Hid (ArrAt 23 (W1.setCell ⟨w.heap.size + 1 + 1, m, none⟩ (.int .u64 0)).drew (w.heap.size + 1) [0, 0, 0, 0]) := Lib.hid (HR1.out.other (by omega) m _)
          have HZN : Hid (ArrAt 23 (W1.setCell ⟨w.heap.size + 1 + 1, m, none⟩ (.int .u64 0)).drew (w.heap.size + 1 + 1) zs) := Lib.hid (by have := HZ1.out.set m 0; rw [HSET.out] at this; exact this)
          have HBN : Hid (Below w.heap.size w (W1.setCell ⟨w.heap.size + 1 + 1, m, none⟩ (.int .u64 0)).drew) := Lib.hid (HB1.out.setCell (by show w.heap.size ≤ w.heap.size + 1 + 1; omega) _).drew
          rw [hW1] at HXN HRN HZN HBN
          have hwe : IntKind.i64.wrap (e : Int) = (e : Int) := IntWalk.i64_in _ (by omega)
          have hwe1 : IntKind.i64.wrap ((e : Int) + 1) = (e : Int) + 1 := IntWalk.i64_in _ (by omega)
          have hmq1 : (m : Int) - (q : Int) = (e : Int) + 1 := by omega
          have he0 : (0 : Int) ≤ (e : Int) := by omega
          have he4 : (e : Int) < 4 := by omega
          clear hY hzm
          go_wp2_with fail
          go_region_law (fail)
          all_goals
            clear z0 f0 ax0 z1 f1 y1 hsr hwe hwe1 hmq1 he0 he4 i7 i8 i9 hor
            go_wp2
            go_roundw
            case rel => exact ⟨m, zs, by have := HMQ.out; omega, by omega, by first | rfl | go_num, HXN, HRN, HZN, HZL, HZW, HDN, HBN⟩
            case measure => simp [intOf]; try omega
        · have hdr : decide (0 < (r : Int)) = false := by simp; omega
          rw [hW1] at HX1 HR1 HZ1 HB1
          go_wp2
          go_roundw
          case rel => exact ⟨m, zs, by have := HMQ.out; omega, by omega, by first | rfl | go_num, HX1, HR1, HZ1, HZL, HZW, HDN, HB1⟩
          case measure => simp [intOf]; try omega
    · obtain rfl : k = q := by omega
      have hge : decide ((k : Int) ≤ (k : Int) - 1) = false := by simp; omega
      have HN : Hid (val zs = 2 ^ n) := Lib.hid (by
        rw [HQR.out]
        exact one_words hq HZL.out (fun j hj => by
          rw [HD.out j hj]
          by_cases e : j = k
          · rw [if_pos ⟨e, rfl⟩, if_pos e]
          · rw [if_neg (fun h => e h.1), if_neg e]))
      obtain ⟨c0, c1, c2, c3, rfl⟩ := four_of HZL.out
      have z0 := HZ.out.cell 0 (by simp)
      have z1 := HZ.out.cell 1 (by simp)
      have z2 := HZ.out.cell 2 (by simp)
      have z3 := HZ.out.cell 3 (by simp)
      have r0 := HR.out.cell 0 (by simp)
      have r1 := HR.out.cell 1 (by simp)
      have r2 := HR.out.cell 2 (by simp)
      have r3 := HR.out.cell 3 (by simp)
      have f0 := HR.out.free 0
      have f1 := HR.out.free 1
      have f2 := HR.out.free 2
      have f3 := HR.out.free 3
      simp only [wd, List.getD_cons_zero, List.getD_cons_succ] at z0 z1 z2 z3 r0 r1 r2 r3
      go_wp2
      obtain ⟨W2, hW2, k1, k2, k3, k4⟩ := sto4 (f := (0, 0)) (t := 23) (a0 := .int .u64 (0 : Nat)) (a1 := .int .u64 (0 : Nat)) (a2 := .int .u64 (0 : Nat)) (a3 := .int .u64 (0 : Nat)) HR.out (.int .u64 (c0 : Nat)) (.int .u64 (c1 : Nat)) (.int .u64 (c2 : Nat)) (.int .u64 (c3 : Nat))
      rw [← hW2]
      exact bodyPost_ret (results_cell rfl _ _ (w.heap.size + 1) 23 _ _ _ rfl k1 Tryz.underlying23 rfl (by kernel_rfl)) rfl ⟨c0, c1, c2, c3, HZW.out, HN.out, rfl, k4 _ _ (by omega) HB.out⟩
end Go.Proofs.YtpodpdopgdkdkaaGreatDoor
namespace Go.Proofs.YtpodpdopgdkdkaaGreatDoor
set_option linter.unusedVariables false
set_option linter.unusedSimpArgs false
open Go.RowKit
theorem w64_small (n : Nat) (h : n < B64) : W64 [n, 0, 0, 0] := by
  intro x hx
  simp at hx
  rcases hx with rfl | rfl
  · exact h
  · decide
theorem val_small (n : Nat) : val [n, 0, 0, 0] = n := by simp [val4]
set_option maxRecDepth 10000 in
set_option maxHeartbeats 2000000 in
theorem bmask_calls (w : World) (n : Nat) (hn : n < 256) : Calls Tryz.prog 108 #[.int .i64 (n : Nat)] w (BitsRes w (2 ^ n - 1)) := by
  have hof : ∀ W, Calls Tryz.prog 130 #[.int .u64 1] W fun e w' => e = .returned (.agg #[.int .u64 1, .int .u64 0, .int .u64 0, .int .u64 0]) ∧ Below W.heap.size W w' := fun W => limOf_calls 1 (by decide) W
  have HOF := Lib.hid hof
  clear hof
  have HZ := Lib.hid (heap_new w (.cells #[.int .u64 0, .int .u64 0, .int .u64 0, .int .u64 0] 24))
  have HB0 := Lib.hid (below_alloc (Below.refl w.heap.size w) (.cells #[.int .u64 0, .int .u64 0, .int .u64 0, .int .u64 0] 24))
  go_enter Tryz.func108, Tryz.ntmps108
  go_wp2_with fail
  generalize w.alloc (.cells #[.int .u64 0, .int .u64 0, .int .u64 0, .int .u64 0] 24) = wa at HZ HB0 ⊢
  refine (HOF.out _).mono ?_
  rintro e w1 ⟨rfl, hb1⟩
  have HB1 := Lib.hid (below_then HB0.out hb1)
  have HZ1 := Lib.hid (below_heap hb1 HZ.out)
  clear hb1 HB0 HZ
  go_wp2_with fail
  refine (limShl1_calls w1 n hn).mono ?_
  rintro e w2 ⟨s0, s1, s2, s3, hsw, hsv, rfl, hb2⟩
  unfold bitsV
  have HB2 := Lib.hid (below_then HB1.out hb2)
  have HZ2 := Lib.hid (below_heap hb2 HZ1.out)
  have HSW := Lib.hid hsw
  have HSV := Lib.hid hsv
  clear hb2 hsw hsv HB1 HZ1
  go_wp2_with fail
  refine (HOF.out _).mono ?_
  rintro e w3 ⟨rfl, hb3⟩
  have HB3 := Lib.hid (below_then HB2.out hb3)
  have HZ3 := Lib.hid (below_heap hb3 HZ2.out)
  have HSUB := Lib.hid (limSub_calls w3 s0 s1 s2 s3 1 0 0 0 HSW.out (w64_small 1 (by decide)) (by rw [val_small, HSV.out]; exact Nat.one_le_two_pow))
  rw [val_small, HSV.out] at HSUB
  unfold bitsV at HSUB
  clear hb3 HB2 HZ2
  go_wp2_with fail
  refine HSUB.out.mono ?_
  rintro e w4 ⟨c0, c1, c2, c3, z, hw, hv, rfl, hb4⟩
  have HB4 := Lib.hid (below_alloc (below_then HB3.out hb4) (.cells #[.int .u64 c0, .int .u64 c1, .int .u64 c2, .int .u64 c3] 23))
  have HZ4 := Lib.hid (below_heap (below_then hb4 (below_alloc (Below.refl w4.heap.size w4) (.cells #[.int .u64 c0, .int .u64 c1, .int .u64 c2, .int .u64 c3] 23))) HZ3.out)
  have HWC := Lib.hid (And.intro hw hv)
  have hd : decide ((256 : Int) ≤ (n : Int)) = false := by simp; omega
  clear hb4 hw hv HB3 HZ3 HSUB
  have z0 := cell_of_heap HZ4.out 0
  have z1 := cell_of_heap HZ4.out 1
  have z2 := cell_of_heap HZ4.out 2
  have z3 := cell_of_heap HZ4.out 3
  have f0 := free_of_heap HZ4.out 0
  have f1 := free_of_heap HZ4.out 1
  have f2 := free_of_heap HZ4.out 2
  have f3 := free_of_heap HZ4.out 3
  simp at z0 z1 z2 z3
  go_wp2
  obtain ⟨W2, hW2, k1, k2, k3, k4⟩ := sto4 HZ4.out (.int .u64 (c0 : Nat)) (.int .u64 (c1 : Nat)) (.int .u64 (c2 : Nat)) (.int .u64 (c3 : Nat))
  rw [← hW2]
  exact bodyPost_ret (results_cell rfl _ _ w.heap.size 24 _ _ _ rfl k1 Tryz.underlying24 rfl (by kernel_rfl)) rfl ⟨c0, c1, c2, c3, HWC.out.1, HWC.out.2, rfl, k4 _ _ (Nat.le_refl _) HB4.out⟩
set_option maxRecDepth 10000 in
set_option maxHeartbeats 2000000 in
theorem bfield_calls (w : World) (b0 b1 b2 b3 : Nat) (hx : W64 [b0, b1, b2, b3]) (at0 n : Nat) (ha : at0 < 256) (hn : n < 256) :
    Calls Tryz.prog 61 #[bitsV b0 b1 b2 b3, .int .i64 (at0 : Nat), .int .i64 (n : Nat)] w (BitsRes w (val [b0, b1, b2, b3] / 2 ^ at0 % 2 ^ n)) := by
  have HS := Lib.hid (fun W => limShr_calls W b0 b1 b2 b3 hx at0 ha)
  unfold bitsV at HS ⊢
  generalize val [b0, b1, b2, b3] / 2 ^ at0 = V at HS ⊢
  have h2 := three_new w 24 24 24 [b0, b1, b2, b3] [0, 0, 0, 0] [0, 0, 0, 0] (.cells #[.int .u64 (b0 : Nat), .int .u64 (b1 : Nat), .int .u64 (b2 : Nat), .int .u64 (b3 : Nat)] 24) (.cells #[.int .u64 0, .int .u64 0, .int .u64 0, .int .u64 0] 24) (.cells #[.int .u64 0, .int .u64 0, .int .u64 0, .int .u64 0] 24) rfl rfl rfl
  have HZ : Hid (((w.alloc (.cells #[.int .u64 (b0 : Nat), .int .u64 (b1 : Nat), .int .u64 (b2 : Nat), .int .u64 (b3 : Nat)] 24)).alloc (.cells #[.int .u64 0, .int .u64 0, .int .u64 0, .int .u64 0] 24)).heap[w.heap.size + 1]? = some (Obj.cells #[.int .u64 0, .int .u64 0, .int .u64 0, .int .u64 0] 24 (0, 0))) := Lib.hid (by
    have := heap_new (w.alloc (.cells #[.int .u64 (b0 : Nat), .int .u64 (b1 : Nat), .int .u64 (b2 : Nat), .int .u64 (b3 : Nat)] 24)) (.cells #[.int .u64 0, .int .u64 0, .int .u64 0, .int .u64 0] 24)
    simpa using this)
  have HB0 := Lib.hid (below_alloc (below_alloc (Below.refl w.heap.size w) (.cells #[.int .u64 (b0 : Nat), .int .u64 (b1 : Nat), .int .u64 (b2 : Nat), .int .u64 (b3 : Nat)] 24)) (.cells #[.int .u64 0, .int .u64 0, .int .u64 0, .int .u64 0] 24))
  clear h2 hx
  go_enter Tryz.func61, Tryz.ntmps61
  go_wp2_with fail
  generalize (w.alloc (.cells #[.int .u64 (b0 : Nat), .int .u64 (b1 : Nat), .int .u64 (b2 : Nat), .int .u64 (b3 : Nat)] 24)).alloc (.cells #[.int .u64 0, .int .u64 0, .int .u64 0, .int .u64 0] 24) = wa at HZ HB0 ⊢
  refine (HS.out _).mono ?_
  rintro e w1 ⟨s0, s1, s2, s3, hsw, hsv, rfl, hb1⟩
  unfold bitsV
  have HB1 := Lib.hid (below_then HB0.out hb1)
  have HZ1 := Lib.hid (below_heap hb1 HZ.out)
  have HSW := Lib.hid hsw
  have HSV := Lib.hid hsv
  clear hb1 hsw hsv HB0 HZ
  go_wp2_with fail
  refine (bmask_calls w1 n hn).mono ?_
  rintro e w2 ⟨m0, m1, m2, m3, hmw, hmv, rfl, hb2⟩
  have HAND := Lib.hid (bandA_calls w2 s0 s1 s2 s3 m0 m1 m2 m3 HSW.out hmw)
  rw [HSV.out, hmv, Nat.and_two_pow_sub_one_eq_mod] at HAND
  unfold bitsV at HAND ⊢
  have HB2 := Lib.hid (below_then HB1.out hb2)
  have HZ2 := Lib.hid (below_heap hb2 HZ1.out)
  clear hb2 hmw hmv HB1 HZ1 HSW HSV
  go_wp2_with fail
  refine HAND.out.mono ?_
  rintro e w3 ⟨c0, c1, c2, c3, hw, hv, rfl, hb3⟩
  unfold bitsV
  have HB3 := Lib.hid (below_then HB2.out hb3)
  have HZ3 := Lib.hid (below_heap hb3 HZ2.out)
  have HWC := Lib.hid (And.intro hw hv)
  clear hb3 hw hv HB2 HZ2 HAND
  have z0 := cell_of_heap HZ3.out 0
  have z1 := cell_of_heap HZ3.out 1
  have z2 := cell_of_heap HZ3.out 2
  have z3 := cell_of_heap HZ3.out 3
  have f0 := free_of_heap HZ3.out 0
  have f1 := free_of_heap HZ3.out 1
  have f2 := free_of_heap HZ3.out 2
  have f3 := free_of_heap HZ3.out 3
  simp at z0 z1 z2 z3
  go_wp2
  obtain ⟨W2, hW2, k1, k2, k3, k4⟩ := sto4 HZ3.out (.int .u64 (c0 : Nat)) (.int .u64 (c1 : Nat)) (.int .u64 (c2 : Nat)) (.int .u64 (c3 : Nat))
  rw [← hW2]
  exact bodyPost_ret (results_cell rfl _ _ (w.heap.size + 1) 24 _ _ _ rfl k1 Tryz.underlying24 rfl (by kernel_rfl)) rfl ⟨c0, c1, c2, c3, HWC.out.1, HWC.out.2, rfl, k4 _ _ (Nat.le_succ _) HB3.out⟩
set_option maxRecDepth 10000 in
set_option maxHeartbeats 1000000 in
theorem bof1_calls (w : World) : Calls Tryz.prog 64 #[.int .i64 1] w fun e w' => e = .returned (.agg #[.int .u64 1, .int .u64 0, .int .u64 0, .int .u64 0]) ∧ Below w.heap.size w w' := by
  have hz0 := heap_new w (.cells #[.int .u64 1, .int .u64 0, .int .u64 0, .int .u64 0] 24)
  go_enter Tryz.func64, Tryz.ntmps64
  go_wp2
  exact bodyPost_ret (results_cell rfl _ _ w.heap.size 24 _ _ _ rfl hz0 Tryz.underlying24 rfl (by kernel_rfl)) rfl ⟨rfl, below_alloc (Below.refl _ _) _⟩
end Go.Proofs.YtpodpdopgdkdkaaGreatDoor
namespace Go.Proofs.YtpodpdopgdkdkaaGreatDoor
set_option linter.unusedVariables false
set_option linter.unusedSimpArgs false
open Go.RowKit
set_option maxRecDepth 10000 in
set_option maxHeartbeats 2000000 in
/-- Lay(b, 1, at). -/
theorem blay1_calls (w : World) (b0 b1 b2 b3 : Nat) (hx : W64 [b0, b1, b2, b3]) (at0 : Nat) (ha : at0 < 256) :
    Calls Tryz.prog 63 #[bitsV b0 b1 b2 b3, .agg #[.int .u64 1, .int .u64 0, .int .u64 0, .int .u64 0], .int .i64 (at0 : Nat)] w (BitsRes w (val [b0, b1, b2, b3] ||| 2 ^ at0)) := by
  have HX := Lib.hid hx
  have HSH := Lib.hid (fun W => limShl1_calls W at0 ha)
  unfold bitsV
  obtain ⟨V, hV⟩ : ∃ V, val [b0, b1, b2, b3] = V := ⟨_, rfl⟩
  have HV := Lib.hid hV
  rw [hV]
  have H3 := Lib.hid (three_new w 24 24 24 [b0, b1, b2, b3] [1, 0, 0, 0] [0, 0, 0, 0] (.cells #[.int .u64 (b0 : Nat), .int .u64 (b1 : Nat), .int .u64 (b2 : Nat), .int .u64 (b3 : Nat)] 24) (.cells #[.int .u64 1, .int .u64 0, .int .u64 0, .int .u64 0] 24) (.cells #[.int .u64 0, .int .u64 0, .int .u64 0, .int .u64 0] 24) rfl rfl rfl)
  clear hx hV
  go_enter Tryz.func63, Tryz.ntmps63
  go_wp2_with fail
  generalize (((w.alloc (.cells #[.int .u64 (b0 : Nat), .int .u64 (b1 : Nat), .int .u64 (b2 : Nat), .int .u64 (b3 : Nat)] 24)).alloc (.cells #[.int .u64 1, .int .u64 0, .int .u64 0, .int .u64 0] 24)).alloc (.cells #[.int .u64 0, .int .u64 0, .int .u64 0, .int .u64 0] 24)) = W0 at H3 ⊢
  have x0 : W0.cell? ⟨w.heap.size, 0, none⟩ = some (.int .u64 b0) := H3.out.1.cell 0 (by simp)
  have x1 : W0.cell? ⟨w.heap.size, 1, none⟩ = some (.int .u64 b1) := H3.out.1.cell 1 (by simp)
  have x2 : W0.cell? ⟨w.heap.size, 2, none⟩ = some (.int .u64 b2) := H3.out.1.cell 2 (by simp)
  have x3 : W0.cell? ⟨w.heap.size, 3, none⟩ = some (.int .u64 b3) := H3.out.1.cell 3 (by simp)
  have y0 : W0.cell? ⟨w.heap.size + 1, 0, none⟩ = some (.int .u64 1) := H3.out.2.1.cell 0 (by simp)
  have y1 : W0.cell? ⟨w.heap.size + 1, 1, none⟩ = some (.int .u64 0) := H3.out.2.1.cell 1 (by simp)
  have y2 : W0.cell? ⟨w.heap.size + 1, 2, none⟩ = some (.int .u64 0) := H3.out.2.1.cell 2 (by simp)
  have y3 : W0.cell? ⟨w.heap.size + 1, 3, none⟩ = some (.int .u64 0) := H3.out.2.1.cell 3 (by simp)
  go_region_with (first
    | (go_at_call 110; go_must (refine (HSH.out _).mono ?_); go_must (rintro e w1 ⟨s0, s1, s2, s3, hsw, hsv, rfl, hb1⟩); go_must (unfold bitsV); have hbv := (⟨hb1.os, hb1.tape, hb1.output, hb1.size, hb1.block⟩ : Below W0.heap.size W0 w1); have HA1 := Lib.hid (H3.out.1.keep hbv); have x0 : w1.cell? ⟨w.heap.size, 0, none⟩ = some (.int .u64 b0) := HA1.out.cell 0 (by simp); have x1 : w1.cell? ⟨w.heap.size, 1, none⟩ = some (.int .u64 b1) := HA1.out.cell 1 (by simp); have x2 : w1.cell? ⟨w.heap.size, 2, none⟩ = some (.int .u64 b2) := HA1.out.cell 2 (by simp); have x3 : w1.cell? ⟨w.heap.size, 3, none⟩ = some (.int .u64 b3) := HA1.out.cell 3 (by simp); have HSW := Lib.hid hsw; have HSV := Lib.hid hsv; have HBB := Lib.hid (below_then H3.out.2.2.2 hbv); have HZ1 := Lib.hid (H3.out.2.2.1.keep hbv); clear hsw hsv hb1 hbv)
    | (go_at_call 109; go_must (refine (borA_calls _ b0 b1 b2 b3 s0 s1 s2 s3 HX.out HSW.out).mono ?_); go_must (rintro e w2 ⟨c0, c1, c2, c3, hw, hv, rfl, hb2⟩); go_must (unfold bitsV); have HZ2 := Lib.hid (HZ1.out.keep hb2); have z0 : w2.cell? ⟨w.heap.size + 1 + 1, 0, none⟩ = some (.int .u64 0) := HZ2.out.cell 0 (by simp); have z1 : w2.cell? ⟨w.heap.size + 1 + 1, 1, none⟩ = some (.int .u64 0) := HZ2.out.cell 1 (by simp); have z2 : w2.cell? ⟨w.heap.size + 1 + 1, 2, none⟩ = some (.int .u64 0) := HZ2.out.cell 2 (by simp); have z3 : w2.cell? ⟨w.heap.size + 1 + 1, 3, none⟩ = some (.int .u64 0) := HZ2.out.cell 3 (by simp); have f0 := HZ2.out.free 0; have f1 := HZ2.out.free 1; have f2 := HZ2.out.free 2; have f3 := HZ2.out.free 3; have HB2 := Lib.hid (below_then HBB.out hb2); have HWC := Lib.hid (And.intro hw hv); clear hw hv hb2))
  all_goals
    go_wp2
    obtain ⟨W2, hW2, k1, k2, k3, k4⟩ := sto4 HZ2.out (.int .u64 (c0 : Nat)) (.int .u64 (c1 : Nat)) (.int .u64 (c2 : Nat)) (.int .u64 (c3 : Nat))
    rw [← hW2]
    exact bodyPost_ret (results_cell rfl _ _ (w.heap.size + 1 + 1) 24 _ _ _ rfl k1 Tryz.underlying24 rfl (by kernel_rfl)) rfl ⟨c0, c1, c2, c3, HWC.out.1, by rw [HWC.out.2, HV.out, HSV.out], rfl, k4 _ _ (by omega) HB2.out⟩
end Go.Proofs.YtpodpdopgdkdkaaGreatDoor
