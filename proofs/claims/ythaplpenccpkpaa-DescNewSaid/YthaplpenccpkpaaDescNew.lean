/- DescNew: the walk over the law. -/
import Derived.Test.YthaplpenccpkpaaDescPowers
namespace Go.Proofs.Ythaplpenccpkpaa
open Go.RowKit
set_option maxRecDepth 10000 in
set_option maxHeartbeats 1000000 in
theorem powerNil_calls (w : World) (n : Int) :
    Calls Try.prog 34 #[.pointer none, .int .i64 n] w fun e w' => e = .returned (.tuple #[.slice none 0 0, .int .i64 1]) ∧ w = w' := by
  go_enter Try.func34, Try.ntmps34
  go_wp2
  go_ret2
  exact ⟨rfl, rfl⟩
set_option maxRecDepth 10000 in
set_option maxHeartbeats 1000000 in
theorem greatestNil_calls (w : World) :
    Calls Try.prog 37 #[.pointer none] w fun e w' => e = .returned (.slice none 0 0) ∧ w = w' := by
  go_enter Try.func37, Try.ntmps37
  go_wp2
  go_ret
  exact ⟨rfl, rfl⟩
set_option maxRecDepth 10000 in
set_option maxHeartbeats 1000000 in
theorem madeNil_calls (w : World) :
    Calls Try.prog 40 #[.pointer none] w fun e w' => e = .returned (.int .i64 0) ∧ w = w' := by
  go_enter Try.func40, Try.ntmps40
  go_wp2
  go_ret
  exact ⟨rfl, rfl⟩
/-- A block whose first L cells are words of whatever value. -/
def IntsAt (w : World) (g L : Nat) : Prop := ∃ cur : Array Value, w.heap[g]? = some (.cells cur 59 (0, 0)) ∧ L ≤ cur.size ∧ ∀ i, i < L → ∃ z : Int, cur[i]? = some (.int .u64 z)
theorem IntsAt.cell {w : World} {g L : Nat} (h : IntsAt w g L) {i : Nat} (hi : i < L) : ∃ z : Int, w.cell? ⟨g, i, none⟩ = some (.int .u64 z) := by
  obtain ⟨cur, h1, _, h3⟩ := h
  obtain ⟨z, hz⟩ := h3 i hi
  exact ⟨z, by rw [cell_of_heap h1]; exact hz⟩
theorem IntsAt.free {w : World} {g L : Nat} (h : IntsAt w g L) (i : Nat) : w.frozen? ⟨g, i, none⟩ = false := by
  obtain ⟨cur, h1, _⟩ := h
  exact free_of_heap h1 i
theorem IntsAt.set {w : World} {g L : Nat} (h : IntsAt w g L) (i : Nat) (z : Int) : IntsAt (w.setCell ⟨g, i, none⟩ (.int .u64 z)) g L := by
  obtain ⟨cur, h1, h2, h3⟩ := h
  refine ⟨_, heap_set h1 i _, by simpa using h2, fun j hj => ?_⟩
  by_cases e : i = j
  · subst e
    exact ⟨z, by rw [Array.getElem?_setIfInBounds_self_of_lt (by omega)]⟩
  · rw [Array.getElem?_setIfInBounds_ne (by omega)]
    exact h3 j hj
theorem OwnW.ints {B : Nat} {w : World} {a : Option Addr} {len cap : Nat} {xs : List Nat} (h : OwnW B w a len cap xs) (h0 : val xs ≠ 0) :
    ∃ g, a = some ⟨g, 0, none⟩ ∧ B ≤ g ∧ IntsAt w g len ∧ len ≤ cap ∧ cap ≤ 9223372036854775807 := by
  have hle := h.sl.hle
  have hmx := h.sl.hmax
  have hl := h.sl.hlen
  rcases h.words with ⟨_, _, _, rfl⟩ | ⟨g, rfl, hB, ⟨⟨cur, hcu, hcs, hct⟩, hl2, hm⟩⟩
  · exact absurd rfl h0
  · refine ⟨g, rfl, hB, ⟨cur, hcu, by omega, fun i hi => ⟨((wd xs i : Nat) : Int), ?_⟩⟩, hle, by unfold maxLen at hm; omega⟩
    have e : (cur.toList.take xs.length)[i]? = some (wv (wd xs i)) := by
      rw [hct, List.getElem?_map, List.getElem?_eq_getElem (by omega)]
      simp [wd, List.getD_eq_getElem?_getD, List.getElem?_eq_getElem (show i < xs.length by omega)]
    rw [List.getElem?_take, if_pos (by omega), Array.getElem?_toList] at e
    exact e
theorem size_pos (w : World) (a : Option Addr) (len cap : Nat) (xs : List Nat) (h : SlW w a len cap xs) (h0 : val xs ≠ 0) :
    Calls Try.prog 41 #[.slice a len cap] w fun e w' => ∃ s : Int, e = .returned (.int .i64 s) ∧ 0 < s ∧ w = w' := by
  refine (refSize_calls w a len cap xs h).mono ?_
  rintro e w' ⟨rfl, rfl⟩
  have : sz xs ≠ 0 := fun e => h0 (sz_zero.1 e)
  exact ⟨_, rfl, by omega, rfl⟩
theorem fmt_pos (n : Nat) (h1 : 1 ≤ n) (h2 : n ≤ 12) (p : Nat) (h : (infF (n : Nat))[4]? = some (.int .i64 (p : Nat))) : 1 ≤ p := by
  have H : ∀ q : Nat, 1 ≤ q → (infF (n : Nat))[4]? = some (.int .i64 (q : Nat)) → 1 ≤ p := fun q hq e => by
    rw [h] at e
    simp only [Option.some.injEq, Value.int.injEq, true_and, Int.natCast_inj] at e
    omega
  have hn : n = 1 ∨ n = 2 ∨ n = 3 ∨ n = 4 ∨ n = 5 ∨ n = 6 ∨ n = 7 ∨ n = 8 ∨ n = 9 ∨ n = 10 ∨ n = 11 ∨ n = 12 := by omega
  rcases hn with rfl | rfl | rfl | rfl | rfl | rfl | rfl | rfl | rfl | rfl | rfl | rfl
  · exact H 11 (by decide) rfl
  · exact H 8 (by decide) rfl
  · exact H 24 (by decide) rfl
  · exact H 53 (by decide) rfl
  · exact H 113 (by decide) rfl
  · exact H 241 (by decide) rfl
  · exact H 7 (by decide) rfl
  · exact H 16 (by decide) rfl
  · exact H 34 (by decide) rfl
  · exact H 7 (by decide) rfl
  · exact H 16 (by decide) rfl
  · exact H 34 (by decide) rfl
theorem pow_ok (b n : Nat) (hb : b = 5 ∨ b = 10) (hn : n ≤ 255) : powVal (b : Nat) (n : Nat) ≠ 0 := by
  have hok : ¬ powOk b (n : Nat) = false := by unfold powOk; rcases hb with rfl | rfl <;> simp
  unfold powVal
  rw [if_neg hok, if_neg (by omega), Int.toNat_natCast, Int.toNat_natCast]
  have := Nat.pow_pos (n := n) (show 0 < b by omega)
  omega
set_option maxRecDepth 100000 in
set_option maxHeartbeats 4000000 in
theorem new_calls (w : World) (q n : Nat) (hq : q ≤ 255) (hn : n ≤ 255) :
    Calls Try.prog 12 #[.int .u8 (q : Nat), .int .u8 (n : Nat)] w fun e w' => e = .returned (.bool true) ∧ Below w.heap.size w w' := by
  obtain ⟨k, hk⟩ : ∃ k, 1 + q % 12 = k := ⟨_, rfl⟩
  obtain ⟨p, bb, tb, hp, hbb, hbt, htb, c2, c4, hnew⟩ := fmt_says k (by omega) (by omega)
  have hp1 := fmt_pos k (by omega) (by omega) p c4
  have HNEW : Hid (∀ w (z : Int), z = (k : Nat) → Calls Try.prog 33 #[.int .i64 z] w fun e w' => ∃ g, e = .returned (.pointer (some ⟨g, 0, none⟩)) ∧ w.heap.size ≤ g ∧ PowNew w' g (if tb then 10 else 5) p ∧ Below w.heap.size w w') := Lib.hid (fun w z e => by subst e; exact hnew w)
  have HK : Hid ((1 : Int) + (q : Int) % 12 = (k : Nat)) := Lib.hid (by omega)
  obtain ⟨b0, hb0⟩ : ∃ b0 : Nat, (if tb then 10 else 5) = b0 := ⟨_, rfl⟩
  have HB0 := Lib.hid hb0
  rw [hb0] at HNEW
  have hb5 : b0 = 5 ∨ b0 = 10 := by rw [← hb0]; split <;> decide
  have HB5 := Lib.hid hb5
  have HV0 := Lib.hid (pow_ok b0 n hb5 hn)
  have HG0 : Hid (bb ^ p - 1 ≠ 0) := Lib.hid (by
    have : 2 ^ p ≤ bb ^ p := Nat.pow_le_pow_left (by omega) p
    have : 2 ^ 1 ≤ 2 ^ p := Nat.pow_le_pow_right (by decide) hp1
    omega)
  have HMF : Hid (∀ (w0 w : World) (g : Nat), Below w0.heap.size w0 w → w0.heap.size ≤ g → PowNew w g b0 p →
      Calls Try.prog 34 #[.pointer (some ⟨g, 0, none⟩), .int .i64 (n : Nat)] w fun e w' => ∃ wm, PowMade w0.heap.size wm g b0 p bb 1 0 1 ∧ Below w0.heap.size w0 wm ∧ NatRes2 wm (powVal b0 (n : Nat)) ((n : Int).toNat + 400) (.int .i64 (powErr b0 (n : Nat))) e w') :=
    Lib.hid (fun w0 w g h1 h2 h3 => power_any w0.heap.size w g b0 p bb hb5 (n : Nat) (by omega) (by omega) (fun w' => Below w0.heap.size w0 w') ((make_first 28 (by decide) (by decide) w0 w g b0 p bb tb (by omega) (by rw [← hb0]; cases tb <;> rfl) hbt hp h1 h2 h3).mono fun e w' hh => ⟨hh.1, hh.2.1, hh.2.2.1⟩))
  have HPW : Hid (∀ (B : Nat) (w w1 : World) (g : Nat), PowMade B w g b0 p bb 1 0 1 → Below w.heap.size w w1 → Calls Try.prog 34 #[.pointer (some ⟨g, 0, none⟩), .int .i64 (n : Nat)] w1 (NatRes2 w1 (powVal b0 (n : Nat)) ((n : Int).toNat + 400) (.int .i64 (powErr b0 (n : Nat))))) :=
    Lib.hid (fun B w w1 g h1 h2 => power_made B w w1 g b0 p bb hb5 (n : Nat) (by omega) (by omega) h1 h2)
  have HGR : Hid (∀ (B : Nat) (w w1 : World) (g : Nat), PowMade B w g b0 p bb 1 0 1 → Below w.heap.size w w1 → Calls Try.prog 37 #[.pointer (some ⟨g, 0, none⟩)] w1 (NatRes w1 (bb ^ p - 1) 400)) :=
    Lib.hid (fun B w w1 g h1 h2 => greatest_made B w w1 g b0 p bb h1 h2)
  generalize powVal b0 (n : Nat) = V at HV0 HMF HPW
  generalize powErr b0 (n : Nat) = E at HMF HPW
  generalize bb ^ p - 1 = G0 at HG0 HGR
  obtain ⟨bd, hbd⟩ : ∃ bd, (n : Int).toNat + 400 = bd := ⟨_, rfl⟩
  have hbd2 : bd ≤ 1000 := by omega
  rw [hbd] at HMF HPW
  clear hnew hbb hbt htb c2 c4 hb0 hb5 hp1 hbd hk
  go_enter Try.func12, Try.ntmps12
  go_wp2_with fail
  refine (awake04_calls _).mono ?_
  rintro e w1 ⟨rfl, hb1⟩
  have HB1 := Lib.hid hb1
  clear hb1
  go_wp2_with fail
  refine (powerNil_calls _ _).mono ?_
  rintro e w1x ⟨rfl, rfl⟩
  go_wp2_with fail
  refine (HNEW.out _ _ (by first | exact HK.out | (rw [← HK.out]; rfl))).mono ?_
  rintro e w2 ⟨g, rfl, hg, hN, hb2⟩
  have hg0 : w.heap.size ≤ g := Nat.le_trans HB1.out.size hg
  have HB2 := Lib.hid (below_then HB1.out hb2)
  have HN := Lib.hid hN
  clear hN hb2 HB1
  go_wp2_with fail
  refine (HMF.out w _ g HB2.out hg0 HN.out).mono ?_
  rintro e w5 ⟨wm, hpm, hbm, a1, cp1, z1, rfl, r1, r2, r3, r4, r5⟩
  obtain ⟨g1, rfl, hg1, hI, hle1, hmx1⟩ := r1.ints (by rw [r2]; exact HV0.out)
  have HPM := Lib.hid hpm
  have HBM := Lib.hid hbm
  have H5 := Lib.hid (And.intro hI r5)
  have hl1 : z1.length ≤ 1000 := by omega
  generalize z1.length = l1 at *
  clear r1 r2 r3 r4 r5 hpm hbm hI HN HB2
  go_wp2_with fail
  go_loopw [41] (fun i wr => ∃ k : Nat, k ≤ l1 ∧ i = .int .i64 k ∧ IntsAt wr g1 l1 ∧ Below wm.heap.size wm wr) (fun i _ => l1 - (intOf i).toNat)
  case atStart => exact ⟨0, by omega, rfl, H5.out.1, H5.out.2⟩
  case round =>
    obtain ⟨i, hi, rfl, hI, hB⟩ := hrel
    have HI := Lib.hid hI
    have HB := Lib.hid hB
    clear hI hB H5
    by_cases hlt : i < l1
    · obtain ⟨z, hz⟩ := HI.out.cell hlt
      have hf := HI.out.free i
      go_wp2
      go_roundw
      case rel => exact ⟨i + 1, by omega, by go_num, HI.out.set i _, HB.out.setCell hg1 _⟩
      case measure => simp [intOf]; omega
    · obtain rfl : i = l1 := by omega
      have HP1 := Lib.hid (HGR.out w.heap.size wm wr g HPM.out HB.out)
      have HPM1 := Lib.hid (HPM.out.keep HB.out)
      have HBW := Lib.hid (below_then HBM.out HB.out)
      clear HI HPM HBM HB
      generalize wr = wo at *
      go_wp2_with fail
      refine HP1.out.mono ?_
      rintro e w6 ⟨a2, cp2, z2, rfl, r1, r2, r3, r4, r5⟩
      obtain ⟨g2, rfl, hg2, hI2, hle2, hmx2⟩ := r1.ints (by rw [r2]; exact HG0.out)
      have H6 := Lib.hid (And.intro hI2 r5)
      have hl2 : z2.length ≤ 1000 := by omega
      generalize z2.length = l2 at *
      clear r1 r2 r3 r4 r5 hI2 HP1
      go_wp2_with fail
      go_loopw [55] (fun i wq => ∃ k : Nat, k ≤ l2 ∧ i = .int .i64 k ∧ IntsAt wq g2 l2 ∧ Below wo.heap.size wo wq) (fun i _ => l2 - (intOf i).toNat)
      case atStart => exact ⟨0, by omega, rfl, H6.out.1, H6.out.2⟩
      case round =>
        obtain ⟨j, hj, rfl, hI, hB⟩ := hrel
        have HI := Lib.hid hI
        have HB := Lib.hid hB
        clear hI hB H6
        by_cases hlt2 : j < l2
        · obtain ⟨z, hz⟩ := HI.out.cell hlt2
          have hf := HI.out.free j
          go_wp2
          go_roundw
          case rel => exact ⟨j + 1, by omega, by go_num, HI.out.set j _, HB.out.setCell hg2 _⟩
          case measure => simp [intOf]; omega
        · obtain rfl : j = l2 := by omega
          have HPM2 := Lib.hid (HPM1.out.keep HB.out)
          have HBQ := Lib.hid (below_then HBW.out HB.out)
          have HY := Lib.hid (HPW.out w.heap.size wr wr g HPM2.out (Below.refl _ _))
          clear HI HPM1 HBW HB HPW
          go_wp2_with fail
          refine HY.out.mono ?_
          rintro e w9 ⟨a3, cp3, z3, rfl, r1, r2, r3, r4, r5⟩
          have HPM3 := Lib.hid (HPM2.out.keep r5)
          have HB9 := Lib.hid (below_then HBQ.out r5)
          have HY3 := Lib.hid (And.intro r1 r2)
          have hl3 : z3.length ≤ 1000 := by omega
          clear r1 r2 r3 r4 r5 HPM2 HBQ HY
          go_wp2_with fail
          refine (HNEW.out _ _ (by first | exact HK.out | (rw [← HK.out]; rfl))).mono ?_
          rintro e w10 ⟨g5, rfl, hg5, hN5, hb10⟩
          have HZ := Lib.hid (HMF.out w9 _ g5 hb10 hg5 hN5)
          clear hg5 hN5 hb10 HNEW HMF
          go_wp2_with fail
          refine HZ.out.mono ?_
          rintro e w11 ⟨wn, _, hbn, a4, cp4, z4, rfl, r1, r2, r3, r4, r5⟩
          have HK9 := Lib.hid (below_then hbn r5)
          have HPM4 := Lib.hid (HPM3.out.keep HK9.out)
          have HB11 := Lib.hid (below_then HB9.out HK9.out)
          have HSM : Hid (∀ w', Below w11.heap.size w11 w' → Calls Try.prog 36 #[.slice a3 z3.length cp3, .slice a4 z4.length cp4] w' fun e w'' => e = .returned (.bool true) ∧ w' = w'') :=
            Lib.hid (fun w' hb => same_true w' a3 a4 _ cp3 _ cp4 z3 z4 ((HY3.out.1.keep HK9.out).keep hb).sl (r1.keep hb).sl (by rw [HY3.out.2, r2]))
          have HGM := Lib.hid (fun w' hb => HGR.out w.heap.size w11 w' g HPM4.out hb)
          generalize z3.length = l3 at *
          generalize z4.length = l4 at *
          clear r1 r2 r3 r4 r5 hbn HK9 HPM3 HB9 HY3 HGR HZ
          go_wp2_with fail
          refine (greatestNil_calls _).mono ?_
          rintro e wx ⟨rfl, rfl⟩
          go_wp2_with fail
          refine (madeNil_calls _).mono ?_
          rintro e wx ⟨rfl, rfl⟩
          go_wp2_with fail
          refine (HSM.out _ (Below.refl _ _)).mono ?_
          rintro e wx ⟨rfl, rfl⟩
          go_wp2_with fail
          refine (HGM.out _ (Below.refl _ _)).mono ?_
          rintro e w12 ⟨a5, cp5, z5, rfl, g1, g2, g3, g4, hb⟩
          have HSZ := Lib.hid (size_pos _ a5 _ cp5 z5 g1.sl (by rw [g2]; exact HG0.out))
          have HF := Lib.hid hb
          clear g1 g2 g3 g4 hb
          go_wp2_with fail
          refine HSZ.out.mono ?_
          rintro e wx ⟨s, rfl, hs, rfl⟩
          go_wp2
          go_ret
          exact ⟨rfl, below_then HB11.out HF.out⟩
theorem wf_u8n {n : Int} (h : (Lit.int .u8 n).wf = true) : ∃ k : Nat, n = k ∧ k ≤ 255 := by
  have e1 : IntKind.u8.min = 0 := rfl
  have e2 : IntKind.u8.max = 255 := rfl
  simp [Lit.wf, e1, e2] at h
  exact ⟨n.toNat, by omega, by omega⟩
theorem descNew_row (q n : Int) (w : World) (hq : (Lit.int .u8 q).wf = true) (hn : (Lit.int .u8 n).wf = true) :
    Calls Try.prog 12 #[.int .u8 q, .int .u8 n] w fun e w' => e = .returned (.bool true) ∧ Below w.heap.size w w' := by
  obtain ⟨j, rfl, hj⟩ := wf_u8n hq
  obtain ⟨k, rfl, hk⟩ := wf_u8n hn
  exact new_calls w j k hj hk
end Go.Proofs.Ythaplpenccpkpaa
