/- The contract of the reference's Right. -/
import Derived.Test.YtoikoeileilegaaDoorLongMath
import Derived.Test.YtoikoeileilegaaDoorRefShift
namespace Go.Proofs.YtoikoeileilegaaDoor
open Go.RowKit
theorem OwnW.plain {B : Nat} {w : World} {a : Option Addr} {len cap : Nat} {xs : List Nat} (h : OwnW B w a len cap xs) : Plain a := by
  rcases h.words with ⟨rfl, _, _, _⟩ | ⟨g, rfl, _, _⟩
  · exact .inl rfl
  · exact .inr ⟨_, _, rfl⟩
/-- A natural number that the call has made, and whether something went out. -/
def goneB (n : Nat) : Bool := decide (n ≠ 0)
theorem goneB_zero : goneB 0 = false := rfl
theorem goneB_pos {n : Nat} (h : n ≠ 0) : goneB n = true := by unfold goneB; simp; exact h
theorem gone_more {a b : Nat} (h : b ≠ 0) {P : Nat} (hP : 0 < P) : goneB (a + P * b) = true := goneB_pos (by have := Nat.mul_pos hP (Nat.pos_of_ne_zero h); omega)
set_option maxRecDepth 10000 in
set_option maxHeartbeats 2000000 in
theorem right_calls (w : World) (a : Option Addr) (la ca : Nat) (xs : List Nat) (n : Nat) (ha : SlW w a la ca xs) (sa : la ≤ 4398046511104) (hn : n / 64 ≤ la) :
    Calls Tryd.prog 46 #[.slice a la ca, .int .i64 (n : Nat)] w (NatRes2 w (val xs / 2 ^ n) la (.bool (goneB (val xs % 2 ^ n)))) := by
  have m1 := ha.hle
  have m2 := ha.hmax
  have HX := Lib.hid ha.hw
  have HA := Lib.hid ha
  clear ha
  obtain ⟨q, hq⟩ : ∃ q, n / 64 = q := ⟨_, rfl⟩
  obtain ⟨s, hs⟩ : ∃ s, n % 64 = s := ⟨_, rfl⟩
  have hs64 : s < 64 := by omega
  have HNQ : Hid (n = 64 * q + s) := Lib.hid (by omega)
  have hqi : (n : Int) / 64 = (q : Nat) := by omega
  have hsi : (n : Int) % 64 = (s : Nat) := by omega
  have hnb : n ≤ 1000000000000000 := by omega
  rw [hq] at hn
  clear hq hs
  have i5 : IntKind.u64.wrap (s : Int) = (s : Nat) := wrapS (by unfold B64; omega)
  have i6 : min s 64 = s := by omega
  go_enter Tryd.func46, Tryd.ntmps46
  go_wp2_with fail
  try rw [hqi]
  try rw [hsi]
  go_loop [13, 6] (fun i gn => ∃ t : Nat, t ≤ la ∧ i = .int .i64 t ∧ gn = .bool (goneB (goneN xs q s t))) (fun i _ => la - (intOf i).toNat)
  case atStart => exact ⟨0, by omega, rfl, by rw [goneN_zero]; rfl⟩
  case round =>
    obtain ⟨t, ht, rfl, rfl⟩ := hrel
    by_cases hlt : t < la
    · obtain ⟨p, o, rfl, hx⟩ := HA.out.wcell t hlt
      rcases Nat.lt_trichotomy t q with hc | hc | hc
      · have HG := Lib.hid (goneN_below (xs := xs) (s := s) hc)
        by_cases hz : wd xs t = 0
        · rw [hz] at hx HG
          clear hz
          have HG2 : Hid (goneN xs q s (t + 1) = goneN xs q s t) := Lib.hid HG.out
          clear HG
          go_wp2
          go_round
          case rel => exact ⟨t + 1, by omega, by go_num, by rw [HG2.out]⟩
          case measure => simp [intOf]; omega
        · have HG2 : Hid (goneB (goneN xs q s (t + 1)) = true) := Lib.hid (by rw [HG.out]; exact gone_more hz (Nat.pow_pos (by decide)))
          generalize wd xs t = X at hx hz
          have hX0 : (((X : Nat) : Int) == 0) = false := by simp; exact hz
          have hX1 : (((X : Nat) : Int) != 0) = true := by simp; exact hz
          clear HG hz
          go_wp2
          go_round
          case rel => exact ⟨t + 1, by omega, by go_num, by rw [HG2.out]⟩
          case measure => simp [intOf]; omega
      · subst hc
        have HG := Lib.hid (goneN_at (xs := xs) (q := t) (s := s))
        by_cases hz : wd xs t % 2 ^ s = 0
        · have k3 := mask_and0 hs64 (wd_lt HX.out t) hz
          rw [hz] at HG
          clear hz
          have HG2 : Hid (goneN xs t s (t + 1) = goneN xs t s t) := Lib.hid HG.out
          clear HG
          go_wp2
          go_round
          case rel => exact ⟨t + 1, by omega, by go_num, by rw [HG2.out]⟩
          case measure => simp [intOf]; omega
        · have HG2 : Hid (goneB (goneN xs t s (t + 1)) = true) := Lib.hid (by rw [HG.out]; exact gone_more hz (Nat.pow_pos (by decide)))
          have k3 := mask_and hs64 (wd_lt HX.out t)
          generalize wd xs t % 2 ^ s = X at k3 hz
          have hX0 : (((X : Nat) : Int) == 0) = false := by simp; exact hz
          have hX1 : (((X : Nat) : Int) != 0) = true := by simp; exact hz
          clear HG hz
          go_wp2
          go_round
          case rel => exact ⟨t + 1, by omega, by go_num, by rw [HG2.out]⟩
          case measure => simp [intOf]; omega
      · have HG := Lib.hid (goneN_above (xs := xs) (s := s) hc)
        have c1 : ((t : Int) == (q : Int)) = false := by simp; omega
        go_wp2
        go_round
        case rel => exact ⟨t + 1, by omega, by go_num, by rw [HG.out]⟩
        case measure => simp [intOf]; omega
    · have hte : la = t := by omega
      subst hte
      have HG := Lib.hid (goneN_end (q := q) (s := s) HX.out (by omega) (by rw [HA.out.hlen]; exact Nat.le_refl _))
      rw [← HNQ.out] at HG
      rw [HG.out]
      obtain ⟨gb, hgb⟩ : ∃ b, goneB (val xs % 2 ^ n) = b := ⟨_, rfl⟩
      rw [hgb]
      have HGB := Lib.hid hgb
      clear HG hgb
      go_wp2_with fail
      go_loopw [9, 8] (fun i o wr => ∃ (u c : Nat) (zs : List Nat) (oa : Option Addr), q + u ≤ la ∧ i = .int .i64 ((q + u : Nat) : Int) ∧ o = .slice oa u c ∧ OwnW w.heap.size wr oa u c zs ∧ val zs * 2 ^ s + wd xs q % 2 ^ s = valTo (xs.drop q) u + B64 ^ u * (wd xs (q + u) % 2 ^ s) ∧ Below w.heap.size w wr) (fun i _ _ => la - (intOf i).toNat)
      case atStart => exact ⟨0, 0, [], none, by omega, by first | rfl | go_num, rfl, ownW_nil _ _, by simp [val, valTo], Below.refl _ _⟩
      case round =>
        obtain ⟨u, c, zs, oa, hu, rfl, rfl, ho, hv, hb⟩ := hrel
        have HO := Lib.hid ho
        have HV := Lib.hid hv
        have HBR := Lib.hid hb
        obtain ⟨t, ht⟩ : ∃ t, q + u = t := ⟨_, rfl⟩
        rw [ht] at hu ⊢
        have HT := Lib.hid ht
        have hut : u ≤ t := by omega
        clear ho hv hb ht
        by_cases hlt : t < la
        · obtain ⟨p, o, rfl, hx⟩ := HA.out.wcell t hlt
          have hxr : wr.cell? ⟨p, o + t, none⟩ = some (.int .u64 ((wd xs t : Nat) : Int)) := by rw [HBR.out.cell (World.block_lt_of_cell? w _ hx)]; exact hx
          clear hx
          have k4 := shr_cast s (wd xs t)
          have k5 := bits_shr (s := s) (y := wd xs (t + 1)) (by omega) (wd_lt HX.out t)
          have HS := Lib.hid (shr_step (s := s) (by omega) HV.out (HO.out.hlen))
          have HSL := Lib.hid (shrW_lt (s := s) (y := wd xs (t + 1)) (by omega) (wd_lt HX.out t))
          have hwo := word_of (HA.out.below HBR.out) (t + 1)
          rw [show ((t + 1 : Nat) : Int) = (t : Int) + 1 from rfl] at hwo
          have HWO := Lib.hid hwo
          clear hwo
          have i7 : (64 : Int) - (s : Int) = ((64 - s : Nat) : Int) := by omega
          have i8 : IntKind.u64.wrap ((64 - s : Nat) : Int) = ((64 - s : Nat) : Int) := wrapS (by unfold B64; omega)
          have i9 : min (64 - s) 64 = 64 - s := by omega
          rw [HT.out] at HS
          by_cases hs0 : 0 < s
          · go_wp2_with fail
            refine HWO.out.mono ?_
            rintro e w' ⟨rfl, rfl⟩
            go_wp2_with ((with_reducible refine gate_append 22 ?_); go_must (refine app_words (w0 := w) (HBR.out.alloc HBR.out.size _) (HO.out.keep ((Below.refl _ _).alloc (Nat.le_refl _) _)) ((one_word wr (shrW s (wd xs t) (wd xs (t + 1)))).slAll (N := 1) (w64_one HSL.out) rfl (by omega)) (.inr ⟨_, _, rfl⟩) (by omega) (fun W a' c' hbW hoW => ?_)); have HBW := Lib.hid hbW; have HOW := Lib.hid hoW; clear hbW hoW)
            go_roundw
            case rel => exact ⟨u + 1, c', zs ++ [shrW s (wd xs t) (wd xs (t + 1))], a', by have := HT.out; omega, by have := HT.out; first | rfl | (rw [show q + (u + 1) = t + 1 by omega]; go_num), by first | rfl | go_num, HOW.out, by have h9 := HS.out; rw [show q + (u + 1) = t + 1 by have := HT.out; omega]; exact h9, HBW.out⟩
            case measure => simp [intOf]; omega
          · have hs1 : s = 0 := by omega
            have k6 : srS s (wd xs t) = shrW s (wd xs t) (wd xs (t + 1)) := by subst hs1; exact shrW_zero
            rw [k6] at k4
            clear k6 hs1 k5
            go_wp2_with ((with_reducible refine gate_append 22 ?_); refine app_words (w0 := w) (HBR.out.alloc HBR.out.size _) (HO.out.keep ((Below.refl _ _).alloc (Nat.le_refl _) _)) ((one_word wr (shrW s (wd xs t) (wd xs (t + 1)))).slAll (N := 1) (w64_one HSL.out) rfl (by omega)) (.inr ⟨_, _, rfl⟩) (by omega) (fun W a' c' hbW hoW => ?_); have HBW := Lib.hid hbW; have HOW := Lib.hid hoW; clear hbW hoW)
            go_roundw
            case rel => exact ⟨u + 1, c', zs ++ [shrW s (wd xs t) (wd xs (t + 1))], a', by have := HT.out; omega, by have := HT.out; first | rfl | (rw [show q + (u + 1) = t + 1 by omega]; go_num), by first | rfl | go_num, HOW.out, by have h9 := HS.out; rw [show q + (u + 1) = t + 1 by have := HT.out; omega]; exact h9, HBW.out⟩
            case measure => simp [intOf]; omega
        · have hte : la = t := by omega
          subst hte
          have HN : Hid (val zs = val xs / 2 ^ n) := Lib.hid (by rw [HNQ.out]; exact shr_end HX.out (by omega) HV.out (by rw [HA.out.hlen, HT.out]; exact Nat.le_refl _))
          go_wp2_with fail
          refine (refTrim_calls wr oa u c zs HO.out.sl HO.out.plain (by omega)).mono ?_
          rintro e w2 hr
          have hr2 := natRes_trans HBR.out (hr.le (bd' := la) (by omega))
          rw [HN.out] at hr2
          obtain ⟨a', c', rs, rfl, r1, r2, r3, r4, r5⟩ := hr2
          have R := Lib.hid (And.intro r1 (And.intro r2 (And.intro r3 (And.intro r4 r5))))
          clear r1 r2 r3 r4 r5 hr
          go_wp2
          go_ret2
          rw [HGB.out]
          exact ⟨a', c', rs, rfl, R.out.1, R.out.2.1, R.out.2.2.1, R.out.2.2.2.1, R.out.2.2.2.2⟩
end Go.Proofs.YtoikoeileilegaaDoor
