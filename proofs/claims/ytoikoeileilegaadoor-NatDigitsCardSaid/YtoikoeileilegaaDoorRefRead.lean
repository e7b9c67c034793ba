/- The contracts of the reference's IsDigits, Number, Read. -/
import Derived.Test.YtoikoeileilegaaDoorNatRead
namespace Go.Proofs.YtoikoeileilegaaDoor
open Go.RowKit
theorem take_snoc' (s : ByteArray) (k : Nat) (h : k < s.size) : s.data.toList.take (k + 1) = s.data.toList.take k ++ [s[k]] := by
  rw [List.take_succ_eq_append_getElem (by simpa using h)]; rfl
theorem digs_no {l : List UInt8} {k : Nat} {c : UInt8} (hc : l.take (k + 1) = l.take k ++ [c]) (h : isDig c = false) : digs l = false := by
  rcases hd : digs l with _ | _
  · rfl
  · have h1 := digs_take hd (k + 1)
    rw [hc] at h1
    have h2 := (digs_append.1 h1).2
    have h3 := (digs_cons.1 h2).1
    rw [h] at h3
    cases h3
set_option maxRecDepth 10000 in
set_option maxHeartbeats 1000000 in
theorem isDigits_calls (s : ByteArray) (w : World) (hs : s.size ≤ 140737488351232) :
    Calls Tryd.prog 66 #[.string s] w fun e w' => e = .returned (.bool (decide (0 < s.size) && digs s.data.toList)) ∧ w' = w := by
  go_enter Tryd.func66, Tryd.ntmps66
  go_wp2
  go_loop [3] (fun i => ∃ k : Nat, k ≤ s.size ∧ i = .int .i64 k ∧ digs (s.data.toList.take k) = true) (fun i => s.size - (intOf i).toNat)
  case atStart => exact ⟨0, Nat.zero_le _, rfl, rfl⟩
  case round =>
    obtain ⟨k, hk, rfl, hd⟩ := hrel
    have HD := Lib.hid hd
    clear hd
    by_cases hlt : k < s.size
    · have HTS := Lib.hid (take_snoc' s k hlt)
      rcases hc : isDig s[k] with _ | _
      · have HN := Lib.hid (digs_no HTS.out hc)
        have hc2 : ¬ (48 ≤ s[k].toNat ∧ s[k].toNat ≤ 57) := fun h => by rw [isDig_iff.2 h] at hc; cases hc
        have HF : Hid ((decide (0 < s.size) && digs s.data.toList) = false) := Lib.hid (by rw [HN.out, Bool.and_false])
        by_cases h1 : s[k].toNat < 48
        · clear hc hc2
          have h1i : (s[k].toNat : Int) < 48 := by omega
          go_wp2
          go_ret
          exact ⟨by rw [HF.out]; rfl, rfl⟩
        · have h2i : (57 : Int) < (s[k].toNat : Int) := by omega
          have h1i : ¬ (s[k].toNat : Int) < 48 := by omega
          clear hc hc2 h1
          go_wp2
          go_ret
          exact ⟨by rw [HF.out]; rfl, rfl⟩
      · obtain ⟨h1, h2⟩ := isDig_iff.1 hc
        have HC := Lib.hid hc
        clear hc
        go_wp2
        go_round
        case rel => exact ⟨k + 1, by omega, by go_num, by rw [HTS.out]; exact digs_append.2 ⟨HD.out, digs_cons.2 ⟨HC.out, rfl⟩⟩⟩
        case measure => simp [intOf]; omega
    · have hke : s.size = k := by omega
      have HF : Hid (digs s.data.toList = true) := Lib.hid (by have := HD.out; rw [← hke, List.take_of_length_le (by simp)] at this; exact this)
      clear hke
      go_wp2
      go_ret
      exact ⟨by rw [HF.out, Bool.and_true]; congr 2, rfl⟩
theorem num_step {l : List UInt8} {i k : Nat} (hq : i + k ≤ l.length) : dval (l.take i) * 10 ^ k + dval ((l.drop i).take k) = dval (l.take (i + k)) := by
  rw [List.take_add, dval_append, List.length_take, List.length_drop, Nat.min_eq_left (by omega)]
theorem chunk_snoc (s : ByteArray) (i k : Nat) (h : i + k < s.size) : (s.data.toList.drop i).take (k + 1) = (s.data.toList.drop i).take k ++ [s[i + k]] := by
  rw [List.take_succ_eq_append_getElem (by simp; omega)]
  congr 1
  simp
  rfl
theorem chunk_lt {l : List UInt8} (h : digs l = true) (i k : Nat) (hk : k ≤ 18) : dval ((l.drop i).take k) < 10 ^ 18 := by
  refine Nat.lt_of_lt_of_le (dval_lt (digs_take (digs_drop h i) k)) (Nat.pow_le_pow_right (by decide) ?_)
  rw [List.length_take]
  omega
set_option maxRecDepth 10000 in
set_option maxHeartbeats 1000000 in
theorem number_calls (s : ByteArray) (w : World) (hd : digs s.data.toList = true) (hs : s.size ≤ 1000000) :
    Calls Tryd.prog 67 #[.string s] w (NatRes w (dval s.data.toList) (s.size + 2)) := by
  have HDG := Lib.hid hd
  have hll : s.data.toList.length = s.size := by simp
  have HLL := Lib.hid hll
  clear hll
  have HMEM : Hid (∀ j (h : j < s.size), isDig s[j] = true) := Lib.hid fun j h => by
    have := chunk_snoc s j 0 (by omega)
    have h2 := digs_take (digs_drop hd j) 1
    rw [this] at h2
    simpa [digs] using h2
  clear hd
  go_enter Tryd.func67, Tryd.ntmps67
  obtain ⟨c18, hc18⟩ : ∃ c : Int, c = 1000000000000000000 := ⟨_, rfl⟩
  rw [← hc18]
  have HC18 := Lib.hid hc18
  clear hc18
  go_wp2_with fail
  go_loopw [4, 3] (fun iv ov wr => ∃ (i : Nat) (a : Option Addr) (c : Nat) (zs : List Nat), i ≤ s.size ∧ iv = .int .i64 i ∧ ov = .slice a zs.length c ∧ OwnW w.heap.size wr a zs.length c zs ∧ sz zs = zs.length ∧ val zs = dval (s.data.toList.take i) ∧ Below w.heap.size w wr) (fun iv _ _ => s.size - (intOf iv).toNat)
  case atStart => exact ⟨0, some ⟨w.heap.size, 0, none⟩, 0, [], by omega, rfl, rfl, trim_empty w, rfl, rfl, (Below.refl _ _).alloc (Nat.le_refl _) _⟩
  case round =>
    obtain ⟨i, a, c, zs, hi, rfl, rfl, ho, hz, hv, hb⟩ := hrel
    have HO := Lib.hid ho
    have HZ := Lib.hid hz
    have HV := Lib.hid hv
    have HBR := Lib.hid hb
    have hzl : zs.length ≤ s.size + 1 := len_of_val hz (by rw [hv]; exact dval_words (digs_take HDG.out i) (by rw [List.length_take]; omega))
    clear ho hz hv hb
    by_cases hlt : i < s.size
    · go_wp2_with fail
      go_loop [4, 5, 6] (fun iv nv sv => ∃ (k u n sc : Nat), k ≤ 18 ∧ u ≤ s.size ∧ i + k = u ∧ iv = .int .i64 u ∧ nv = .int .u64 (n : Nat) ∧ sv = .int .u64 (sc : Nat) ∧ n = dval ((s.data.toList.drop i).take k) ∧ sc = 10 ^ k) (fun iv _ _ => s.size - (intOf iv).toNat)
      case atStart => exact ⟨0, i, 0, 1, by omega, by omega, rfl, rfl, rfl, rfl, by simp [dval_nil], rfl⟩
      case round =>
        obtain ⟨k, u, nv, sc, hk, hik, hu, rfl, rfl, rfl, hn, hsc⟩ := hrel
        have HN := Lib.hid hn
        have HSC := Lib.hid hsc
        have HU := Lib.hid hu
        have hnb : nv < 10 ^ 18 := by rw [hn]; exact chunk_lt HDG.out i k hk
        have hsb : sc ≤ 10 ^ 18 := by rw [hsc]; exact Nat.pow_le_pow_right (by decide) hk
        have HSB : Hid (sc < B64) := Lib.hid (by unfold B64; omega)
        have HNB : Hid (nv < B64) := Lib.hid (by unfold B64; omega)
        clear hn hsc hnb hsb
        by_cases hgo : u < s.size ∧ k < 18
        · obtain ⟨hus, hk18⟩ := hgo
          have hsl : (sc : Int) < c18 := by
            have h1 : sc < 10 ^ 18 := by rw [HSC.out]; exact Nat.pow_lt_pow_right (by decide) hk18
            rw [HC18.out]
            omega
          obtain ⟨h1, h2⟩ := isDig_iff.1 (HMEM.out u hus)
          have hcs := chunk_snoc s i k (by omega)
          obtain ⟨d, hd⟩ : ∃ d, s[u].toNat - 48 = d := ⟨_, rfl⟩
          have hdi : (s[u].toNat : Int) - 48 = (d : Nat) := by omega
          have hnb : nv < 10 ^ 17 := by
            rw [HN.out]
            refine Nat.lt_of_lt_of_le (dval_lt (digs_take (digs_drop HDG.out i) k)) (Nat.pow_le_pow_right (by decide) ?_)
            rw [List.length_take]
            omega
          obtain ⟨n1, hn1⟩ : ∃ n, 10 * nv = n := ⟨_, rfl⟩
          obtain ⟨n2, hn2⟩ : ∃ n, n1 + d = n := ⟨_, rfl⟩
          obtain ⟨sc2, hsc2⟩ : ∃ n, 10 * sc = n := ⟨_, rfl⟩
          have hsb : sc ≤ 10 ^ 17 := by rw [HSC.out]; exact Nat.pow_le_pow_right (by decide) (by omega)
          have HN2 : Hid (n2 = dval ((s.data.toList.drop i).take (k + 1))) := Lib.hid (by
            rw [hcs, dval_snoc, ← HN.out, ← hn2, ← hn1, ← hd]
            simp only [HU.out])
          have HS2 : Hid (sc2 = 10 ^ (k + 1)) := Lib.hid (by rw [← hsc2, HSC.out, Nat.pow_succ, Nat.mul_comm])
          have w1 : (10 : Int) * (nv : Int) = (n1 : Nat) := by omega
          have w2 : IntKind.u64.wrap (n1 : Int) = (n1 : Nat) := wrapS (by unfold B64; omega)
          have w3 : (n1 : Int) + (d : Int) = (n2 : Nat) := by omega
          have w4 : IntKind.u64.wrap (n2 : Int) = (n2 : Nat) := wrapS (by unfold B64; omega)
          have w5 : (10 : Int) * (sc : Int) = (sc2 : Nat) := by omega
          have w6 : IntKind.u64.wrap (sc2 : Int) = (sc2 : Nat) := wrapS (by unfold B64; omega)
          have w7 : IntKind.u64.wrap (d : Int) = (d : Nat) := wrapS (by unfold B64; omega)
          have w8 : d ≤ 9 := by omega
          clear hcs hn1 hn2 hsc2 hd hnb hsb
          go_wp2
          go_round
          case rel => exact ⟨k + 1, u + 1, n2, sc2, by omega, by omega, by omega, by go_num, rfl, rfl, HN2.out, HS2.out⟩
          case measure => simp [intOf]; omega
        · have HST := Lib.hid (num_step (l := s.data.toList) (i := i) (k := k) (by rw [HLL.out, HU.out]; exact hik))
          rw [← HN.out, ← HSC.out, HU.out] at HST
          by_cases hus : u < s.size
          · have hk18 : k = 18 := by omega
            have hse : c18 ≤ (sc : Int) := by rw [HC18.out, HSC.out, hk18]; decide
            have hiu : i < u := by omega
            clear hgo hk18 hu
            go_wp2_with fail
            refine (refTimes_calls _ a _ _ c 1 1 zs [sc] (HO.out.keep ((Below.refl _ _).alloc (Nat.le_refl _) _)).sl ((one_word wr sc).slAll (N := 1) (w64_one HSB.out) rfl (by omega)) (by omega) (by omega)).mono ?_
            rintro e w3 hp
            rw [HV.out, val_one] at hp
            have hp2 := natRes_trans (HBR.out.alloc HBR.out.size _) hp
            obtain ⟨a3, c3, us, rfl, r1, r2, r3, hul, r5⟩ := hp2
            have R3 := Lib.hid (And.intro r1 (And.intro r2 (And.intro r3 r5)))
            clear r1 r2 r3 r5 hp
            go_wp2_with fail
            refine (refAdd_calls _ a3 _ _ c3 1 1 us [nv] (R3.out.1.keep ((Below.refl _ _).alloc (Nat.le_refl _) _)).sl ((one_word w3 nv).slAll (N := 1) (w64_one HNB.out) rfl (by omega)) (by omega) (by omega)).mono ?_
            rintro e w4 hp
            rw [R3.out.2.1, val_one, HST.out] at hp
            have hp2 := natRes_trans (R3.out.2.2.2.alloc R3.out.2.2.2.size _) hp
            obtain ⟨a4, c4, vs, rfl, r1, r2, r3, -, r5⟩ := hp2
            have R4 := Lib.hid (And.intro r1 (And.intro r2 (And.intro r3 r5)))
            clear r1 r2 r3 r5 hp
            go_wp2
            go_roundw
            case rel => exact ⟨u, a4, c4, vs, hik, rfl, rfl, R4.out.1, R4.out.2.2.1, R4.out.2.1, R4.out.2.2.2⟩
            case measure => simp [intOf]; omega
          · have hiu : i < u := by omega
            clear hgo hu
            go_wp2_with fail
            refine (refTimes_calls _ a _ _ c 1 1 zs [sc] (HO.out.keep ((Below.refl _ _).alloc (Nat.le_refl _) _)).sl ((one_word wr sc).slAll (N := 1) (w64_one HSB.out) rfl (by omega)) (by omega) (by omega)).mono ?_
            rintro e w3 hp
            rw [HV.out, val_one] at hp
            have hp2 := natRes_trans (HBR.out.alloc HBR.out.size _) hp
            obtain ⟨a3, c3, us, rfl, r1, r2, r3, hul, r5⟩ := hp2
            have R3 := Lib.hid (And.intro r1 (And.intro r2 (And.intro r3 r5)))
            clear r1 r2 r3 r5 hp
            go_wp2_with fail
            refine (refAdd_calls _ a3 _ _ c3 1 1 us [nv] (R3.out.1.keep ((Below.refl _ _).alloc (Nat.le_refl _) _)).sl ((one_word w3 nv).slAll (N := 1) (w64_one HNB.out) rfl (by omega)) (by omega) (by omega)).mono ?_
            rintro e w4 hp
            rw [R3.out.2.1, val_one, HST.out] at hp
            have hp2 := natRes_trans (R3.out.2.2.2.alloc R3.out.2.2.2.size _) hp
            obtain ⟨a4, c4, vs, rfl, r1, r2, r3, -, r5⟩ := hp2
            have R4 := Lib.hid (And.intro r1 (And.intro r2 (And.intro r3 r5)))
            clear r1 r2 r3 r5 hp
            go_wp2
            go_roundw
            case rel => exact ⟨u, a4, c4, vs, hik, rfl, rfl, R4.out.1, R4.out.2.2.1, R4.out.2.1, R4.out.2.2.2⟩
            case measure => simp [intOf]; omega
    · have hie : i = s.size := by omega
      have HE : Hid (val zs = dval s.data.toList) := Lib.hid (by rw [HV.out, hie, List.take_of_length_le (by simp)])
      clear hie
      go_wp2
      go_ret
      exact ⟨a, c, zs, rfl, HO.out, HE.out, HZ.out, by omega, HBR.out⟩
end Go.Proofs.YtoikoeileilegaaDoor
