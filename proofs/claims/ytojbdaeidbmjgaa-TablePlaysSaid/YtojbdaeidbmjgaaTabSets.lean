/- TableSets: what is set under a handle is there, and all others stay. No conditions. -/
import Derived.Test.YtojbdaeidbmjgaaTabFull
import Derived.Test.YtojbdaeidbmjgaaRowWords
import Derived.Test.YtojbdaeidbmjgaaRowBits
import Derived.Test.YtojbdaeidbmjgaaBitsEq
namespace Go.Proofs.Ytojbdaeidbmjgaa
set_option linter.unusedVariables false
set_option linter.unusedSimpArgs false
open Go.RowKit Go.Maps
def mkS (c : Nat → Nat) (i : Nat) : List RefEnt := (List.range i).map fun j => ⟨⟨1 + (c j : Int) % 12, j, 0, 0, 0⟩, true⟩
theorem mkS_len (c : Nat → Nat) (i : Nat) : (mkS c i).length = i := by simp [mkS]
theorem mkS_succ (c : Nat → Nat) (i : Nat) : mkS c (i + 1) = mkS c i ++ [⟨⟨1 + (c i : Int) % 12, i, 0, 0, 0⟩, true⟩] := by simp [mkS, List.range_succ]
theorem mkS_free (c : Nat → Nat) (i : Nat) : freeL (mkS c i) = i := by
  have h : freeL (mkS c i) = (mkS c i).length := List.findIdx_eq_length.2 fun x hx => by
    obtain ⟨j, _, rfl⟩ := List.mem_map.1 hx
    rfl
  rw [h, mkS_len]
theorem mkS_at (c : Nat → Nat) (i j : Nat) (h : j < (mkS c i).length) : (mkS c i)[j] = ⟨⟨1 + (c j : Int) % 12, j, 0, 0, 0⟩, true⟩ := by simp [mkS]
theorem mkS_cnt (c : Nat → Nat) (i : Nat) : cntL (mkS c i) = i := by
  have := all_taken (mkS c i) (by rw [mkS_free, mkS_len])
  rw [this, mkS_len]
/-- What is under the handle i + 1 behind the Set. -/
def setG (c : Nat → Nat) (k : Nat) (fit : Bool) (en : EntL) (i : Nat) : EntL := if i + 1 = k ∧ fit = true then en else ⟨1 + (c i : Int) % 12, i, 0, 0, 0⟩
theorem setD_has {D : DataW Unit} {c : Nat → Nat} {len k : Nat} (h : Rel D (mkS c len)) (hk1 : 1 ≤ k) (hk2 : k ≤ len) (fit : Bool) (en : EntL) (x : Int) :
    Maps.has (setD fit true D k en) (.int .i64 x) = thereL (mkS c len) x := by
  unfold setD
  cases fit
  · exact h.has x
  · show Maps.has (D.put (.int .i64 (k : Int)) (entD en)) (.int .i64 x) = _
    by_cases e : x = k
    · subst e
      have e1 : (k : Int) = ((k - 1 + 1 : Nat) : Int) := by omega
      rw [has_put_same h.tidy.isMap (key_i _)]
      rw [e1, there_nat _ (k - 1) (by rw [mkS_len]; omega), mkS_at]
    · rw [has_put_other (by intro h; cases h; exact e rfl), h.has]
theorem setD_at {D : DataW Unit} {c : Nat → Nat} {len k : Nat} (h : Rel D (mkS c len)) (hk1 : 1 ≤ k) (hk2 : k ≤ len) (fit : Bool) (en : EntL) (i : Nat) (hi : i < len) :
    (setD fit true D k en).atKey (.int .i64 ((i : Int) + 1)) (entD zeroE) = entD (setG c k fit en i) := by
  have e1 : ((i : Int) + 1) = ((i + 1 : Nat) : Int) := by omega
  have h0 := h.at_ i (by rw [mkS_len]; exact hi) (by rw [mkS_at])
  rw [mkS_at] at h0
  rw [e1]
  unfold setD setG
  cases fit
  · simpa using h0
  · show (D.put (.int .i64 (k : Int)) (entD en)).atKey _ _ = _
    by_cases e : i + 1 = k
    · rw [if_pos ⟨e, rfl⟩, ← e, atKey_put_same h.tidy.isMap (key_i _)]
    · rw [if_neg (fun hh => e hh.1), atKey_put_other (by intro h; simp at h; omega)]
      exact h0
theorem setD_size {D : DataW Unit} {c : Nat → Nat} {len k : Nat} (h : Rel D (mkS c len)) (hk1 : 1 ≤ k) (hk2 : k ≤ len) (fit : Bool) (en : EntL) : Maps.size (setD fit true D k en) = len := by
  have hs : Maps.size D = len := by rw [h.size, mkS_cnt]
  unfold setD
  cases fit
  · exact hs
  · show Maps.size (D.put (.int .i64 (k : Int)) (entD en)) = len
    have hh : Maps.has D (.int .i64 (k : Int)) = true := by
      have e1 : (k : Int) = ((k - 1 + 1 : Nat) : Int) := by omega
      rw [h.has, e1, there_nat _ (k - 1) (by rw [mkS_len]; omega), mkS_at]
    rw [size_put h.tidy, hh, hs]; rfl
def BytesAt (w : World) (a : Option Addr) (len : Nat) (c : Nat → Nat) : Prop :=
  ∀ i, i < len → ∃ b off, a = some ⟨b, off, none⟩ ∧ w.cell? ⟨b, off + i, none⟩ = some (.int .u8 ((c i : Nat) : Int)) ∧ c i ≤ 255
theorem wf_int {x : Int} (h1 : -9223372036854775808 ≤ x) (h2 : x ≤ 9223372036854775807) : (Lit.int .i64 x).wf = true := by
  have e1 : IntKind.i64.min = -9223372036854775808 := rfl
  have e2 : IntKind.i64.max = 9223372036854775807 := rfl
  simp [Lit.wf, e1, e2]
  omega
set_option maxRecDepth 100000 in
set_option maxHeartbeats 3200000 in
theorem sets_calls (w : World) (a : Option Addr) (len cap : Nat) (c : Nat → Nat) (at0 : Nat) (num : Int) (b0 b1 b2 b3 : Nat) (hlen : len ≤ 9223372036854775807) (hc : BytesAt w a len c) (hat : at0 ≤ 255) (hb : W64 [b0, b1, b2, b3]) :
    Calls Try.prog 4 #[.slice a len cap, .int .u8 (at0 : Nat), .int .i64 num, bitsV b0 b1 b2 b3] w fun e w' => e = .returned (.bool true) ∧ Below w.heap.size w w' := by
  by_cases hbig : 50 < len ∨ len = 0
  · unfold bitsV
    clear hc hb hat
    rcases hbig with h | h
    · have h1 : decide (50 < (len : Int)) = true := by simp; omega
      go_enter Try.func4, Try.ntmps4
      go_wp2_with fail
      refine (tawake_calls _).mono ?_
      rintro e w1 ⟨rfl, hb1⟩
      have HB1 := Lib.hid (below_then (below_alloc (Below.refl w.heap.size w) _) hb1)
      clear hb1
      go_wp2_with fail
      refine (tawake_calls _).mono ?_
      rintro e w2 ⟨rfl, hb2⟩
      have HB2 := Lib.hid (below_then HB1.out hb2)
      clear hb2 HB1
      go_wp2
      go_ret
      exact ⟨rfl, HB2.out⟩
    · subst h
      go_enter Try.func4, Try.ntmps4
      go_wp2_with fail
      refine (tawake_calls _).mono ?_
      rintro e w1 ⟨rfl, hb1⟩
      have HB1 := Lib.hid (below_then (below_alloc (Below.refl w.heap.size w) _) hb1)
      clear hb1
      go_wp2_with fail
      refine (tawake_calls _).mono ?_
      rintro e w2 ⟨rfl, hb2⟩
      have HB2 := Lib.hid (below_then HB1.out hb2)
      clear hb2 HB1
      go_wp2
      go_ret
      exact ⟨rfl, HB2.out⟩
  have hl1 : len ≤ 50 := by omega
  have hl0 : 0 < len := by omega
  clear hbig
  have HPUT : Hid (∀ (sb : Nat) (D : DataW Unit) (i : Nat) (W : World), TabAt w W sb D → Rel D (mkS c i) → i < 1000 → c i ≤ 255 →
      Calls Try.prog 10 #[.pointer (some ⟨sb, 0, none⟩), .int .i64 (1 + (c i : Int) % 12), .agg #[.int .u64 (i : Int), .int .u64 0, .int .u64 0, .int .u64 0]] W fun e w' => e = .returned (.tuple #[.int .i64 ((i : Int) + 1), .int .i64 0]) ∧ Keep sb W w' ∧ ∃ D', TabAt w w' sb D' ∧ Rel D' (mkS c (i + 1))) :=
    Lib.hid (fun sb D i W hT hR hi hci => by
      have hlf := hR.least
      rw [mkS_free] at hlf
      have hs : Maps.size D = i := by rw [hR.size, mkS_cnt]
      refine (put_ok w sb D (1 + (c i : Int) % 12) i 0 0 0 (w64_one i (by omega)) W hT (fits_ok _ i (by omega) (by omega) (by omega)) (by omega) (i + 1) hlf).mono ?_
      rintro e w' ⟨h1, h2, h3⟩
      refine ⟨h1, h3, _, h2, ?_⟩
      have := hR.putNew (by rw [mkS_len]; exact hi) ⟨1 + (c i : Int) % 12, i, 0, 0, 0⟩
      rw [mkS_len] at this
      rw [mkS_succ]
      exact this)
  obtain ⟨k, hk⟩ : ∃ k : Nat, 1 + at0 % len = k := ⟨_, rfl⟩
  have hk1 : 1 ≤ k := by omega
  have hk2 : k ≤ len := by have := Nat.mod_lt at0 hl0; omega
  have HKF : Hid ((1 : Int) + (at0 : Int) % (len : Int) = (k : Nat)) := Lib.hid (by rw [← hk]; simp)
  have HC := Lib.hid hc
  have HW := Lib.hid hb
  clear hk hc hb
  unfold bitsV
  go_enter Try.func4, Try.ntmps4
  go_wp2_with fail
  have HB0 := Lib.hid (below_alloc (Below.refl w.heap.size w) (.cells #[.int .u64 (b0 : Nat), .int .u64 (b1 : Nat), .int .u64 (b2 : Nat), .int .u64 (b3 : Nat)] 31))
  have HX0 := Lib.hid (heap_new w (.cells #[.int .u64 (b0 : Nat), .int .u64 (b1 : Nat), .int .u64 (b2 : Nat), .int .u64 (b3 : Nat)] 31))
  generalize w.alloc (.cells #[.int .u64 (b0 : Nat), .int .u64 (b1 : Nat), .int .u64 (b2 : Nat), .int .u64 (b3 : Nat)] 31) = wa at HB0 HX0 ⊢
  refine (tawake_calls _).mono ?_
  rintro e w1 ⟨rfl, hb1⟩
  have HB1 := Lib.hid (below_then HB0.out hb1)
  have HX1 := Lib.hid (below_heap hb1 HX0.out)
  clear hb1 HB0 HX0
  have hd1 : decide (50 < (len : Int)) = false := by simp; omega
  have hd2 : ((len : Int) == 0) = false := by simp; omega
  go_wp2_with fail
  clear hd1 hd2
  refine (new_calls _).mono ?_
  rintro e w' ⟨rfl, rfl⟩
  have HT := Lib.hid (tabAt_new HB1.out)
  have HX := Lib.hid (below_heap (below_alloc (Below.refl w1.heap.size w1) (.cells #[.int .i32 0, .int .u32 0, .map none] 55)) HX1.out)
  have HNE : Hid (w.heap.size ≠ w1.heap.size) := Lib.hid (Nat.ne_of_lt (lt_of_heap HX1.out))
  obtain ⟨sb, hsb⟩ : ∃ s, w1.heap.size = s := ⟨_, rfl⟩
  rw [hsb] at HT HNE ⊢
  generalize w1.alloc (.cells #[.int .i32 0, .int .u32 0, .map none] 55) = W at HT HX ⊢
  clear hsb HB1 HX1
  go_wp2_with fail
  go_loopw [35] (fun i wr => ∃ k : Nat, k ≤ len ∧ i = .int .i64 k ∧ Hid (∃ D, TabAt w wr sb D ∧ Rel D (mkS c k)) ∧ Hid (wr.heap[w.heap.size]? = some (.cells #[.int .u64 (b0 : Nat), .int .u64 (b1 : Nat), .int .u64 (b2 : Nat), .int .u64 (b3 : Nat)] 31 (0, 0)))) (fun i _ => len - (intOf i).toNat)
  case atStart => exact ⟨0, by omega, rfl, Lib.hid ⟨_, HT.out, rel_empty⟩, HX⟩
  case round =>
    obtain ⟨i, hi, rfl, HR, HXr⟩ := hrel
    clear HT HX
    by_cases hlt : i < len
    · obtain ⟨b, off, rfl, hcell, hcb⟩ := HC.out i hlt
      have hcr : wr.cell? ⟨b, off + i, none⟩ = some (.int .u8 (c i : Nat)) := by
        obtain ⟨D, hT, _⟩ := HR.out
        exact below_cell hT.bel hcell
      have HP : Hid (Calls Try.prog 10 #[.pointer (some ⟨sb, 0, none⟩), .int .i64 (1 + (c i : Int) % 12), .agg #[.int .u64 (i : Int), .int .u64 0, .int .u64 0, .int .u64 0]] wr fun e w' => e = .returned (.tuple #[.int .i64 ((i : Int) + 1), .int .i64 0]) ∧ Keep sb wr w' ∧ ∃ D', TabAt w w' sb D' ∧ Rel D' (mkS c (i + 1))) := Lib.hid (by
        obtain ⟨D, hT, hU⟩ := HR.out
        exact HPUT.out sb D i wr hT hU (by omega) hcb)
      clear HPUT HR hcell
      go_wp2_with fail
      refine HP.out.mono ?_
      rintro e w2 ⟨rfl, hk, hx⟩
      have HX := Lib.hid hx
      have HX2 := Lib.hid (hk _ _ _ _ HNE.out HXr.out)
      clear hx hk HP hcr HXr
      go_wp2
      go_roundw
      case rel => exact ⟨i + 1, by omega, by go_num, HX, HX2⟩
      case measure => simp [intOf]; omega
    · obtain rfl : i = len := by omega
      obtain ⟨ft, hft⟩ : ∃ q, fitsF num b0 b1 b2 b3 = q := ⟨_, rfl⟩
      obtain ⟨D, hT, hU⟩ := HR.out
      have hhk : Maps.has D (.int .i64 (k : Int)) = true := by
        have e1 : (k : Int) = ((k - 1 + 1 : Nat) : Int) := by omega
        rw [hU.has, e1, there_nat _ (k - 1) (by rw [mkS_len]; omega), mkS_at]
      have hss : Maps.size D = i := by rw [hU.size, mkS_cnt]
      obtain ⟨D2, hD2⟩ : ∃ q, setD ft true D k ⟨num, b0, b1, b2, b3⟩ = q := ⟨_, rfl⟩
      have HSET : Hid (∀ z, z = (k : Int) → Calls Try.prog 13 #[.pointer (some ⟨sb, 0, none⟩), .int .i64 z, .int .i64 num, .agg #[.int .u64 (b0 : Nat), .int .u64 (b1 : Nat), .int .u64 (b2 : Nat), .int .u64 (b3 : Nat)]] wr fun e w' =>
          e = .returned (.int .i64 (if ft then 0 else 1)) ∧ TabAt w w' sb D2 ∧ Keep sb wr w') :=
        Lib.hid (fun z hz => by
          subst hz
          have := set_tab w sb D k num b0 b1 b2 b3 HW.out wr hT (by omega) (wf_small k (by omega))
          rw [hft, hhk, hD2] at this
          exact this)
      have HGET : Hid (∀ W (j : Nat), j < i → TabAt w W sb D2 → Calls Try.prog 14 #[.pointer (some ⟨sb, 0, none⟩), .int .i64 ((j : Int) + 1)] W fun e w' =>
          e = .returned (getV (setG c k ft ⟨num, b0, b1, b2, b3⟩ j) true) ∧ TabAt w w' sb D2 ∧ Keep sb W w') :=
        Lib.hid (fun W j hj hW => by
          refine (get_keep w sb D2 ((j : Int) + 1) W hW (wf_small (j + 1) (by omega))).mono ?_
          rintro e w' ⟨⟨v, hv, rfl⟩, h2, h3⟩
          subst hD2
          have h1 := setD_at hU hk1 hk2 ft ⟨num, b0, b1, b2, b3⟩ j hj
          have h4 := setD_has hU hk1 hk2 ft ⟨num, b0, b1, b2, b3⟩ ((j : Int) + 1)
          have e1 : ((j : Int) + 1) = ((j + 1 : Nat) : Int) := by omega
          rw [e1, there_nat _ j (by rw [mkS_len]; exact hj), mkS_at] at h4
          rw [← e1] at h4
          rw [h1] at hv
          obtain rfl := entD_inj hv
          rw [h4]
          exact ⟨rfl, h2, h3⟩)
      have hs2 : Maps.size D2 = i := by subst hD2; exact setD_size hU hk1 hk2 ft _
      have HLN : Hid (∀ W, TabAt w W sb D2 → Calls Try.prog 12 #[.pointer (some ⟨sb, 0, none⟩)] W fun e w' => e = .returned (.int .i64 (i : Nat)) ∧ TabAt w w' sb D2) :=
        Lib.hid (fun W h => by
          refine (len_tab w sb _ W h (by omega)).mono ?_
          rw [hs2]
          exact fun e w' ⟨h1, h2, _⟩ => ⟨h1, h2⟩)
      have HLAST : Hid (∀ W, TabAt w W sb D2 → Calls Try.prog 13 #[.pointer (some ⟨sb, 0, none⟩), .int .i64 ((i : Int) + 1), .int .i64 3, .agg #[.int .u64 0, .int .u64 0, .int .u64 0, .int .u64 0]] W fun e w' => e = .returned (.int .i64 6) ∧ Below w.heap.size w w') :=
        Lib.hid (fun W h => by
          have h4 := setD_has hU hk1 hk2 ft ⟨num, b0, b1, b2, b3⟩ ((i : Int) + 1)
          rw [there_out _ _ (.inr (by rw [mkS_len]; omega)), hD2] at h4
          have := set_tab w sb D2 ((i : Int) + 1) 3 0 0 0 0 (w64_one 0 (by omega)) W h (by omega) (wf_small (i + 1) (by omega))
          rw [fits_ok 3 0 (by omega) (by omega) (by omega), h4] at this
          exact this.mono fun e w' ⟨h1, h2, _⟩ => ⟨h1, h2.bel⟩)
      have HFIT : Hid (∀ W, Calls Try.prog 15 #[.int .i64 num, .agg #[.int .u64 (b0 : Nat), .int .u64 (b1 : Nat), .int .u64 (b2 : Nat), .int .u64 (b3 : Nat)]] W fun e w' => e = .returned (.bool ft) ∧ Below W.heap.size W w') :=
        Lib.hid (fun W => by
          have := refFits_calls num b0 b1 b2 b3 HW.out W
          rw [hft] at this
          exact this)
      have HLT := Lib.hid hT.bel.size
      clear hT hU hhk hss hft hs2 hD2 HR HPUT HW
      have x0 := cell_of_heap HXr.out 0
      have x1 := cell_of_heap HXr.out 1
      have x2 := cell_of_heap HXr.out 2
      have x3 := cell_of_heap HXr.out 3
      simp at x0 x1 x2 x3
      have hkf : wrap64 ((1 : Int) + (at0 : Int) % (i : Int)) = (k : Int) := by rw [HKF.out]; exact IntWalk.wrap64_in _ (by omega)
      have HKW := Lib.hid hkf
      clear hkf
      go_wp2_with fail
      rw [HKW.out]
      refine (HSET.out _ rfl).mono ?_
      rintro e w3 ⟨rfl, ht3, hk3⟩
      have HT3 := Lib.hid ht3
      have HX3 := Lib.hid (hk3 _ _ _ _ HNE.out HXr.out)
      clear ht3 hk3 x0 x1 x2 x3 HXr HSET
      cases ft
      all_goals
        go_wp2_with fail
        go_loopw [75] (fun j wr => ∃ m : Nat, m ≤ i ∧ j = .int .i64 m ∧ Hid (TabAt w wr sb D2) ∧ Hid (wr.heap[w.heap.size]? = some (.cells #[.int .u64 (b0 : Nat), .int .u64 (b1 : Nat), .int .u64 (b2 : Nat), .int .u64 (b3 : Nat)] 31 (0, 0)))) (fun j _ => i - (intOf j).toNat)
        case atStart => exact ⟨0, by omega, rfl, HT3, HX3⟩
        case round =>
          obtain ⟨m, hm, rfl, HTm, HXm⟩ := hrel
          clear HT3 HX3
          by_cases hlt : m < i
          · obtain ⟨b, off, rfl, hcell, hcb⟩ := HC.out m hlt
            have hcr : wr.cell? ⟨b, off + m, none⟩ = some (.int .u8 (c m : Nat)) := below_cell HTm.out.bel hcell
            have HCELL := Lib.hid hcell
            clear hcell
            by_cases hmk : m + 1 = k
            · have hmb : (((m : Int) + 1) == (k : Int)) = true := by simp; omega
              have hg := HGET.out wr m hlt HTm.out
              unfold setG at hg
              simp only [hmk, true_and, and_true, and_false, if_true, Bool.false_eq_true, if_false, getV] at hg
              have HG := Lib.hid hg
              clear hg hmk hcr
              go_wp2_with fail
              refine HG.out.mono ?_
              rintro e w4 ⟨rfl, ht4, hk4⟩
              have HT4 := Lib.hid ht4
              have HX4 := Lib.hid (hk4 _ _ _ _ HNE.out HXm.out)
              have hcr4 : ∀ o, (w4.alloc o).cell? ⟨b, off + m, none⟩ = some (.int .u8 (c m : Nat)) := fun o => below_cell (below_alloc HT4.out.bel o) HCELL.out
              have x0 : ∀ o, (w4.alloc o).cell? ⟨w.heap.size, 0, none⟩ = some (.int .u64 b0) := fun o => cell_of_heap (below_heap (below_alloc (Below.refl _ _) o) HX4.out) 0
              have x1 : ∀ o, (w4.alloc o).cell? ⟨w.heap.size, 1, none⟩ = some (.int .u64 b1) := fun o => cell_of_heap (below_heap (below_alloc (Below.refl _ _) o) HX4.out) 1
              have x2 : ∀ o, (w4.alloc o).cell? ⟨w.heap.size, 2, none⟩ = some (.int .u64 b2) := fun o => cell_of_heap (below_heap (below_alloc (Below.refl _ _) o) HX4.out) 2
              have x3 : ∀ o, (w4.alloc o).cell? ⟨w.heap.size, 3, none⟩ = some (.int .u64 b3) := fun o => cell_of_heap (below_heap (below_alloc (Below.refl _ _) o) HX4.out) 3
              clear ht4 hk4 HG
              have hneq := bits_neq
              go_wp2
              go_roundw
              case rel => exact ⟨m + 1, by omega, by go_num, Lib.hid (HT4.out.grow (below_alloc (Below.refl _ _) _)), Lib.hid (below_heap (below_alloc (Below.refl _ _) _) HX4.out)⟩
              case measure => simp [intOf]; omega
            · have hmb : (((m : Int) + 1) == (k : Int)) = false := by simp; omega
              have hg := HGET.out wr m hlt HTm.out
              unfold setG at hg
              simp only [hmk, true_and, and_true, and_false, if_true, Bool.false_eq_true, if_false, getV] at hg
              have HG := Lib.hid hg
              clear hg hmk hcr
              go_wp2_with fail
              refine HG.out.mono ?_
              rintro e w4 ⟨rfl, ht4, hk4⟩
              have HT4 := Lib.hid ht4
              have HX4 := Lib.hid (hk4 _ _ _ _ HNE.out HXm.out)
              have hcr4 : ∀ o, (w4.alloc o).cell? ⟨b, off + m, none⟩ = some (.int .u8 (c m : Nat)) := fun o => below_cell (below_alloc HT4.out.bel o) HCELL.out
              have x0 : ∀ o, (w4.alloc o).cell? ⟨w.heap.size, 0, none⟩ = some (.int .u64 b0) := fun o => cell_of_heap (below_heap (below_alloc (Below.refl _ _) o) HX4.out) 0
              have x1 : ∀ o, (w4.alloc o).cell? ⟨w.heap.size, 1, none⟩ = some (.int .u64 b1) := fun o => cell_of_heap (below_heap (below_alloc (Below.refl _ _) o) HX4.out) 1
              have x2 : ∀ o, (w4.alloc o).cell? ⟨w.heap.size, 2, none⟩ = some (.int .u64 b2) := fun o => cell_of_heap (below_heap (below_alloc (Below.refl _ _) o) HX4.out) 2
              have x3 : ∀ o, (w4.alloc o).cell? ⟨w.heap.size, 3, none⟩ = some (.int .u64 b3) := fun o => cell_of_heap (below_heap (below_alloc (Below.refl _ _) o) HX4.out) 3
              clear ht4 hk4 HG
              have hneq := bits_neq
              go_wp2
              go_roundw
              case rel => exact ⟨m + 1, by omega, by go_num, Lib.hid (HT4.out.grow (below_alloc (Below.refl _ _) _)), Lib.hid (below_heap (below_alloc (Below.refl _ _) _) HX4.out)⟩
              case measure => simp [intOf]; omega
          · obtain rfl : m = i := by omega
            have x0 := cell_of_heap HXm.out 0
            have x1 := cell_of_heap HXm.out 1
            have x2 := cell_of_heap HXm.out 2
            have x3 := cell_of_heap HXm.out 3
            simp at x0 x1 x2 x3
            have hi64 : ((m : Int) == (m : Int)) = true := by simp
            go_wp2_with fail
            refine (HFIT.out _).mono ?_
            rintro e w4 ⟨rfl, hb4⟩
            have HT4 := Lib.hid (HTm.out.grow hb4)
            clear hb4 x0 x1 x2 x3
            go_wp2_with fail
            refine (HLN.out _ HT4.out).mono ?_
            rintro e w5 ⟨rfl, ht5⟩
            have HT5 := Lib.hid ht5
            clear ht5
            go_wp2_with fail
            refine (HLAST.out _ HT5.out).mono ?_
            rintro e w6 ⟨rfl, hb6⟩
            go_wp2
            go_ret
            exact ⟨rfl, hb6⟩
theorem tableSets_row (a : Option Addr) (len cap : Nat) (zs : List Int) (at0 num : Int) (v : Value) (w : World) (h : RowAt .u8 w a len cap zs) (y : len * 1 ≤ 140737488351232) (hat : (Lit.int .u8 at0).wf = true) (_ : (Lit.int .i64 num).wf = true)
    (hv : ∃ b0 b1 b2 b3 : Nat, v = bitsV b0 b1 b2 b3 ∧ W64 [b0, b1, b2, b3]) :
    Calls Try.prog 4 #[.slice a len cap, .int .u8 at0, .int .i64 num, v] w fun e w' => e = .returned (.bool true) ∧ Below w.heap.size w w' := by
  obtain ⟨b0, b1, b2, b3, rfl, hb⟩ := hv
  have e1 : IntKind.u8.min = 0 := rfl
  have e2 : IntKind.u8.max = 255 := rfl
  simp [Lit.wf, e1, e2] at hat
  obtain ⟨n, rfl⟩ : ∃ n : Nat, at0 = n := ⟨at0.toNat, by omega⟩
  refine sets_calls w a len cap (fun i => (zs.getD i 0).toNat) n num b0 b1 b2 b3 (by omega) ?_ (by omega) hb
  intro i hi
  obtain ⟨b, off, e, hl, _, hz, hc⟩ := h.at (by omega)
  have hcell := hc i (by omega)
  have hwf : 0 ≤ zs.getD i 0 ∧ zs.getD i 0 ≤ 255 := by
    rcases h with ⟨_, h0, _⟩ | ⟨_, _, _, _, _, _, hw⟩
    · omega
    · have hm : zs.getD i 0 ∈ zs := by
        rw [List.getD_eq_getElem?_getD, List.getElem?_eq_getElem (by omega)]
        exact List.getElem_mem _
      have := hw _ hm
      simp [Lit.wf, e1, e2] at this
      exact this
  refine ⟨b, off, e, ?_, by show (zs.getD i 0).toNat ≤ 255; omega⟩
  rw [hcell]
  simp only [Int.toNat_of_nonneg hwf.1]
end Go.Proofs.Ytojbdaeidbmjgaa
