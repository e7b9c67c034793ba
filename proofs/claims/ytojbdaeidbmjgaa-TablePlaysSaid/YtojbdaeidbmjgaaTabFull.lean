/- TableFull: just MostHandle are taken; who is freed makes room, and its handle is the next one. No conditions. -/
import Derived.Test.YtojbdaeidbmjgaaTabNew
namespace Go.Proofs.Ytojbdaeidbmjgaa
set_option linter.unusedVariables false
set_option linter.unusedSimpArgs false
open Go.RowKit Go.Maps
/-- The handles 1 .. i are taken, and no others. -/
structure Upto (D : DataW Unit) (i : Nat) : Prop where
  tidy : Tidy D
  size : Maps.size D = i
  has : ∀ x : Int, Maps.has D (.int .i64 x) = (decide (1 ≤ x) && decide (x ≤ i))
theorem upto_zero : Upto (.map []) 0 := ⟨tidy_empty, rfl, fun x => by
  rw [has_empty]
  by_cases h : 1 ≤ x
  · rw [decide_eq_false (show ¬ x ≤ ((0 : Nat) : Int) by omega)]; simp
  · rw [decide_eq_false h]; rfl⟩
theorem Upto.least {D : DataW Unit} {i : Nat} (h : Upto D i) : LeastFree D (i + 1) := by
  refine ⟨by omega, ?_, fun j h1 h2 => ?_⟩
  · rw [h.has, decide_eq_false (show ¬ ((i + 1 : Nat) : Int) ≤ i by omega)]; simp
  · rw [h.has, decide_eq_true (show (1 : Int) ≤ j by omega), decide_eq_true (show (j : Int) ≤ i by omega)]; rfl
theorem Upto.put {D : DataW Unit} {i : Nat} (h : Upto D i) (d : DataW Unit) : Upto (D.put (.int .i64 ((i + 1 : Nat) : Int)) d) (i + 1) := by
  refine ⟨h.tidy.put (key_i _) _, by rw [size_put h.tidy, h.least.no, h.size]; rfl, fun x => ?_⟩
  by_cases e : x = ((i + 1 : Nat) : Int)
  · subst e
    rw [has_put_same h.tidy.isMap (key_i _), decide_eq_true (show (1 : Int) ≤ ((i + 1 : Nat) : Int) by omega), decide_eq_true (Int.le_refl _)]; rfl
  · rw [has_put_other (by intro h; cases h; exact e rfl), h.has]
    by_cases h2 : x ≤ i
    · rw [decide_eq_true h2, decide_eq_true (show x ≤ ((i + 1 : Nat) : Int) by omega)]
    · rw [decide_eq_false h2, decide_eq_false (show ¬ x ≤ ((i + 1 : Nat) : Int) by omega)]
theorem Upto.freed {D : DataW Unit} {i k : Nat} (h : Upto D i) (h1 : 1 ≤ k) (h2 : k ≤ i) : Maps.has D (.int .i64 k) = true ∧ LeastFree (D.del (.int .i64 k)) k ∧ Maps.size (D.del (.int .i64 k)) + 1 = i := by
  have hh : Maps.has D (.int .i64 k) = true := by rw [h.has, decide_eq_true (show (1 : Int) ≤ k by omega), decide_eq_true (show (k : Int) ≤ i by omega)]; rfl
  refine ⟨hh, ⟨h1, has_del_same, fun j hj hk => ?_⟩, ?_⟩
  · rw [has_del_other (by intro h; simp at h; omega), h.has, decide_eq_true (show (1 : Int) ≤ j by omega), decide_eq_true (show (j : Int) ≤ i by omega)]; rfl
  · have := size_del h.tidy (k := .int .i64 k)
    rw [hh, if_pos rfl, h.size] at this
    exact this
theorem w64_one (a : Nat) (h : a < 65536) : W64 [a, 0, 0, 0] := by
  intro x hx
  simp at hx
  have : (65536 : Nat) ≤ B64 := by decide
  rcases hx with rfl | rfl <;> omega
set_option maxRecDepth 100000 in
set_option maxHeartbeats 3200000 in
theorem full_calls (w : World) (f : Nat) (hf : f ≤ 65535) : Calls Try.prog 3 #[.int .u16 (f : Nat)] w fun e w' => e = .returned (.bool true) ∧ Below w.heap.size w w' := by
  have HPUT : Hid (∀ (sb : Nat) (D : DataW Unit) (i : Nat) (W : World), TabAt w W sb D → Upto D i → i < 1000 →
      Calls Try.prog 10 #[.pointer (some ⟨sb, 0, none⟩), .int .i64 (1 + (i : Int) % 12), .agg #[.int .u64 (i : Int), .int .u64 0, .int .u64 0, .int .u64 0]] W fun e w' => e = .returned (.tuple #[.int .i64 ((i : Int) + 1), .int .i64 0]) ∧ ∃ D', TabAt w w' sb D' ∧ Upto D' (i + 1)) :=
    Lib.hid (fun sb D i W hT hU hi => (put_ok w sb D (1 + (i : Int) % 12) i 0 0 0 (w64_one i (by omega)) W hT (fits_ok _ i (by omega) (by omega) (by omega)) (by rw [hU.size]; exact hi) (i + 1) hU.least).mono
      fun e w' ⟨h1, h2, _⟩ => ⟨h1, _, h2, hU.put _⟩)
  obtain ⟨k, hk⟩ : ∃ k : Nat, 1 + f % 1000 = k := ⟨_, rfl⟩
  have HKF : Hid ((1 : Int) + (f : Int) % 1000 = (k : Nat)) := Lib.hid (by omega)
  have hk1 : 1 ≤ k := by omega
  have hk2 : k ≤ 1000 := by omega
  clear hk
  go_enter Try.func3, Try.ntmps3
  go_wp2_with fail
  refine (tawake_calls _).mono ?_
  rintro e w1 ⟨rfl, hb1⟩
  have HB1 := Lib.hid hb1
  clear hb1
  go_wp2_with fail
  refine (new_calls _).mono ?_
  rintro e w' ⟨rfl, rfl⟩
  have HT := Lib.hid (tabAt_new HB1.out)
  obtain ⟨sb, hsb⟩ : ∃ s, w1.heap.size = s := ⟨_, rfl⟩
  rw [hsb] at HT ⊢
  generalize w1.alloc (.cells #[.int .i32 0, .int .u32 0, .map none] 55) = W at HT ⊢
  clear hsb HB1
  go_wp2_with fail
  go_loopw [17] (fun i wr => ∃ k : Nat, k ≤ 1000 ∧ i = .int .i64 k ∧ Hid (∃ D, TabAt w wr sb D ∧ Upto D k)) (fun i _ => 1000 - (intOf i).toNat)
  case atStart => exact ⟨0, by omega, rfl, Lib.hid ⟨_, HT.out, upto_zero⟩⟩
  case round =>
    obtain ⟨i, hi, rfl, HR⟩ := hrel
    clear HT
    by_cases hlt : i < 1000
    · have HP : Hid (Calls Try.prog 10 #[.pointer (some ⟨sb, 0, none⟩), .int .i64 (1 + (i : Int) % 12), .agg #[.int .u64 (i : Int), .int .u64 0, .int .u64 0, .int .u64 0]] wr fun e w' => e = .returned (.tuple #[.int .i64 ((i : Int) + 1), .int .i64 0]) ∧ ∃ D', TabAt w w' sb D' ∧ Upto D' (i + 1)) := Lib.hid (by
        obtain ⟨D, hT, hU⟩ := HR.out
        exact HPUT.out sb D i wr hT hU hlt)
      clear HPUT HR
      go_wp2_with fail
      refine HP.out.mono ?_
      rintro e w2 ⟨rfl, hx⟩
      have HX := Lib.hid hx
      clear hx HP
      go_wp2
      go_roundw
      case rel => exact ⟨i + 1, by omega, by go_num, HX⟩
      case measure => simp [intOf]; omega
    · obtain rfl : i = 1000 := by omega
      obtain ⟨D, hT, hU⟩ := HR.out
      obtain ⟨hfr1, hfr2, hfr3⟩ := hU.freed hk1 hk2
      have hD2 := hU.tidy.del (.int .i64 (k : Int))
      have HP1 : Hid (Calls Try.prog 10 #[.pointer (some ⟨sb, 0, none⟩), .int .i64 3, .agg #[.int .u64 0, .int .u64 0, .int .u64 0, .int .u64 0]] wr fun e w' => e = .returned (.tuple #[.int .i64 0, .int .i64 5]) ∧ TabAt w w' sb D) :=
        Lib.hid ((put_full w sb D 3 0 0 0 0 (w64_one 0 (by omega)) wr hT (fits_ok 3 0 (by omega) (by omega) (by omega)) (by rw [hU.size]; omega)).mono fun e w' ⟨h1, h2, _⟩ => ⟨h1, h2⟩)
      have HF1 : Hid (∀ W z, z = (k : Int) → TabAt w W sb D → Calls Try.prog 11 #[.pointer (some ⟨sb, 0, none⟩), .int .i64 z] W fun e w' => e = .returned (.int .i64 0) ∧ TabAt w w' sb (D.del (.int .i64 k))) :=
        Lib.hid (fun W z hz h => by
          subst hz
          refine (free_tab w sb D k W h (wf_small k (by omega))).mono ?_
          rw [hfr1]
          exact fun e w' ⟨h1, h2, _⟩ => ⟨h1, h2⟩)
      have HF2 : Hid (∀ W z, z = (k : Int) → TabAt w W sb (D.del (.int .i64 k)) → Calls Try.prog 11 #[.pointer (some ⟨sb, 0, none⟩), .int .i64 z] W fun e w' => e = .returned (.int .i64 6) ∧ TabAt w w' sb (D.del (.int .i64 k))) :=
        Lib.hid (fun W z hz h => by
          subst hz
          refine (free_tab w sb (D.del (.int .i64 k)) k W h (wf_small k (by omega))).mono ?_
          rw [hfr2.no]
          exact fun e w' ⟨h1, h2, _⟩ => ⟨h1, h2⟩)
      have HP2 : Hid (∀ W, TabAt w W sb (D.del (.int .i64 k)) → Calls Try.prog 10 #[.pointer (some ⟨sb, 0, none⟩), .int .i64 3, .agg #[.int .u64 7, .int .u64 0, .int .u64 0, .int .u64 0]] W fun e w' => e = .returned (.tuple #[.int .i64 k, .int .i64 0]) ∧ TabAt w w' sb ((D.del (.int .i64 k)).put (.int .i64 k) (entD ⟨3, 7, 0, 0, 0⟩))) :=
        Lib.hid (fun W h => (put_ok w sb (D.del (.int .i64 k)) 3 7 0 0 0 (w64_one 7 (by omega)) W h (fits_ok 3 7 (by omega) (by omega) (by omega)) (by omega) k hfr2).mono fun e w' ⟨h1, h2, _⟩ => ⟨h1, h2⟩)
      have hsz : Maps.size ((D.del (.int .i64 k)).put (.int .i64 k) (entD ⟨3, 7, 0, 0, 0⟩)) = 1000 := by rw [size_put hD2, hfr2.no]; simp; omega
      have HLN : Hid (∀ W, TabAt w W sb ((D.del (.int .i64 k)).put (.int .i64 k) (entD ⟨3, 7, 0, 0, 0⟩)) → Calls Try.prog 12 #[.pointer (some ⟨sb, 0, none⟩)] W fun e w' => e = .returned (.int .i64 1000) ∧ Below w.heap.size w w') :=
        Lib.hid (fun W h => by
          refine (len_tab w sb _ W h (by omega)).mono ?_
          rw [hsz]
          exact fun e w' ⟨h1, h2, _⟩ => ⟨h1, h2.bel⟩)
      clear hT hU hfr1 hfr2 hfr3 hD2 hsz HR HPUT
      go_wp2_with fail
      refine HP1.out.mono ?_
      rintro e w2 ⟨rfl, ht2⟩
      have HT2 := Lib.hid ht2
      clear ht2 HP1
      go_wp2_with fail
      refine (HF1.out _ _ (by first | exact HKF.out | (rw [← HKF.out]; rfl)) HT2.out).mono ?_
      rintro e w3 ⟨rfl, ht3⟩
      have HT3 := Lib.hid ht3
      clear ht3 HT2 HF1
      go_wp2_with fail
      refine (HF2.out _ _ (by first | exact HKF.out | (rw [← HKF.out]; rfl)) HT3.out).mono ?_
      rintro e w4 ⟨rfl, ht4⟩
      have HT4 := Lib.hid ht4
      clear ht4 HT3 HF2
      go_wp2_with fail
      refine (HP2.out _ HT4.out).mono ?_
      rintro e w5 ⟨rfl, ht5⟩
      have HT5 := Lib.hid ht5
      clear ht5 HT4 HP2
      have hkf := HKF.out
      go_wp2_with fail
      refine (HLN.out _ HT5.out).mono ?_
      rintro e w6 ⟨rfl, hb6⟩
      go_wp2
      go_ret
      exact ⟨rfl, hb6⟩
theorem tableFull_row (f : Int) (w : World) (h : (Lit.int .u16 f).wf = true) : Calls Try.prog 3 #[.int .u16 f] w fun e w' => e = .returned (.bool true) ∧ Below w.heap.size w w' := by
  have e1 : IntKind.u16.min = 0 := rfl
  have e2 : IntKind.u16.max = 65535 := rfl
  simp [Lit.wf, e1, e2] at h
  obtain ⟨n, rfl⟩ : ∃ n : Nat, f = n := ⟨f.toNat, by omega⟩
  exact full_calls w n (by omega)
end Go.Proofs.Ytojbdaeidbmjgaa
