/- Words for DescPowers and DescNew: Power and Greatest at any number, once made; caliperref04.Pow; the formats' bases. -/
import Derived.Test.YthaplpenccpkpaaPowLaw
import Derived.Test.YthaplpenccpkpaaDescTells
namespace Go.Proofs.Ythaplpenccpkpaa
open Go.RowKit
theorem NatRes2.le {w w' : World} {n bd bd' : Nat} {v : Value} {e : Ending} (h : NatRes2 w n bd v e w') (hb : bd ≤ bd') : NatRes2 w n bd' v e w' := by
  obtain ⟨a, c, zs, h1, h2, h3, h4, h5, h6⟩ := h
  exact ⟨a, c, zs, h1, h2, h3, h4, by omega, h6⟩
/-- Power, whatever n. -/
theorem power_any (B : Nat) (w : World) (g b p c : Nat) (hb : b = 5 ∨ b = 10) (n : Int) (h0 : -9223372036854775808 ≤ n) (h1 : n ≤ 9223372036854775807) (R : World → Prop)
    (hm : Calls Try.prog 58 #[.pointer (some ⟨g, 0, none⟩)] w fun e w' => e = .returned (.tuple #[]) ∧ PowMade B w' g b p c 1 0 1 ∧ R w') :
    Calls Try.prog 34 #[.pointer (some ⟨g, 0, none⟩), .int .i64 n] w fun e w' => ∃ wm, PowMade B wm g b p c 1 0 1 ∧ R wm ∧ NatRes2 wm (powVal b n) (n.toNat + 400) (.int .i64 (powErr b n)) e w' := by
  by_cases hk : 0 ≤ n ∧ n < 64
  · obtain ⟨k, rfl⟩ : ∃ k : Nat, n = k := ⟨n.toNat, by omega⟩
    have hok : ¬ powOk b (k : Nat) = false := by unfold powOk; rcases hb with rfl | rfl <;> simp
    have e1 : powVal b (k : Nat) = b ^ k := by unfold powVal; rw [if_neg hok, if_neg (by omega), Int.toNat_natCast, Int.toNat_natCast]
    have e2 : powErr b (k : Nat) = 0 := by unfold powErr; rw [if_neg hok, if_neg (by omega)]
    rw [e1, e2]
    refine (powerAt_calls B w g b p c k (by omega) R hm).mono ?_
    rintro e w' ⟨wm, h2, h3, h4⟩
    exact ⟨wm, h2, h3, h4.le (by omega)⟩
  · refine (powerFrom_calls B w g b p c n h0 h1 (by omega) R hm).mono ?_
    rintro e w' ⟨wm, h2, h3, h4⟩
    exact ⟨wm, h2, h3, h4.le (by omega)⟩
/-- Greatest, once made. -/
theorem greatest_made (B : Nat) (w w1 : World) (g b p c : Nat) (hm : PowMade B w g b p c 1 0 1) (hb : Below w.heap.size w w1) :
    Calls Try.prog 37 #[.pointer (some ⟨g, 0, none⟩)] w1 (NatRes w1 (c ^ p - 1) 400) := by
  refine (greatest_calls B w1 g b p c (fun w' => Below w1.heap.size w1 w') (make_made (hm.keep hb))).mono ?_
  rintro e w' ⟨wm, h1, h2, h3⟩
  exact natRes_trans h2 h3
/-- Power, once made. -/
theorem power_made (B : Nat) (w w1 : World) (g b p c : Nat) (hb5 : b = 5 ∨ b = 10) (n : Int) (h0 : -9223372036854775808 ≤ n) (h1 : n ≤ 9223372036854775807) (hm : PowMade B w g b p c 1 0 1) (hb : Below w.heap.size w w1) :
    Calls Try.prog 34 #[.pointer (some ⟨g, 0, none⟩), .int .i64 n] w1 (NatRes2 w1 (powVal b n) (n.toNat + 400) (.int .i64 (powErr b n))) := by
  refine (power_any B w1 g b p c hb5 n h0 h1 (fun w' => Below w1.heap.size w1 w') (make_made (hm.keep hb))).mono ?_
  rintro e w' ⟨wm, h2, h3, h4⟩
  exact natRes2_trans h3 h4
set_option maxRecDepth 10000 in
set_option maxHeartbeats 1000000 in
theorem refPow4_calls (bb p : Nat) (hb : bb = 2 ∨ bb = 10) (hp : p ≤ 300) (w : World) :
    Calls Try.prog 39 #[.int .i64 (bb : Nat), .int .i64 (p : Nat)] w (NatRes w (bb ^ p) (p + 1)) := by
  have HP := Lib.hid (refPow_calls bb (by rcases hb with rfl | rfl <;> decide) (by omega) p (by omega) w)
  have hb' : (bb : Int) ≤ 10 := by omega
  go_enter Try.func39, Try.ntmps39
  go_wp2_with fail
  refine HP.out.mono ?_
  rintro e w1 ⟨a1, c1, xs, rfl, r⟩
  have R := Lib.hid r
  clear r
  go_wp2
  go_ret
  exact ⟨a1, c1, xs, rfl, R.out⟩
/-- What a format says of its powers. -/
theorem fmt_says (n : Nat) (h1 : 1 ≤ n) (h2 : n ≤ 12) : ∃ p bb tb, p ≤ 300 ∧ (bb = 2 ∨ bb = 10) ∧ bb = (if tb then 10 else 2) ∧ (((bb : Nat) : Int) == 10) = tb ∧ (infF (n : Nat))[2]? = some (.int .i64 (bb : Nat)) ∧ (infF (n : Nat))[4]? = some (.int .i64 (p : Nat)) ∧
    ∀ w, Calls Try.prog 33 #[.int .i64 (n : Nat)] w fun e w' => ∃ g, e = .returned (.pointer (some ⟨g, 0, none⟩)) ∧ w.heap.size ≤ g ∧ PowNew w' g (if tb then 10 else 5) p ∧ Below w.heap.size w w' := by
  have H : ∀ p bb tb, p ≤ 300 → (bb = 2 ∨ bb = 10) → bb = (if tb then 10 else 2) → (((bb : Nat) : Int) == 10) = tb → (infF (n : Nat))[2]? = some (.int .i64 (bb : Nat)) → (infF (n : Nat))[4]? = some (.int .i64 (p : Nat)) → (infF (n : Nat)).all (·.oneCell') = true →
    ∃ p bb tb, p ≤ 300 ∧ (bb = 2 ∨ bb = 10) ∧ bb = (if tb then 10 else 2) ∧ (((bb : Nat) : Int) == 10) = tb ∧ (infF (n : Nat))[2]? = some (.int .i64 (bb : Nat)) ∧ (infF (n : Nat))[4]? = some (.int .i64 (p : Nat)) ∧
    ∀ w, Calls Try.prog 33 #[.int .i64 (n : Nat)] w fun e w' => ∃ g, e = .returned (.pointer (some ⟨g, 0, none⟩)) ∧ w.heap.size ≤ g ∧ PowNew w' g (if tb then 10 else 5) p ∧ Below w.heap.size w w' :=
    fun p bb tb a1 a2 a3 a4 a5 a6 a7 => ⟨p, bb, tb, a1, a2, a3, a4, a5, a6, fun w => newPowers_of _ w (infF _) bb p tb (fun w => of_calls _ w (by omega) (by omega)) ⟨rfl, a7⟩ a5 a6 a4⟩
  have hn : n = 1 ∨ n = 2 ∨ n = 3 ∨ n = 4 ∨ n = 5 ∨ n = 6 ∨ n = 7 ∨ n = 8 ∨ n = 9 ∨ n = 10 ∨ n = 11 ∨ n = 12 := by omega
  rcases hn with rfl | rfl | rfl | rfl | rfl | rfl | rfl | rfl | rfl | rfl | rfl | rfl
  · exact H 11 2 false (by decide) (by decide) rfl rfl rfl rfl (by simp [infF, Value.oneCell'])
  · exact H 8 2 false (by decide) (by decide) rfl rfl rfl rfl (by simp [infF, Value.oneCell'])
  · exact H 24 2 false (by decide) (by decide) rfl rfl rfl rfl (by simp [infF, Value.oneCell'])
  · exact H 53 2 false (by decide) (by decide) rfl rfl rfl rfl (by simp [infF, Value.oneCell'])
  · exact H 113 2 false (by decide) (by decide) rfl rfl rfl rfl (by simp [infF, Value.oneCell'])
  · exact H 241 2 false (by decide) (by decide) rfl rfl rfl rfl (by simp [infF, Value.oneCell'])
  · exact H 7 10 true (by decide) (by decide) rfl rfl rfl rfl (by simp [infF, Value.oneCell'])
  · exact H 16 10 true (by decide) (by decide) rfl rfl rfl rfl (by simp [infF, Value.oneCell'])
  · exact H 34 10 true (by decide) (by decide) rfl rfl rfl rfl (by simp [infF, Value.oneCell'])
  · exact H 7 10 true (by decide) (by decide) rfl rfl rfl rfl (by simp [infF, Value.oneCell'])
  · exact H 16 10 true (by decide) (by decide) rfl rfl rfl rfl (by simp [infF, Value.oneCell'])
  · exact H 34 10 true (by decide) (by decide) rfl rfl rfl rfl (by simp [infF, Value.oneCell'])
theorem one_sl {w : World} {g : Nat} (h : w.heap[g]? = some (.cells #[.int .u64 1] 59 (0, 0))) : SlW w (some ⟨g, 0, none⟩) 1 1 [1] :=
  WordsAt.slAll (zs := [1]) h (by intro x hx; simp at hx; subst hx; decide) rfl (by decide)
end Go.Proofs.Ythaplpenccpkpaa
