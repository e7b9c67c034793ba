/- The contracts of nat.power, nat.Power and of the reference's Pow, Power. -/
import Derived.Test.YthaplpenccpkpaaNatShifts
namespace Go.Proofs.Ythaplpenccpkpaa
open Go.RowKit
theorem NatRes.small {w w' : World} {n bd m : Nat} {e : Ending} (h : NatRes w n bd e w') (hm : n < B64 ^ m) : NatRes w n m e w' := by
  obtain ⟨a', c', zs, rfl, r1, r2, r3, r4, r5⟩ := h
  exact ⟨a', c', zs, rfl, r1, r2, r3, len_of_val r3 (by rw [r2]; exact hm), r5⟩
theorem pow_lt_words {b : Nat} (hb : b < B64) (n : Nat) : b ^ n < B64 ^ (n + 1) := by
  have h1 : b ^ n ≤ B64 ^ n := Nat.pow_le_pow_left (by omega) n
  have h2 : B64 ^ n < B64 ^ (n + 1) := Nat.pow_lt_pow_right (by decide) (by omega)
  omega
theorem pow_half (b n : Nat) : b ^ (n / 2) * b ^ (n / 2) = b ^ (n - n % 2) := by
  rw [← Nat.pow_add]
  congr 1
  omega
theorem pow_odd {b n : Nat} (h : n % 2 = 1) : b ^ (n / 2) * b ^ (n / 2) * b = b ^ n := by
  rw [pow_half, h, ← Nat.pow_succ]
  congr 1
  omega
theorem pow_even {b n : Nat} (h : n % 2 = 0) : b ^ (n / 2) * b ^ (n / 2) = b ^ n := by
  rw [pow_half, h]
  rfl
set_option maxRecDepth 10000 in
set_option maxHeartbeats 2000000 in
theorem power_calls (b : Nat) (hb : b < B64) (k : Nat) : ∀ (n : Nat) (w : World), n ≤ k → n ≤ 1000000 →
    Calls Try.prog 95 #[.int .u64 (b : Nat), .int .i64 (n : Nat)] w (NatRes w (b ^ n) (n + 1)) := by
  induction k with
  | zero =>
    intro n w hk _
    have hn : n = 0 := by omega
    subst hn
    have H1 := Lib.hid (natOf_calls w 1 (by decide))
    clear hb hk
    go_enter Try.func95, Try.ntmps95
    go_wp2_with fail
    refine H1.out.mono ?_
    rintro e w1 ⟨a', c', rs, rfl, r⟩
    have R := Lib.hid r
    clear r
    go_wp2
    go_ret
    exact ⟨a', c', rs, rfl, R.out⟩
  | succ k ih =>
    intro n w hk hn
    by_cases h0 : n = 0
    · subst h0
      exact ih 0 w (by omega) (by omega)
    · have hpl := Lib.hid (pow_lt_words hb n)
      have hpl2 := Lib.hid (pow_lt_words hb (n / 2))
      have HB := Lib.hid hb
      have IH := Lib.hid (ih (n / 2) w (by omega) (by omega))
      have HO := Lib.hid (fun h => pow_odd (b := b) (n := n) h)
      have HE := Lib.hid (fun h => pow_even (b := b) (n := n) h)
      clear ih hb
      obtain ⟨q, hq⟩ : ∃ q, n / 2 = q := ⟨_, rfl⟩
      have hqi : (n : Int) / 2 = (q : Nat) := by omega
      have hq0 : ((n : Int) == 0) = false := by simp; exact h0
      rw [hq] at IH HO HE hpl2
      have hqb : q ≤ 500000 := by omega
      clear hq
      obtain ⟨r, hr⟩ : ∃ r, n % 2 = r := ⟨_, rfl⟩
      have hri : (n : Int) % 2 = (r : Nat) := by omega
      rw [hr] at HO HE
      have hr1 : r = 0 ∨ r = 1 := by omega
      clear hr h0
      go_enter Try.func95, Try.ntmps95
      go_wp2_with fail
      refine IH.out.mono ?_
      rintro e w1 ⟨a1, c1, xs, rfl, r1, r2, r3, r4, r5⟩
      have R1 := Lib.hid (And.intro r1 (And.intro r2 (And.intro r3 r5)))
      clear r1 r2 r3 r5
      go_wp2_with fail
      refine (product_calls w1 a1 a1 _ c1 _ c1 xs xs R1.out.1.sl R1.out.1.sl (by omega) (by omega)).mono ?_
      rintro e w2 hp
      rw [R1.out.2.1] at hp
      obtain ⟨a2, c2, ys, rfl, p1, p2, p3, p4, p5⟩ := hp
      have R2 := Lib.hid (And.intro p1 (And.intro p2 (And.intro p3 (And.intro p4 p5))))
      have HB2 := Lib.hid (below_then R1.out.2.2.2 p5)
      clear p1 p2 p3 p5
      rcases hr1 with rfl | rfl
      · go_wp2
        go_ret
        have hv := R2.out.2.1
        rw [HE.out (by first | rfl | trivial)] at hv
        exact ⟨a2, c2, ys, rfl, R2.out.1.mono R1.out.2.2.2.size, hv, R2.out.2.2.1, len_of_val R2.out.2.2.1 (by rw [hv]; exact hpl.out), HB2.out⟩
      · go_wp2_with fail
        refine (product_calls _ a2 _ _ c2 1 1 ys [b] (R2.out.1.keep ((Below.refl _ _).alloc (Nat.le_refl _) _)).sl ((one_word w2 b).slAll (w64_one HB.out) rfl (by omega)) (by omega) (by omega)).mono ?_
        rintro e w3 hp
        rw [R2.out.2.1, val_one, HO.out (by first | rfl | trivial)] at hp
        have hp2 := natRes_trans (HB2.out.alloc HB2.out.size _) (hp.small hpl.out)
        obtain ⟨a3, c3, zs, rfl, p1, p2, p3, p4, p5⟩ := hp2
        have R3 := Lib.hid (And.intro p1 (And.intro p2 (And.intro p3 (And.intro p4 p5))))
        clear p1 p2 p3 p4 p5 hp
        go_wp2
        go_ret
        exact ⟨a3, c3, zs, rfl, R3.out⟩
end Go.Proofs.Ythaplpenccpkpaa
