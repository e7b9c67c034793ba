/- The contracts of Power at all inputs, the program's and the reference's; NatPowers: the walk over the law. · Natural numbers as values that lie in memory: the contracts of nat's and the reference's calls in these words. No conditions. · The exponent of a fraction's first digit; the whole number that a direction takes; the text. Plain laws. No conditions. · shortest.Scale, below, Tens: a fraction times a power of ten; the exponent of its first digit. -/
import Derived.Test.YtpodpdopgdkdkaaGreatDoorMw21
import Derived.Test.YtpodpdopgdkdkaaGreatDoorMw20
import Derived.Test.YtpodpdopgdkdkaaGreatDoorMw01
set_option linter.unusedVariables false
set_option linter.unusedSimpArgs false
namespace Go.Proofs.YtpodpdopgdkdkaaGreatDoor
open Go.RowKit
theorem natPower_calls (w : World) (b n : Int) (h0 : -9223372036854775808 ≤ n) (h1 : n ≤ 9223372036854775807) :
    Calls Tryz.prog 53 #[.int .i64 b, .int .i64 n] w (NatRes2 w (powVal b n) (n.toNat + 1) (.int .i64 (powErr b n))) := by
  unfold powVal powErr
  rcases pow_ways b n with ⟨e, h⟩ | ⟨⟨e, hn⟩, h⟩
  · rw [if_pos e, if_pos e]
    refine (powerNo_calls w b n h0 h1 h).mono ?_
    rintro e w' ⟨rfl, rfl⟩
    exact natRes2_nil _ _ _ (Below.refl _ _)
  · have ne : ¬ powOk b n = false := by rw [e]; decide
    rw [if_neg ne, if_neg ne]
    by_cases hb : 12000 < n
    · rw [if_pos hb, if_pos hb]
      refine (powerFar_calls w b n hb h1 h).mono ?_
      rintro e w' ⟨rfl, rfl⟩
      exact natRes2_nil _ _ _ (Below.refl _ _)
    · rw [if_neg hb, if_neg hb]
      obtain ⟨m, rfl⟩ : ∃ m : Nat, n = m := ⟨n.toNat, by omega⟩
      obtain ⟨c, rfl⟩ : ∃ c : Nat, b = c := ⟨b.toNat, by omega⟩
      rw [Int.toNat_natCast, Int.toNat_natCast]
      exact powerOk_calls w c m (by omega) (by omega)
end Go.Proofs.YtpodpdopgdkdkaaGreatDoor
namespace Go.Proofs.YtpodpdopgdkdkaaGreatDoor
set_option linter.unusedVariables false
set_option linter.unusedSimpArgs false
open Go.RowKit
/-- A slice of words that is the number n, without noughts at the end. -/
def NatAt (w : World) (n : Nat) (s : Value) : Prop := ∃ a c zs, s = .slice a zs.length c ∧ SlW w a zs.length c zs ∧ val zs = n ∧ sz zs = zs.length ∧ Plain a
theorem NatAt.below {w w' : World} {n : Nat} {s : Value} (h : NatAt w n s) (hb : Below w.heap.size w w') : NatAt w' n s := by
  obtain ⟨a, c, zs, rfl, r1, r2⟩ := h
  exact ⟨a, c, zs, rfl, r1.below hb, r2⟩
theorem NatAt.drewN {w : World} {n : Nat} {s : Value} (h : NatAt w n s) (m : Nat) : NatAt (w.drewN m) n s := by
  obtain ⟨a, c, zs, rfl, r1, r2⟩ := h
  exact ⟨a, c, zs, rfl, r1.drewN m, r2⟩
theorem val_len {zs : List Nat} (hw : W64 zs) (hs : sz zs = zs.length) {n k : Nat} (hv : val zs = n) (hn : n < B64 ^ k) : zs.length ≤ k :=
  len_of_val hs (by rw [hv]; exact hn)
theorem NatRes.at {w w' : World} {n bd : Nat} {e : Ending} (h : NatRes w n bd e w') : ∃ s, e = .returned s ∧ NatAt w' n s ∧ Below w.heap.size w w' := by
  obtain ⟨a, c, zs, rfl, r1, r2, r3, r4, r5⟩ := h
  exact ⟨_, rfl, ⟨a, c, zs, rfl, r1.sl, r2, r3, r1.plain⟩, r5⟩
theorem NatRes2.at {w w' : World} {n bd : Nat} {v : Value} {e : Ending} (h : NatRes2 w n bd v e w') : ∃ s, e = .returned (.tuple #[s, v]) ∧ NatAt w' n s ∧ Below w.heap.size w w' := by
  obtain ⟨a, c, zs, rfl, r1, r2, r3, r4, r5⟩ := h
  exact ⟨_, rfl, ⟨a, c, zs, rfl, r1.sl, r2, r3, r1.plain⟩, r5⟩
/-- One number. -/
def NatOne (w : World) (n : Nat) (e : Ending) (w' : World) : Prop := ∃ s, e = .returned s ∧ NatAt w' n s ∧ Below w.heap.size w w'
/-- One number, and a value beside it. -/
def NatOneV (w : World) (n : Nat) (v : Value) (e : Ending) (w' : World) : Prop := ∃ s, e = .returned (.tuple #[s, v]) ∧ NatAt w' n s ∧ Below w.heap.size w w'
/-- Two numbers. -/
def NatTwo (w : World) (n m : Nat) (e : Ending) (w' : World) : Prop := ∃ s t, e = .returned (.tuple #[s, t]) ∧ NatAt w' n s ∧ NatAt w' m t ∧ Below w.heap.size w w'
theorem NatPair.at {w w' : World} {n m bd bd' : Nat} {e : Ending} (h : NatPair w n m bd bd' e w') : NatTwo w n m e w' := by
  obtain ⟨a, c, zs, a', c', ys, rfl, ⟨r1, r2, r3, r4⟩, ⟨t1, t2, t3, t4⟩, hb⟩ := h
  exact ⟨_, _, rfl, ⟨a, c, zs, rfl, r1.sl, r2, r3, r1.plain⟩, ⟨a', c', ys, rfl, t1.sl, t2, t3, t1.plain⟩, hb⟩
theorem mul_at (w : World) {s t : Value} {m n k l : Nat} (hs : NatAt w m s) (ht : NatAt w n t) (hm : m < B64 ^ k) (hn : n < B64 ^ l) (hkl : k + l ≤ 2000) :
    Calls Tryz.prog 54 #[s, t] w (NatOneV w (m * n) (.int .i64 0)) := by
  obtain ⟨a, c, xs, rfl, a1, rfl, a3, a4⟩ := hs
  obtain ⟨b, d, ys, rfl, b1, rfl, b3, b4⟩ := ht
  have l1 := val_len a1.hw a3 rfl hm
  have l2 := val_len b1.hw b3 rfl hn
  refine (mul_calls w a b _ c _ d xs ys a1 b1 (by omega) (by omega)).mono fun e w' h => ?_
  have h2 := h.at
  unfold mulVal mulErr at h2
  rw [if_neg (by omega), if_neg (by omega)] at h2
  exact h2
theorem times_at (w : World) {s t : Value} {m n k l : Nat} (hs : NatAt w m s) (ht : NatAt w n t) (hm : m < B64 ^ k) (hn : n < B64 ^ l) (hk : k ≤ 1000000) (hl : l ≤ 1000000) :
    Calls Tryz.prog 15 #[s, t] w (NatOne w (m * n)) := by
  obtain ⟨a, c, xs, rfl, a1, rfl, a3, a4⟩ := hs
  obtain ⟨b, d, ys, rfl, b1, rfl, b3, b4⟩ := ht
  have l1 := val_len a1.hw a3 rfl hm
  have l2 := val_len b1.hw b3 rfl hn
  exact (refTimes_calls w a b _ c _ d xs ys a1 b1 (by omega) (by omega)).mono fun e w' h => h.at
theorem power_at (w : World) (b n : Nat) (hn : n ≤ 12000) (h : b = 2 ∨ b = 5 ∨ b = 10) :
    Calls Tryz.prog 53 #[.int .i64 (b : Nat), .int .i64 (n : Nat)] w (NatOneV w (b ^ n) (.int .i64 0)) :=
  (powerOk_calls w b n hn h).mono fun e w' h => h.at
theorem shl_at (w : World) {s : Value} {m k : Nat} (n : Nat) (hs : NatAt w m s) (hm : m < B64 ^ k) (hkn : k + (n + 63) / 64 ≤ 2000) :
    Calls Tryz.prog 55 #[s, .int .i64 (n : Nat)] w (NatOneV w (m * 2 ^ n) (.int .i64 0)) := by
  obtain ⟨a, c, xs, rfl, a1, rfl, a3, a4⟩ := hs
  have l1 := val_len a1.hw a3 rfl hm
  refine (shl_calls w a _ c xs n (by omega) (by omega) a1 (by omega)).mono fun e w' h => ?_
  have h2 := h.at
  obtain ⟨e1, e2⟩ := shlOk_err (xs := xs) (m := n) (by omega)
  rw [e1, e2] at h2
  exact h2
theorem refLeft_at (w : World) {s : Value} {m k : Nat} (n : Nat) (hs : NatAt w m s) (hm : m < B64 ^ k) (hk : k ≤ 1000000) (hn : n ≤ 1000000) :
    Calls Tryz.prog 57 #[s, .int .i64 (n : Nat)] w (NatOne w (m * 2 ^ n)) := by
  obtain ⟨a, c, xs, rfl, a1, rfl, a3, a4⟩ := hs
  have l1 := val_len a1.hw a3 rfl hm
  exact (left_calls w a _ c xs n a1 (by omega) (by omega)).mono fun e w' h => h.at
theorem cmp_at (w : World) {s t : Value} {m n : Nat} (hs : NatAt w m s) (ht : NatAt w n t) :
    Calls Tryz.prog 77 #[s, t] w fun e w' => e = .returned (.int .i64 (cmpI m n)) ∧ ∃ k, w' = w.drewN k := by
  obtain ⟨a, c, xs, rfl, a1, rfl, a3, a4⟩ := hs
  obtain ⟨b, d, ys, rfl, b1, rfl, b3, b4⟩ := ht
  exact cmp_calls w a b _ c _ d xs ys a1 b1
theorem refCmp_at (w : World) {s t : Value} {m n : Nat} (hs : NatAt w m s) (ht : NatAt w n t) :
    Calls Tryz.prog 16 #[s, t] w fun e w' => e = .returned (.int .i64 (cmpI m n)) ∧ w = w' := by
  obtain ⟨a, c, xs, rfl, a1, rfl, a3, a4⟩ := hs
  obtain ⟨b, d, ys, rfl, b1, rfl, b3, b4⟩ := ht
  exact refCmp_calls w a b _ c _ d xs ys a1 b1
theorem len_at (w : World) {s : Value} {m k : Nat} (hs : NatAt w m s) (hm : m < B64 ^ k) (hk : k ≤ 1000000) :
    Calls Tryz.prog 72 #[s] w fun e w' => e = .returned (.int .i64 (blen m : Nat)) ∧ w' = w := by
  obtain ⟨a, c, xs, rfl, a1, rfl, a3, a4⟩ := hs
  have l1 := val_len a1.hw a3 rfl hm
  exact len_calls w a _ c xs a1 (by omega)
theorem refLen_at (w : World) {s : Value} {m k : Nat} (hs : NatAt w m s) (hm : m < B64 ^ k) (hk : k ≤ 1000000) :
    Calls Tryz.prog 89 #[s] w fun e w' => e = .returned (.int .i64 (blen m : Nat)) ∧ w' = w := by
  obtain ⟨a, c, xs, rfl, a1, rfl, a3, a4⟩ := hs
  have l1 := val_len a1.hw a3 rfl hm
  exact refLen_calls w a _ c xs a1 (by omega)
theorem add_at (w : World) {s t : Value} {m n k l : Nat} (hs : NatAt w m s) (ht : NatAt w n t) (hm : m < B64 ^ k) (hn : n < B64 ^ l) (hk : k ≤ 1000000) (hl : l ≤ 1000000) :
    Calls Tryz.prog 78 #[s, t] w (NatOne w (m + n)) := by
  obtain ⟨a, c, xs, rfl, a1, rfl, a3, a4⟩ := hs
  obtain ⟨b, d, ys, rfl, b1, rfl, b3, b4⟩ := ht
  have l1 := val_len a1.hw a3 rfl hm
  have l2 := val_len b1.hw b3 rfl hn
  exact (add_calls w a b _ c _ d xs ys a1 b1 (by omega) (by omega)).mono fun e w' h => h.at
theorem refAdd_at (w : World) {s t : Value} {m n k l : Nat} (hs : NatAt w m s) (ht : NatAt w n t) (hm : m < B64 ^ k) (hn : n < B64 ^ l) (hk : k ≤ 1000000) (hl : l ≤ 1000000) :
    Calls Tryz.prog 88 #[s, t] w (NatOne w (m + n)) := by
  obtain ⟨a, c, xs, rfl, a1, rfl, a3, a4⟩ := hs
  obtain ⟨b, d, ys, rfl, b1, rfl, b3, b4⟩ := ht
  have l1 := val_len a1.hw a3 rfl hm
  have l2 := val_len b1.hw b3 rfl hn
  exact (refAdd_calls w a b _ c _ d xs ys a1 b1 (by omega) (by omega)).mono fun e w' h => h.at
theorem sub_at (w : World) {s t : Value} {m n k : Nat} (hs : NatAt w m s) (ht : NatAt w n t) (hm : m < B64 ^ k) (hk : k ≤ 1000000) (hle : n ≤ m) :
    Calls Tryz.prog 75 #[s, t] w (NatOneV w (m - n) (.int .i64 0)) := by
  obtain ⟨a, c, xs, rfl, a1, rfl, a3, a4⟩ := hs
  obtain ⟨b, d, ys, rfl, b1, rfl, b3, b4⟩ := ht
  have l1 := val_len a1.hw a3 rfl hm
  refine (sub_calls w a b _ c _ d xs ys a1 b1 (by omega) a4).mono fun e w' h => ?_
  have h2 := h.at
  unfold subErr at h2
  rw [if_neg (by omega)] at h2
  exact h2
theorem div_at (w : World) {s t : Value} {m n k l : Nat} (hs : NatAt w m s) (ht : NatAt w n t) (hm : m < B64 ^ k) (hn : n < B64 ^ l) (hk : k ≤ 2000) (hl : l ≤ 2000) (h0 : 0 < n) :
    Calls Tryz.prog 74 #[s, t] w fun e w' => ∃ s t, e = .returned (.tuple #[s, t, .int .i64 0]) ∧ NatAt w' (m / n) s ∧ NatAt w' (m % n) t ∧ Below w.heap.size w w' := by
  obtain ⟨a, c, xs, rfl, a1, rfl, a3, a4⟩ := hs
  obtain ⟨b, d, ys, rfl, b1, rfl, b3, b4⟩ := ht
  have l1 := val_len a1.hw a3 rfl hm
  have l2 := val_len b1.hw b3 rfl hn
  refine (divOk_calls w a b _ c _ d xs ys a1 b1 a4 (by omega) (by omega) (Nat.pos_of_ne_zero fun e => by have := sz_zero.1 e; omega)).mono fun e w' h => ?_
  obtain ⟨s1, s2, rfl, n1, n2⟩ := h
  obtain ⟨s1', e1, h1, hb⟩ := n1.at
  obtain ⟨s2', e2, h2, -⟩ := n2.at
  cases e1; cases e2
  exact ⟨_, _, rfl, h1, h2, hb⟩
theorem refOver_at (w : World) {s t : Value} {m n k l : Nat} (hs : NatAt w m s) (ht : NatAt w n t) (hm : m < B64 ^ k) (hn : n < B64 ^ l) (hk : k ≤ 10000) (hl : l ≤ 10000) (h0 : 0 < n) :
    Calls Tryz.prog 90 #[s, t] w (NatTwo w (m / n) (m % n)) := by
  obtain ⟨a, c, xs, rfl, a1, rfl, a3, a4⟩ := hs
  obtain ⟨b, d, ys, rfl, b1, rfl, b3, b4⟩ := ht
  have l1 := val_len a1.hw a3 rfl hm
  have l2 := val_len b1.hw b3 rfl hn
  exact (over_calls w a b _ c _ d xs ys a1 b1 a4 (by omega) (by omega) b3 (by rw [← b3]; exact Nat.pos_of_ne_zero fun e => by have := sz_zero.1 e; omega)).mono fun e w' h => h.at
theorem natOf_at (w : World) (n : Nat) (hn : n < B64) : Calls Tryz.prog 71 #[.int .u64 (n : Nat)] w (NatOne w n) := (natOf_calls w n hn).mono fun e w' h => h.at
theorem refPow_at (w : World) (b : Nat) (hb : b < B64) (hb0 : 0 < b) (n : Nat) (hn : n ≤ 1000000) : Calls Tryz.prog 58 #[.int .u64 (b : Nat), .int .i64 (n : Nat)] w (NatOne w (b ^ n)) :=
  (refPow_calls b hb hb0 n hn w).mono fun e w' h => h.at
theorem NatAt.lenPos {w : World} {n : Nat} {s : Value} (h : NatAt w n s) (h0 : 0 < n) : ∃ b off c zs, s = .slice (some ⟨b, off, none⟩) zs.length c ∧ SlW w (some ⟨b, off, none⟩) zs.length c zs ∧ val zs = n ∧ sz zs = zs.length ∧ 0 < zs.length := by
  obtain ⟨a, c, zs, rfl, r1, r2, r3, r4⟩ := h
  have hp : 0 < zs.length := by
    rw [← r3]; exact Nat.pos_of_ne_zero fun e => by have := sz_zero.1 e; omega
  obtain ⟨b, off, e, -⟩ := r1.hcell 0 hp
  subst e
  exact ⟨b, off, c, zs, rfl, r1, r2, r3, hp⟩
theorem NatAt.len0 {w : World} {n : Nat} {s : Value} (h : NatAt w n s) (h0 : n = 0) : ∃ a c, s = .slice a 0 c := by
  obtain ⟨a, c, zs, rfl, r1, r2, r3, r4⟩ := h
  have hp : zs.length = 0 := by rw [← r3]; exact sz_zero.2 (by omega)
  exact ⟨a, c, by rw [hp]⟩
theorem pow10_words (n k : Nat) (h : 2 * n ≤ 38 * k) : 10 ^ n < B64 ^ (k + 1) := by
  have h1 : (10 : Nat) ^ n ≤ 10 ^ (19 * k) := Nat.pow_le_pow_right (by decide) (by omega)
  rw [Nat.pow_mul] at h1
  have h2 : ((10 : Nat) ^ 19) ^ k ≤ B64 ^ k := Nat.pow_le_pow_left (by decide) _
  have h3 : B64 ^ k < B64 ^ (k + 1) := Nat.pow_lt_pow_right (by decide) (by omega)
  omega
end Go.Proofs.YtpodpdopgdkdkaaGreatDoor
namespace Go.Proofs.YtpodpdopgdkdkaaGreatDoor
/-- 10^e is at most the fraction A / D. -/
def le10 (A D : Nat) (e : Int) : Prop := D * 10 ^ e.toNat ≤ A * 10 ^ (-e).toNat
instance (A D : Nat) (e : Int) : Decidable (le10 A D e) := inferInstanceAs (Decidable (_ ≤ _))
theorem le10_down {A D : Nat} {e : Int} (h : le10 A D (e + 1)) : le10 A D e := by
  unfold le10 at *
  by_cases h0 : 0 ≤ e
  · rw [show (e + 1).toNat = e.toNat + 1 by omega, show (-(e + 1)).toNat = 0 by omega, Nat.pow_succ, ← Nat.mul_assoc] at h
    rw [show (-e).toNat = 0 by omega]
    have := Nat.zero_le (D * 10 ^ e.toNat)
    omega
  · rw [show (e + 1).toNat = 0 by omega] at h
    rw [show e.toNat = 0 by omega, show (-e).toNat = (-(e + 1)).toNat + 1 by omega, Nat.pow_succ, ← Nat.mul_assoc]
    omega
theorem le10_less {A D : Nat} (k : Nat) : ∀ {e : Int}, le10 A D (e + k) → le10 A D e := by
  induction k with
  | zero => intro e h; simpa using h
  | succ k ih => intro e h; exact ih (le10_down (by rw [show e + k + 1 = e + ((k + 1 : Nat) : Int) by omega]; exact h))
theorem le10_mono {A D : Nat} {e e' : Int} (h : le10 A D e) (hle : e' ≤ e) : le10 A D e' :=
  le10_less (e - e').toNat (by rw [show e' + ((e - e').toNat : Int) = e by omega]; exact h)
/-- The exponent of the first digit. -/
def isTens (A D : Nat) (t : Int) : Prop := le10 A D t ∧ ¬ le10 A D (t + 1)
theorem tens_iff {A D : Nat} {t : Int} (h : isTens A D t) (e : Int) : le10 A D e ↔ e ≤ t := by
  constructor
  · intro k
    by_cases hle : e ≤ t
    · exact hle
    · exact absurd (le10_mono k (show t + 1 ≤ e by omega)) h.2
  · exact le10_mono h.1
theorem tens_unique {A D : Nat} {t t' : Int} (h : isTens A D t) (h' : isTens A D t') : t = t' := by
  have a := (tens_iff h t').1 h'.1
  have b := (tens_iff h' t).1 h.1
  omega
theorem tens_between {A D : Nat} (k : Nat) : ∀ a : Int, le10 A D a → ¬ le10 A D (a + k) → ∃ t, a ≤ t ∧ t < a + k ∧ isTens A D t := by
  induction k with
  | zero => intro a h1 h2; exact absurd h1 (by simpa using h2)
  | succ k ih =>
    intro a h1 h2
    by_cases h : le10 A D (a + 1)
    · obtain ⟨t, h3, h4, h5⟩ := ih (a + 1) h (by rw [show a + 1 + (k : Int) = a + ((k + 1 : Nat) : Int) by omega]; exact h2)
      exact ⟨t, by omega, by omega, h5⟩
    · exact ⟨a, by omega, by omega, h1, h⟩
theorem far_tens {n m : Nat} (hn : n ≤ 300) (hm : m = 5800) : B64 ^ n < 10 ^ m := by
  obtain ⟨q, hq⟩ : ∃ q : Nat, q = 207 := ⟨_, rfl⟩
  rw [B64_pow]
  have h2 : (2 : Nat) ^ (64 * n) ≤ 2 ^ (93 * q) := Nat.pow_le_pow_right (by decide) (by omega)
  have h3 : (10 : Nat) ^ (28 * q) ≤ 10 ^ m := Nat.pow_le_pow_right (by decide) (by omega)
  have h4 : ((2 : Nat) ^ 93) ^ q < (10 ^ 28) ^ q := Nat.pow_lt_pow_left (by decide) (by omega)
  rw [← Nat.pow_mul, ← Nat.pow_mul] at h4
  exact Nat.lt_of_le_of_lt h2 (Nat.lt_of_lt_of_le h4 h3)
theorem tens_exists {A D n : Nat} (hn : n ≤ 300) (hA : 0 < A) (hD : 0 < D) (hA2 : A < B64 ^ n) (hD2 : D < B64 ^ n) : ∃ t, -5800 ≤ t ∧ t < 5800 ∧ isTens A D t := by
  obtain ⟨m, hm⟩ : ∃ m : Nat, m = 5800 := ⟨_, rfl⟩
  have f := far_tens hn hm
  have h1 : le10 A D (-(m : Int)) := by
    unfold le10
    rw [show (-(m : Int)).toNat = 0 by omega, show (-(-(m : Int))).toNat = m by omega, Nat.pow_zero, Nat.mul_one]
    have : 1 * 10 ^ m ≤ A * 10 ^ m := Nat.mul_le_mul_right _ hA
    omega
  have h2 : ¬ le10 A D (m : Int) := by
    unfold le10
    rw [show (m : Int).toNat = m by omega, show (-(m : Int)).toNat = 0 by omega, Nat.pow_zero, Nat.mul_one]
    have : 1 * 10 ^ m ≤ D * 10 ^ m := Nat.mul_le_mul_right _ hD
    omega
  obtain ⟨t, a, b, c⟩ := tens_between (2 * m) (-(m : Int)) h1 (by rw [show -(m : Int) + ((2 * m : Nat) : Int) = m by omega]; exact h2)
  exact ⟨t, by omega, by omega, c⟩
/-- A fraction times 10^e: numerator, denominator. -/
def scN (A : Nat) (e : Int) : Nat := A * 10 ^ e.toNat
def scD (D : Nat) (e : Int) : Nat := D * 10 ^ (-e).toNat
theorem sc_le {A D : Nat} {e : Int} : scD D (-e) ≤ scN A (-e) ↔ le10 A D e := by
  unfold scD scN le10; rw [Int.neg_neg]
theorem scN_nonneg {A : Nat} {e : Int} (h : 0 ≤ e) : scN A e = A * 10 ^ e.toNat := rfl
theorem scN_neg {A : Nat} {e : Int} (h : e ≤ 0) : scN A e = A := by unfold scN; rw [show e.toNat = 0 by omega]; simp
theorem scD_pos {D : Nat} {e : Int} (h : 0 ≤ e) : scD D e = D := by unfold scD; rw [show (-e).toNat = 0 by omega]; simp
theorem scD_ne {D : Nat} {e : Int} (h : 0 < D) : 0 < scD D e := Nat.mul_pos h (Nat.pow_pos (by decide))
/-- Does a direction take the greater neighbour? half: how the rest compares with a half. -/
def upB (dir : Int) (sg odd : Bool) (half : Int) : Bool :=
  if dir = 0 then (decide (0 < half) || (decide (half = 0) && odd)) else if dir = 1 then decide (0 ≤ half) else if dir = 3 then !sg else if dir = 4 then sg else false
def isUp (dir : Int) (sg : Bool) (A D : Nat) : Bool := upB dir sg (decide (A / D % 2 = 1)) (cmpI (A % D) (D - A % D))
def quoR (dir : Int) (sg : Bool) (A D : Nat) : Nat := if A % D = 0 then A / D else if isUp dir sg A D then A / D + 1 else A / D
theorem cmp_half {r D : Nat} (h : r < D) : cmpI (r * 2 ^ 1) D = cmpI r (D - r) := by
  unfold cmpI
  by_cases h1 : r < D - r
  · rw [if_pos h1, if_pos (by omega)]
  · by_cases h2 : D - r < r
    · rw [if_neg h1, if_pos h2, if_neg (by omega), if_pos (by omega)]
    · rw [if_neg h1, if_neg h2, if_neg (by omega), if_neg (by omega)]
theorem quoR_ge (dir : Int) (sg : Bool) (A D : Nat) : A / D ≤ quoR dir sg A D := by unfold quoR; split <;> (try split) <;> omega
theorem quoR_le (dir : Int) (sg : Bool) (A D : Nat) : quoR dir sg A D ≤ A / D + 1 := by unfold quoR; split <;> (try split) <;> omega
/-- The text: digits, of which the last one has an exponent. -/
def layL (sg : Bool) (s : List UInt8) (e : Int) : List UInt8 :=
  (if sg then [45] else []) ++ s.take 1 ++ (if 1 < s.length then [46] ++ s.drop 1 else []) ++ [101] ++ Lib.itoa (e + s.length - 1)
end Go.Proofs.YtpodpdopgdkdkaaGreatDoor
namespace Go.Proofs.YtpodpdopgdkdkaaGreatDoor
set_option linter.unusedVariables false
set_option linter.unusedSimpArgs false
open Go.RowKit
theorem sc_words {A : Nat} {k : Nat} (h : A < B64 ^ k) (n : Nat) (hn : n ≤ 12000) : A * 10 ^ n < B64 ^ (k + 640) := by
  obtain ⟨q, hq⟩ : ∃ q : Nat, q + 1 = 640 := ⟨639, rfl⟩
  have h2 := pow10_words n q (by omega)
  rw [← hq, Nat.pow_add]
  exact Nat.mul_lt_mul'' h h2
theorem pow10_640 (n : Nat) (hn : n ≤ 12000) : ∃ l, l ≤ 640 ∧ 10 ^ n < B64 ^ l := by
  obtain ⟨q, hq⟩ : ∃ q : Nat, q + 1 = 640 := ⟨639, rfl⟩
  exact ⟨q + 1, by omega, pow10_words n q (by omega)⟩
theorem scN_lt {A k : Nat} (h : A < B64 ^ k) {e : Int} (h1 : e ≤ 12000) : scN A e < B64 ^ (k + 640) := by
  unfold scN; exact sc_words h _ (by omega)
theorem scD_lt {D k : Nat} (h : D < B64 ^ k) {e : Int} (h1 : -12000 ≤ e) : scD D e < B64 ^ (k + 640) := by
  unfold scD; exact sc_words h _ (by omega)
set_option maxRecDepth 100000 in
set_option maxHeartbeats 1000000 in
theorem scale_calls (w : World) {s t : Value} {A D k : Nat} (e : Int) (hs : NatAt w A s) (ht : NatAt w D t) (hA : A < B64 ^ k) (hD : D < B64 ^ k) (hk : k ≤ 1300) (h0 : -12000 ≤ e) (h1 : e ≤ 12000) :
    Calls Tryz.prog 29 #[s, t, .int .i64 e] w (NatTwo w (scN A e) (scD D e)) := by
  have HS := Lib.hid hs
  have HT := Lib.hid ht
  have HA := Lib.hid hA
  have HD := Lib.hid hD
  clear hs ht hA hD
  rcases Int.le_total 0 e with hp | hp
  · obtain ⟨n, rfl⟩ : ∃ n : Nat, e = (n : Int) := ⟨e.toNat, by omega⟩
    have hmax : max (n : Int) (-(n : Int)) = (n : Int) := by omega
    have hn : n ≤ 12000 := by omega
    have HP := Lib.hid (power_at w 10 n hn (.inr (.inr rfl)))
    go_enter Tryz.func29, Tryz.ntmps29
    go_wp2_with fail
    refine HP.out.mono ?_
    rintro e w1 ⟨u, rfl, hu, hb1⟩
    obtain ⟨l, hl, hpw⟩ := pow10_640 n hn
    have HM := Lib.hid (mul_at w1 (HS.out.below hb1) hu HA.out hpw (by omega))
    have HT1 := Lib.hid (HT.out.below hb1)
    have HB1 := Lib.hid hb1
    clear hu hb1 hpw
    go_wp2_with fail
    refine HM.out.mono ?_
    rintro e w2 ⟨v, rfl, hv, hb2⟩
    have HV := Lib.hid hv
    have HT2 := Lib.hid (HT1.out.below hb2)
    have HB2 := Lib.hid (below_then HB1.out hb2)
    clear hv hb2
    go_wp2
    go_ret2
    refine ⟨_, _, rfl, ?_, ?_, HB2.out⟩
    · have := HV.out; rw [scN_nonneg (by omega), Int.toNat_natCast]; exact this
    · rw [scD_pos (by omega)]; exact HT2.out
  · obtain ⟨n, rfl⟩ : ∃ n : Nat, e = -(n : Int) := ⟨(-e).toNat, by omega⟩
    by_cases hn0 : n = 0
    · subst hn0
      have HP := Lib.hid (power_at w 10 0 (by omega) (.inr (.inr rfl)))
      go_enter Tryz.func29, Tryz.ntmps29
      go_wp2_with fail
      refine HP.out.mono ?_
      rintro e w1 ⟨u, rfl, hu, hb1⟩
      have HM := Lib.hid (mul_at w1 (HS.out.below hb1) hu HA.out (show 10 ^ 0 < B64 ^ 1 by decide) (by omega))
      have HT1 := Lib.hid (HT.out.below hb1)
      have HB1 := Lib.hid hb1
      clear hu hb1
      go_wp2_with fail
      refine HM.out.mono ?_
      rintro e w2 ⟨v, rfl, hv, hb2⟩
      have HV := Lib.hid hv
      have HT2 := Lib.hid (HT1.out.below hb2)
      have HB2 := Lib.hid (below_then HB1.out hb2)
      clear hv hb2
      go_wp2
      go_ret2
      refine ⟨_, _, rfl, ?_, ?_, HB2.out⟩
      · have := HV.out; rw [scN_neg (by omega)]; simpa using this
      · rw [scD_pos (by omega)]; exact HT2.out
    · have hlt : -(n : Int) < 0 := by omega
      have hmax : max (-(n : Int)) (n : Int) = (n : Int) := by omega
      have hn : n ≤ 12000 := by omega
      have HP := Lib.hid (power_at w 10 n hn (.inr (.inr rfl)))
      clear hp
      go_enter Tryz.func29, Tryz.ntmps29
      go_wp2_with fail
      refine HP.out.mono ?_
      rintro e w1 ⟨u, rfl, hu, hb1⟩
      obtain ⟨l, hl, hpw⟩ := pow10_640 n hn
      have HM := Lib.hid (mul_at w1 (HT.out.below hb1) hu HD.out hpw (by omega))
      have HT1 := Lib.hid (HS.out.below hb1)
      have HB1 := Lib.hid hb1
      clear hu hb1 hpw
      go_wp2_with fail
      refine HM.out.mono ?_
      rintro e w2 ⟨v, rfl, hv, hb2⟩
      have HV := Lib.hid hv
      have HT2 := Lib.hid (HT1.out.below hb2)
      have HB2 := Lib.hid (below_then HB1.out hb2)
      clear hv hb2
      go_wp2
      go_ret2
      refine ⟨_, _, rfl, ?_, ?_, HB2.out⟩
      · rw [scN_neg (by omega)]; exact HT2.out
      · have := HV.out; unfold scD; rw [show (- -(n : Int)).toNat = n by omega]; exact this
set_option maxRecDepth 100000 in
set_option maxHeartbeats 1000000 in
theorem below_calls (w : World) {s t : Value} {A D k : Nat} (e : Int) (hs : NatAt w A s) (ht : NatAt w D t) (hA : A < B64 ^ k) (hD : D < B64 ^ k) (hk : k ≤ 1300) (h0 : -12000 ≤ e) (h1 : e ≤ 12000) :
    Calls Tryz.prog 73 #[s, t, .int .i64 e] w fun r w' => r = .returned (.bool (decide (¬ le10 A D e))) ∧ Below w.heap.size w w' := by
  have HC := Lib.hid (scale_calls w (-e) hs ht hA hD hk (by omega) (by omega))
  clear hs ht hA hD
  go_enter Tryz.func73, Tryz.ntmps73
  go_wp2_with fail
  refine HC.out.mono ?_
  rintro r w1 ⟨u, v, rfl, hu, hv, hb1⟩
  have HM := Lib.hid (cmp_at w1 hu hv)
  have HB1 := Lib.hid hb1
  clear hu hv hb1
  by_cases hle : le10 A D e
  · have hc := sc_le.2 hle
    obtain ⟨x, hx⟩ : ∃ x, cmpI (scN A (-e)) (scD D (-e)) = x := ⟨_, rfl⟩
    have hx0 : 0 ≤ x := by rw [← hx]; unfold cmpI; rw [if_neg (by omega)]; split <;> omega
    rw [hx] at HM
    have HL := Lib.hid hle
    clear hc hx hle
    go_wp2_with fail
    refine HM.out.mono ?_
    rintro r w2 ⟨rfl, m, rfl⟩
    go_wp2
    go_ret
    exact ⟨by rw [decide_eq_false (not_not_intro HL.out), ← decide_eq_false (show ¬ x < 0 by omega)]; rfl, below_drewN' HB1.out m⟩
  · have hc : ¬ scD D (-e) ≤ scN A (-e) := fun h => hle (sc_le.1 h)
    obtain ⟨x, hx⟩ : ∃ x, cmpI (scN A (-e)) (scD D (-e)) = x := ⟨_, rfl⟩
    have hx0 : x < 0 := by rw [← hx]; unfold cmpI; rw [if_pos (by omega)]; omega
    rw [hx] at HM
    have HL := Lib.hid hle
    clear hc hx hle
    go_wp2_with fail
    refine HM.out.mono ?_
    rintro r w2 ⟨rfl, m, rfl⟩
    go_wp2
    go_ret
    exact ⟨by rw [decide_eq_true HL.out]; rfl, below_drewN' HB1.out m⟩
theorem tdiv_far {x : Int} (h0 : -23673600 ≤ x) (h1 : x ≤ 23673600) : -5800 ≤ x.tdiv 4096 ∧ x.tdiv 4096 ≤ 5800 := by
  have h : (x.tdiv 4096).natAbs = x.natAbs / (4096 : Int).natAbs := Int.natAbs_tdiv x 4096
  have h2 : x.natAbs / 4096 ≤ 5800 := by omega
  have h3 : (4096 : Int).natAbs = 4096 := rfl
  rw [h3] at h
  generalize x.tdiv 4096 = y at h ⊢
  omega
theorem blen_lim {A k : Nat} (h : A < B64 ^ k) : blen A ≤ 64 * k := by
  rw [B64_pow] at h
  by_cases h0 : A = 0
  · subst h0; rw [blen_zero]; omega
  · have := blen_le h0
    have h2 := (Nat.pow_lt_pow_iff_right (a := 2) (by decide)).1 (Nat.lt_of_le_of_lt this h)
    omega
set_option maxRecDepth 100000 in
set_option maxHeartbeats 2000000 in
theorem tens_calls (w : World) {s t : Value} {A D k : Nat} {T : Int} (hs : NatAt w A s) (ht : NatAt w D t) (hA : A < B64 ^ k) (hD : D < B64 ^ k) (hk : k ≤ 300) (hT : isTens A D T) (hT0 : -5800 ≤ T) (hT1 : T ≤ 5800) :
    Calls Tryz.prog 28 #[s, t] w fun r w' => r = .returned (.int .i64 T) ∧ Below w.heap.size w w' := by
  have b1 := blen_lim hA
  have b2 := blen_lim hD
  have H1 := Lib.hid (len_at w hs hA (by omega))
  have H2 := Lib.hid (len_at w ht hD (by omega))
  have HB := Lib.hid (fun (W : World) (hb : Below w.heap.size w W) (e : Int) (e0 : -12000 ≤ e) (e1 : e ≤ 12000) => below_calls W e (hs.below hb) (ht.below hb) hA hD (by omega) e0 e1)
  have HT := Lib.hid (tens_iff hT)
  clear hs ht hA hD hT
  generalize blen A = la at b1 H1
  generalize blen D = lb at b2 H2
  obtain ⟨x, hx⟩ : ∃ x : Int, ((la : Int) - (lb : Int)) * 1233 = x := ⟨_, rfl⟩
  have hx0 : -23673600 ≤ x := by omega
  have hx1 : x ≤ 23673600 := by omega
  obtain ⟨c0, c1⟩ := tdiv_far hx0 hx1
  obtain ⟨e0, he0⟩ : ∃ e0 : Int, x.tdiv 4096 = e0 := ⟨_, rfl⟩
  rw [he0] at c0 c1
  clear hx0 hx1
  go_enter Tryz.func28, Tryz.ntmps28
  go_wp2_with fail
  refine H1.out.mono ?_
  rintro r w' ⟨rfl, rfl⟩
  go_wp2_with fail
  refine H2.out.mono ?_
  rintro r w' ⟨rfl, rfl⟩
  go_wp2_with fail
  go_loopw [5] (fun v wr => ∃ e : Int, v = .int .i64 e ∧ -5800 ≤ e ∧ e ≤ 5800 ∧ Below w'.heap.size w' wr) (fun v _ => (intOf v - T).toNat)
  case atStart => exact ⟨e0, rfl, c0, c1, Below.refl _ _⟩
  case round =>
    obtain ⟨e, rfl, h0, h1, hb⟩ := hrel
    have hc := HB.out _ hb e (by omega) (by omega)
    have hiff := HT.out e
    by_cases hlt : T < e
    · rw [decide_eq_true (show ¬ le10 A D _ from fun h => by have := hiff.1 h; omega)] at hc
      have HC := Lib.hid hc
      have HW := Lib.hid hb
      clear hc hiff hb
      go_wp2_with fail
      refine HC.out.mono ?_
      rintro r w2 ⟨rfl, hb2⟩
      have HB2 := Lib.hid (below_then HW.out hb2)
      clear hb2
      go_wp2
      go_roundw
      case rel => exact ⟨e - 1, by go_num, by omega, by omega, HB2.out⟩
      case measure => simp [intOf]; omega
    · rw [decide_eq_false (not_not_intro (hiff.2 (by omega)))] at hc
      have HC := Lib.hid hc
      have HW := Lib.hid hb
      clear hc hiff hb
      have hle : e ≤ T := by omega
      clear hlt
      go_wp2_with fail
      refine HC.out.mono ?_
      rintro r w2 ⟨rfl, hb2⟩
      have HB2 := Lib.hid (below_then HW.out hb2)
      clear hb2
      go_wp2_with fail
      go_loopw [5] (fun v wr => ∃ e : Int, v = .int .i64 e ∧ -5800 ≤ e ∧ e ≤ T ∧ Below w'.heap.size w' wr) (fun v _ => (T - intOf v).toNat)
      case atStart => exact ⟨e, rfl, h0, hle, HB2.out⟩
      case round =>
        obtain ⟨e, rfl, h0, h1, hb⟩ := hrel
        have hc := HB.out _ hb (e + 1) (by omega) (by omega)
        have hiff := HT.out (e + 1)
        by_cases hlt : e < T
        · rw [decide_eq_false (not_not_intro (hiff.2 (by omega)))] at hc
          have HC := Lib.hid hc
          have HW := Lib.hid hb
          clear hc hiff hb
          go_wp2_with fail
          refine HC.out.mono ?_
          rintro r w2 ⟨rfl, hb2⟩
          have HB2 := Lib.hid (below_then HW.out hb2)
          clear hb2
          go_wp2
          go_roundw
          case rel => exact ⟨e + 1, by go_num, by omega, by omega, HB2.out⟩
          case measure => simp [intOf]; omega
        · rw [decide_eq_true (show ¬ le10 A D _ from fun h => by have := hiff.1 h; omega)] at hc
          have HC := Lib.hid hc
          have HW := Lib.hid hb
          obtain rfl : e = T := by omega
          clear hc hiff hb
          go_wp2_with fail
          refine HC.out.mono ?_
          rintro r w2 ⟨rfl, hb2⟩
          have HB2 := Lib.hid (below_then HW.out hb2)
          clear hb2
          go_wp2
          go_ret
          exact ⟨rfl, HB2.out⟩
end Go.Proofs.YtpodpdopgdkdkaaGreatDoor
