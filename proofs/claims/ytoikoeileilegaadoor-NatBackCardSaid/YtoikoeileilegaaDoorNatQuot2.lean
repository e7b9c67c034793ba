/- The contracts of nat.quotient and nat.Div. -/
import Derived.Test.YtoikoeileilegaaDoorNatQuot
namespace Go.Proofs.YtoikoeileilegaaDoor
open Go.RowKit
theorem NatPair.le {w w' : World} {n m b1 b2 c1 c2 : Nat} {e : Ending} (h : NatPair w n m b1 b2 e w') (h1 : b1 ≤ c1) (h2 : b2 ≤ c2) : NatPair w n m c1 c2 e w' := by
  obtain ⟨a, c, zs, a', c', ys, he, r, t, hb⟩ := h
  exact ⟨a, c, zs, a', c', ys, he, ⟨r.1, r.2.1, r.2.2.1, by omega⟩, ⟨t.1, t.2.1, t.2.2.1, by omega⟩, hb⟩
theorem natPair_trans {w w1 w2 : World} {n m b1 b2 : Nat} {e : Ending} (hb : Below w.heap.size w w1) (h : NatPair w1 n m b1 b2 e w2) : NatPair w n m b1 b2 e w2 := by
  obtain ⟨a, c, zs, a', c', ys, he, r, t, hb2⟩ := h
  exact ⟨a, c, zs, a', c', ys, he, ⟨r.1.mono hb.size, r.2⟩, ⟨t.1.mono hb.size, t.2⟩, below_then hb hb2⟩
theorem NatRes.sides {w w' : World} {n bd : Nat} {s : Value} (h : NatRes w n bd (.returned s) w') : ∃ a c zs, s = .slice a zs.length c ∧ OwnW w.heap.size w' a zs.length c zs ∧ val zs = n ∧ sz zs = zs.length ∧ zs.length ≤ bd ∧ Below w.heap.size w w' := by
  obtain ⟨a, c, zs, he, r⟩ := h
  cases he
  exact ⟨a, c, zs, rfl, r⟩
theorem NatRes.below {w w' : World} {n bd : Nat} {e : Ending} (h : NatRes w n bd e w') : Below w.heap.size w w' := by
  obtain ⟨_, _, _, _, _, _, _, _, r5⟩ := h
  exact r5
theorem NatRes.keep {w w1 w2 : World} {n bd : Nat} {s : Value} (h : NatRes w n bd (.returned s) w1) (hb : Below w1.heap.size w1 w2) : NatRes w n bd (.returned s) w2 := by
  obtain ⟨a, c, zs, he, r1, r2, r3, r4, r5⟩ := h
  exact ⟨a, c, zs, he, r1.keep hb, r2, r3, r4, below_then r5 hb⟩
theorem len_ge {zs : List Nat} {n : Nat} (hw : W64 zs) (h : B64 ^ (n - 1) ≤ val zs) (hn : 1 ≤ n) : n ≤ zs.length := by
  have h1 := val_lt hw
  rcases Nat.lt_or_ge zs.length n with h2 | h2
  · have : B64 ^ zs.length ≤ B64 ^ (n - 1) := Nat.pow_le_pow_right (by decide) (by omega)
    omega
  · exact h2
theorem len_le_of_val {xs ys : List Nat} (hx : W64 xs) (tx : sz xs = xs.length) (ty : sz ys = ys.length) (h : val ys ≤ val xs) : ys.length ≤ xs.length := by
  rcases Nat.lt_or_ge xs.length ys.length with h2 | h2
  · have := sz_lt_val (xs := xs) (ys := ys) hx (by omega)
    omega
  · exact h2
theorem shr_unnorm {r N y s : Nat} {rs : List Nat} (hr : val rs = r) (h : r = N * 2 ^ s % (y * 2 ^ s)) : shrVal rs (s : Int) = N % y := by
  unfold shrVal
  rcases Nat.eq_zero_or_pos s with h0 | h0
  · subst h0
    rw [if_pos (by omega), hr, h]
    simp
  · rw [if_neg (by omega), Int.toNat_natCast, hr, h]
    exact unnorm.2
set_option maxRecDepth 10000 in
set_option maxHeartbeats 4000000 in
theorem quotient_calls (w : World) (a b : Option Addr) (la ca n cb : Nat) (xs ys : List Nat) (ha : SlW w a la ca xs) (hb : SlW w b n cb ys) (pa : Plain a) (sa : la ≤ 10000) (sb : n ≤ 10000) (tx : sz xs = la) (ty : sz ys = n) (hn : 0 < n) :
    Calls Tryd.prog 55 #[.slice a la ca, .slice b n cb] w (NatPair w (val xs / val ys) (val xs % val ys) (la + 2) (la + n + 2)) := by
  have m1 := ha.hle
  have m2 := ha.hmax
  have m3 := hb.hle
  have m4 := hb.hmax
  have HC := Lib.hid (cmp_calls w a b la ca n cb xs ys ha hb)
  have hcn := cmpI_neg (val xs) (val ys)
  obtain ⟨C, hC⟩ : ∃ C, cmpI (val xs) (val ys) = C := ⟨_, rfl⟩
  rw [hC] at HC hcn
  clear hC
  have HA := Lib.hid ha
  have HB := Lib.hid hb
  have HTX := Lib.hid tx
  have HTY := Lib.hid ty
  have htop := sz_get_last (xs := ys) (by omega)
  rw [ty] at htop
  have HTOP := Lib.hid (show 0 < wd ys (n - 1) from Nat.pos_of_ne_zero htop)
  clear ha hb tx ty htop
  by_cases hlt : val xs < val ys
  · rw [show decide (val xs < val ys) = true by simp; exact hlt] at hcn
    rw [Nat.div_eq_of_lt hlt, Nat.mod_eq_of_lt hlt]
    clear hlt
    go_enter Tryd.func55, Tryd.ntmps55
    go_wp2_with fail
    refine HC.out.mono ?_
    rintro e w' ⟨rfl, m, rfl⟩
    have HB0 := Lib.hid (below_drewN' (Below.refl w.heap.size w) m)
    go_wp2_with fail
    refine (trim_res (HA.out.drewN m) pa (by omega)).mono ?_
    rintro e w1 hr
    have hr2 := natRes_trans HB0.out (hr.le (bd' := la + n + 2) (by omega))
    obtain ⟨a', c', rs, rfl, r1, r2, r3, r4, r5⟩ := hr2
    have R := Lib.hid (And.intro r1 (And.intro r2 (And.intro r3 (And.intro r4 r5))))
    clear r1 r2 r3 r4 r5 hr
    go_wp2
    go_ret2
    exact natPair_mk (natRes_nil _ R.out.2.2.2.2) ⟨a', c', rs, rfl, R.out⟩
  · rw [show decide (val xs < val ys) = false by simp; omega] at hcn
    by_cases h1 : n = 1
    · subst h1
      obtain ⟨p, o, rfl, hy⟩ := HB.out.wcell 0 (by omega)
      rw [Nat.add_zero] at hy
      have hyv : val ys = wd ys 0 := by
        rw [← valTo_all 1 (by rw [HB.out.hlen]; exact Nat.le_refl _), valTo_wd]
        simp [valTo]
      rw [hyv]
      have HW := Lib.hid (fun m => word_calls (w.drewN m) a la ca xs (wd ys 0) (HA.out.drewN m) (by omega) HTOP.out (wd_lt HB.out.hw 0))
      have HRB : Hid (val xs % wd ys 0 < B64) := Lib.hid (Nat.lt_trans (Nat.mod_lt _ HTOP.out) (wd_lt HB.out.hw 0))
      generalize wd ys 0 = v at hy HW HRB ⊢
      generalize val xs / v = Q at HW ⊢
      generalize val xs % v = R at HW HRB ⊢
      clear hlt hyv
      go_enter Tryd.func55, Tryd.ntmps55
      go_wp2_with fail
      refine HC.out.mono ?_
      rintro e w' ⟨rfl, m, rfl⟩
      have HB0 := Lib.hid (below_drewN' (Below.refl w.heap.size w) m)
      go_wp2_with fail
      refine (HW.out m).mono ?_
      rintro e w2 ⟨a1, c1, z1, rfl, r⟩
      have R1 := Lib.hid r
      clear r
      go_wp2_with fail
      refine (natOf_calls w2 R HRB.out).mono ?_
      rintro e w3 hr
      have R2 := Lib.hid (natRes_trans (below_then HB0.out R1.out.2.2.2.2) (hr.le (bd' := la + 1 + 2) (by omega)))
      have R3 := Lib.hid (R1.out.1.keep (NatRes.below hr))
      obtain ⟨a2, c2, z2, rfl, hr'⟩ := hr
      have HBW := Lib.hid hr'.2.2.2.2
      clear hr'
      go_wp2
      go_ret2
      exact natPair_mk (natRes_trans HB0.out ⟨a1, c1, z1, rfl, R3.out, R1.out.2.1, R1.out.2.2.1, by have := R1.out.2.2.2.1; omega, below_then R1.out.2.2.2.2 HBW.out⟩) R2.out
    · have h2 : 2 ≤ n := by omega
      obtain ⟨k1, hk1⟩ : ∃ k, n - 1 = k := ⟨_, rfl⟩
      have hk1i : (n : Int) - 1 = (k1 : Nat) := by omega
      have hk1n : k1 < n := by omega
      obtain ⟨p, o, rfl, hy⟩ := HB.out.wcell k1 hk1n
      have hv := HTOP.out
      rw [hk1] at hv
      have bv := wd_lt HB.out.hw k1
      have hge := top_ge (by omega) HB.out.hlen HTOP.out
      have HL := Lib.hid (fun m => Tryd.bits_LeadingZeros64 (wd ys k1 : Nat) (w.drewN m) (by omega) (by unfold B64 at bv; omega))
      obtain ⟨s, hs⟩ : ∃ s, 64 - blen (wd ys k1) = s := ⟨_, rfl⟩
      have hb1 := blen_le64 bv
      have hb0 : 0 < blen (wd ys k1) := by unfold blen; rw [if_neg (by omega)]; omega
      have hs64 : s < 64 := by omega
      have e : (64 - (Lib.bitLen ((wd ys k1 : Nat) : Int).toNat : Int)) = (s : Nat) := by rw [Int.toNat_natCast, bitLen_eq bv]; omega
      rw [e] at HL
      have HGE := Lib.hid hge
      have HLE := Lib.hid (show val ys ≤ val xs by omega)
      clear e hs hb1 hb0 hv bv hge hlt h1 hk1
      generalize wd ys k1 = v at hy HL
      have hc1 : ((n : Int) == 1) = false := by simp; omega
      go_enter Tryd.func55, Tryd.ntmps55
      go_wp2_with fail
      refine HC.out.mono ?_
      rintro e w' ⟨rfl, m, rfl⟩
      have HB0 := Lib.hid (below_drewN' (Below.refl w.heap.size w) m)
      go_wp2_with fail
      refine (HL.out m).mono ?_
      rintro e w' ⟨rfl, rfl⟩
      go_wp2_with fail
      refine (shift_calls _ a la ca xs s (HA.out.drewN m) (by omega) hs64).mono ?_
      rintro e w2 ⟨a1, c1, z1, rfl, r1, r2, r3, r4, r5⟩
      have R1 := Lib.hid (And.intro r1 (And.intro r2 (And.intro r3 (And.intro r4 r5))))
      have hbb := (HB.out.drewN m).below r5
      have HB1 := Lib.hid (below_then HB0.out r5)
      clear r1 r2 r3 r4 r5
      go_wp2_with fail
      refine (shift_calls w2 _ n cb ys s hbb (by omega) hs64).mono ?_
      rintro e w3 ⟨a2, c2, z2, rfl, r1, r2, r3, r4, r5⟩
      have R2 := Lib.hid (And.intro r1 (And.intro r2 (And.intro r3 (And.intro r4 r5))))
      have s1 := (R1.out.1.keep r5).sl
      have HB2 := Lib.hid (below_then HB1.out r5)
      have hl1 : n ≤ z2.length := len_ge r1.hw (by rw [r2]; exact Nat.le_trans HGE.out (Nat.le_mul_of_pos_right _ (Nat.two_pow_pos s))) (by omega)
      have hl2 : z2.length ≤ z1.length := len_le_of_val s1.hw R1.out.2.2.1 r3 (by rw [r2, R1.out.2.1]; exact Nat.mul_le_mul_right _ HLE.out)
      have ht2 := sz_get_last (xs := z2) (by omega)
      rw [r3] at ht2
      have HLG := Lib.hid (long_calls w3 a1 a2 _ c1 _ c2 z1 z2 s1 r1.sl R1.out.1.plain (by have := R1.out.2.2.2.1; omega) (by omega) hl2 (Nat.pos_of_ne_zero ht2))
      rw [R1.out.2.1, r2] at HLG
      have hz1l := R1.out.2.2.2.1
      clear r1 r2 r3 r4 r5 s1 ht2 hbb
      go_wp2_with fail
      refine HLG.out.mono ?_
      rintro e w4 ⟨a3, c3, z3, a4, c4, z4, rfl, q, t, hb4⟩
      have R3 := Lib.hid q
      have R4 := Lib.hid t
      have HB3 := Lib.hid (below_then HB2.out hb4)
      have hz4 := t.2.2.2
      clear q t
      go_wp2_with fail
      refine (shr_calls w4 a4 _ c4 z4 s (by omega) (by omega) R4.out.1.sl R4.out.1.plain (by have := R2.out.2.2.2.1; omega)).mono ?_
      rintro e w5 ⟨a5, c5, z5, rfl, r1, r2, r3, r4, r5⟩
      have R5 := Lib.hid (And.intro r1 (And.intro r2 (And.intro r3 (And.intro r4 r5))))
      clear r1 r2 r3 r4 r5
      go_wp2
      go_ret2
      refine natPair_mk (natRes_trans HB2.out ⟨a3, c3, z3, rfl, R3.out.1.keep R5.out.2.2.2.2, ?_, R3.out.2.2.1, by have := R3.out.2.2.2; omega, below_then hb4 R5.out.2.2.2.2⟩) (natRes_trans HB3.out ⟨a5, c5, z5, rfl, R5.out.1, ?_, R5.out.2.2.1, by have := R5.out.2.2.2.1; have := R2.out.2.2.2.1; omega, R5.out.2.2.2.2⟩)
      · rw [R3.out.2.1]
        exact (unnorm (N := val xs) (y := val ys) (s := s)).1
      · rw [R5.out.2.1]
        exact shr_unnorm R4.out.2.1 rfl
end Go.Proofs.YtoikoeileilegaaDoor
