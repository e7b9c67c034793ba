/- The contract of math/bits.Div64. -/
import Derived.Test.YtoikoeileilegaaDoorDivMath
import Derived.Test.YtoikoeileilegaaDoorShelf
namespace Go.Proofs.YtoikoeileilegaaDoor
open Go.RowKit
set_option maxRecDepth 100000 in
set_option maxHeartbeats 1000000 in
theorem div64_low (w : World) (lo y : Nat) (hy : 0 < y) (hl : lo < B64) :
    Calls Tryd.prog 72 #[.int .u64 0, .int .u64 (lo : Nat), .int .u64 (y : Nat)] w fun e w' => e = .returned (.tuple #[.int .u64 (lo / y : Nat), .int .u64 (lo % y : Nat)]) ∧ ∃ m, w' = w.drewN m := by
  have e1 := wrapDiv (b := y) hl
  have e2 := (Int.natCast_emod lo y).symm
  generalize lo / y = q at e1 ⊢
  generalize lo % y = r at e2 ⊢
  go_enter Tryd.func72, Tryd.ntmps72
  go_wp2_with fail
  go_quiet (fail)
  go_wp2
  go_ret2
  refine ⟨?_, _, rfl⟩
  show Ending.returned (.tuple #[.int .u64 (q : Nat), .int .u64 ((lo : Int) % (y : Int))]) = _
  rw [e2]
set_option maxRecDepth 100000 in
set_option maxHeartbeats 1000000 in
theorem div64_high (w : World) (hi lo y s : Nat) (h0 : 0 < hi) (hy : hi < y) (hl : lo < B64) (hb : y < B64) (hs : blen y + s = 64) (hsl : s < 64):
    Calls Tryd.prog 72 #[.int .u64 (hi : Nat), .int .u64 (lo : Nat), .int .u64 (y : Nat)] w fun e w' => e = .returned (.tuple #[.int .u64 ((hi * B64 + lo) / y : Nat), .int .u64 ((hi * B64 + lo) % y : Nat)]) ∧ ∃ m, w' = w.drewN m := by
  have hb' : y < 18446744073709551616 := hb
  have hl' : lo < 18446744073709551616 := hl
  have HL := Lib.hid (Tryd.bits_LeadingZeros64 (y : Nat) w (by omega) (by omega))
  have e : (64 - (Lib.bitLen ((y : Nat) : Int).toNat : Int)) = (s : Nat) := by rw [Int.toNat_natCast, bitLen_eq hb]; omega
  rw [e] at HL
  clear e
  have n1 := norm_hi (show 0 < y by omega) hs
  have n2 := norm_lt (s := s) (by omega) hy hl
  have n3 := norm_split (hi := hi) (lo := lo) (s := s) (by omega)
  have o1 : hi * 2 ^ s < B64 := Nat.lt_of_le_of_lt (Nat.le_add_right _ _) (Nat.lt_trans n2 n1.1)
  have e1 : IntKind.u64.wrap ((y : Int) * 2 ^ s) = ((y * 2 ^ s : Nat) : Int) := by rw [two_cast, wrapMul, Nat.mod_eq_of_lt n1.1]
  have e2 := shl_or (hi := hi) (lo := lo) (s := s) (by omega) hl o1
  have e3 : IntKind.u64.wrap ((lo : Int) * 2 ^ s) = ((lo * 2 ^ s % B64 : Nat) : Int) := by rw [two_cast, wrapMul]
  have hu := unnorm (N := hi * B64 + lo) (y := y) (s := s)
  have hL2 : lo * 2 ^ s % B64 < B64 := Nat.mod_lt _ (by decide)
  obtain ⟨Y, hY⟩ : ∃ Y, y * 2 ^ s = Y := ⟨_, rfl⟩
  obtain ⟨U, hU⟩ : ∃ U, hi * 2 ^ s + lo / 2 ^ (64 - s) = U := ⟨_, rfl⟩
  obtain ⟨L, hL⟩ : ∃ L, lo * 2 ^ s % B64 = L := ⟨_, rfl⟩
  obtain ⟨N, hN⟩ : ∃ N, hi * B64 + lo = N := ⟨_, rfl⟩
  rw [hY] at n1 n2 e1 hu
  rw [hU] at n2 n3 e2
  rw [hL] at n3 e3 hL2
  rw [hN] at n3 hu ⊢
  obtain ⟨N2, hN2⟩ : ∃ n, N * 2 ^ s = n := ⟨_, rfl⟩
  rw [hN2] at n3 hu
  clear hY hU hL hN hN2 o1
  have HU := Lib.hid hu
  have HN := Lib.hid n3
  clear hu n3
  have hYd : Y / B32 * B32 + Y % B32 = Y := by unfold B32; omega
  have hy0 : Y % B32 < B32 := Nat.mod_lt _ (by decide)
  have hx1 : L / B32 < B32 := by unfold B32 B64 at *; omega
  have hx0 : L % B32 < B32 := Nat.mod_lt _ (by decide)
  have hy1 : B32 ≤ 2 * (Y / B32) := by unfold B32 B64 at *; omega
  have hy2 : Y / B32 < B32 := by unfold B32 B64 at *; omega
  have hD := two_digits (U := U) (L := L) (Y := Y) (r1 := (U * B32 + L / B32) % Y) (N := N2) (by omega) HN.out rfl
  have f1 : (Y : Int) / 4294967296 = ((Y / B32 : Nat) : Int) := (Int.natCast_ediv Y B32).symm
  have f2 : bits .and .u64 (Y : Int) 4294967295 = ((Y % B32 : Nat) : Int) := by rw [and_low32 _ (by omega) (by unfold B64 at n1; omega)]; exact (Int.natCast_emod Y B32).symm
  have f3 : (L : Int) / 4294967296 = ((L / B32 : Nat) : Int) := (Int.natCast_ediv L B32).symm
  have f4 : bits .and .u64 (L : Int) 4294967295 = ((L % B32 : Nat) : Int) := by rw [and_low32 _ (by omega) (by unfold B64 at hL2; omega)]; exact (Int.natCast_emod L B32).symm
  obtain ⟨y1, hy1e⟩ : ∃ y1, Y / B32 = y1 := ⟨_, rfl⟩
  obtain ⟨y0, hy0e⟩ : ∃ y0, Y % B32 = y0 := ⟨_, rfl⟩
  obtain ⟨x1, hx1e⟩ : ∃ x1, L / B32 = x1 := ⟨_, rfl⟩
  obtain ⟨x0, hx0e⟩ : ∃ x0, L % B32 = x0 := ⟨_, rfl⟩
  rw [hy1e] at hYd hy1 hy2 f1
  rw [hy0e] at hYd hy0 f2
  rw [hx1e] at hx1 f3 hD
  rw [hx0e] at hx0 f4 hD
  clear hy1e hy0e hx1e hx0e
  have hy1p : 0 < y1 := by unfold B32 at hy1; omega
  have hUb : U < B64 := Nat.lt_trans n2 n1.1
  have f5 := wrapDiv (b := y1) hUb
  have hdm := Nat.div_add_mod U y1
  have hmod := Nat.mod_lt U hy1p
  have f6 := wrapMul (U / y1) y1
  have f7 : IntKind.u64.wrap ((U : Int) - ((U / y1 * y1 % B64 : Nat) : Int)) = ((U % y1 : Nat) : Int) := wrapSub (n := U) (m := U / y1 * y1) (Nat.mod_eq_of_lt hUb).symm rfl (by rw [Nat.mul_comm]; exact hdm.symm) (Nat.lt_of_le_of_lt (Nat.mod_le _ _) hUb)
  have hst := digit_start (u := U) (x := x1) (y1 := y1) (y0 := y0) hy1p hx1
  have htop := digit_top (u := U) (y1 := y1) (y0 := y0) (by rw [hYd]; exact n2) hy0 hy1
  rw [hYd] at hst
  obtain ⟨Q1, hQ1⟩ : ∃ Q1, (U * B32 + x1) / Y = Q1 := ⟨_, rfl⟩
  obtain ⟨R1, hR1⟩ : ∃ R1, (U * B32 + x1) % Y = R1 := ⟨_, rfl⟩
  rw [hQ1] at hst hD
  rw [hR1] at hD
  have HQ1 := Lib.hid hQ1
  have HR1 := Lib.hid hR1
  have HD := Lib.hid hD
  have HYD := Lib.hid hYd
  have hinv : U = (U / y1) * y1 + U % y1 := by rw [Nat.mul_comm]; exact hdm.symm
  have HST := Lib.hid (And.intro hinv (And.intro hst (And.intro htop (show U % y1 < B32 by omega))))
  obtain ⟨qa, hqa⟩ : ∃ q, U / y1 = q := ⟨_, rfl⟩
  obtain ⟨ra, hra⟩ : ∃ r, U % y1 = r := ⟨_, rfl⟩
  rw [hqa, hra] at HST
  rw [hqa] at f5 f6 f7
  rw [hra] at f7
  obtain ⟨pa, hpa⟩ : ∃ p, qa * y1 % B64 = p := ⟨_, rfl⟩
  rw [hpa] at f6 f7
  clear hpa
  have HN1 := Lib.hid n1
  have HN2 := Lib.hid n2
  have HY1 := Lib.hid hy1
  clear hqa hra hinv hst htop hQ1 hR1 hD hdm hmod hYd n1 n2 hy1
  have hQ1b : Q1 < B32 := by
    have := digit_lt (x := x1) (by rw [HYD.out]; exact HN2.out) hx1
    rw [HYD.out, HQ1.out] at this
    exact this
  have hYp : 0 < Y := by have := HN2.out; omega
  have HR1L : Hid (R1 < Y) := Lib.hid (by rw [← HR1.out]; exact Nat.mod_lt _ hYp)
  have HN64 : Hid (Y < B64) := Lib.hid HN1.out.1
  have hR1b : R1 < B64 := Nat.lt_trans HR1L.out HN64.out
  have hE1 : U * B32 + x1 = Q1 * Y + R1 := by
    have := Nat.div_add_mod (U * B32 + x1) Y
    rw [HQ1.out, HR1.out, Nat.mul_comm] at this
    exact this.symm
  obtain ⟨A, hA⟩ : ∃ A, U * B32 % B64 = A := ⟨_, rfl⟩
  have w1 : IntKind.u64.wrap ((U : Int) * 4294967296) = (A : Nat) := by rw [← hA]; exact wrapMul U B32
  have w2 := wrapAdd A x1
  obtain ⟨C, hC⟩ : ∃ C, (A + x1) % B64 = C := ⟨_, rfl⟩
  rw [hC] at w2
  have w3 := wrapMul Q1 Y
  obtain ⟨D, hDD⟩ : ∃ D, Q1 * Y % B64 = D := ⟨_, rfl⟩
  rw [hDD] at w3
  have w4 : IntKind.u64.wrap ((C : Int) - (D : Int)) = (R1 : Nat) := wrapSub (n := U * B32 + x1) (m := Q1 * Y) (by rw [← hC, ← hA]; unfold B64; omega) hDD.symm hE1 hR1b
  clear hA hC hDD
  have v5 := wrapDiv (b := y1) hR1b
  have hdm := Nat.div_add_mod R1 y1
  have hmod := Nat.mod_lt R1 hy1p
  have v6 := wrapMul (R1 / y1) y1
  have v7 : IntKind.u64.wrap ((R1 : Int) - ((R1 / y1 * y1 % B64 : Nat) : Int)) = ((R1 % y1 : Nat) : Int) := wrapSub (n := R1) (m := R1 / y1 * y1) (Nat.mod_eq_of_lt hR1b).symm rfl (by rw [Nat.mul_comm]; exact hdm.symm) (Nat.lt_of_le_of_lt (Nat.mod_le _ _) hR1b)
  have hst := digit_start (u := R1) (x := x0) (y1 := y1) (y0 := y0) hy1p hx0
  have htop := digit_top (u := R1) (y1 := y1) (y0 := y0) (by rw [HYD.out]; exact HR1L.out) hy0 HY1.out
  rw [HYD.out] at hst
  obtain ⟨Q0, hQ0⟩ : ∃ Q0, (R1 * B32 + x0) / Y = Q0 := ⟨_, rfl⟩
  obtain ⟨R0, hR0⟩ : ∃ R0, (R1 * B32 + x0) % Y = R0 := ⟨_, rfl⟩
  rw [hQ0] at hst
  have HQ0 := Lib.hid hQ0
  have hQ0b : Q0 < B32 := by
    have := digit_lt (x := x0) (by rw [HYD.out]; exact HR1L.out) hx0
    rw [HYD.out, hQ0] at this
    exact this
  have hinv : R1 = (R1 / y1) * y1 + R1 % y1 := by rw [Nat.mul_comm]; exact hdm.symm
  have HST2 := Lib.hid (And.intro hinv (And.intro hst (And.intro htop (show R1 % y1 < B32 by omega))))
  obtain ⟨qb, hqb⟩ : ∃ q, R1 / y1 = q := ⟨_, rfl⟩
  obtain ⟨rb, hrb⟩ : ∃ r, R1 % y1 = r := ⟨_, rfl⟩
  rw [hqb, hrb] at HST2
  rw [hqb] at v5 v6 v7
  rw [hrb] at v7
  obtain ⟨pb, hpb⟩ : ∃ p, qb * y1 % B64 = p := ⟨_, rfl⟩
  rw [hpb] at v6 v7
  clear hqb hrb hpb hinv hst htop hdm hmod
  have hE0 : R1 * B32 + x0 = Q0 * Y + R0 := by
    have := Nat.div_add_mod (R1 * B32 + x0) Y
    rw [hQ0, hR0, Nat.mul_comm] at this
    exact this.symm
  have hR0b : R0 < B64 := Nat.lt_trans (by rw [← hR0]; exact Nat.mod_lt _ hYp) HN64.out
  have k1 : IntKind.u64.wrap ((Q1 : Int) * 4294967296) = ((Q1 * B32 : Nat) : Int) := by rw [IntKind.wrap_u64]; unfold B32 at *; omega
  obtain ⟨G, hG⟩ : ∃ G, Q1 * B32 = G := ⟨_, rfl⟩
  rw [hG] at k1
  have k2 : IntKind.u64.wrap ((G : Int) + (Q0 : Int)) = ((N / y : Nat) : Int) := by
    rw [← HU.out.1, HD.out.1, hQ0, hG, IntKind.wrap_u64]; unfold B32 at *; omega
  obtain ⟨A3, hA3⟩ : ∃ A, R1 * B32 % B64 = A := ⟨_, rfl⟩
  have k3 : IntKind.u64.wrap ((R1 : Int) * 4294967296) = (A3 : Nat) := by rw [← hA3]; exact wrapMul R1 B32
  have k4 := wrapAdd A3 x0
  obtain ⟨C3, hC3⟩ : ∃ C, (A3 + x0) % B64 = C := ⟨_, rfl⟩
  rw [hC3] at k4
  have k5 := wrapMul Q0 Y
  obtain ⟨D3, hD3⟩ : ∃ D, Q0 * Y % B64 = D := ⟨_, rfl⟩
  rw [hD3] at k5
  have k6 : IntKind.u64.wrap ((C3 : Int) - (D3 : Int)) = (R0 : Nat) := wrapSub (n := R1 * B32 + x0) (m := Q0 * Y) (by rw [← hC3, ← hA3]; unfold B64; omega) hD3.symm hE0 hR0b
  have k7 : (R0 : Int) / 2 ^ s = ((N % y : Nat) : Int) := by rw [two_cast, ← Int.natCast_ediv, ← HU.out.2, HD.out.2, hR0]
  obtain ⟨Z1, hZ1⟩ : ∃ Z, N / y = Z := ⟨_, rfl⟩
  obtain ⟨Z2, hZ2⟩ : ∃ Z, N % y = Z := ⟨_, rfl⟩
  rw [hZ1] at k2 ⊢
  rw [hZ2] at k7 ⊢
  clear hZ1 hZ2 hA3 hC3 hD3 hG hQ0 hR0 hE0 hE1
  have HX1 := Lib.hid hx1
  have HX0 := Lib.hid hx0
  have HY0 := Lib.hid hy0
  have HY2 := Lib.hid hy2
  have hyz : ((y : Int) == 0) = false := by simp; omega
  have hhz : ((hi : Int) == 0) = false := by simp; omega
  have hhy : decide (y ≤ hi) = false := by simp; omega
  clear hb hb' hl hl' hL2 hy2 hy0 hx1 hx0 hUb hQ1b hYp hR1b hQ0b hR0b h0 hy hs
  go_enter Tryd.func72, Tryd.ntmps72
  go_wp2_with fail
  refine HL.out.mono ?_
  rintro e w' ⟨rfl, rfl⟩
  go_wp2_with fail
  go_loop [15, 16] (fun vq vr => ∃ q r : Nat, vq = .int .u64 (q : Nat) ∧ vr = .int .u64 (r : Nat) ∧ U = q * y1 + r ∧ Q1 ≤ q ∧ q ≤ B32 + 1 ∧ r < B32) (fun vq _ => (intOf vq).toNat)
  case atStart => exact ⟨qa, ra, rfl, rfl, HST.out⟩
  case round =>
    obtain ⟨q, r, rfl, rfl, hi1, hi2, hi3, hi4⟩ := hrel
    obtain ⟨c4, hc4⟩ : ∃ c : Int, c = 4294967296 := ⟨_, rfl⟩
    rw [← hc4]
    have HI1 := Lib.hid hi1
    clear hi1
    have HI4 := Lib.hid (And.intro hi2 (And.intro hi3 hi4))
    by_cases hqb : 4294967296 ≤ q
    · have t0 : decide (c4 ≤ (q : Int)) = true := decide_eq_true (by omega)
      obtain ⟨q', hq'⟩ : ∃ q', q = q' + 1 := ⟨q - 1, by omega⟩
      have hlt : Q1 ≤ q' := by
        have := digit_high (q := q) (x := x1) (by rw [HYD.out]; exact HN2.out) HX1.out HI1.out (.inl hqb)
        rw [HYD.out, HQ1.out] at this
        omega
      have HI2 : Hid (U = q' * y1 + (r + y1)) := by have := HI1.out; rw [hq'] at this; exact digit_down this
      have HI3 : Hid (q' ≤ B32) := Lib.hid (by omega)
      clear hqb
      obtain ⟨r2, hr2⟩ : ∃ r2, r + y1 = r2 := ⟨_, rfl⟩
      rw [hr2] at HI2
      have g1 : IntKind.u64.wrap ((q : Int) - 1) = (q' : Nat) := by rw [hq', IntKind.wrap_u64]; unfold B32 at hi3; omega
      have g2 : IntKind.u64.wrap ((r : Int) + (y1 : Int)) = (r2 : Nat) := by have := HY2.out; rw [IntKind.wrap_u64]; unfold B32 at *; omega
      by_cases hbr : 4294967296 ≤ r2
      · have he : Q1 = q' := by
          have h := digit_brk (x := x1) (by rw [HYD.out]; exact HN2.out) HY0.out HI2.out HI3.out hbr
          rw [HYD.out, HQ1.out] at h
          exact Nat.le_antisymm hlt h
        have t1 : decide (c4 ≤ (r2 : Int)) = true := decide_eq_true (by omega)
        clear hq' hlt HI1 hi2 hi3 hi4 HI2 hbr hc4
        subst he
        go_wp2_with fail
        go_loop [18, 16] (fun vq vr => ∃ q r : Nat, vq = .int .u64 (q : Nat) ∧ vr = .int .u64 (r : Nat) ∧ R1 = q * y1 + r ∧ Q0 ≤ q ∧ q ≤ B32 + 1 ∧ r < B32) (fun vq _ => (intOf vq).toNat)
        case atStart => exact ⟨qb, rb, rfl, rfl, HST2.out⟩
        case round =>
          obtain ⟨q, r, rfl, rfl, hi1, hi2, hi3, hi4⟩ := hrel
          obtain ⟨c4, hc4⟩ : ∃ c : Int, c = 4294967296 := ⟨_, rfl⟩
          rw [← hc4]
          have HI1 := Lib.hid hi1
          clear hi1
          have HI4 := Lib.hid (And.intro hi2 (And.intro hi3 hi4))
          by_cases hqb : 4294967296 ≤ q
          · have t0 : decide (c4 ≤ (q : Int)) = true := decide_eq_true (by omega)
            obtain ⟨q', hq'⟩ : ∃ q', q = q' + 1 := ⟨q - 1, by omega⟩
            have hlt : Q0 ≤ q' := by
              have := digit_high (q := q) (x := x0) (by rw [HYD.out]; exact HR1L.out) HX0.out HI1.out (.inl hqb)
              rw [HYD.out, HQ0.out] at this
              omega
            have HI2 : Hid (R1 = q' * y1 + (r + y1)) := by have := HI1.out; rw [hq'] at this; exact digit_down this
            have HI3 : Hid (q' ≤ B32) := Lib.hid (by omega)
            clear hqb
            obtain ⟨r2, hr2⟩ : ∃ r2, r + y1 = r2 := ⟨_, rfl⟩
            rw [hr2] at HI2
            have g1 : IntKind.u64.wrap ((q : Int) - 1) = (q' : Nat) := by rw [hq', IntKind.wrap_u64]; unfold B32 at hi3; omega
            have g2 : IntKind.u64.wrap ((r : Int) + (y1 : Int)) = (r2 : Nat) := by have := HY2.out; rw [IntKind.wrap_u64]; unfold B32 at *; omega
            by_cases hbr : 4294967296 ≤ r2
            · have he : Q0 = q' := by
                have h := digit_brk (x := x0) (by rw [HYD.out]; exact HR1L.out) HY0.out HI2.out HI3.out hbr
                rw [HYD.out, HQ0.out] at h
                exact Nat.le_antisymm hlt h
              have t1 : decide (c4 ≤ (r2 : Int)) = true := decide_eq_true (by omega)
              clear hq' hlt HI1 hi2 hi3 hi4 HI2 hbr hc4
              subst he
              go_wp2
              go_ret2
              exact ⟨rfl, 0, rfl⟩
            · have hr3 : r2 < B32 := by unfold B32; omega
              have t1 : decide (c4 ≤ (r2 : Int)) = false := decide_eq_false (by omega)
              have HI5 := Lib.hid hr3
              have HLT := Lib.hid (And.intro hlt hq')
              clear hi2 hi3 hi4 hr3 hbr hlt hq' hc4
              go_wp2_with fail
              go_round
              case rel => exact ⟨q', r2, rfl, rfl, HI2.out, HLT.out.1, by have := HI3.out; omega, HI5.out⟩
              case measure => have := HLT.out.2; simp [intOf]; omega
          · have t0 : decide (c4 ≤ (q : Int)) = false := decide_eq_false (by omega)
            have hqs : q < B32 := by unfold B32; omega
            obtain ⟨P, hP⟩ : ∃ P, q * y0 = P := ⟨_, rfl⟩
            have hPb : P < B64 := by rw [← hP]; exact Nat.mul_lt_mul'' hqs HY0.out
            obtain ⟨T, hT⟩ : ∃ T, B32 * r = T := ⟨_, rfl⟩
            obtain ⟨W, hW⟩ : ∃ W, T + x0 = W := ⟨_, rfl⟩
            have hWb : T + x0 < B64 := by have := HX0.out; unfold B32 at *; unfold B64; omega
            have g3 : IntKind.u64.wrap ((q : Int) * (y0 : Int)) = (P : Nat) := by rw [wrapMul, hP, Nat.mod_eq_of_lt hPb]
            have g4 : IntKind.u64.wrap (c4 * (r : Int)) = (T : Nat) := by rw [hc4, IntKind.wrap_u64]; unfold B32 at hT hi4; omega
            have g5 : IntKind.u64.wrap ((T : Int) + (x0 : Int)) = (W : Nat) := by rw [wrapAdd, Nat.mod_eq_of_lt hWb, hW]
            by_cases ht : W < P
            · have t2 : decide (W < P) = true := decide_eq_true ht
              obtain ⟨q', hq'⟩ : ∃ q', q = q' + 1 := ⟨q - 1, by
                rcases Nat.eq_zero_or_pos q with h | h
                · rw [h, Nat.zero_mul] at hP; omega
                · omega⟩
              have hlt : Q0 ≤ q' := by
                have := digit_high (q := q) (x := x0) (by rw [HYD.out]; exact HR1L.out) HX0.out HI1.out (.inr (by rw [hP, hT, hW]; exact ht))
                rw [HYD.out, HQ0.out] at this
                omega
              have HI2 : Hid (R1 = q' * y1 + (r + y1)) := by have := HI1.out; rw [hq'] at this; exact digit_down this
              have HI3 : Hid (q' ≤ B32) := Lib.hid (by omega)
              clear hqb
              clear hP hT hW hPb hWb ht hqs
              obtain ⟨r2, hr2⟩ : ∃ r2, r + y1 = r2 := ⟨_, rfl⟩
              rw [hr2] at HI2
              have g1 : IntKind.u64.wrap ((q : Int) - 1) = (q' : Nat) := by rw [hq', IntKind.wrap_u64]; unfold B32 at hi3; omega
              have g2 : IntKind.u64.wrap ((r : Int) + (y1 : Int)) = (r2 : Nat) := by have := HY2.out; rw [IntKind.wrap_u64]; unfold B32 at *; omega
              by_cases hbr : 4294967296 ≤ r2
              · have he : Q0 = q' := by
                  have h := digit_brk (x := x0) (by rw [HYD.out]; exact HR1L.out) HY0.out HI2.out HI3.out hbr
                  rw [HYD.out, HQ0.out] at h
                  exact Nat.le_antisymm hlt h
                have t1 : decide (c4 ≤ (r2 : Int)) = true := decide_eq_true (by omega)
                clear hq' hlt HI1 hi2 hi3 hi4 HI2 hbr hc4
                subst he
                go_wp2
                go_ret2
                exact ⟨rfl, 0, rfl⟩
              · have hr3 : r2 < B32 := by unfold B32; omega
                have t1 : decide (c4 ≤ (r2 : Int)) = false := decide_eq_false (by omega)
                have HI5 := Lib.hid hr3
                have HLT := Lib.hid (And.intro hlt hq')
                clear hi2 hi3 hi4 hr3 hbr hlt hq' hc4
                go_wp2_with fail
                go_round
                case rel => exact ⟨q', r2, rfl, rfl, HI2.out, HLT.out.1, by have := HI3.out; omega, HI5.out⟩
                case measure => have := HLT.out.2; simp [intOf]; omega
            · have he : Q0 = q := by
                have h := digit_low (x := x0) (by rw [HYD.out]; exact HR1L.out) HI1.out (by rw [hP, hT, hW]; omega)
                rw [HYD.out, HQ0.out] at h
                exact Nat.le_antisymm hi2 h
              have t2 : decide (W < P) = false := decide_eq_false ht
              clear hP hT hW hPb hWb HI1 hi2 hi3 hi4 ht hqs hqb hc4
              subst he
              go_wp2
              go_ret2
              exact ⟨rfl, 0, rfl⟩
      · have hr3 : r2 < B32 := by unfold B32; omega
        have t1 : decide (c4 ≤ (r2 : Int)) = false := decide_eq_false (by omega)
        have HI5 := Lib.hid hr3
        have HLT := Lib.hid (And.intro hlt hq')
        clear hi2 hi3 hi4 hr3 hbr hlt hq' hc4
        go_wp2_with fail
        go_round
        case rel => exact ⟨q', r2, rfl, rfl, HI2.out, HLT.out.1, by have := HI3.out; omega, HI5.out⟩
        case measure => have := HLT.out.2; simp [intOf]; omega
    · have t0 : decide (c4 ≤ (q : Int)) = false := decide_eq_false (by omega)
      have hqs : q < B32 := by unfold B32; omega
      obtain ⟨P, hP⟩ : ∃ P, q * y0 = P := ⟨_, rfl⟩
      have hPb : P < B64 := by rw [← hP]; exact Nat.mul_lt_mul'' hqs HY0.out
      obtain ⟨T, hT⟩ : ∃ T, B32 * r = T := ⟨_, rfl⟩
      obtain ⟨W, hW⟩ : ∃ W, T + x1 = W := ⟨_, rfl⟩
      have hWb : T + x1 < B64 := by have := HX1.out; unfold B32 at *; unfold B64; omega
      have g3 : IntKind.u64.wrap ((q : Int) * (y0 : Int)) = (P : Nat) := by rw [wrapMul, hP, Nat.mod_eq_of_lt hPb]
      have g4 : IntKind.u64.wrap (c4 * (r : Int)) = (T : Nat) := by rw [hc4, IntKind.wrap_u64]; unfold B32 at hT hi4; omega
      have g5 : IntKind.u64.wrap ((T : Int) + (x1 : Int)) = (W : Nat) := by rw [wrapAdd, Nat.mod_eq_of_lt hWb, hW]
      by_cases ht : W < P
      · have t2 : decide (W < P) = true := decide_eq_true ht
        obtain ⟨q', hq'⟩ : ∃ q', q = q' + 1 := ⟨q - 1, by
          rcases Nat.eq_zero_or_pos q with h | h
          · rw [h, Nat.zero_mul] at hP; omega
          · omega⟩
        have hlt : Q1 ≤ q' := by
          have := digit_high (q := q) (x := x1) (by rw [HYD.out]; exact HN2.out) HX1.out HI1.out (.inr (by rw [hP, hT, hW]; exact ht))
          rw [HYD.out, HQ1.out] at this
          omega
        have HI2 : Hid (U = q' * y1 + (r + y1)) := by have := HI1.out; rw [hq'] at this; exact digit_down this
        have HI3 : Hid (q' ≤ B32) := Lib.hid (by omega)
        clear hqb
        clear hP hT hW hPb hWb ht hqs
        obtain ⟨r2, hr2⟩ : ∃ r2, r + y1 = r2 := ⟨_, rfl⟩
        rw [hr2] at HI2
        have g1 : IntKind.u64.wrap ((q : Int) - 1) = (q' : Nat) := by rw [hq', IntKind.wrap_u64]; unfold B32 at hi3; omega
        have g2 : IntKind.u64.wrap ((r : Int) + (y1 : Int)) = (r2 : Nat) := by have := HY2.out; rw [IntKind.wrap_u64]; unfold B32 at *; omega
        by_cases hbr : 4294967296 ≤ r2
        · have he : Q1 = q' := by
            have h := digit_brk (x := x1) (by rw [HYD.out]; exact HN2.out) HY0.out HI2.out HI3.out hbr
            rw [HYD.out, HQ1.out] at h
            exact Nat.le_antisymm hlt h
          have t1 : decide (c4 ≤ (r2 : Int)) = true := decide_eq_true (by omega)
          clear hq' hlt HI1 hi2 hi3 hi4 HI2 hbr hc4
          subst he
          go_wp2_with fail
          go_loop [18, 16] (fun vq vr => ∃ q r : Nat, vq = .int .u64 (q : Nat) ∧ vr = .int .u64 (r : Nat) ∧ R1 = q * y1 + r ∧ Q0 ≤ q ∧ q ≤ B32 + 1 ∧ r < B32) (fun vq _ => (intOf vq).toNat)
          case atStart => exact ⟨qb, rb, rfl, rfl, HST2.out⟩
          case round =>
            obtain ⟨q, r, rfl, rfl, hi1, hi2, hi3, hi4⟩ := hrel
            obtain ⟨c4, hc4⟩ : ∃ c : Int, c = 4294967296 := ⟨_, rfl⟩
            rw [← hc4]
            have HI1 := Lib.hid hi1
            clear hi1
            have HI4 := Lib.hid (And.intro hi2 (And.intro hi3 hi4))
            by_cases hqb : 4294967296 ≤ q
            · have t0 : decide (c4 ≤ (q : Int)) = true := decide_eq_true (by omega)
              obtain ⟨q', hq'⟩ : ∃ q', q = q' + 1 := ⟨q - 1, by omega⟩
              have hlt : Q0 ≤ q' := by
                have := digit_high (q := q) (x := x0) (by rw [HYD.out]; exact HR1L.out) HX0.out HI1.out (.inl hqb)
                rw [HYD.out, HQ0.out] at this
                omega
              have HI2 : Hid (R1 = q' * y1 + (r + y1)) := by have := HI1.out; rw [hq'] at this; exact digit_down this
              have HI3 : Hid (q' ≤ B32) := Lib.hid (by omega)
              clear hqb
              obtain ⟨r2, hr2⟩ : ∃ r2, r + y1 = r2 := ⟨_, rfl⟩
              rw [hr2] at HI2
              have g1 : IntKind.u64.wrap ((q : Int) - 1) = (q' : Nat) := by rw [hq', IntKind.wrap_u64]; unfold B32 at hi3; omega
              have g2 : IntKind.u64.wrap ((r : Int) + (y1 : Int)) = (r2 : Nat) := by have := HY2.out; rw [IntKind.wrap_u64]; unfold B32 at *; omega
              by_cases hbr : 4294967296 ≤ r2
              · have he : Q0 = q' := by
                  have h := digit_brk (x := x0) (by rw [HYD.out]; exact HR1L.out) HY0.out HI2.out HI3.out hbr
                  rw [HYD.out, HQ0.out] at h
                  exact Nat.le_antisymm hlt h
                have t1 : decide (c4 ≤ (r2 : Int)) = true := decide_eq_true (by omega)
                clear hq' hlt HI1 hi2 hi3 hi4 HI2 hbr hc4
                subst he
                go_wp2
                go_ret2
                exact ⟨rfl, 0, rfl⟩
              · have hr3 : r2 < B32 := by unfold B32; omega
                have t1 : decide (c4 ≤ (r2 : Int)) = false := decide_eq_false (by omega)
                have HI5 := Lib.hid hr3
                have HLT := Lib.hid (And.intro hlt hq')
                clear hi2 hi3 hi4 hr3 hbr hlt hq' hc4
                go_wp2_with fail
                go_round
                case rel => exact ⟨q', r2, rfl, rfl, HI2.out, HLT.out.1, by have := HI3.out; omega, HI5.out⟩
                case measure => have := HLT.out.2; simp [intOf]; omega
            · have t0 : decide (c4 ≤ (q : Int)) = false := decide_eq_false (by omega)
              have hqs : q < B32 := by unfold B32; omega
              obtain ⟨P, hP⟩ : ∃ P, q * y0 = P := ⟨_, rfl⟩
              have hPb : P < B64 := by rw [← hP]; exact Nat.mul_lt_mul'' hqs HY0.out
              obtain ⟨T, hT⟩ : ∃ T, B32 * r = T := ⟨_, rfl⟩
              obtain ⟨W, hW⟩ : ∃ W, T + x0 = W := ⟨_, rfl⟩
              have hWb : T + x0 < B64 := by have := HX0.out; unfold B32 at *; unfold B64; omega
              have g3 : IntKind.u64.wrap ((q : Int) * (y0 : Int)) = (P : Nat) := by rw [wrapMul, hP, Nat.mod_eq_of_lt hPb]
              have g4 : IntKind.u64.wrap (c4 * (r : Int)) = (T : Nat) := by rw [hc4, IntKind.wrap_u64]; unfold B32 at hT hi4; omega
              have g5 : IntKind.u64.wrap ((T : Int) + (x0 : Int)) = (W : Nat) := by rw [wrapAdd, Nat.mod_eq_of_lt hWb, hW]
              by_cases ht : W < P
              · have t2 : decide (W < P) = true := decide_eq_true ht
                obtain ⟨q', hq'⟩ : ∃ q', q = q' + 1 := ⟨q - 1, by
                  rcases Nat.eq_zero_or_pos q with h | h
                  · rw [h, Nat.zero_mul] at hP; omega
                  · omega⟩
                have hlt : Q0 ≤ q' := by
                  have := digit_high (q := q) (x := x0) (by rw [HYD.out]; exact HR1L.out) HX0.out HI1.out (.inr (by rw [hP, hT, hW]; exact ht))
                  rw [HYD.out, HQ0.out] at this
                  omega
                have HI2 : Hid (R1 = q' * y1 + (r + y1)) := by have := HI1.out; rw [hq'] at this; exact digit_down this
                have HI3 : Hid (q' ≤ B32) := Lib.hid (by omega)
                clear hqb
                clear hP hT hW hPb hWb ht hqs
                obtain ⟨r2, hr2⟩ : ∃ r2, r + y1 = r2 := ⟨_, rfl⟩
                rw [hr2] at HI2
                have g1 : IntKind.u64.wrap ((q : Int) - 1) = (q' : Nat) := by rw [hq', IntKind.wrap_u64]; unfold B32 at hi3; omega
                have g2 : IntKind.u64.wrap ((r : Int) + (y1 : Int)) = (r2 : Nat) := by have := HY2.out; rw [IntKind.wrap_u64]; unfold B32 at *; omega
                by_cases hbr : 4294967296 ≤ r2
                · have he : Q0 = q' := by
                    have h := digit_brk (x := x0) (by rw [HYD.out]; exact HR1L.out) HY0.out HI2.out HI3.out hbr
                    rw [HYD.out, HQ0.out] at h
                    exact Nat.le_antisymm hlt h
                  have t1 : decide (c4 ≤ (r2 : Int)) = true := decide_eq_true (by omega)
                  clear hq' hlt HI1 hi2 hi3 hi4 HI2 hbr hc4
                  subst he
                  go_wp2
                  go_ret2
                  exact ⟨rfl, 0, rfl⟩
                · have hr3 : r2 < B32 := by unfold B32; omega
                  have t1 : decide (c4 ≤ (r2 : Int)) = false := decide_eq_false (by omega)
                  have HI5 := Lib.hid hr3
                  have HLT := Lib.hid (And.intro hlt hq')
                  clear hi2 hi3 hi4 hr3 hbr hlt hq' hc4
                  go_wp2_with fail
                  go_round
                  case rel => exact ⟨q', r2, rfl, rfl, HI2.out, HLT.out.1, by have := HI3.out; omega, HI5.out⟩
                  case measure => have := HLT.out.2; simp [intOf]; omega
              · have he : Q0 = q := by
                  have h := digit_low (x := x0) (by rw [HYD.out]; exact HR1L.out) HI1.out (by rw [hP, hT, hW]; omega)
                  rw [HYD.out, HQ0.out] at h
                  exact Nat.le_antisymm hi2 h
                have t2 : decide (W < P) = false := decide_eq_false ht
                clear hP hT hW hPb hWb HI1 hi2 hi3 hi4 ht hqs hqb hc4
                subst he
                go_wp2
                go_ret2
                exact ⟨rfl, 0, rfl⟩
        · have hr3 : r2 < B32 := by unfold B32; omega
          have t1 : decide (c4 ≤ (r2 : Int)) = false := decide_eq_false (by omega)
          have HI5 := Lib.hid hr3
          have HLT := Lib.hid (And.intro hlt hq')
          clear hi2 hi3 hi4 hr3 hbr hlt hq' hc4
          go_wp2_with fail
          go_round
          case rel => exact ⟨q', r2, rfl, rfl, HI2.out, HLT.out.1, by have := HI3.out; omega, HI5.out⟩
          case measure => have := HLT.out.2; simp [intOf]; omega
      · have he : Q1 = q := by
          have h := digit_low (x := x1) (by rw [HYD.out]; exact HN2.out) HI1.out (by rw [hP, hT, hW]; omega)
          rw [HYD.out, HQ1.out] at h
          exact Nat.le_antisymm hi2 h
        have t2 : decide (W < P) = false := decide_eq_false ht
        clear hP hT hW hPb hWb HI1 hi2 hi3 hi4 ht hqs hqb hc4
        subst he
        go_wp2_with fail
        go_loop [18, 16] (fun vq vr => ∃ q r : Nat, vq = .int .u64 (q : Nat) ∧ vr = .int .u64 (r : Nat) ∧ R1 = q * y1 + r ∧ Q0 ≤ q ∧ q ≤ B32 + 1 ∧ r < B32) (fun vq _ => (intOf vq).toNat)
        case atStart => exact ⟨qb, rb, rfl, rfl, HST2.out⟩
        case round =>
          obtain ⟨q, r, rfl, rfl, hi1, hi2, hi3, hi4⟩ := hrel
          obtain ⟨c4, hc4⟩ : ∃ c : Int, c = 4294967296 := ⟨_, rfl⟩
          rw [← hc4]
          have HI1 := Lib.hid hi1
          clear hi1
          have HI4 := Lib.hid (And.intro hi2 (And.intro hi3 hi4))
          by_cases hqb : 4294967296 ≤ q
          · have t0 : decide (c4 ≤ (q : Int)) = true := decide_eq_true (by omega)
            obtain ⟨q', hq'⟩ : ∃ q', q = q' + 1 := ⟨q - 1, by omega⟩
            have hlt : Q0 ≤ q' := by
              have := digit_high (q := q) (x := x0) (by rw [HYD.out]; exact HR1L.out) HX0.out HI1.out (.inl hqb)
              rw [HYD.out, HQ0.out] at this
              omega
            have HI2 : Hid (R1 = q' * y1 + (r + y1)) := by have := HI1.out; rw [hq'] at this; exact digit_down this
            have HI3 : Hid (q' ≤ B32) := Lib.hid (by omega)
            clear hqb
            obtain ⟨r2, hr2⟩ : ∃ r2, r + y1 = r2 := ⟨_, rfl⟩
            rw [hr2] at HI2
            have g1 : IntKind.u64.wrap ((q : Int) - 1) = (q' : Nat) := by rw [hq', IntKind.wrap_u64]; unfold B32 at hi3; omega
            have g2 : IntKind.u64.wrap ((r : Int) + (y1 : Int)) = (r2 : Nat) := by have := HY2.out; rw [IntKind.wrap_u64]; unfold B32 at *; omega
            by_cases hbr : 4294967296 ≤ r2
            · have he : Q0 = q' := by
                have h := digit_brk (x := x0) (by rw [HYD.out]; exact HR1L.out) HY0.out HI2.out HI3.out hbr
                rw [HYD.out, HQ0.out] at h
                exact Nat.le_antisymm hlt h
              have t1 : decide (c4 ≤ (r2 : Int)) = true := decide_eq_true (by omega)
              clear hq' hlt HI1 hi2 hi3 hi4 HI2 hbr hc4
              subst he
              go_wp2
              go_ret2
              exact ⟨rfl, 0, rfl⟩
            · have hr3 : r2 < B32 := by unfold B32; omega
              have t1 : decide (c4 ≤ (r2 : Int)) = false := decide_eq_false (by omega)
              have HI5 := Lib.hid hr3
              have HLT := Lib.hid (And.intro hlt hq')
              clear hi2 hi3 hi4 hr3 hbr hlt hq' hc4
              go_wp2_with fail
              go_round
              case rel => exact ⟨q', r2, rfl, rfl, HI2.out, HLT.out.1, by have := HI3.out; omega, HI5.out⟩
              case measure => have := HLT.out.2; simp [intOf]; omega
          · have t0 : decide (c4 ≤ (q : Int)) = false := decide_eq_false (by omega)
            have hqs : q < B32 := by unfold B32; omega
            obtain ⟨P, hP⟩ : ∃ P, q * y0 = P := ⟨_, rfl⟩
            have hPb : P < B64 := by rw [← hP]; exact Nat.mul_lt_mul'' hqs HY0.out
            obtain ⟨T, hT⟩ : ∃ T, B32 * r = T := ⟨_, rfl⟩
            obtain ⟨W, hW⟩ : ∃ W, T + x0 = W := ⟨_, rfl⟩
            have hWb : T + x0 < B64 := by have := HX0.out; unfold B32 at *; unfold B64; omega
            have g3 : IntKind.u64.wrap ((q : Int) * (y0 : Int)) = (P : Nat) := by rw [wrapMul, hP, Nat.mod_eq_of_lt hPb]
            have g4 : IntKind.u64.wrap (c4 * (r : Int)) = (T : Nat) := by rw [hc4, IntKind.wrap_u64]; unfold B32 at hT hi4; omega
            have g5 : IntKind.u64.wrap ((T : Int) + (x0 : Int)) = (W : Nat) := by rw [wrapAdd, Nat.mod_eq_of_lt hWb, hW]
            by_cases ht : W < P
            · have t2 : decide (W < P) = true := decide_eq_true ht
              obtain ⟨q', hq'⟩ : ∃ q', q = q' + 1 := ⟨q - 1, by
                rcases Nat.eq_zero_or_pos q with h | h
                · rw [h, Nat.zero_mul] at hP; omega
                · omega⟩
              have hlt : Q0 ≤ q' := by
                have := digit_high (q := q) (x := x0) (by rw [HYD.out]; exact HR1L.out) HX0.out HI1.out (.inr (by rw [hP, hT, hW]; exact ht))
                rw [HYD.out, HQ0.out] at this
                omega
              have HI2 : Hid (R1 = q' * y1 + (r + y1)) := by have := HI1.out; rw [hq'] at this; exact digit_down this
              have HI3 : Hid (q' ≤ B32) := Lib.hid (by omega)
              clear hqb
              clear hP hT hW hPb hWb ht hqs
              obtain ⟨r2, hr2⟩ : ∃ r2, r + y1 = r2 := ⟨_, rfl⟩
              rw [hr2] at HI2
              have g1 : IntKind.u64.wrap ((q : Int) - 1) = (q' : Nat) := by rw [hq', IntKind.wrap_u64]; unfold B32 at hi3; omega
              have g2 : IntKind.u64.wrap ((r : Int) + (y1 : Int)) = (r2 : Nat) := by have := HY2.out; rw [IntKind.wrap_u64]; unfold B32 at *; omega
              by_cases hbr : 4294967296 ≤ r2
              · have he : Q0 = q' := by
                  have h := digit_brk (x := x0) (by rw [HYD.out]; exact HR1L.out) HY0.out HI2.out HI3.out hbr
                  rw [HYD.out, HQ0.out] at h
                  exact Nat.le_antisymm hlt h
                have t1 : decide (c4 ≤ (r2 : Int)) = true := decide_eq_true (by omega)
                clear hq' hlt HI1 hi2 hi3 hi4 HI2 hbr hc4
                subst he
                go_wp2
                go_ret2
                exact ⟨rfl, 0, rfl⟩
              · have hr3 : r2 < B32 := by unfold B32; omega
                have t1 : decide (c4 ≤ (r2 : Int)) = false := decide_eq_false (by omega)
                have HI5 := Lib.hid hr3
                have HLT := Lib.hid (And.intro hlt hq')
                clear hi2 hi3 hi4 hr3 hbr hlt hq' hc4
                go_wp2_with fail
                go_round
                case rel => exact ⟨q', r2, rfl, rfl, HI2.out, HLT.out.1, by have := HI3.out; omega, HI5.out⟩
                case measure => have := HLT.out.2; simp [intOf]; omega
            · have he : Q0 = q := by
                have h := digit_low (x := x0) (by rw [HYD.out]; exact HR1L.out) HI1.out (by rw [hP, hT, hW]; omega)
                rw [HYD.out, HQ0.out] at h
                exact Nat.le_antisymm hi2 h
              have t2 : decide (W < P) = false := decide_eq_false ht
              clear hP hT hW hPb hWb HI1 hi2 hi3 hi4 ht hqs hqb hc4
              subst he
              go_wp2
              go_ret2
              exact ⟨rfl, 0, rfl⟩
end Go.Proofs.YtoikoeileilegaaDoor
