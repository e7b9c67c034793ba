/- Plain laws: long division of natural numbers, word by word. · The contracts of the reference's Left, Shl. · The contract of the reference's Right. -/
import Derived.Test.YtpodpdopgdkdkaaGreatDoorMw07
set_option linter.unusedVariables false
set_option linter.unusedSimpArgs false
namespace Go.Proofs.YtpodpdopgdkdkaaGreatDoor
open Go.RowKit
theorem wd_drop (xs : List Nat) (j i : Nat) : wd (xs.drop j) i = wd xs (j + i) := by unfold wd; simp [List.getD_eq_getElem?_getD, List.getElem?_drop]
theorem drop_set_ge (xs : List Nat) (j i n : Nat) : (xs.set (j + i) n).drop j = (xs.drop j).set i n := by
  rw [List.drop_set, if_neg (by omega), Nat.add_sub_cancel_left]
theorem valTo_congr {xs ys : List Nat} (k : Nat) (h : ∀ i, i < k → wd xs i = wd ys i) : valTo xs k = valTo ys k := by
  induction k with
  | zero => rfl
  | succ k ih => rw [valTo_wd, valTo_wd, ih fun i hi => h i (by omega), h k (by omega)]
/-- A round of the product that is taken off. -/
theorem mulsub_step {zs us ys : List Nat} {j i g x z l c b n c' b' : Nat} (hv : valTo (zs.drop j) i + g * valTo ys i = valTo (us.drop j) i + B64 ^ i * (c + b))
    (h2 : n + l + b = z + B64 * b') (h3 : l + B64 * c' = g * x + c) (hx : wd ys i = x) (hz : wd us (j + i) = z) (hl : j + i < zs.length) :
    valTo ((zs.set (j + i) n).drop j) (i + 1) + g * valTo ys (i + 1) = valTo (us.drop j) (i + 1) + B64 ^ (i + 1) * (c' + b') := by
  rw [drop_set_ge, valTo_set_succ (by rw [List.length_drop]; omega), valTo_wd, valTo_wd, wd_drop, hx, hz, Nat.pow_succ]
  have e2 := congrArg (B64 ^ i * ·) h2
  have e3 := congrArg (B64 ^ i * ·) h3
  simp only [Nat.mul_add, Nat.mul_assoc] at e2 e3 hv ⊢
  rw [Nat.mul_left_comm g (B64 ^ i) x]
  omega
theorem mulsub_end {zs us ys : List Nat} {j k g z c b n b' : Nat} (hv : valTo (zs.drop j) k + g * valTo ys k = valTo (us.drop j) k + B64 ^ k * (c + b))
    (h2 : n + c + b = z + B64 * b') (hz : wd us (j + k) = z) (hl : j + k < zs.length) :
    valTo ((zs.set (j + k) n).drop j) (k + 1) + g * valTo ys k = valTo (us.drop j) (k + 1) + B64 ^ (k + 1) * b' := by
  rw [drop_set_ge, valTo_set_succ (by rw [List.length_drop]; omega), valTo_wd, wd_drop, hz, Nat.pow_succ]
  have e2 := congrArg (B64 ^ k * ·) h2
  simp only [Nat.mul_add, Nat.mul_assoc] at e2 hv ⊢
  omega
/-- A round of the divisor that is added back. -/
theorem addback_step {zs us ys : List Nat} {j i x z c n c' : Nat} (hv : valTo (zs.drop j) i + B64 ^ i * c = valTo (us.drop j) i + valTo ys i)
    (h2 : n + B64 * c' = z + x + c) (hx : wd ys i = x) (hz : wd us (j + i) = z) (hl : j + i < zs.length) :
    valTo ((zs.set (j + i) n).drop j) (i + 1) + B64 ^ (i + 1) * c' = valTo (us.drop j) (i + 1) + valTo ys (i + 1) := by
  rw [drop_set_ge, valTo_set_succ (by rw [List.length_drop]; omega), valTo_wd, valTo_wd, wd_drop, hx, hz, Nat.pow_succ]
  have e2 := congrArg (B64 ^ i * ·) h2
  simp only [Nat.mul_add, Nat.mul_assoc] at e2 hv ⊢
  omega
theorem addback_end {zs us ys : List Nat} {j k z c n c' : Nat} (hv : valTo (zs.drop j) k + B64 ^ k * c = valTo (us.drop j) k + valTo ys k)
    (h2 : n + B64 * c' = z + c) (hz : wd us (j + k) = z) (hl : j + k < zs.length) :
    valTo ((zs.set (j + k) n).drop j) (k + 1) + B64 ^ (k + 1) * c' = valTo (us.drop j) (k + 1) + valTo ys k := by
  rw [drop_set_ge, valTo_set_succ (by rw [List.length_drop]; omega), valTo_wd, wd_drop, hz, Nat.pow_succ]
  have e2 := congrArg (B64 ^ k * ·) h2
  simp only [Nat.mul_add, Nat.mul_assoc] at e2 hv ⊢
  omega
section
variable {lN lV P u0 u1 u2 v0 v1 N V q : Nat}
/-- The two highest words' quotient isn't less than the digit. -/
theorem guess_top (hN : N = lN + P * (u0 + B64 * (u1 + B64 * u2))) (hl : lN < P) (hV : V = lV + P * (v0 + B64 * v1)) (h0 : u0 < B64) (h1 : 0 < v1) (hq : q * V ≤ N) : q ≤ (u2 * B64 + u1) / v1 := by
  refine (Nat.le_div_iff_mul_le h1).2 ?_
  have a1 : q * (P * (B64 * v1)) ≤ q * V := Nat.mul_le_mul_left _ (by rw [hV, Nat.mul_add]; omega)
  have a2 : N < P * (B64 * (u1 + B64 * u2 + 1)) := by
    have b1 : P * (u0 + B64 * (u1 + B64 * u2) + 1) ≤ P * (B64 * (u1 + B64 * u2 + 1)) := Nat.mul_le_mul_left _ (by rw [Nat.mul_add B64 _ 1]; omega)
    rw [Nat.mul_add _ _ 1] at b1
    omega
  have a3 : (q * v1) * (P * B64) < (u1 + B64 * u2 + 1) * (P * B64) := by
    have e1 : q * (P * (B64 * v1)) = (q * v1) * (P * B64) := by simp only [Nat.mul_assoc, Nat.mul_left_comm, Nat.mul_comm]
    have e2 : P * (B64 * (u1 + B64 * u2 + 1)) = (u1 + B64 * u2 + 1) * (P * B64) := by rw [← Nat.mul_assoc, Nat.mul_comm]
    omega
  have := Nat.lt_of_mul_lt_mul_right a3
  rw [Nat.mul_comm u2]
  omega
/-- A guess whose product is beyond the three highest words is too great. -/
theorem guess_down {g r : Nat} (hN : N = lN + P * (u0 + B64 * (u1 + B64 * u2))) (hl : lN < P) (hV : V = lV + P * (v0 + B64 * v1)) (hq : q * V ≤ N) (hg : g * v1 + r = u2 * B64 + u1) (hle : q ≤ g) (hno : r * B64 + u0 < g * v0) : q + 1 ≤ g := by
  rcases Nat.lt_or_ge q g with h | h
  · exact h
  · exfalso
    have e : q = g := by omega
    subst e
    have a1 : q * (P * (v0 + B64 * v1)) ≤ q * V := Nat.mul_le_mul_left _ (by rw [hV]; omega)
    have a2 : N < P * (u0 + B64 * (u1 + B64 * u2) + 1) := by rw [Nat.mul_add _ _ 1]; omega
    have a3 : (q * (v0 + B64 * v1)) * P < (u0 + B64 * (u1 + B64 * u2) + 1) * P := by
      have e1 : q * (P * (v0 + B64 * v1)) = (q * (v0 + B64 * v1)) * P := by rw [Nat.mul_comm P, Nat.mul_assoc]
      have e2 : P * (u0 + B64 * (u1 + B64 * u2) + 1) = (u0 + B64 * (u1 + B64 * u2) + 1) * P := Nat.mul_comm _ _
      omega
    have a4 := Nat.lt_of_mul_lt_mul_right a3
    have e3 : u1 + B64 * u2 = q * v1 + r := by rw [Nat.mul_comm B64 u2]; omega
    rw [e3, Nat.mul_add, Nat.mul_left_comm, Nat.mul_add B64 (q * v1), Nat.mul_comm B64 r] at a4
    omega
end
/-- The test of the guess, by its two halves. -/
theorem guess_test {g v0 r u0 : Nat} (h0 : u0 < B64) : (mulHi g v0 < r ∨ mulHi g v0 = r ∧ mulLo g v0 ≤ u0) ↔ g * v0 ≤ r * B64 + u0 := by
  have e := mul_eq g v0
  have l := mulLo_lt g v0
  unfold B64 at *
  constructor
  · rintro (h | ⟨h, k⟩) <;> omega
  · intro h
    rcases Nat.lt_trichotomy (mulHi g v0) r with k | k | k
    · exact .inl k
    · exact .inr ⟨k, by omega⟩
    · omega
/-- Where nothing is borrowed the guess is the digit. -/
theorem digit_exact {D g V N : Nat} (h : D + g * V = N) (hV : 0 < V) (hq : N / V ≤ g) : g = N / V ∧ D = N % V := by
  have a1 : g ≤ N / V := (Nat.le_div_iff_mul_le hV).2 (by omega)
  have e : g = N / V := by omega
  refine ⟨e, ?_⟩
  have := Nat.div_add_mod N V
  rw [e, Nat.mul_comm] at h
  omega
theorem beyond_zero {xs : List Nat} {n : Nat} (h : val xs < B64 ^ n) {i : Nat} (hi : n ≤ i) : wd xs i = 0 := by
  have e := val_take_le (xs := xs) i
  have p : B64 ^ n ≤ B64 ^ i := Nat.pow_le_pow_right (by decide) hi
  have z : val (xs.drop i) = 0 := by
    rcases Nat.eq_zero_or_pos (val (xs.drop i)) with h0 | h0
    · exact h0
    · have := Nat.mul_le_mul_left (B64 ^ i) h0
      omega
  rw [val_drop'] at z
  omega
theorem val_upto {xs : List Nat} {n : Nat} (h : ∀ i, n ≤ i → wd xs i = 0) : val xs = valTo xs n := by
  have e := val_take_le (xs := xs) n
  rw [val_zeros (xs := xs.drop n) fun i _ => by have := h (n + i) (by omega); rw [← wd_drop] at this; exact this] at e
  simpa using e
/-- Ahead of a round: the number at word j on, by its n + 1 words. -/
theorem round_num {zs : List Nat} {j n V : Nat} (hlt : val (zs.drop (j + 1)) < V) (hV : V ≤ B64 ^ n) : val (zs.drop j) = valTo (zs.drop j) (n + 1) := by
  refine val_upto fun i hi => ?_
  obtain ⟨k, rfl⟩ : ∃ k, i = k + 1 := ⟨i - 1, by omega⟩
  have := beyond_zero (Nat.lt_of_lt_of_le hlt hV) (i := k) (by omega)
  rw [wd_drop] at this ⊢
  rw [← this]
  congr 1
  omega
theorem round_lt {zs : List Nat} {j V : Nat} (hz : W64 zs) (hlt : val (zs.drop (j + 1)) < V) : val (zs.drop j) < B64 * V := by
  rw [val_drop']
  have h0 := wd_lt hz j
  have := Nat.mul_le_mul_left B64 (show val (zs.drop (j + 1)) + 1 ≤ V from hlt)
  rw [Nat.mul_add] at this
  omega
/-- Behind a round. -/
theorem round_end {zs zs' qs : List Nat} {j n V A g : Nat} (hA : val zs + B64 ^ (j + 1) * (val (qs.drop (j + 1)) * V) = A) (hlt : val (zs.drop (j + 1)) < V) (hV : V ≤ B64 ^ n) (hV0 : 0 < V)
    (hlow : ∀ i, i < j → wd zs' i = wd zs i) (hhigh : ∀ i, j + n < i → wd zs' i = wd zs i)
    (hD : valTo (zs'.drop j) (n + 1) + g * V = valTo (zs.drop j) (n + 1)) (hg : valTo (zs.drop j) (n + 1) / V ≤ g) (hq : j < qs.length) :
    val zs' + B64 ^ j * (val ((qs.set j g).drop j) * V) = A ∧ val (zs'.drop j) < V := by
  have hN := round_num hlt hV
  have hN' : val (zs'.drop j) = valTo (zs'.drop j) (n + 1) := by
    refine val_upto fun i hi => ?_
    have := beyond_zero (Nat.lt_of_lt_of_le hlt hV) (i := i - 1) (by omega)
    rw [wd_drop] at this ⊢
    rw [hhigh _ (by omega), ← this]
    congr 1
    omega
  obtain ⟨e1, e2⟩ := digit_exact hD hV0 hg
  have e3 := val_take_le (xs := zs) j
  have e4 := val_take_le (xs := zs') j
  rw [valTo_congr j hlow, hN'] at e4
  rw [hN] at e3
  have e5 : val ((qs.set j g).drop j) = g + B64 * val (qs.drop (j + 1)) := by
    rw [val_drop (by rw [List.length_set]; exact hq), drop_set]
    congr 1
    unfold wd
    simp [List.getD_eq_getElem?_getD, hq]
  constructor
  · have e6 := congrArg (B64 ^ j * ·) hD
    simp only [Nat.mul_add] at e6
    rw [e5, Nat.add_mul, Nat.mul_add, ← hA, e3, e4, Nat.pow_succ]
    simp only [Nat.mul_assoc]
    omega
  · rw [hN', e2]
    exact Nat.mod_lt _ hV0
theorem long_end {zs qs : List Nat} {V A : Nat} (hA : val zs + B64 ^ 0 * (val (qs.drop 0) * V) = A) (hlt : val (zs.drop 0) < V) : val qs = A / V ∧ val zs = A % V := by
  rw [List.drop_zero] at hA hlt
  rw [Nat.pow_zero, Nat.one_mul] at hA
  have h1 : A / V = val qs := by
    rw [← hA, Nat.mul_comm, Nat.add_mul_div_left _ _ (by omega), Nat.div_eq_of_lt hlt, Nat.zero_add]
  have h2 : A % V = val zs := by rw [← hA, Nat.mul_comm, Nat.add_mul_mod_self_left, Nat.mod_eq_of_lt hlt]
  exact ⟨h1.symm, h2.symm⟩
end Go.Proofs.YtpodpdopgdkdkaaGreatDoor
namespace Go.Proofs.YtpodpdopgdkdkaaGreatDoor
open Go.RowKit
theorem wrapI {n : Int} (h1 : -9223372036854775808 ≤ n) (h2 : n ≤ 9223372036854775807) : IntKind.i64.wrap n = n := by
  have e : IntKind.i64.wrap n = if (true && decide (n % 18446744073709551616 ≥ 9223372036854775808)) = true then n % 18446744073709551616 - 18446744073709551616 else n % 18446744073709551616 := rfl
  rw [e]
  simp
  split <;> omega
set_option maxRecDepth 10000 in
set_option maxHeartbeats 2000000 in
theorem left_calls (w : World) (a : Option Addr) (la ca : Nat) (xs : List Nat) (n : Nat) (ha : SlW w a la ca xs) (sa : la ≤ 4398046511104) (hn : n ≤ 4398046511104) :
    Calls Tryz.prog 57 #[.slice a la ca, .int .i64 (n : Nat)] w (NatRes w (val xs * 2 ^ n) (la + n / 64 + 1)) := by
  have m1 := ha.hle
  have m2 := ha.hmax
  have HX := Lib.hid ha.hw
  have HA := Lib.hid ha
  clear ha
  obtain ⟨q, hq⟩ : ∃ q, n / 64 = q := ⟨_, rfl⟩
  obtain ⟨s, hs⟩ : ∃ s, n % 64 = s := ⟨_, rfl⟩
  have hs64 : s < 64 := by omega
  have HNQ : Hid (n = 64 * q + s) := Lib.hid (by omega)
  have hqi : (n : Int) / 64 = (q : Nat) := by omega
  have hsi : (n : Int) % 64 = (s : Nat) := by omega
  obtain ⟨M, hM⟩ : ∃ M, la + q = M := ⟨_, rfl⟩
  have HMM := Lib.hid hM
  have hM1 : (la : Int) + (q : Int) = (M : Int) := by omega
  have hM2 : M ≤ 8796093022208 := by omega
  rw [hq, hM]
  clear hM hq hs
  go_enter Tryz.func57, Tryz.ntmps57
  go_wp2_with ((with_reducible refine gate_make 36 ?_); refine mk_words (Below.refl w.heap.size w) (M + 1) (by omega) (fun W g hgB _ hBW _ hgw => ?_); have HBW := Lib.hid hBW; have HGW := Lib.hid hgw; have HGB := Lib.hid hgB; clear hBW hgw hgB)
  go_loopw [16] (fun i wr => ∃ (t : Nat) (zs : List Nat), t ≤ la ∧ i = .int .i64 t ∧ WordsAt wr g zs ∧ zs.length = M + 1 ∧ W64 zs ∧ val zs = valTo xs t * 2 ^ (64 * q + s) ∧ wd zs (t + q) < 2 ^ s ∧ (∀ j, t + q + 1 ≤ j → wd zs j = 0) ∧ Below w.heap.size w wr) (fun i _ => la - (intOf i).toNat)
  case atStart => exact ⟨0, List.replicate (M + 1) 0, by omega, rfl, HGW.out, by simp, W64.zeros _, by rw [val_zeros']; simp [valTo], by rw [wd_zeros]; exact Nat.two_pow_pos s, fun j _ => wd_zeros _ _, HBW.out⟩
  case round =>
    obtain ⟨t, zs, ht, rfl, hz, hzl, hzw, hv, hz1, hz0, hbw⟩ := hrel
    have HZ := Lib.hid hz
    have HZL := Lib.hid hzl
    have HZW := Lib.hid hzw
    have HV := Lib.hid hv
    have HZ1 := Lib.hid hz1
    have HZ0 := Lib.hid hz0
    have HBR := Lib.hid hbw
    clear hz hzl hzw hv hbw HBW HGW hz0 hz1
    by_cases hlt : t < la
    · obtain ⟨u, hu⟩ : ∃ u, t + q = u := ⟨_, rfl⟩
      have hu1 : (t : Int) + (q : Int) = (u : Int) := by omega
      have hum : u + 1 < M + 1 := by have := HMM.out; omega
      obtain ⟨p, o, rfl, hx⟩ := HA.out.wcell t hlt
      have hxr : wr.cell? ⟨p, o + t, none⟩ = some (.int .u64 ((wd xs t : Nat) : Int)) := by rw [HBR.out.cell (World.block_lt_of_cell? w _ hx)]; exact hx
      have hzr := HZ.out.wcell u (by rw [HZL.out]; omega)
      have HPX := Lib.hid hx
      clear hx
      have e1 := bits_hilo (x := wd xs t) (y := wd zs u) (s := s) (by omega) (by rw [← hu]; exact HZ1.out)
      have hzu1 : wd zs (u + 1) = 0 := HZ0.out _ (by omega)
      have HS := Lib.hid (left_step (s := s) (q := q) (z := wd zs u) (by omega) HV.out (by rw [hu]) (by rw [hu]; exact hzu1) (by rw [HZL.out, hu]; omega))
      rw [hu] at HS
      have hlo : loS s (wd xs t) + wd zs u < B64 := lo_add_lt (by omega) (by rw [← hu]; exact HZ1.out)
      have HW1 := Lib.hid (HZW.out.set u _ hlo)
      have hhi := hiS_lt (s := s) (x := wd xs t) (by omega) (wd_lt HX.out t)
      have HW2 := Lib.hid (HW1.out.set (u + 1) _ (Nat.lt_of_lt_of_le hhi (pow2_le64 (by omega))))
      have HHI := Lib.hid hhi
      have HZU := Lib.hid hzu1
      clear hlo hhi hzu1
      have i1 : IntKind.i64.wrap (q : Int) = (q : Nat) := wrapI (by omega) (by omega)
      have i2 : IntKind.i64.wrap (u : Int) = (u : Nat) := wrapI (by omega) (by omega)
      have i3 : (u : Int) < (M : Int) + 1 := by omega
      have i4 : (n : Int).tmod 64 = (s : Nat) := by rw [Int.tmod_eq_emod_of_nonneg (by omega)]; exact hsi
      have i5 : IntKind.u64.wrap (s : Int) = (s : Nat) := wrapS (by unfold B64; omega)
      have i6 : min s 64 = s := by omega
      by_cases hs0 : 0 < s
      · have e2 := hiS_cast s (wd xs t)
        go_wp2_with fail
        go_still_tail 21, (by kernel_rfl)
        change wpList _ _ _ _ _ wr.drew
        have HZ2 : Hid (WordsAt wr.drew g zs) := Lib.hid HZ.out
        have HBR2 := Lib.hid HBR.out.drew
        clear HBR HZ hzr hxr
        generalize wr.drew = wv at HZ2 HBR2 ⊢
        go_wp2_with ((with_reducible refine gate_store 22 ?_); first | (refine st_word HBR2.out HZ2.out HGB.out u (loS s (wd xs t) + wd zs u) (by rw [HZL.out]; omega) (fun W2 hB2 _ _ hz2 => ?_); have hx2 : W2.cell? ⟨p, o + t, none⟩ = some (.int .u64 ((wd xs t : Nat) : Int)) := (by rw [hB2.cell (World.block_lt_of_cell? w _ HPX.out)]; exact HPX.out); have HB2 := Lib.hid hB2; have HZ3 := Lib.hid hz2; clear hB2 hz2) | (refine st_word HB2.out HZ3.out HGB.out (u + 1) (hiS s (wd xs t)) (by rw [List.length_set, HZL.out]; omega) (fun W3 hB3 _ _ hz3 => ?_); have HB3 := Lib.hid hB3; have HZ4 := Lib.hid hz3; clear hB3 hz3))
        go_roundw
        case rel =>
          refine ⟨t + 1, (zs.set u (loS s (wd xs t) + wd zs u)).set (u + 1) (hiS s (wd xs t)), by omega, by go_num, HZ4.out, by rw [List.length_set, List.length_set]; exact HZL.out, HW2.out, HS.out, ?_, fun j hj => ?_, HB3.out⟩
          · have e : wd ((zs.set u (loS s (wd xs t) + wd zs u)).set (u + 1) (hiS s (wd xs t))) (t + 1 + q) = hiS s (wd xs t) := by
              rw [show t + 1 + q = u + 1 by omega]
              unfold wd
              simp [List.getD_eq_getElem?_getD, HZL.out, show u + 1 < M + 1 by omega]
            rw [e]
            exact HHI.out
          · rw [wd_set_ne _ (by omega), wd_set_ne _ (by omega)]
            exact HZ0.out j (by omega)
        case measure => simp [intOf]; omega
      · have HS1 := Lib.hid (show s = 0 by omega)
        go_wp2_with fail
        go_still_tail 21, (by kernel_rfl)
        change wpList _ _ _ _ _ wr.drew
        have HZ2 : Hid (WordsAt wr.drew g zs) := Lib.hid HZ.out
        have HBR2 := Lib.hid HBR.out.drew
        clear HBR HZ hzr hxr
        generalize wr.drew = wv at HZ2 HBR2 ⊢
        go_wp2_with ((with_reducible refine gate_store 22 ?_); refine st_word HBR2.out HZ2.out HGB.out u (loS s (wd xs t) + wd zs u) (by rw [HZL.out]; omega) (fun W2 hB2 _ _ hz2 => ?_); have HB2 := Lib.hid hB2; have HZ3 := Lib.hid hz2; clear hB2 hz2)
        go_roundw
        case rel =>
          have h0 : hiS s (wd xs t) = 0 := by rw [HS1.out]; exact hiS_zero (wd_lt HX.out t)
          have hz9 : wd (zs.set u (loS s (wd xs t) + wd zs u)) (u + 1) = 0 := by rw [wd_set_ne _ (by omega)]; exact HZU.out
          have e9 := val_set (xs := zs.set u (loS s (wd xs t) + wd zs u)) (u + 1) 0 (by rw [List.length_set, HZL.out]; omega)
          have hz9' : (zs.set u (loS s (wd xs t) + wd zs u)).getD (u + 1) 0 = 0 := hz9
          rw [hz9'] at e9
          have e10 := HS.out
          rw [h0] at e10
          refine ⟨t + 1, zs.set u (loS s (wd xs t) + wd zs u), by omega, by go_num, HZ3.out, by rw [List.length_set]; exact HZL.out, HW1.out, by rw [← e10]; omega, ?_, fun j hj => ?_, HB2.out⟩
          · rw [show t + 1 + q = u + 1 by omega, hz9]
            exact Nat.two_pow_pos s
          · rw [wd_set_ne _ (by omega)]
            exact HZ0.out j (by omega)
        case measure => simp [intOf]; omega
    · have hte : la = t := by omega
      subst hte
      have HN : Hid (val zs = val xs * 2 ^ n) := Lib.hid (by rw [HV.out, valTo_all la (by rw [HA.out.hlen]; exact Nat.le_refl _), ← HNQ.out])
      go_wp2_with fail
      refine (refTrim_calls wr _ (M + 1) (M + 1) zs (HZ.out.slAll HZW.out HZL.out (by omega)) (.inr ⟨_, _, rfl⟩) (by omega)).mono ?_
      rintro e w2 hr
      have hr2 := natRes_trans HBR.out hr
      rw [HN.out] at hr2
      obtain ⟨a', c', rs, rfl, r1, r2, r3, r4, r5⟩ := hr2
      have R := Lib.hid (And.intro r1 (And.intro r2 (And.intro r3 (And.intro r4 r5))))
      clear r1 r2 r3 r4 r5 hr
      go_wp2
      go_ret
      exact ⟨a', c', rs, rfl, R.out.1, R.out.2.1, R.out.2.2.1, R.out.2.2.2.1, R.out.2.2.2.2⟩
end Go.Proofs.YtpodpdopgdkdkaaGreatDoor
namespace Go.Proofs.YtpodpdopgdkdkaaGreatDoor
open Go.RowKit
theorem OwnW.plain {B : Nat} {w : World} {a : Option Addr} {len cap : Nat} {xs : List Nat} (h : OwnW B w a len cap xs) : Plain a := by
  rcases h.words with ⟨rfl, _, _, _⟩ | ⟨g, rfl, _, _⟩
  · exact .inl rfl
  · exact .inr ⟨_, _, rfl⟩
/-- A natural number that the call has made, and whether something went out. -/
def goneB (n : Nat) : Bool := decide (n ≠ 0)
theorem goneB_zero : goneB 0 = false := rfl
theorem goneB_pos {n : Nat} (h : n ≠ 0) : goneB n = true := by unfold goneB; simp; exact h
theorem gone_more {a b : Nat} (h : b ≠ 0) {P : Nat} (hP : 0 < P) : goneB (a + P * b) = true := goneB_pos (by have := Nat.mul_pos hP (Nat.pos_of_ne_zero h); omega)
set_option maxRecDepth 10000 in
set_option maxHeartbeats 2000000 in
theorem right_calls (w : World) (a : Option Addr) (la ca : Nat) (xs : List Nat) (n : Nat) (ha : SlW w a la ca xs) (sa : la ≤ 4398046511104) (hn : n / 64 ≤ la) :
    Calls Tryz.prog 120 #[.slice a la ca, .int .i64 (n : Nat)] w (NatRes2 w (val xs / 2 ^ n) la (.bool (goneB (val xs % 2 ^ n)))) := by
  have m1 := ha.hle
  have m2 := ha.hmax
  have HX := Lib.hid ha.hw
  have HA := Lib.hid ha
  clear ha
  obtain ⟨q, hq⟩ : ∃ q, n / 64 = q := ⟨_, rfl⟩
  obtain ⟨s, hs⟩ : ∃ s, n % 64 = s := ⟨_, rfl⟩
  have hs64 : s < 64 := by omega
  have HNQ : Hid (n = 64 * q + s) := Lib.hid (by omega)
  have hqi : (n : Int) / 64 = (q : Nat) := by omega
  have hsi : (n : Int) % 64 = (s : Nat) := by omega
  have hnb : n ≤ 1000000000000000 := by omega
  rw [hq] at hn
  clear hq hs
  have i5 : IntKind.u64.wrap (s : Int) = (s : Nat) := wrapS (by unfold B64; omega)
  have i6 : min s 64 = s := by omega
  go_enter Tryz.func120, Tryz.ntmps120
  go_wp2_with fail
  try rw [hqi]
  try rw [hsi]
  go_loop [13, 6] (fun i gn => ∃ t : Nat, t ≤ la ∧ i = .int .i64 t ∧ gn = .bool (goneB (goneN xs q s t))) (fun i _ => la - (intOf i).toNat)
  case atStart => exact ⟨0, by omega, rfl, by rw [goneN_zero]; rfl⟩
  case round =>
    obtain ⟨t, ht, rfl, rfl⟩ := hrel
    by_cases hlt : t < la
    · obtain ⟨p, o, rfl, hx⟩ := HA.out.wcell t hlt
      rcases Nat.lt_trichotomy t q with hc | hc | hc
      · have HG := Lib.hid (goneN_below (xs := xs) (s := s) hc)
        by_cases hz : wd xs t = 0
        · rw [hz] at hx HG
          clear hz
          have HG2 : Hid (goneN xs q s (t + 1) = goneN xs q s t) := Lib.hid HG.out
          clear HG
          go_wp2
          go_round
          case rel => exact ⟨t + 1, by omega, by go_num, by rw [HG2.out]⟩
          case measure => simp [intOf]; omega
        · have HG2 : Hid (goneB (goneN xs q s (t + 1)) = true) := Lib.hid (by rw [HG.out]; exact gone_more hz (Nat.pow_pos (by decide)))
          generalize wd xs t = X at hx hz
          have hX0 : (((X : Nat) : Int) == 0) = false := by simp; exact hz
          have hX1 : (((X : Nat) : Int) != 0) = true := by simp; exact hz
          clear HG hz
          go_wp2
          go_round
          case rel => exact ⟨t + 1, by omega, by go_num, by rw [HG2.out]⟩
          case measure => simp [intOf]; omega
      · subst hc
        have HG := Lib.hid (goneN_at (xs := xs) (q := t) (s := s))
        by_cases hz : wd xs t % 2 ^ s = 0
        · have k3 := mask_and0 hs64 (wd_lt HX.out t) hz
          rw [hz] at HG
          clear hz
          have HG2 : Hid (goneN xs t s (t + 1) = goneN xs t s t) := Lib.hid HG.out
          clear HG
          go_wp2
          go_round
          case rel => exact ⟨t + 1, by omega, by go_num, by rw [HG2.out]⟩
          case measure => simp [intOf]; omega
        · have HG2 : Hid (goneB (goneN xs t s (t + 1)) = true) := Lib.hid (by rw [HG.out]; exact gone_more hz (Nat.pow_pos (by decide)))
          have k3 := mask_and hs64 (wd_lt HX.out t)
          generalize wd xs t % 2 ^ s = X at k3 hz
          have hX0 : (((X : Nat) : Int) == 0) = false := by simp; exact hz
          have hX1 : (((X : Nat) : Int) != 0) = true := by simp; exact hz
          clear HG hz
          go_wp2
          go_round
          case rel => exact ⟨t + 1, by omega, by go_num, by rw [HG2.out]⟩
          case measure => simp [intOf]; omega
      · have HG := Lib.hid (goneN_above (xs := xs) (s := s) hc)
        have c1 : ((t : Int) == (q : Int)) = false := by simp; omega
        go_wp2
        go_round
        case rel => exact ⟨t + 1, by omega, by go_num, by rw [HG.out]⟩
        case measure => simp [intOf]; omega
    · have hte : la = t := by omega
      subst hte
      have HG := Lib.hid (goneN_end (q := q) (s := s) HX.out (by omega) (by rw [HA.out.hlen]; exact Nat.le_refl _))
      rw [← HNQ.out] at HG
      rw [HG.out]
      obtain ⟨gb, hgb⟩ : ∃ b, goneB (val xs % 2 ^ n) = b := ⟨_, rfl⟩
      rw [hgb]
      have HGB := Lib.hid hgb
      clear HG hgb
      go_wp2_with fail
      go_loopw [9, 8] (fun i o wr => ∃ (u c : Nat) (zs : List Nat) (oa : Option Addr), q + u ≤ la ∧ i = .int .i64 ((q + u : Nat) : Int) ∧ o = .slice oa u c ∧ OwnW w.heap.size wr oa u c zs ∧ val zs * 2 ^ s + wd xs q % 2 ^ s = valTo (xs.drop q) u + B64 ^ u * (wd xs (q + u) % 2 ^ s) ∧ Below w.heap.size w wr) (fun i _ _ => la - (intOf i).toNat)
      case atStart => exact ⟨0, 0, [], none, by omega, by first | rfl | go_num, rfl, ownW_nil _ _, by simp [val, valTo], Below.refl _ _⟩
      case round =>
        obtain ⟨u, c, zs, oa, hu, rfl, rfl, ho, hv, hb⟩ := hrel
        have HO := Lib.hid ho
        have HV := Lib.hid hv
        have HBR := Lib.hid hb
        obtain ⟨t, ht⟩ : ∃ t, q + u = t := ⟨_, rfl⟩
        rw [ht] at hu ⊢
        have HT := Lib.hid ht
        have hut : u ≤ t := by omega
        clear ho hv hb ht
        by_cases hlt : t < la
        · obtain ⟨p, o, rfl, hx⟩ := HA.out.wcell t hlt
          have hxr : wr.cell? ⟨p, o + t, none⟩ = some (.int .u64 ((wd xs t : Nat) : Int)) := by rw [HBR.out.cell (World.block_lt_of_cell? w _ hx)]; exact hx
          clear hx
          have k4 := shr_cast s (wd xs t)
          have k5 := bits_shr (s := s) (y := wd xs (t + 1)) (by omega) (wd_lt HX.out t)
          have HS := Lib.hid (shr_step (s := s) (by omega) HV.out (HO.out.hlen))
          have HSL := Lib.hid (shrW_lt (s := s) (y := wd xs (t + 1)) (by omega) (wd_lt HX.out t))
          have hwo := word_of (HA.out.below HBR.out) (t + 1)
          rw [show ((t + 1 : Nat) : Int) = (t : Int) + 1 from rfl] at hwo
          have HWO := Lib.hid hwo
          clear hwo
          have i7 : (64 : Int) - (s : Int) = ((64 - s : Nat) : Int) := by omega
          have i8 : IntKind.u64.wrap ((64 - s : Nat) : Int) = ((64 - s : Nat) : Int) := wrapS (by unfold B64; omega)
          have i9 : min (64 - s) 64 = 64 - s := by omega
          rw [HT.out] at HS
          by_cases hs0 : 0 < s
          · go_wp2_with fail
            refine HWO.out.mono ?_
            rintro e w' ⟨rfl, rfl⟩
            go_wp2_with ((with_reducible refine gate_append 36 ?_); go_must (refine app_words (w0 := w) (HBR.out.alloc HBR.out.size _) (HO.out.keep ((Below.refl _ _).alloc (Nat.le_refl _) _)) ((one_word wr (shrW s (wd xs t) (wd xs (t + 1)))).slAll (N := 1) (w64_one HSL.out) rfl (by omega)) (.inr ⟨_, _, rfl⟩) (by omega) (fun W a' c' hbW hoW => ?_)); have HBW := Lib.hid hbW; have HOW := Lib.hid hoW; clear hbW hoW)
            go_roundw
            case rel => exact ⟨u + 1, c', zs ++ [shrW s (wd xs t) (wd xs (t + 1))], a', by have := HT.out; omega, by have := HT.out; first | rfl | (rw [show q + (u + 1) = t + 1 by omega]; go_num), by first | rfl | go_num, HOW.out, by have h9 := HS.out; rw [show q + (u + 1) = t + 1 by have := HT.out; omega]; exact h9, HBW.out⟩
            case measure => simp [intOf]; omega
          · have hs1 : s = 0 := by omega
            have k6 : srS s (wd xs t) = shrW s (wd xs t) (wd xs (t + 1)) := by subst hs1; exact shrW_zero
            rw [k6] at k4
            clear k6 hs1 k5
            go_wp2_with ((with_reducible refine gate_append 36 ?_); refine app_words (w0 := w) (HBR.out.alloc HBR.out.size _) (HO.out.keep ((Below.refl _ _).alloc (Nat.le_refl _) _)) ((one_word wr (shrW s (wd xs t) (wd xs (t + 1)))).slAll (N := 1) (w64_one HSL.out) rfl (by omega)) (.inr ⟨_, _, rfl⟩) (by omega) (fun W a' c' hbW hoW => ?_); have HBW := Lib.hid hbW; have HOW := Lib.hid hoW; clear hbW hoW)
            go_roundw
            case rel => exact ⟨u + 1, c', zs ++ [shrW s (wd xs t) (wd xs (t + 1))], a', by have := HT.out; omega, by have := HT.out; first | rfl | (rw [show q + (u + 1) = t + 1 by omega]; go_num), by first | rfl | go_num, HOW.out, by have h9 := HS.out; rw [show q + (u + 1) = t + 1 by have := HT.out; omega]; exact h9, HBW.out⟩
            case measure => simp [intOf]; omega
        · have hte : la = t := by omega
          subst hte
          have HN : Hid (val zs = val xs / 2 ^ n) := Lib.hid (by rw [HNQ.out]; exact shr_end HX.out (by omega) HV.out (by rw [HA.out.hlen, HT.out]; exact Nat.le_refl _))
          go_wp2_with fail
          refine (refTrim_calls wr oa u c zs HO.out.sl HO.out.plain (by omega)).mono ?_
          rintro e w2 hr
          have hr2 := natRes_trans HBR.out (hr.le (bd' := la) (by omega))
          rw [HN.out] at hr2
          obtain ⟨a', c', rs, rfl, r1, r2, r3, r4, r5⟩ := hr2
          have R := Lib.hid (And.intro r1 (And.intro r2 (And.intro r3 (And.intro r4 r5))))
          clear r1 r2 r3 r4 r5 hr
          go_wp2
          go_ret2
          rw [HGB.out]
          exact ⟨a', c', rs, rfl, R.out.1, R.out.2.1, R.out.2.2.1, R.out.2.2.2.1, R.out.2.2.2.2⟩
end Go.Proofs.YtpodpdopgdkdkaaGreatDoor
