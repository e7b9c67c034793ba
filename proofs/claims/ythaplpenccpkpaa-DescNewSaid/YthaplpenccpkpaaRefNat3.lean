/- The contracts of the reference's Same, Trimmed, Times; the law's same. -/
import Derived.Test.YthaplpenccpkpaaRefNat2
namespace Go.Proofs.Ythaplpenccpkpaa
open Go.RowKit
/-! ### Products, word by word -/
theorem val_set {xs : List Nat} : ∀ (i n : Nat), i < xs.length → val (xs.set i n) + B64 ^ i * xs.getD i 0 = val xs + B64 ^ i * n := by
  induction xs with
  | nil => intro i n h; exact absurd h (by simp)
  | cons x xs ih =>
    intro i n h
    cases i with
    | zero => simp [val]; omega
    | succ i =>
      have e := ih i n (by simpa using h)
      simp only [List.set_cons_succ, val, List.getD_cons_succ, Nat.pow_succ, Nat.mul_comm (B64 ^ i) B64, Nat.mul_assoc]
      have e2 := congrArg (B64 * ·) e
      simp only [Nat.mul_add] at e2
      omega
theorem mac_le {P x y z c : Nat} (hx : x < P) (hy : y < P) (hz : z < P) (hc : c < P) : x * y + z + c < P * P := by
  obtain ⟨Q, rfl⟩ : ∃ Q, P = Q + 1 := ⟨P - 1, by omega⟩
  have h1 : x * y ≤ Q * Q := Nat.mul_le_mul (by omega) (by omega)
  have h2 : (Q + 1) * (Q + 1) = Q * Q + Q + Q + 1 := by rw [Nat.add_mul, Nat.mul_add]; omega
  omega
theorem mac_hi {P s H T : Nat} (h : s + P * H = T) (hT : T < P * P) : H < P := by
  rcases Nat.lt_or_ge H P with h1 | h1
  · exact h1
  · have := Nat.mul_le_mul_left P h1
    omega
/-- low + z, then + c. -/
theorem mac_eq (x y z c : Nat) : addLo (addLo (mulLo x y) z 0) c 0 + B64 * (mulHi x y + addHi (mulLo x y) z 0 + addHi (addLo (mulLo x y) z 0) c 0) = x * y + z + c := by
  have e1 := mul_eq x y
  have e2 := add_eq (mulLo x y) z 0
  have e3 := add_eq (addLo (mulLo x y) z 0) c 0
  rw [Nat.mul_add, Nat.mul_add]
  generalize x * y = p at *
  omega
/-- low + c, then + z. -/
theorem mac_eq' (x y z c : Nat) : addLo z (addLo (mulLo x y) c 0) 0 + B64 * (mulHi x y + addHi (mulLo x y) c 0 + addHi z (addLo (mulLo x y) c 0) 0) = x * y + z + c := by
  have e1 := mul_eq x y
  have e2 := add_eq (mulLo x y) c 0
  have e3 := add_eq z (addLo (mulLo x y) c 0) 0
  rw [Nat.mul_add, Nat.mul_add]
  generalize x * y = p at *
  omega
theorem mac_step {zs ys : List Nat} {t k x y z c s H V : Nat} (hv : val zs + B64 ^ (t + k) * c = V + B64 ^ t * (x * valTo ys k)) (hs : s + B64 * H = x * y + z + c) (hy : wd ys k = y) (hz : wd zs (t + k) = z) (hl : t + k < zs.length) :
    val (zs.set (t + k) s) + B64 ^ (t + (k + 1)) * H = V + B64 ^ t * (x * valTo ys (k + 1)) := by
  have e1 := val_set (xs := zs) (t + k) s hl
  have e2 : zs.getD (t + k) 0 = z := hz
  rw [e2] at e1
  rw [valTo_wd, hy, ← Nat.add_assoc, Nat.pow_succ, Nat.mul_assoc]
  have e3 := congrArg (B64 ^ (t + k) * ·) hs
  simp only [Nat.mul_add] at e3
  have e4 : B64 ^ t * (x * (valTo ys k + B64 ^ k * y)) = B64 ^ t * (x * valTo ys k) + B64 ^ (t + k) * (x * y) := by
    rw [Nat.mul_add, Nat.mul_add, Nat.pow_add, Nat.mul_assoc, Nat.mul_left_comm x]
  rw [e4]
  omega
theorem mac_end {zs xs ys : List Nat} {t l x c : Nat} (hv : val zs + B64 ^ (t + l) * c = valTo xs t * val ys + B64 ^ t * (x * valTo ys l)) (hx : wd xs t = x) (hy : ys.length = l) (hz : wd zs (t + l) = 0) (hl : t + l < zs.length) :
    val (zs.set (t + l) c) = valTo xs (t + 1) * val ys := by
  have e1 := val_set (xs := zs) (t + l) c hl
  have e2 : zs.getD (t + l) 0 = 0 := hz
  rw [e2, Nat.mul_zero, Nat.add_zero] at e1
  rw [e1, hv, valTo_all l (by omega), valTo_wd, hx, Nat.add_mul, Nat.mul_assoc]
theorem mod2 {A B C : Nat} (h : A + B + C < B64) : ((A + B) % (2 ^ IntKind.u64.bits : Int).natAbs + C) % (2 ^ IntKind.u64.bits : Int).natAbs = A + B + C := by
  have e : (2 ^ IntKind.u64.bits : Int).natAbs = B64 := rfl
  rw [e, Nat.mod_eq_of_lt (show A + B < B64 by omega), Nat.mod_eq_of_lt h]
theorem wd_set_ne (xs : List Nat) {i j : Nat} (h : i ≠ j) (n : Nat) : wd (xs.set i n) j = wd xs j := by
  unfold wd; simp [List.getD_eq_getElem?_getD, h]
theorem wd_zeros (n j : Nat) : wd (List.replicate n 0) j = 0 := by
  unfold wd
  rw [List.getD_eq_getElem?_getD, List.getElem?_replicate]
  split <;> rfl
/-- A word of a slice, as the walk loads it. -/
theorem SlW.wcell {w : World} {a : Option Addr} {len cap : Nat} {xs : List Nat} (h : SlW w a len cap xs) (i : Nat) (hi : i < len) : ∃ b off, a = some ⟨b, off, none⟩ ∧ w.cell? ⟨b, off + i, none⟩ = some (.int .u64 ((wd xs i : Nat) : Int)) := h.hcell i hi
theorem WordsAt.wcell {w : World} {g : Nat} {xs : List Nat} (h : WordsAt w g xs) (i : Nat) (hi : i < xs.length) : w.cell? ⟨g, i, none⟩ = some (.int .u64 ((wd xs i : Nat) : Int)) := h.cell hi
theorem val_zeros' (n : Nat) : val (List.replicate n 0) = 0 := by
  induction n with
  | zero => rfl
  | succ n ih => rw [List.replicate_succ, val, ih]; simp
set_option maxRecDepth 10000 in
set_option maxHeartbeats 1000000 in
theorem refSame_calls (w : World) (a b : Option Addr) (la ca lb cb : Nat) (xs ys : List Nat) (ha : SlW w a la ca xs) (hb : SlW w b lb cb ys) :
    Calls Try.prog 36 #[.slice a la ca, .slice b lb cb] w fun e w' => e = .returned (.bool (decide (val xs = val ys))) ∧ w = w' := by
  have hc := refCmp_calls w a b la ca lb cb xs ys ha hb
  have he : (cmpI (val xs) (val ys) == 0) = decide (val xs = val ys) := by
    unfold cmpI
    split
    · simp; omega
    · split
      · simp; omega
      · simp; omega
  generalize cmpI (val xs) (val ys) = C at hc he
  generalize decide (val xs = val ys) = D at he ⊢
  have HC := Lib.hid hc
  clear hc ha hb
  go_enter Try.func36, Try.ntmps36
  go_wp2_with fail
  refine HC.out.mono ?_
  rintro e w' ⟨rfl, rfl⟩
  go_wp2
  go_ret
  exact ⟨rfl, rfl⟩
set_option maxRecDepth 10000 in
set_option maxHeartbeats 1000000 in
theorem refTimes_calls (w : World) (a b : Option Addr) (la ca lb cb : Nat) (xs ys : List Nat) (ha : SlW w a la ca xs) (hb : SlW w b lb cb ys) (sa : la ≤ 4398046511104) (sb : lb ≤ 4398046511104) :
    Calls Try.prog 96 #[.slice a la ca, .slice b lb cb] w (NatRes w (val xs * val ys) (la + lb + 1)) := by
  have m1 := ha.hle
  have m2 := ha.hmax
  have m3 := hb.hle
  have m4 := hb.hmax
  have HX := Lib.hid ha.hw
  have HY := Lib.hid hb.hw
  have HA := Lib.hid ha
  have HB := Lib.hid hb
  clear ha hb
  obtain ⟨M, hM⟩ : ∃ M, la + lb = M := ⟨_, rfl⟩
  have HMM := Lib.hid hM
  have hM1 : (la : Int) + (lb : Int) = (M : Int) := by omega
  have hM2 : M ≤ 8796093022208 := by omega
  rw [hM]
  clear hM
  go_enter Try.func96, Try.ntmps96
  go_wp2_with ((with_reducible refine gate_make 69 ?_); refine mk_words (Below.refl w.heap.size w) (M + 1) (by omega) (fun W g hgB _ hBW _ hgw => ?_); have HBW := Lib.hid hBW; have HGW := Lib.hid hgw; have HGB := Lib.hid hgB; clear hBW hgw hgB)
  go_loopw [22] (fun i wr => ∃ (t : Nat) (zs : List Nat), t ≤ la ∧ i = .int .i64 t ∧ WordsAt wr g zs ∧ zs.length = M + 1 ∧ W64 zs ∧ val zs = valTo xs t * val ys ∧ (∀ j, t + lb ≤ j → wd zs j = 0) ∧ Below w.heap.size w wr) (fun i _ => la - (intOf i).toNat)
  case atStart => exact ⟨0, List.replicate (M + 1) 0, by omega, rfl, HGW.out, by simp, W64.zeros _, by rw [val_zeros']; simp [valTo], fun j _ => wd_zeros _ _, HBW.out⟩
  case round =>
    obtain ⟨t, zs, ht, rfl, hz, hzl, hzw, hv, hz0, hbw⟩ := hrel
    have HZ := Lib.hid hz
    have HZL := Lib.hid hzl
    have HZW := Lib.hid hzw
    have HV := Lib.hid hv
    have HZ0 := Lib.hid hz0
    have HBR := Lib.hid hbw
    clear hz hzl hzw hv hbw HBW HGW hz0
    by_cases hlt : t < la
    · have htm : t + lb < M + 1 := by have := HMM.out; omega
      obtain ⟨p, o, rfl, hx⟩ := HA.out.wcell t hlt
      have HPX := Lib.hid hx
      clear hx
      go_wp2_with fail
      go_loopw [27, 7] (fun i cr wr => ∃ (k c : Nat) (zs : List Nat), k ≤ lb ∧ i = .int .i64 k ∧ cr = .int .u64 (c : Nat) ∧ c < B64 ∧ WordsAt wr g zs ∧ zs.length = M + 1 ∧ W64 zs ∧ val zs + B64 ^ (t + k) * c = valTo xs t * val ys + B64 ^ t * (wd xs t * valTo ys k) ∧ (∀ j, t + lb ≤ j → wd zs j = 0) ∧ Below w.heap.size w wr) (fun i _ _ => lb - (intOf i).toNat)
      case atStart => exact ⟨0, 0, zs, by omega, rfl, rfl, by decide, HZ.out, HZL.out, HZW.out, by simp [valTo, HV.out], HZ0.out, HBR.out⟩
      case round =>
        obtain ⟨k, c, zs, hk, rfl, rfl, hc, hz, hzl, hzw, hv, hz0, hbw⟩ := hrel
        have HZ := Lib.hid hz
        have HZL := Lib.hid hzl
        have HZW := Lib.hid hzw
        have HV := Lib.hid hv
        have HZ0 := Lib.hid hz0
        have HBR := Lib.hid hbw
        clear hz hzl hzw hv hbw hz0
        by_cases hlk : k < lb
        · obtain ⟨u, hu⟩ : ∃ u, t + k = u := ⟨_, rfl⟩
          have hu1 : (t : Int) + (k : Int) = (u : Int) := by omega
          have hum : u < M + 1 := by omega
          obtain ⟨p', o', rfl, hy⟩ := HB.out.wcell k hlk
          have hx := HPX.out
          have hxr : wr.cell? ⟨p, o + t, none⟩ = some (.int .u64 ((wd xs t : Nat) : Int)) := by rw [HBR.out.cell (World.block_lt_of_cell? w _ hx)]; exact hx
          have hyr : wr.cell? ⟨p', o' + k, none⟩ = some (.int .u64 ((wd ys k : Nat) : Int)) := by rw [HBR.out.cell (World.block_lt_of_cell? w _ hy)]; exact hy
          have hzr := HZ.out.wcell u (by rw [HZL.out]; omega)
          clear hx hy
          have bx := wd_lt HX.out t
          have bY := wd_lt HY.out k
          have bz := wd_lt HZW.out u
          have hm := mac_le bx bY bz hc
          have he := mac_eq (wd xs t) (wd ys k) (wd zs u) c
          have hH := mac_hi he hm
          have HS := Lib.hid (mac_step (x := wd xs t) (H := mulHi (wd xs t) (wd ys k) + addHi (mulLo (wd xs t) (wd ys k)) (wd zs u) 0 + addHi (addLo (mulLo (wd xs t) (wd ys k)) (wd zs u) 0) c 0) HV.out he rfl (by rw [hu]) (by rw [HZL.out]; omega))
          have HW := Lib.hid (HZW.out.set u _ (addLo_lt (addLo (mulLo (wd xs t) (wd ys k)) (wd zs u) 0) c 0))
          have hZ0' : ∀ j, t + lb ≤ j → wd (zs.set u (addLo (addLo (mulLo (wd xs t) (wd ys k)) (wd zs u) 0) c 0)) j = 0 := fun j hj => by rw [wd_set_ne _ (by omega)]; exact HZ0.out j hj
          have HZ0' := Lib.hid hZ0'
          clear hm he hZ0'
          have hHH := Lib.hid hH
          have hq1 : (mulHi (wd xs t) (wd ys k) + addHi (mulLo (wd xs t) (wd ys k)) (wd zs u) 0 : Nat) < B64 := by omega
          have HM := Lib.hid (mul64_calls (wd xs t) (wd ys k) bx bY)
          have a1 := run_add64_c0 (mulLo (wd xs t) (wd ys k)) (wd zs u)
          have a2 := run_add64_c0 (addLo (mulLo (wd xs t) (wd ys k)) (wd zs u) 0) c
          go_wp2_with fail
          go_quiet ((go_at_call 112; exact Calls.quiet_of_same (HM.out _)))
          have HZ2 := Lib.hid (HZ.out.drewN nq)
          have HBR2 := Lib.hid (below_drewN' HBR.out nq)
          go_wp2_with ((with_reducible refine gate_store 59 ?_); refine st_word HBR2.out HZ2.out HGB.out u (addLo (addLo (mulLo (wd xs t) (wd ys k)) (wd zs u) 0) c 0) (by rw [HZL.out]; omega) (fun W2 hB2 _ _ hz2 => ?_); have HB2 := Lib.hid hB2; have HZ3 := Lib.hid hz2; clear hB2 hz2)
          go_roundw
          case rel => exact ⟨k + 1, mulHi (wd xs t) (wd ys k) + addHi (mulLo (wd xs t) (wd ys k)) (wd zs u) 0 + addHi (addLo (mulLo (wd xs t) (wd ys k)) (wd zs u) 0) c 0, _, by omega, by go_num, congrArg (fun n : Nat => Value.int .u64 (n : Int)) (mod2 hHH.out), hHH.out, HZ3.out, by rw [List.length_set]; exact HZL.out, HW.out, by rw [← hu]; rw [← hu] at HS; exact HS.out, HZ0'.out, HB2.out⟩
          case measure => simp [intOf]; omega
        · have hlk' : lb = k := by omega
          subst hlk'
          obtain ⟨u, hu⟩ : ∃ u, t + lb = u := ⟨_, rfl⟩
          have hu1 : (t : Int) + (lb : Int) = (u : Int) := by omega
          have hum : u < M + 1 := by omega
          have HS := Lib.hid (mac_end HV.out rfl HB.out.hlen (HZ0.out _ (Nat.le_refl _)) (by rw [HZL.out]; omega))
          have HW := Lib.hid (HZW.out.set u _ hc)
          have hZ0' : ∀ j, t + 1 + lb ≤ j → wd (zs.set u c) j = 0 := fun j hj => by rw [wd_set_ne _ (by omega)]; exact HZ0.out j (by omega)
          have HZ0' := Lib.hid hZ0'
          clear hZ0'
          go_wp2_with ((with_reducible refine gate_store 59 ?_); refine st_word HBR.out HZ.out HGB.out u c (by rw [HZL.out]; omega) (fun W2 hB2 _ _ hz2 => ?_); have HB2 := Lib.hid hB2; have HZ3 := Lib.hid hz2; clear hB2 hz2)
          go_roundw
          case rel => exact ⟨t + 1, zs.set u c, by omega, by go_num, HZ3.out, by rw [List.length_set]; exact HZL.out, HW.out, by rw [← hu]; exact HS.out, HZ0'.out, HB2.out⟩
          case measure => simp [intOf]; omega
    · have hte : la = t := by omega
      subst hte
      have HN : Hid (val zs = val xs * val ys) := by rw [valTo_all la (by rw [HA.out.hlen]; exact Nat.le_refl _)] at HV; exact HV
      go_wp2_with fail
      refine (refTrim_calls wr _ (M + 1) (M + 1) zs (HZ.out.slAll HZW.out HZL.out (by omega)) (.inr ⟨_, _, rfl⟩) (by omega)).mono ?_
      rintro e w2 hr
      have hr2 := natRes_trans HBR.out hr
      rw [HN.out] at hr2
      obtain ⟨a', c', rs, rfl, r1, r2, r3, r4, r5⟩ := hr2
      have R := Lib.hid (And.intro r1 (And.intro r2 (And.intro r3 (And.intro r4 r5))))
      clear r1 r2 r3 r4 r5 hr
      go_wp2
      go_ret
      exact ⟨a', c', rs, rfl, R.out.1, R.out.2.1, R.out.2.2.1, R.out.2.2.2.1, R.out.2.2.2.2⟩
end Go.Proofs.Ythaplpenccpkpaa
