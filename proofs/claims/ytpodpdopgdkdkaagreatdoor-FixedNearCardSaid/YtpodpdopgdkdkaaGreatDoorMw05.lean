/- The contracts of the reference's Same, Trimmed, Times; the law's same. · Words of the call's own, in a block that may have more cells than they are. · The contracts of nat.product, nat.Mul and the reference's Mul. -/
import Derived.Test.YtpodpdopgdkdkaaGreatDoorMw04
set_option linter.unusedVariables false
set_option linter.unusedSimpArgs false
namespace Go.Proofs.YtpodpdopgdkdkaaGreatDoor
open Go.RowKit
/-! ### Products, word by word -/
theorem val_set {xs : List Nat} : ∀ (i n : Nat), i < xs.length → val (xs.set i n) + B64 ^ i * xs.getD i 0 = val xs + B64 ^ i * n := by
  induction xs with
  | nil => intro i n h; exact absurd h (by simp)
  | cons x xs ih =>
    intro i n h
    cases i with
    | zero => simp [val]; omega
    | succ i =>
      have e := ih i n (by simpa using h)
      simp only [List.set_cons_succ, val, List.getD_cons_succ, Nat.pow_succ, Nat.mul_comm (B64 ^ i) B64, Nat.mul_assoc]
      have e2 := congrArg (B64 * ·) e
      simp only [Nat.mul_add] at e2
      omega
theorem mac_le {P x y z c : Nat} (hx : x < P) (hy : y < P) (hz : z < P) (hc : c < P) : x * y + z + c < P * P := by
  obtain ⟨Q, rfl⟩ : ∃ Q, P = Q + 1 := ⟨P - 1, by omega⟩
  have h1 : x * y ≤ Q * Q := Nat.mul_le_mul (by omega) (by omega)
  have h2 : (Q + 1) * (Q + 1) = Q * Q + Q + Q + 1 := by rw [Nat.add_mul, Nat.mul_add]; omega
  omega
theorem mac_hi {P s H T : Nat} (h : s + P * H = T) (hT : T < P * P) : H < P := by
  rcases Nat.lt_or_ge H P with h1 | h1
  · exact h1
  · have := Nat.mul_le_mul_left P h1
    omega
/-- low + z, then + c. -/
theorem mac_eq (x y z c : Nat) : addLo (addLo (mulLo x y) z 0) c 0 + B64 * (mulHi x y + addHi (mulLo x y) z 0 + addHi (addLo (mulLo x y) z 0) c 0) = x * y + z + c := by
  have e1 := mul_eq x y
  have e2 := add_eq (mulLo x y) z 0
  have e3 := add_eq (addLo (mulLo x y) z 0) c 0
  rw [Nat.mul_add, Nat.mul_add]
  generalize x * y = p at *
  omega
/-- low + c, then + z. -/
theorem mac_eq' (x y z c : Nat) : addLo z (addLo (mulLo x y) c 0) 0 + B64 * (mulHi x y + addHi (mulLo x y) c 0 + addHi z (addLo (mulLo x y) c 0) 0) = x * y + z + c := by
  have e1 := mul_eq x y
  have e2 := add_eq (mulLo x y) c 0
  have e3 := add_eq z (addLo (mulLo x y) c 0) 0
  rw [Nat.mul_add, Nat.mul_add]
  generalize x * y = p at *
  omega
theorem mac_step {zs ys : List Nat} {t k x y z c s H V : Nat} (hv : val zs + B64 ^ (t + k) * c = V + B64 ^ t * (x * valTo ys k)) (hs : s + B64 * H = x * y + z + c) (hy : wd ys k = y) (hz : wd zs (t + k) = z) (hl : t + k < zs.length) :
    val (zs.set (t + k) s) + B64 ^ (t + (k + 1)) * H = V + B64 ^ t * (x * valTo ys (k + 1)) := by
  have e1 := val_set (xs := zs) (t + k) s hl
  have e2 : zs.getD (t + k) 0 = z := hz
  rw [e2] at e1
  rw [valTo_wd, hy, ← Nat.add_assoc, Nat.pow_succ, Nat.mul_assoc]
  have e3 := congrArg (B64 ^ (t + k) * ·) hs
  simp only [Nat.mul_add] at e3
  have e4 : B64 ^ t * (x * (valTo ys k + B64 ^ k * y)) = B64 ^ t * (x * valTo ys k) + B64 ^ (t + k) * (x * y) := by
    rw [Nat.mul_add, Nat.mul_add, Nat.pow_add, Nat.mul_assoc, Nat.mul_left_comm x]
  rw [e4]
  omega
theorem mac_end {zs xs ys : List Nat} {t l x c : Nat} (hv : val zs + B64 ^ (t + l) * c = valTo xs t * val ys + B64 ^ t * (x * valTo ys l)) (hx : wd xs t = x) (hy : ys.length = l) (hz : wd zs (t + l) = 0) (hl : t + l < zs.length) :
    val (zs.set (t + l) c) = valTo xs (t + 1) * val ys := by
  have e1 := val_set (xs := zs) (t + l) c hl
  have e2 : zs.getD (t + l) 0 = 0 := hz
  rw [e2, Nat.mul_zero, Nat.add_zero] at e1
  rw [e1, hv, valTo_all l (by omega), valTo_wd, hx, Nat.add_mul, Nat.mul_assoc]
theorem mod2 {A B C : Nat} (h : A + B + C < B64) : ((A + B) % (2 ^ IntKind.u64.bits : Int).natAbs + C) % (2 ^ IntKind.u64.bits : Int).natAbs = A + B + C := by
  have e : (2 ^ IntKind.u64.bits : Int).natAbs = B64 := rfl
  rw [e, Nat.mod_eq_of_lt (show A + B < B64 by omega), Nat.mod_eq_of_lt h]
theorem wd_set_ne (xs : List Nat) {i j : Nat} (h : i ≠ j) (n : Nat) : wd (xs.set i n) j = wd xs j := by
  unfold wd; simp [List.getD_eq_getElem?_getD, h]
theorem wd_zeros (n j : Nat) : wd (List.replicate n 0) j = 0 := by
  unfold wd
  rw [List.getD_eq_getElem?_getD, List.getElem?_replicate]
  split <;> rfl
/-- A word of a slice, as the walk loads it. -/
theorem SlW.wcell {w : World} {a : Option Addr} {len cap : Nat} {xs : List Nat} (h : SlW w a len cap xs) (i : Nat) (hi : i < len) : ∃ b off, a = some ⟨b, off, none⟩ ∧ w.cell? ⟨b, off + i, none⟩ = some (.int .u64 ((wd xs i : Nat) : Int)) := h.hcell i hi
theorem WordsAt.wcell {w : World} {g : Nat} {xs : List Nat} (h : WordsAt w g xs) (i : Nat) (hi : i < xs.length) : w.cell? ⟨g, i, none⟩ = some (.int .u64 ((wd xs i : Nat) : Int)) := h.cell hi
theorem val_zeros' (n : Nat) : val (List.replicate n 0) = 0 := by
  induction n with
  | zero => rfl
  | succ n ih => rw [List.replicate_succ, val, ih]; simp
set_option maxRecDepth 10000 in
set_option maxHeartbeats 1000000 in
theorem refTimes_calls (w : World) (a b : Option Addr) (la ca lb cb : Nat) (xs ys : List Nat) (ha : SlW w a la ca xs) (hb : SlW w b lb cb ys) (sa : la ≤ 4398046511104) (sb : lb ≤ 4398046511104) :
    Calls Tryz.prog 15 #[.slice a la ca, .slice b lb cb] w (NatRes w (val xs * val ys) (la + lb + 1)) := by
  have m1 := ha.hle
  have m2 := ha.hmax
  have m3 := hb.hle
  have m4 := hb.hmax
  have HX := Lib.hid ha.hw
  have HY := Lib.hid hb.hw
  have HA := Lib.hid ha
  have HB := Lib.hid hb
  clear ha hb
  obtain ⟨M, hM⟩ : ∃ M, la + lb = M := ⟨_, rfl⟩
  have HMM := Lib.hid hM
  have hM1 : (la : Int) + (lb : Int) = (M : Int) := by omega
  have hM2 : M ≤ 8796093022208 := by omega
  rw [hM]
  clear hM
  go_enter Tryz.func15, Tryz.ntmps15
  go_wp2_with ((with_reducible refine gate_make 36 ?_); refine mk_words (Below.refl w.heap.size w) (M + 1) (by omega) (fun W g hgB _ hBW _ hgw => ?_); have HBW := Lib.hid hBW; have HGW := Lib.hid hgw; have HGB := Lib.hid hgB; clear hBW hgw hgB)
  go_loopw [22] (fun i wr => ∃ (t : Nat) (zs : List Nat), t ≤ la ∧ i = .int .i64 t ∧ WordsAt wr g zs ∧ zs.length = M + 1 ∧ W64 zs ∧ val zs = valTo xs t * val ys ∧ (∀ j, t + lb ≤ j → wd zs j = 0) ∧ Below w.heap.size w wr) (fun i _ => la - (intOf i).toNat)
  case atStart => exact ⟨0, List.replicate (M + 1) 0, by omega, rfl, HGW.out, by simp, W64.zeros _, by rw [val_zeros']; simp [valTo], fun j _ => wd_zeros _ _, HBW.out⟩
  case round =>
    obtain ⟨t, zs, ht, rfl, hz, hzl, hzw, hv, hz0, hbw⟩ := hrel
    have HZ := Lib.hid hz
    have HZL := Lib.hid hzl
    have HZW := Lib.hid hzw
    have HV := Lib.hid hv
    have HZ0 := Lib.hid hz0
    have HBR := Lib.hid hbw
    clear hz hzl hzw hv hbw HBW HGW hz0
    by_cases hlt : t < la
    · have htm : t + lb < M + 1 := by have := HMM.out; omega
      obtain ⟨p, o, rfl, hx⟩ := HA.out.wcell t hlt
      have HPX := Lib.hid hx
      clear hx
      go_wp2_with fail
      go_loopw [27, 7] (fun i cr wr => ∃ (k c : Nat) (zs : List Nat), k ≤ lb ∧ i = .int .i64 k ∧ cr = .int .u64 (c : Nat) ∧ c < B64 ∧ WordsAt wr g zs ∧ zs.length = M + 1 ∧ W64 zs ∧ val zs + B64 ^ (t + k) * c = valTo xs t * val ys + B64 ^ t * (wd xs t * valTo ys k) ∧ (∀ j, t + lb ≤ j → wd zs j = 0) ∧ Below w.heap.size w wr) (fun i _ _ => lb - (intOf i).toNat)
      case atStart => exact ⟨0, 0, zs, by omega, rfl, rfl, by decide, HZ.out, HZL.out, HZW.out, by simp [valTo, HV.out], HZ0.out, HBR.out⟩
      case round =>
        obtain ⟨k, c, zs, hk, rfl, rfl, hc, hz, hzl, hzw, hv, hz0, hbw⟩ := hrel
        have HZ := Lib.hid hz
        have HZL := Lib.hid hzl
        have HZW := Lib.hid hzw
        have HV := Lib.hid hv
        have HZ0 := Lib.hid hz0
        have HBR := Lib.hid hbw
        clear hz hzl hzw hv hbw hz0
        by_cases hlk : k < lb
        · obtain ⟨u, hu⟩ : ∃ u, t + k = u := ⟨_, rfl⟩
          have hu1 : (t : Int) + (k : Int) = (u : Int) := by omega
          have hum : u < M + 1 := by omega
          obtain ⟨p', o', rfl, hy⟩ := HB.out.wcell k hlk
          have hx := HPX.out
          have hxr : wr.cell? ⟨p, o + t, none⟩ = some (.int .u64 ((wd xs t : Nat) : Int)) := by rw [HBR.out.cell (World.block_lt_of_cell? w _ hx)]; exact hx
          have hyr : wr.cell? ⟨p', o' + k, none⟩ = some (.int .u64 ((wd ys k : Nat) : Int)) := by rw [HBR.out.cell (World.block_lt_of_cell? w _ hy)]; exact hy
          have hzr := HZ.out.wcell u (by rw [HZL.out]; omega)
          clear hx hy
          have bx := wd_lt HX.out t
          have bY := wd_lt HY.out k
          have bz := wd_lt HZW.out u
          have hm := mac_le bx bY bz hc
          have he := mac_eq (wd xs t) (wd ys k) (wd zs u) c
          have hH := mac_hi he hm
          have HS := Lib.hid (mac_step (x := wd xs t) (H := mulHi (wd xs t) (wd ys k) + addHi (mulLo (wd xs t) (wd ys k)) (wd zs u) 0 + addHi (addLo (mulLo (wd xs t) (wd ys k)) (wd zs u) 0) c 0) HV.out he rfl (by rw [hu]) (by rw [HZL.out]; omega))
          have HW := Lib.hid (HZW.out.set u _ (addLo_lt (addLo (mulLo (wd xs t) (wd ys k)) (wd zs u) 0) c 0))
          have hZ0' : ∀ j, t + lb ≤ j → wd (zs.set u (addLo (addLo (mulLo (wd xs t) (wd ys k)) (wd zs u) 0) c 0)) j = 0 := fun j hj => by rw [wd_set_ne _ (by omega)]; exact HZ0.out j hj
          have HZ0' := Lib.hid hZ0'
          clear hm he hZ0'
          have hHH := Lib.hid hH
          have hq1 : (mulHi (wd xs t) (wd ys k) + addHi (mulLo (wd xs t) (wd ys k)) (wd zs u) 0 : Nat) < B64 := by omega
          have HM := Lib.hid (mul64_calls (wd xs t) (wd ys k) bx bY)
          have a1 := run_add64_c0 (mulLo (wd xs t) (wd ys k)) (wd zs u)
          have a2 := run_add64_c0 (addLo (mulLo (wd xs t) (wd ys k)) (wd zs u) 0) c
          go_wp2_with fail
          go_quiet ((go_at_call 45; exact Calls.quiet_of_same (HM.out _)))
          have HZ2 := Lib.hid (HZ.out.drewN nq)
          have HBR2 := Lib.hid (below_drewN' HBR.out nq)
          go_wp2_with ((with_reducible refine gate_store 22 ?_); refine st_word HBR2.out HZ2.out HGB.out u (addLo (addLo (mulLo (wd xs t) (wd ys k)) (wd zs u) 0) c 0) (by rw [HZL.out]; omega) (fun W2 hB2 _ _ hz2 => ?_); have HB2 := Lib.hid hB2; have HZ3 := Lib.hid hz2; clear hB2 hz2)
          go_roundw
          case rel => exact ⟨k + 1, mulHi (wd xs t) (wd ys k) + addHi (mulLo (wd xs t) (wd ys k)) (wd zs u) 0 + addHi (addLo (mulLo (wd xs t) (wd ys k)) (wd zs u) 0) c 0, _, by omega, by go_num, congrArg (fun n : Nat => Value.int .u64 (n : Int)) (mod2 hHH.out), hHH.out, HZ3.out, by rw [List.length_set]; exact HZL.out, HW.out, by rw [← hu]; rw [← hu] at HS; exact HS.out, HZ0'.out, HB2.out⟩
          case measure => simp [intOf]; omega
        · have hlk' : lb = k := by omega
          subst hlk'
          obtain ⟨u, hu⟩ : ∃ u, t + lb = u := ⟨_, rfl⟩
          have hu1 : (t : Int) + (lb : Int) = (u : Int) := by omega
          have hum : u < M + 1 := by omega
          have HS := Lib.hid (mac_end HV.out rfl HB.out.hlen (HZ0.out _ (Nat.le_refl _)) (by rw [HZL.out]; omega))
          have HW := Lib.hid (HZW.out.set u _ hc)
          have hZ0' : ∀ j, t + 1 + lb ≤ j → wd (zs.set u c) j = 0 := fun j hj => by rw [wd_set_ne _ (by omega)]; exact HZ0.out j (by omega)
          have HZ0' := Lib.hid hZ0'
          clear hZ0'
          go_wp2_with ((with_reducible refine gate_store 22 ?_); refine st_word HBR.out HZ.out HGB.out u c (by rw [HZL.out]; omega) (fun W2 hB2 _ _ hz2 => ?_); have HB2 := Lib.hid hB2; have HZ3 := Lib.hid hz2; clear hB2 hz2)
          go_roundw
          case rel => exact ⟨t + 1, zs.set u c, by omega, by go_num, HZ3.out, by rw [List.length_set]; exact HZL.out, HW.out, by rw [← hu]; exact HS.out, HZ0'.out, HB2.out⟩
          case measure => simp [intOf]; omega
    · have hte : la = t := by omega
      subst hte
      have HN : Hid (val zs = val xs * val ys) := by rw [valTo_all la (by rw [HA.out.hlen]; exact Nat.le_refl _)] at HV; exact HV
      go_wp2_with fail
      refine (refTrim_calls wr _ (M + 1) (M + 1) zs (HZ.out.slAll HZW.out HZL.out (by omega)) (.inr ⟨_, _, rfl⟩) (by omega)).mono ?_
      rintro e w2 hr
      have hr2 := natRes_trans HBR.out hr
      rw [HN.out] at hr2
      obtain ⟨a', c', rs, rfl, r1, r2, r3, r4, r5⟩ := hr2
      have R := Lib.hid (And.intro r1 (And.intro r2 (And.intro r3 (And.intro r4 r5))))
      clear r1 r2 r3 r4 r5 hr
      go_wp2
      go_ret
      exact ⟨a', c', rs, rfl, R.out.1, R.out.2.1, R.out.2.2.1, R.out.2.2.2.1, R.out.2.2.2.2⟩
end Go.Proofs.YtpodpdopgdkdkaaGreatDoor
namespace Go.Proofs.YtpodpdopgdkdkaaGreatDoor
open Go.RowKit
structure WordsC (w : World) (g c : Nat) (xs : List Nat) : Prop where
  hcur : ∃ cur, w.heap[g]? = some (.cells cur 22 (0, 0)) ∧ cur.size = c ∧ cur.toList.take xs.length = xs.map wv
  hle : xs.length ≤ c
  hmax : c ≤ maxLen
theorem WordsC.cell {w : World} {g c : Nat} {xs : List Nat} (h : WordsC w g c xs) (i : Nat) (hi : i < xs.length) : w.cell? ⟨g, i, none⟩ = some (.int .u64 ((wd xs i : Nat) : Int)) := by
  obtain ⟨⟨cur, hg, hs, ht⟩, h1, h2⟩ := h
  rw [cell_of_heap hg]
  have e1 : (cur.toList.take xs.length)[i]? = some (wv (wd xs i)) := by
    rw [ht, List.getElem?_map, List.getElem?_eq_getElem hi]
    simp [wd, List.getD_eq_getElem?_getD, List.getElem?_eq_getElem hi]
  rw [List.getElem?_take, if_pos hi] at e1
  simpa [wv] using e1
theorem WordsC.free {w : World} {g c : Nat} {xs : List Nat} (h : WordsC w g c xs) (i : Nat) : w.frozen? ⟨g, i, none⟩ = false := by
  obtain ⟨⟨cur, hg, _⟩, _⟩ := h; exact free_of_heap hg i
theorem WordsC.keep {w w' : World} {g c : Nat} {xs : List Nat} (h : WordsC w g c xs) (hb : Below w.heap.size w w') : WordsC w' g c xs := by
  obtain ⟨⟨cur, hg, r⟩, h1, h2⟩ := h; exact ⟨⟨cur, below_heap hb hg, r⟩, h1, h2⟩
theorem WordsC.drewN {w : World} {g c : Nat} {xs : List Nat} (h : WordsC w g c xs) (m : Nat) : WordsC (w.drewN m) g c xs := ⟨h.hcur, h.hle, h.hmax⟩
theorem WordsC.other {w W : World} {g h c : Nat} {xs : List Nat} (hx : WordsC w g c xs) (hk : ∀ k, k ≠ h → W.heap[k]? = w.heap[k]?) (hne : g ≠ h) : WordsC W g c xs := by
  obtain ⟨⟨cur, hg, r⟩, h1, h2⟩ := hx; exact ⟨⟨cur, (hk g hne).trans hg, r⟩, h1, h2⟩
theorem WordsC.lt {w : World} {g c : Nat} {xs : List Nat} (h : WordsC w g c xs) : g < w.heap.size := by
  obtain ⟨⟨cur, hg, r⟩, h1, h2⟩ := h; exact lt_of_heap hg
theorem WordsC.own {B : Nat} {w : World} {g c : Nat} {zs : List Nat} (h : WordsC w g c zs) (hB : B ≤ g) (hw : W64 zs) {k : Nat} (hk : k ≤ zs.length) :
    OwnW B w (some ⟨g, 0, none⟩) k c (zs.take k) := by
  obtain ⟨⟨cur, hg, hs, ht⟩, h1, h2⟩ := h
  refine ⟨⟨by simp; omega, .inr ⟨g, c, cur, rfl, hB, hg, by omega, h2, by omega, ?_⟩⟩, by simp; omega, hw.take k⟩
  rw [Nat.mul_one, List.map_take, ← ht, List.take_take, Nat.min_eq_left hk]
theorem WordsC.sl {w : World} {g c : Nat} {zs : List Nat} (h : WordsC w g c zs) (hw : W64 zs) {k : Nat} (hk : k ≤ zs.length) : SlW w (some ⟨g, 0, none⟩) k c (zs.take k) := (h.own (Nat.zero_le _) hw hk).sl
theorem WordsC.slAll {w : World} {g c : Nat} {zs : List Nat} (h : WordsC w g c zs) (hw : W64 zs) {N : Nat} (hN : zs.length = N) : SlW w (some ⟨g, 0, none⟩) N c zs := by
  subst hN
  have := h.sl hw (Nat.le_refl _)
  rwa [List.take_length] at this
theorem WordsC.slDrop {w : World} {g c : Nat} {zs : List Nat} (h : WordsC w g c zs) (hw : W64 zs) {j k c' : Nat} (hk : j + k ≤ zs.length) (hc : j + c' ≤ c) (hkc : k ≤ c') : SlW w (some ⟨g, j, none⟩) k c' ((zs.drop j).take k) := by
  refine ⟨by simp; omega, hkc, by have := h.hmax; unfold maxLen at this; omega, (hw.drop j).take k, (fun e => by cases e), fun i hi => ⟨g, j, rfl, ?_⟩⟩
  rw [h.cell (j + i) (by omega)]
  simp [wd, List.getD_eq_getElem?_getD, List.getElem?_drop, hi]
theorem OwnW.words {B : Nat} {w : World} {a : Option Addr} {len cap : Nat} {xs : List Nat} (h : OwnW B w a len cap xs) :
    (a = none ∧ len = 0 ∧ cap = 0 ∧ xs = []) ∨ ∃ g, a = some ⟨g, 0, none⟩ ∧ B ≤ g ∧ WordsC w g cap xs := by
  obtain ⟨⟨h1, h2⟩, hl, hw⟩ := h
  rcases h2 with ⟨hv, hn⟩ | ⟨g, c, cur, hv, hB, hg, hle, hm, hs, ht⟩
  · simp only [Value.slice.injEq] at hv
    obtain ⟨rfl, rfl, rfl⟩ := hv
    exact .inl ⟨rfl, rfl, rfl, List.eq_nil_of_length_eq_zero hl⟩
  · simp only [Value.slice.injEq] at hv
    obtain ⟨rfl, _, rfl⟩ := hv
    exact .inr ⟨g, rfl, hB, ⟨⟨cur, hg, by omega, by rw [hl]; simpa using ht⟩, by omega, hm⟩⟩
theorem WordsAt.wordsC {w : World} {g N : Nat} {zs : List Nat} (h : WordsAt w g zs) (hN : zs.length = N) (hl : N ≤ 17592186044416) : WordsC w g N zs := by
  subst hN
  exact ⟨⟨_, h, by simp [wcells], by simp only [wcells]; rw [List.take_of_length_le (by simp)]⟩, Nat.le_refl _, by unfold maxLen; omega⟩
section
variable {ops : Array Oper} {rest : List Oper} {Q : Exit → Act → World → Prop} {a : Act} {w : World} {d : Option Tmp} {x y : Operand} {T : TypeId} {pos : String} {af : Array Edge}
/-- A store of a word into such a block: it alone is another one. -/
theorem st_wordC {w0 : World} (hB : Below w0.heap.size w0 w) {g c : Nat} {xs : List Nat} (hg : WordsC w g c xs) (hB0 : w0.heap.size ≤ g) (i n : Nat) (hi : i < xs.length)
    (h : ∀ W : World, Below w0.heap.size w0 W → (∀ k, k ≠ g → W.heap[k]? = w.heap[k]?) → W.heap.size = w.heap.size → WordsC W g c (xs.set i n) → wpList Tryz.prog ops Q rest (a.put d undef) W)
    (hx : a.eval x = .pointer (some ⟨g, i, none⟩) := by rfl) (hy : a.eval y = .int .u64 (n : Nat) := by rfl) :
    wpList Tryz.prog ops Q ({ dst := d, op := .store 22 x y, type := T, pos := pos, after := af, guard := none } :: rest) a w := by
  have h1 := hg.cell i hi
  have h2 := hg.free i
  refine wpList_plain rfl fun K hK => ?_
  have hs : (Instr.storeAt 22 (.pointer (some ⟨g, i, none⟩)) (.int .u64 (n : Nat))).run Tryz.prog w = .ok () (w.setCell ⟨g, i, none⟩ (.int .u64 (n : Nat))) := by
    go_simp
  unfold Oper.wp execOp
  simp only [hx, hy, Sem.run_bind, hs, Result.andThen_ok]
  refine hK _ _ (h _ (hB.setCell hB0 _) (fun k hk => heap_set_other hk _ _) (size_set _ _ _) ?_)
  obtain ⟨⟨cur, hcu, hcs, hct⟩, hl, hm⟩ := hg
  refine ⟨⟨_, heap_set hcu i (wv n), by simpa using hcs, ?_⟩, by simpa using hl, hm⟩
  rw [List.length_set, Array.toList_setIfInBounds, List.take_set, hct, List.map_set]
end
theorem natRes_mkC {w w' : World} {g c n bd : Nat} {zs : List Nat} (hg : WordsC w' g c zs) (hB : w.heap.size ≤ g) (hw : W64 zs) (hv : val zs = n) (hb : zs.length ≤ bd) (hk : Below w.heap.size w w') :
    NatRes w n bd (.returned (.slice (some ⟨g, 0, none⟩) (sz zs) c)) w' := by
  have hs := sz_le zs
  have e : (zs.take (sz zs)).length = sz zs := by simp; omega
  refine ⟨some ⟨g, 0, none⟩, c, zs.take (sz zs), ?_, ?_, ?_, ?_, ?_, hk⟩
  · rw [e]
  · rw [e]; exact hg.own hB hw hs
  · rw [val_take_sz, hv]
  · rw [sz_take_sz, e]
  · omega
/-- A natural number that the call has made, and a number beside it. -/
def NatRes2 (w : World) (n bd : Nat) (v : Value) (e : Ending) (w' : World) : Prop :=
  ∃ a cap zs, e = .returned (.tuple #[.slice a zs.length cap, v]) ∧ OwnW w.heap.size w' a zs.length cap zs ∧ val zs = n ∧ sz zs = zs.length ∧ zs.length ≤ bd ∧ Below w.heap.size w w'
theorem NatRes.two {w w' : World} {n bd : Nat} {s v : Value} (h : NatRes w n bd (.returned s) w') : NatRes2 w n bd v (.returned (.tuple #[s, v])) w' := by
  obtain ⟨a, c, zs, h1, r⟩ := h
  cases h1
  exact ⟨a, c, zs, rfl, r⟩
theorem ownW_nil (B : Nat) (w : World) : OwnW B w none 0 0 [] := ⟨⟨rfl, .inl ⟨rfl, rfl⟩⟩, rfl, W64.nil⟩
theorem natRes_nil {w w' : World} (bd : Nat) (h : Below w.heap.size w w') : NatRes w 0 bd (.returned (.slice none 0 0)) w' :=
  ⟨none, 0, [], rfl, ownW_nil _ _, rfl, rfl, Nat.zero_le _, h⟩
theorem natRes2_trans {w w1 w2 : World} {n bd : Nat} {v : Value} {e : Ending} (hb : Below w.heap.size w w1) (h : NatRes2 w1 n bd v e w2) : NatRes2 w n bd v e w2 := by
  obtain ⟨a, c, zs, h1, h2, h3, h4, h5, h6⟩ := h
  exact ⟨a, c, zs, h1, h2.mono hb.size, h3, h4, h5, below_then hb h6⟩
theorem NatRes.le {w w' : World} {n bd bd' : Nat} {e : Ending} (h : NatRes w n bd e w') (hb : bd ≤ bd') : NatRes w n bd' e w' := by
  obtain ⟨a, c, zs, h1, h2, h3, h4, h5, h6⟩ := h
  exact ⟨a, c, zs, h1, h2, h3, h4, by omega, h6⟩
end Go.Proofs.YtpodpdopgdkdkaaGreatDoor
namespace Go.Proofs.YtpodpdopgdkdkaaGreatDoor
open Go.RowKit
set_option maxRecDepth 10000 in
set_option maxHeartbeats 1000000 in
theorem product_calls (w : World) (a b : Option Addr) (la ca lb cb : Nat) (xs ys : List Nat) (ha : SlW w a la ca xs) (hb : SlW w b lb cb ys) (sa : la ≤ 4398046511104) (sb : lb ≤ 4398046511104) :
    Calls Tryz.prog 98 #[.slice a la ca, .slice b lb cb] w (NatRes w (val xs * val ys) (la + lb)) := by
  have m1 := ha.hle
  have m2 := ha.hmax
  have m3 := hb.hle
  have m4 := hb.hmax
  have HX := Lib.hid ha.hw
  have HY := Lib.hid hb.hw
  have HA := Lib.hid ha
  have HB := Lib.hid hb
  clear ha hb
  obtain ⟨M, hM⟩ : ∃ M, la + lb = M := ⟨_, rfl⟩
  have HMM := Lib.hid hM
  have hM1 : (la : Int) + (lb : Int) = (M : Int) := by omega
  have hM2 : M ≤ 8796093022208 := by omega
  rw [hM]
  clear hM
  go_enter Tryz.func98, Tryz.ntmps98
  go_wp2_with ((with_reducible refine gate_make 36 ?_); refine mk_words (Below.refl w.heap.size w) M (by omega) (fun W g hgB _ hBW _ hgw => ?_); have HBW := Lib.hid hBW; have HGW := Lib.hid hgw; have HGB := Lib.hid hgB; clear hBW hgw hgB)
  go_loopw [22] (fun i wr => ∃ (t : Nat) (zs : List Nat), t ≤ la ∧ i = .int .i64 t ∧ WordsAt wr g zs ∧ zs.length = M ∧ W64 zs ∧ val zs = valTo xs t * val ys ∧ (∀ j, t + lb ≤ j → wd zs j = 0) ∧ Below w.heap.size w wr) (fun i _ => la - (intOf i).toNat)
  case atStart => exact ⟨0, List.replicate M 0, by omega, rfl, HGW.out, by simp, W64.zeros _, by rw [val_zeros']; simp [valTo], fun j _ => wd_zeros _ _, HBW.out⟩
  case round =>
    obtain ⟨t, zs, ht, rfl, hz, hzl, hzw, hv, hz0, hbw⟩ := hrel
    have HZ := Lib.hid hz
    have HZL := Lib.hid hzl
    have HZW := Lib.hid hzw
    have HV := Lib.hid hv
    have HZ0 := Lib.hid hz0
    have HBR := Lib.hid hbw
    clear hz hzl hzw hv hbw HBW HGW hz0
    by_cases hlt : t < la
    · have htm : t + lb < M := by have := HMM.out; omega
      obtain ⟨p, o, rfl, hx⟩ := HA.out.wcell t hlt
      have hxr : wr.cell? ⟨p, o + t, none⟩ = some (.int .u64 ((wd xs t : Nat) : Int)) := by rw [HBR.out.cell (World.block_lt_of_cell? w _ hx)]; exact hx
      clear hx
      go_wp2_with fail
      go_loopw [29, 8] (fun i cr wr => ∃ (k c : Nat) (zs : List Nat), k ≤ lb ∧ i = .int .i64 k ∧ cr = .int .u64 (c : Nat) ∧ c < B64 ∧ WordsAt wr g zs ∧ zs.length = M ∧ W64 zs ∧ val zs + B64 ^ (t + k) * c = valTo xs t * val ys + B64 ^ t * (wd xs t * valTo ys k) ∧ (∀ j, t + lb ≤ j → wd zs j = 0) ∧ Below w.heap.size w wr) (fun i _ _ => lb - (intOf i).toNat)
      case atStart => exact ⟨0, 0, zs, by omega, rfl, rfl, by decide, HZ.out, HZL.out, HZW.out, by simp [valTo, HV.out], HZ0.out, HBR.out⟩
      case round =>
        obtain ⟨k, c, zs, hk, rfl, rfl, hc, hz, hzl, hzw, hv, hz0, hbw⟩ := hrel
        have HZ := Lib.hid hz
        have HZL := Lib.hid hzl
        have HZW := Lib.hid hzw
        have HV := Lib.hid hv
        have HZ0 := Lib.hid hz0
        have HBR := Lib.hid hbw
        clear hz hzl hzw hv hbw hz0 hxr
        by_cases hlk : k < lb
        · obtain ⟨u, hu⟩ : ∃ u, t + k = u := ⟨_, rfl⟩
          have hu1 : (t : Int) + (k : Int) = (u : Int) := by omega
          have hum : u < M := by omega
          obtain ⟨p', o', rfl, hy⟩ := HB.out.wcell k hlk
          have hyr : wr.cell? ⟨p', o' + k, none⟩ = some (.int .u64 ((wd ys k : Nat) : Int)) := by rw [HBR.out.cell (World.block_lt_of_cell? w _ hy)]; exact hy
          have hzr := HZ.out.wcell u (by rw [HZL.out]; omega)
          clear hy
          have bx := wd_lt HX.out t
          have bY := wd_lt HY.out k
          have bz := wd_lt HZW.out u
          have hm := mac_le bx bY bz hc
          have he := mac_eq' (wd xs t) (wd ys k) (wd zs u) c
          have hH := mac_hi he hm
          have HS := Lib.hid (mac_step (x := wd xs t) (H := mulHi (wd xs t) (wd ys k) + addHi (mulLo (wd xs t) (wd ys k)) c 0 + addHi (wd zs u) (addLo (mulLo (wd xs t) (wd ys k)) c 0) 0) HV.out he rfl (by rw [hu]) (by rw [HZL.out]; omega))
          have HW := Lib.hid (HZW.out.set u _ (addLo_lt (wd zs u) (addLo (mulLo (wd xs t) (wd ys k)) c 0) 0))
          have hZ0' : ∀ j, t + lb ≤ j → wd (zs.set u (addLo (wd zs u) (addLo (mulLo (wd xs t) (wd ys k)) c 0) 0)) j = 0 := fun j hj => by rw [wd_set_ne _ (by omega)]; exact HZ0.out j hj
          have HZ0' := Lib.hid hZ0'
          clear hm he hZ0'
          have hHH := Lib.hid hH
          have hq1 : (mulHi (wd xs t) (wd ys k) + addHi (mulLo (wd xs t) (wd ys k)) c 0 : Nat) < B64 := by omega
          have HM := Lib.hid (mul64_calls (wd xs t) (wd ys k) bx bY)
          have a1 := run_add64_c0 (mulLo (wd xs t) (wd ys k)) c
          have a2 := run_add64_c0 (wd zs u) (addLo (mulLo (wd xs t) (wd ys k)) c 0)
          go_wp2_with (first | (go_at_call 45; refine (HM.out _).mono ?_; rintro e w' ⟨rfl, rfl⟩) | ((with_reducible refine gate_store 22 ?_); refine st_word HBR.out HZ.out HGB.out u (addLo (wd zs u) (addLo (mulLo (wd xs t) (wd ys k)) c 0) 0) (by rw [HZL.out]; omega) (fun W2 hB2 _ _ hz2 => ?_); have HB2 := Lib.hid hB2; have HZ3 := Lib.hid hz2; clear hB2 hz2))
          go_roundw
          case rel => exact ⟨k + 1, mulHi (wd xs t) (wd ys k) + addHi (mulLo (wd xs t) (wd ys k)) c 0 + addHi (wd zs u) (addLo (mulLo (wd xs t) (wd ys k)) c 0) 0, _, by omega, by go_num, congrArg (fun n : Nat => Value.int .u64 (n : Int)) (mod2 hHH.out), hHH.out, HZ3.out, by rw [List.length_set]; exact HZL.out, HW.out, by rw [← hu]; rw [← hu] at HS; exact HS.out, HZ0'.out, HB2.out⟩
          case measure => simp [intOf]; omega
        · have hlk' : lb = k := by omega
          subst hlk'
          obtain ⟨u, hu⟩ : ∃ u, t + lb = u := ⟨_, rfl⟩
          have hu1 : (t : Int) + (lb : Int) = (u : Int) := by omega
          have hum : u < M := by omega
          have HS := Lib.hid (mac_end HV.out rfl HB.out.hlen (HZ0.out _ (Nat.le_refl _)) (by rw [HZL.out]; omega))
          have HW := Lib.hid (HZW.out.set u _ hc)
          have hZ0' : ∀ j, t + 1 + lb ≤ j → wd (zs.set u c) j = 0 := fun j hj => by rw [wd_set_ne _ (by omega)]; exact HZ0.out j (by omega)
          have HZ0' := Lib.hid hZ0'
          clear hZ0'
          go_wp2_with ((with_reducible refine gate_store 22 ?_); refine st_word HBR.out HZ.out HGB.out u c (by rw [HZL.out]; omega) (fun W2 hB2 _ _ hz2 => ?_); have HB2 := Lib.hid hB2; have HZ3 := Lib.hid hz2; clear hB2 hz2)
          go_roundw
          case rel => exact ⟨t + 1, zs.set u c, by omega, by go_num, HZ3.out, by rw [List.length_set]; exact HZL.out, HW.out, by rw [← hu]; exact HS.out, HZ0'.out, HB2.out⟩
          case measure => simp [intOf]; omega
    · have hte : la = t := by omega
      subst hte
      have HN : Hid (val zs = val xs * val ys) := by rw [valTo_all la (by rw [HA.out.hlen]; exact Nat.le_refl _)] at HV; exact HV
      go_wp2_with fail
      refine (size_calls wr _ M M zs (HZ.out.slAll HZW.out HZL.out (by omega))).mono ?_
      rintro e w' ⟨rfl, rfl⟩
      have hsz := sz_le zs
      have hs2 : sz zs ≤ M := by rw [← HZL.out]; exact hsz
      clear hsz
      go_wp2
      go_ret
      exact natRes_mk HZ.out HGB.out HZW.out HZL.out (by omega) HN.out (by omega) HBR.out
end Go.Proofs.YtpodpdopgdkdkaaGreatDoor
