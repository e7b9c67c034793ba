/- The contract of nat.shift. · The contracts of nat.quotient and nat.Div. · The contract of strconv.FormatUint at base 10. · Plain laws: decimal digits, in chunks. -/
import Derived.Test.YtpodpdopgdkdkaaGreatDoorMw17
import Derived.Test.YtpodpdopgdkdkaaGreatDoorMw07
import Derived.Laws.Slices
import Derived.Lib.ItoaMem
import Derived.Lib.Join
import Derived.Lib.Repeat
set_option linter.unusedVariables false
set_option linter.unusedSimpArgs false
namespace Go.Proofs.YtpodpdopgdkdkaaGreatDoor
open Go.RowKit
theorem left_step0 {zs xs : List Nat} {t s z : Nat} (hs : s ≤ 64) (hv : val zs = valTo xs t * 2 ^ s) (hz : wd zs t = z) (hz1 : wd zs (t + 1) = 0) (hl : t + 1 < zs.length) :
    val ((zs.set t (loS s (wd xs t) + z)).set (t + 1) (hiS s (wd xs t))) = valTo xs (t + 1) * 2 ^ s := by
  have h := left_step (q := 0) (xs := xs) (zs := zs) (t := t) (z := z) hs (by rw [Nat.mul_zero, Nat.zero_add]; exact hv) hz hz1 hl
  rw [Nat.mul_zero, Nat.zero_add] at h
  exact h
set_option maxRecDepth 10000 in
set_option maxHeartbeats 2000000 in
theorem shift_calls (w : World) (a : Option Addr) (la ca : Nat) (xs : List Nat) (s : Nat) (ha : SlW w a la ca xs) (sa : la ≤ 4398046511104) (hs64 : s < 64) :
    Calls Tryz.prog 134 #[.slice a la ca, .int .i64 (s : Nat)] w (NatRes2 w (val xs * 2 ^ s) (la + 1) (.bool true)) := by
  have m1 := ha.hle
  have m2 := ha.hmax
  have HX := Lib.hid ha.hw
  have HA := Lib.hid ha
  clear ha
  go_enter Tryz.func134, Tryz.ntmps134
  go_wp2_with ((with_reducible refine gate_make 36 ?_); refine mk_words (Below.refl w.heap.size w) (la + 1) (by omega) (fun W g hgB _ hBW _ hgw => ?_); have HBW := Lib.hid hBW; have HGW := Lib.hid hgw; have HGB := Lib.hid hgB; clear hBW hgw hgB)
  go_loopw [15] (fun i wr => ∃ (t : Nat) (zs : List Nat), t ≤ la ∧ i = .int .i64 t ∧ WordsAt wr g zs ∧ zs.length = la + 1 ∧ W64 zs ∧ val zs = valTo xs t * 2 ^ s ∧ wd zs t < 2 ^ s ∧ (∀ j, t + 1 ≤ j → wd zs j = 0) ∧ Below w.heap.size w wr) (fun i _ => la - (intOf i).toNat)
  case atStart => exact ⟨0, List.replicate (la + 1) 0, by omega, rfl, HGW.out, by simp, W64.zeros _, by rw [val_zeros']; simp [valTo], by rw [wd_zeros]; exact Nat.two_pow_pos s, fun j _ => wd_zeros _ _, HBW.out⟩
  case round =>
    obtain ⟨t, zs, ht, rfl, hz, hzl, hzw, hv, hz1, hz0, hbw⟩ := hrel
    have HZ := Lib.hid hz
    have HZL := Lib.hid hzl
    have HZW := Lib.hid hzw
    have HV := Lib.hid hv
    have HZ1 := Lib.hid hz1
    have HZ0 := Lib.hid hz0
    have HBR := Lib.hid hbw
    clear hz hzl hzw hv hbw HBW HGW hz0 hz1
    by_cases hlt : t < la
    · obtain ⟨p, o, rfl, hx⟩ := HA.out.wcell t hlt
      have hxr : wr.cell? ⟨p, o + t, none⟩ = some (.int .u64 ((wd xs t : Nat) : Int)) := by rw [HBR.out.cell (World.block_lt_of_cell? w _ hx)]; exact hx
      have hzr := HZ.out.wcell t (by rw [HZL.out]; omega)
      clear hx
      have e1 := bits_hilo (x := wd xs t) (y := wd zs t) (s := s) (by omega) HZ1.out
      have hzu1 : wd zs (t + 1) = 0 := HZ0.out _ (by omega)
      have HS := Lib.hid (left_step0 (s := s) (z := wd zs t) (by omega) HV.out rfl hzu1 (by rw [HZL.out]; omega))
      have hlo : loS s (wd xs t) + wd zs t < B64 := lo_add_lt (by omega) HZ1.out
      have HW1 := Lib.hid (HZW.out.set t _ hlo)
      have hhi := hiS_lt (s := s) (x := wd xs t) (by omega) (wd_lt HX.out t)
      have HW2 := Lib.hid (HW1.out.set (t + 1) _ (Nat.lt_of_lt_of_le hhi (pow2_le64 (by omega))))
      have HHI := Lib.hid hhi
      have HZU := Lib.hid hzu1
      clear hlo hhi hzu1
      have i2 : IntKind.i64.wrap (t : Int) = (t : Nat) := wrapI (by omega) (by omega)
      have i3 : (t : Int) < (la : Int) + 1 := by omega
      have i6 : min s 64 = s := by omega
      have i7 : (64 : Int) - (s : Int) = ((64 - s : Nat) : Int) := by omega
      have i8 : min (64 - s) 64 = 64 - s := by omega
      have e2 := hiS_cast s (wd xs t)
      go_wp2_with fail
      go_still_tail 8, (by kernel_rfl)
      change wpList _ _ _ _ _ wr.drew
      have HZ2 : Hid (WordsAt wr.drew g zs) := Lib.hid HZ.out
      have HBR2 := Lib.hid HBR.out.drew
      clear HBR HZ hzr hxr
      generalize wr.drew = wv at HZ2 HBR2 ⊢
      by_cases hs0 : 0 < s
      · go_wp2_with ((with_reducible refine gate_store 22 ?_); first | (refine st_word HBR2.out HZ2.out HGB.out t (loS s (wd xs t) + wd zs t) (by rw [HZL.out]; omega) (fun W2 hB2 _ _ hz2 => ?_); have HB2 := Lib.hid hB2; have HZ3 := Lib.hid hz2; clear hB2 hz2) | (refine st_word HB2.out HZ3.out HGB.out (t + 1) (hiS s (wd xs t)) (by rw [List.length_set, HZL.out]; omega) (fun W3 hB3 _ _ hz3 => ?_); have HB3 := Lib.hid hB3; have HZ4 := Lib.hid hz3; clear hB3 hz3))
        go_roundw
        case rel =>
          refine ⟨t + 1, (zs.set t (loS s (wd xs t) + wd zs t)).set (t + 1) (hiS s (wd xs t)), by omega, by go_num, HZ4.out, by rw [List.length_set, List.length_set]; exact HZL.out, HW2.out, HS.out, ?_, fun j hj => ?_, HB3.out⟩
          · have e : wd ((zs.set t (loS s (wd xs t) + wd zs t)).set (t + 1) (hiS s (wd xs t))) (t + 1) = hiS s (wd xs t) := by
              unfold wd
              simp [List.getD_eq_getElem?_getD, HZL.out, show t + 1 < la + 1 by omega]
            rw [e]
            exact HHI.out
          · rw [wd_set_ne _ (by omega), wd_set_ne _ (by omega)]
            exact HZ0.out j (by omega)
        case measure => simp [intOf]; omega
      · have HS1 := Lib.hid (show s = 0 by omega)
        go_wp2_with ((with_reducible refine gate_store 22 ?_); refine st_word HBR2.out HZ2.out HGB.out t (loS s (wd xs t) + wd zs t) (by rw [HZL.out]; omega) (fun W2 hB2 _ _ hz2 => ?_); have HB2 := Lib.hid hB2; have HZ3 := Lib.hid hz2; clear hB2 hz2)
        go_roundw
        case rel =>
          have h0 : hiS s (wd xs t) = 0 := by rw [HS1.out]; exact hiS_zero (wd_lt HX.out t)
          have hz9 : wd (zs.set t (loS s (wd xs t) + wd zs t)) (t + 1) = 0 := by rw [wd_set_ne _ (by omega)]; exact HZU.out
          have e9 := val_set (xs := zs.set t (loS s (wd xs t) + wd zs t)) (t + 1) 0 (by rw [List.length_set, HZL.out]; omega)
          have hz9' : (zs.set t (loS s (wd xs t) + wd zs t)).getD (t + 1) 0 = 0 := hz9
          rw [hz9'] at e9
          have e10 := HS.out
          rw [h0] at e10
          refine ⟨t + 1, zs.set t (loS s (wd xs t) + wd zs t), by omega, by go_num, HZ3.out, by rw [List.length_set]; exact HZL.out, HW1.out, by rw [← e10]; omega, ?_, fun j hj => ?_, HB2.out⟩
          · rw [hz9]
            exact Nat.two_pow_pos s
          · rw [wd_set_ne _ (by omega)]
            exact HZ0.out j (by omega)
        case measure => simp [intOf]; omega
    · have hte : la = t := by omega
      subst hte
      have HN : Hid (val zs = val xs * 2 ^ s) := Lib.hid (by rw [HV.out, valTo_all la (by rw [HA.out.hlen]; exact Nat.le_refl _)])
      go_wp2_with fail
      refine (size_calls wr _ (la + 1) (la + 1) zs (HZ.out.slAll HZW.out HZL.out (by omega))).mono ?_
      rintro e w' ⟨rfl, rfl⟩
      have hsz := sz_le zs
      have hs2 : sz zs ≤ la + 1 := by rw [← HZL.out]; exact hsz
      clear hsz
      go_wp2
      go_ret2
      exact (natRes_mk HZ.out HGB.out HZW.out HZL.out (by omega) HN.out (by omega) HBR.out).two
end Go.Proofs.YtpodpdopgdkdkaaGreatDoor
namespace Go.Proofs.YtpodpdopgdkdkaaGreatDoor
open Go.RowKit
theorem NatPair.le {w w' : World} {n m b1 b2 c1 c2 : Nat} {e : Ending} (h : NatPair w n m b1 b2 e w') (h1 : b1 ≤ c1) (h2 : b2 ≤ c2) : NatPair w n m c1 c2 e w' := by
  obtain ⟨a, c, zs, a', c', ys, he, r, t, hb⟩ := h
  exact ⟨a, c, zs, a', c', ys, he, ⟨r.1, r.2.1, r.2.2.1, by omega⟩, ⟨t.1, t.2.1, t.2.2.1, by omega⟩, hb⟩
theorem natPair_trans {w w1 w2 : World} {n m b1 b2 : Nat} {e : Ending} (hb : Below w.heap.size w w1) (h : NatPair w1 n m b1 b2 e w2) : NatPair w n m b1 b2 e w2 := by
  obtain ⟨a, c, zs, a', c', ys, he, r, t, hb2⟩ := h
  exact ⟨a, c, zs, a', c', ys, he, ⟨r.1.mono hb.size, r.2⟩, ⟨t.1.mono hb.size, t.2⟩, below_then hb hb2⟩
theorem NatRes.sides {w w' : World} {n bd : Nat} {s : Value} (h : NatRes w n bd (.returned s) w') : ∃ a c zs, s = .slice a zs.length c ∧ OwnW w.heap.size w' a zs.length c zs ∧ val zs = n ∧ sz zs = zs.length ∧ zs.length ≤ bd ∧ Below w.heap.size w w' := by
  obtain ⟨a, c, zs, he, r⟩ := h
  cases he
  exact ⟨a, c, zs, rfl, r⟩
theorem NatRes.below {w w' : World} {n bd : Nat} {e : Ending} (h : NatRes w n bd e w') : Below w.heap.size w w' := by
  obtain ⟨_, _, _, _, _, _, _, _, r5⟩ := h
  exact r5
theorem NatRes.keep {w w1 w2 : World} {n bd : Nat} {s : Value} (h : NatRes w n bd (.returned s) w1) (hb : Below w1.heap.size w1 w2) : NatRes w n bd (.returned s) w2 := by
  obtain ⟨a, c, zs, he, r1, r2, r3, r4, r5⟩ := h
  exact ⟨a, c, zs, he, r1.keep hb, r2, r3, r4, below_then r5 hb⟩
theorem len_ge {zs : List Nat} {n : Nat} (hw : W64 zs) (h : B64 ^ (n - 1) ≤ val zs) (hn : 1 ≤ n) : n ≤ zs.length := by
  have h1 := val_lt hw
  rcases Nat.lt_or_ge zs.length n with h2 | h2
  · have : B64 ^ zs.length ≤ B64 ^ (n - 1) := Nat.pow_le_pow_right (by decide) (by omega)
    omega
  · exact h2
theorem len_le_of_val {xs ys : List Nat} (hx : W64 xs) (tx : sz xs = xs.length) (ty : sz ys = ys.length) (h : val ys ≤ val xs) : ys.length ≤ xs.length := by
  rcases Nat.lt_or_ge xs.length ys.length with h2 | h2
  · have := sz_lt_val (xs := xs) (ys := ys) hx (by omega)
    omega
  · exact h2
theorem shr_unnorm {r N y s : Nat} {rs : List Nat} (hr : val rs = r) (h : r = N * 2 ^ s % (y * 2 ^ s)) : shrVal rs (s : Int) = N % y := by
  unfold shrVal
  rcases Nat.eq_zero_or_pos s with h0 | h0
  · subst h0
    rw [if_pos (by omega), hr, h]
    simp
  · rw [if_neg (by omega), Int.toNat_natCast, hr, h]
    exact unnorm.2
set_option maxRecDepth 10000 in
set_option maxHeartbeats 4000000 in
theorem quotient_calls (w : World) (a b : Option Addr) (la ca n cb : Nat) (xs ys : List Nat) (ha : SlW w a la ca xs) (hb : SlW w b n cb ys) (pa : Plain a) (sa : la ≤ 10000) (sb : n ≤ 10000) (tx : sz xs = la) (ty : sz ys = n) (hn : 0 < n) :
    Calls Tryz.prog 116 #[.slice a la ca, .slice b n cb] w (NatPair w (val xs / val ys) (val xs % val ys) (la + 2) (la + n + 2)) := by
  have m1 := ha.hle
  have m2 := ha.hmax
  have m3 := hb.hle
  have m4 := hb.hmax
  have HC := Lib.hid (cmp_calls w a b la ca n cb xs ys ha hb)
  have hcn := cmpI_neg (val xs) (val ys)
  obtain ⟨C, hC⟩ : ∃ C, cmpI (val xs) (val ys) = C := ⟨_, rfl⟩
  rw [hC] at HC hcn
  clear hC
  have HA := Lib.hid ha
  have HB := Lib.hid hb
  have HTX := Lib.hid tx
  have HTY := Lib.hid ty
  have htop := sz_get_last (xs := ys) (by omega)
  rw [ty] at htop
  have HTOP := Lib.hid (show 0 < wd ys (n - 1) from Nat.pos_of_ne_zero htop)
  clear ha hb tx ty htop
  by_cases hlt : val xs < val ys
  · rw [show decide (val xs < val ys) = true by simp; exact hlt] at hcn
    rw [Nat.div_eq_of_lt hlt, Nat.mod_eq_of_lt hlt]
    clear hlt
    go_enter Tryz.func116, Tryz.ntmps116
    go_wp2_with fail
    refine HC.out.mono ?_
    rintro e w' ⟨rfl, m, rfl⟩
    have HB0 := Lib.hid (below_drewN' (Below.refl w.heap.size w) m)
    go_wp2_with fail
    refine (trim_res (HA.out.drewN m) pa (by omega)).mono ?_
    rintro e w1 hr
    have hr2 := natRes_trans HB0.out (hr.le (bd' := la + n + 2) (by omega))
    obtain ⟨a', c', rs, rfl, r1, r2, r3, r4, r5⟩ := hr2
    have R := Lib.hid (And.intro r1 (And.intro r2 (And.intro r3 (And.intro r4 r5))))
    clear r1 r2 r3 r4 r5 hr
    go_wp2
    go_ret2
    exact natPair_mk (natRes_nil _ R.out.2.2.2.2) ⟨a', c', rs, rfl, R.out⟩
  · rw [show decide (val xs < val ys) = false by simp; omega] at hcn
    by_cases h1 : n = 1
    · subst h1
      obtain ⟨p, o, rfl, hy⟩ := HB.out.wcell 0 (by omega)
      rw [Nat.add_zero] at hy
      have hyv : val ys = wd ys 0 := by
        rw [← valTo_all 1 (by rw [HB.out.hlen]; exact Nat.le_refl _), valTo_wd]
        simp [valTo]
      rw [hyv]
      have HW := Lib.hid (fun m => word_calls (w.drewN m) a la ca xs (wd ys 0) (HA.out.drewN m) (by omega) HTOP.out (wd_lt HB.out.hw 0))
      have HRB : Hid (val xs % wd ys 0 < B64) := Lib.hid (Nat.lt_trans (Nat.mod_lt _ HTOP.out) (wd_lt HB.out.hw 0))
      generalize wd ys 0 = v at hy HW HRB ⊢
      generalize val xs / v = Q at HW ⊢
      generalize val xs % v = R at HW HRB ⊢
      clear hlt hyv
      go_enter Tryz.func116, Tryz.ntmps116
      go_wp2_with fail
      refine HC.out.mono ?_
      rintro e w' ⟨rfl, m, rfl⟩
      have HB0 := Lib.hid (below_drewN' (Below.refl w.heap.size w) m)
      go_wp2_with fail
      refine (HW.out m).mono ?_
      rintro e w2 ⟨a1, c1, z1, rfl, r⟩
      have R1 := Lib.hid r
      clear r
      go_wp2_with fail
      refine (natOf_calls w2 R HRB.out).mono ?_
      rintro e w3 hr
      have R2 := Lib.hid (natRes_trans (below_then HB0.out R1.out.2.2.2.2) (hr.le (bd' := la + 1 + 2) (by omega)))
      have R3 := Lib.hid (R1.out.1.keep (NatRes.below hr))
      obtain ⟨a2, c2, z2, rfl, hr'⟩ := hr
      have HBW := Lib.hid hr'.2.2.2.2
      clear hr'
      go_wp2
      go_ret2
      exact natPair_mk (natRes_trans HB0.out ⟨a1, c1, z1, rfl, R3.out, R1.out.2.1, R1.out.2.2.1, by have := R1.out.2.2.2.1; omega, below_then R1.out.2.2.2.2 HBW.out⟩) R2.out
    · have h2 : 2 ≤ n := by omega
      obtain ⟨k1, hk1⟩ : ∃ k, n - 1 = k := ⟨_, rfl⟩
      have hk1i : (n : Int) - 1 = (k1 : Nat) := by omega
      have hk1n : k1 < n := by omega
      obtain ⟨p, o, rfl, hy⟩ := HB.out.wcell k1 hk1n
      have hv := HTOP.out
      rw [hk1] at hv
      have bv := wd_lt HB.out.hw k1
      have hge := top_ge (by omega) HB.out.hlen HTOP.out
      have HL := Lib.hid (fun m => Tryz.bits_LeadingZeros64 (wd ys k1 : Nat) (w.drewN m) (by omega) (by unfold B64 at bv; omega))
      obtain ⟨s, hs⟩ : ∃ s, 64 - blen (wd ys k1) = s := ⟨_, rfl⟩
      have hb1 := blen_le64 bv
      have hb0 : 0 < blen (wd ys k1) := by unfold blen; rw [if_neg (by omega)]; omega
      have hs64 : s < 64 := by omega
      have e : (64 - (Lib.bitLen ((wd ys k1 : Nat) : Int).toNat : Int)) = (s : Nat) := by rw [Int.toNat_natCast, bitLen_eq bv]; omega
      rw [e] at HL
      have HGE := Lib.hid hge
      have HLE := Lib.hid (show val ys ≤ val xs by omega)
      clear e hs hb1 hb0 hv bv hge hlt h1 hk1
      generalize wd ys k1 = v at hy HL
      have hc1 : ((n : Int) == 1) = false := by simp; omega
      go_enter Tryz.func116, Tryz.ntmps116
      go_wp2_with fail
      refine HC.out.mono ?_
      rintro e w' ⟨rfl, m, rfl⟩
      have HB0 := Lib.hid (below_drewN' (Below.refl w.heap.size w) m)
      go_wp2_with fail
      refine (HL.out m).mono ?_
      rintro e w' ⟨rfl, rfl⟩
      go_wp2_with fail
      refine (shift_calls _ a la ca xs s (HA.out.drewN m) (by omega) hs64).mono ?_
      rintro e w2 ⟨a1, c1, z1, rfl, r1, r2, r3, r4, r5⟩
      have R1 := Lib.hid (And.intro r1 (And.intro r2 (And.intro r3 (And.intro r4 r5))))
      have hbb := (HB.out.drewN m).below r5
      have HB1 := Lib.hid (below_then HB0.out r5)
      clear r1 r2 r3 r4 r5
      go_wp2_with fail
      refine (shift_calls w2 _ n cb ys s hbb (by omega) hs64).mono ?_
      rintro e w3 ⟨a2, c2, z2, rfl, r1, r2, r3, r4, r5⟩
      have R2 := Lib.hid (And.intro r1 (And.intro r2 (And.intro r3 (And.intro r4 r5))))
      have s1 := (R1.out.1.keep r5).sl
      have HB2 := Lib.hid (below_then HB1.out r5)
      have hl1 : n ≤ z2.length := len_ge r1.hw (by rw [r2]; exact Nat.le_trans HGE.out (Nat.le_mul_of_pos_right _ (Nat.two_pow_pos s))) (by omega)
      have hl2 : z2.length ≤ z1.length := len_le_of_val s1.hw R1.out.2.2.1 r3 (by rw [r2, R1.out.2.1]; exact Nat.mul_le_mul_right _ HLE.out)
      have ht2 := sz_get_last (xs := z2) (by omega)
      rw [r3] at ht2
      have HLG := Lib.hid (long_calls w3 a1 a2 _ c1 _ c2 z1 z2 s1 r1.sl R1.out.1.plain (by have := R1.out.2.2.2.1; omega) (by omega) hl2 (Nat.pos_of_ne_zero ht2))
      rw [R1.out.2.1, r2] at HLG
      have hz1l := R1.out.2.2.2.1
      clear r1 r2 r3 r4 r5 s1 ht2 hbb
      go_wp2_with fail
      refine HLG.out.mono ?_
      rintro e w4 ⟨a3, c3, z3, a4, c4, z4, rfl, q, t, hb4⟩
      have R3 := Lib.hid q
      have R4 := Lib.hid t
      have HB3 := Lib.hid (below_then HB2.out hb4)
      have hz4 := t.2.2.2
      clear q t
      go_wp2_with fail
      refine (shr_calls w4 a4 _ c4 z4 s (by omega) (by omega) R4.out.1.sl R4.out.1.plain (by have := R2.out.2.2.2.1; omega)).mono ?_
      rintro e w5 ⟨a5, c5, z5, rfl, r1, r2, r3, r4, r5⟩
      have R5 := Lib.hid (And.intro r1 (And.intro r2 (And.intro r3 (And.intro r4 r5))))
      clear r1 r2 r3 r4 r5
      go_wp2
      go_ret2
      refine natPair_mk (natRes_trans HB2.out ⟨a3, c3, z3, rfl, R3.out.1.keep R5.out.2.2.2.2, ?_, R3.out.2.2.1, by have := R3.out.2.2.2; omega, below_then hb4 R5.out.2.2.2.2⟩) (natRes_trans HB3.out ⟨a5, c5, z5, rfl, R5.out.1, ?_, R5.out.2.2.1, by have := R5.out.2.2.2.1; have := R2.out.2.2.2.1; omega, R5.out.2.2.2.2⟩)
      · rw [R3.out.2.1]
        exact (unnorm (N := val xs) (y := val ys) (s := s)).1
      · rw [R5.out.2.1]
        exact shr_unnorm R4.out.2.1 rfl
end Go.Proofs.YtpodpdopgdkdkaaGreatDoor
namespace Go.Proofs.YtpodpdopgdkdkaaGreatDoor
open Go.RowKit Go.Sort
theorem holds_zero0 (w : World) (T : TypeId) (nd : Nat) (hs : nd ≤ 24) : Holds (fun (b : UInt8) => Value.int .u8 (b.toNat : Int)) (w.alloc (.cells Lib.zeros24 T)) w.heap.size 0 (Array.replicate nd (0 : UInt8)) := fun j hj => by
  have hj' : j < nd := by simpa using hj
  refine ⟨?_, World.frozen?_alloc_new _ _ _ _⟩
  rw [World.cell?_alloc_new, Lib.zeros24_at _ (by omega), getElem!_pos _ j hj]
  simp
theorem fin_pos0 (w : World) (o : Obj) (dk : Array UInt8) (k : Nat) : Below w.heap.size w ((putRow (fun (b : UInt8) => Value.int .u8 (b.toNat : Int)) (w.alloc o) w.heap.size 0 dk).drewN k) := by
  obtain ⟨os', _, e⟩ := putRow_grow_new (fun (b : UInt8) => Value.int .u8 (b.toNat : Int)) w #[o] w.heap.size 0 dk (Nat.le_refl _)
  rw [alloc_eq_grow, e]
  have hb : Below w.heap.size w (grow w os') := ⟨rfl, rfl, rfl, by show w.heap.size ≤ (w.heap ++ os').size; rw [Array.size_append]; omega, fun _ hj => heap_grow_old w os' hj⟩
  exact below_drewN' hb k
set_option maxRecDepth 100000 in
set_option maxHeartbeats 6400000 in
theorem fmtU_calls (u : Nat) (hu64 : u < B64) (w : World) (htab : Lib.TabIs Tryz.prog w "internal/strconv.uint64pow10" .u64 Lib.pow10Tab) :
    Calls Tryz.prog 118 #[.int .u64 (u : Nat), .int .i64 10] w fun e w' => e = .returned (.string ⟨(Lib.decDigits u).toArray⟩) ∧ Below w.heap.size w w' := by
  by_cases hs : u < 100
  · have HS := Lib.hid (Tryz.internal_strconv_small u hs)
    clear htab hu64
    go_enter Tryz.func118, Tryz.ntmps118
    go_wp2_with fail
    refine (HS.out _).mono ?_
    rintro e w' ⟨rfl, rfl⟩
    go_wp2
    go_ret
    exact ⟨rfl, Below.refl _ _⟩
  · have hu1 : 1 ≤ u := by omega
    have hnd20 : Lib.nDigits u ≤ 20 := by have := Lib.numDigits_eq u hu1 hu64; split at this <;> omega
    have hal : (Tryz.prog).arrayLen 164 = 24 := by kernel_rfl
    have hsl : ∀ W, (Instr.sliceAt 164 (.pointer (some ⟨w.heap.size, 0, none⟩)) none (some (.int .i64 (Lib.nDigits u : Nat))) none).run Tryz.prog W = .ok (.slice (some ⟨w.heap.size, 0, none⟩) (Lib.nDigits u) 24) W := fun W => by
      rw [run_sliceAt_array_h W 164 ⟨w.heap.size, 0, none⟩ Tryz.underlying164 .i64 (Lib.nDigits u : Nat) (by omega) (by rw [hal]; omega)]
      go_simp
    have hH0 := holds_zero0 w 164 (Lib.nDigits u) (by omega)
    have hfmt := Tryz.internal_strconv_formatBase10 w.heap.size 0 24 u (Array.replicate (Lib.nDigits u) 0) (w.alloc (.cells Lib.zeros24 164)) hH0 (by rw [Array.size_replicate]; exact Lib.lt_pow_nDigits u) hu64 (by rw [Array.size_replicate]; omega)
    rw [Array.size_replicate] at hfmt
    have HH0 := Lib.hid hH0
    have HN := Lib.hid (Tryz.internal_strconv_numDigits u hu1 hu64 _ (Lib.tabIs_alloc htab (.cells Lib.zeros24 164)))
    have HF := Lib.hid hfmt
    have hlt : decide ((u : Int) < 100) = false := by simp; omega
    clear hH0 hfmt hal htab hu64 hs
    go_enter Tryz.func118, Tryz.ntmps118
    go_wp2_with fail
    refine HN.out.mono ?_
    rintro e w' ⟨rfl, rfl⟩
    go_wp2_with fail
    refine HF.out.mono ?_
    rintro e w' ⟨rfl, k, v', dk, rfl, hF⟩
    have hcv : (convert 100 9 (.slice (some ⟨w.heap.size, 0, none⟩) (Lib.nDigits u) 24)).run Tryz.prog ((putRow (fun (b : UInt8) => Value.int .u8 (b.toNat : Int)) (w.alloc (.cells Lib.zeros24 164)) w.heap.size 0 dk).drewN k) = .ok (.string ⟨(Lib.decDigits u).toArray⟩) ((putRow (fun (b : UInt8) => Value.int .u8 (b.toNat : Int)) (w.alloc (.cells Lib.zeros24 164)) w.heap.size 0 dk).drewN k) := by
      have h := run_convert_bytes_back (P := Tryz.prog) ((putRow (fun (b : UInt8) => Value.int .u8 (b.toNat : Int)) (w.alloc (.cells Lib.zeros24 164)) w.heap.size 0 dk).drewN k) 100 9 5 ⟨w.heap.size, 0, none⟩ 24 (Lib.decDigits u) Tryz.underlying100 Tryz.underlying5 Tryz.underlying9 (fun j hj => by
        rw [Lib.add_plain, Lib.row_is_numeral hF j hj, World.cell?_drewN]
        exact cell?_putRow (fun (b : UInt8) => Value.int .u8 (b.toNat : Int)) _ w.heap.size 0 _ dk HH0.out (by rw [hF.size, Array.size_replicate]) j (by rw [hF.size]; rw [Lib.decDigits_length] at hj; exact hj))
      rw [Lib.decDigits_length] at h
      exact h
    have HB := Lib.hid (fin_pos0 w (.cells Lib.zeros24 164) dk k)
    clear hF
    go_wp2
    go_ret
    exact ⟨rfl, HB.out⟩
set_option maxRecDepth 10000 in
theorem formatUint_calls (u : Nat) (hu64 : u < B64) (w : World) (htab : Lib.TabIs Tryz.prog w "internal/strconv.uint64pow10" .u64 Lib.pow10Tab) :
    Calls Tryz.prog 80 #[.int .u64 (u : Nat), .int .i64 10] w fun e w' => e = .returned (.string ⟨(Lib.decDigits u).toArray⟩) ∧ Below w.heap.size w w' := by
  have H := Lib.hid (fmtU_calls u hu64 w htab)
  clear htab hu64
  go_enter Tryz.func80, Tryz.ntmps80
  go_wp2_with fail
  refine H.out.mono ?_
  rintro e w' ⟨rfl, hb⟩
  have HB := Lib.hid hb
  clear hb
  go_wp2
  go_ret
  exact ⟨rfl, HB.out⟩
end Go.Proofs.YtpodpdopgdkdkaaGreatDoor
namespace Go.Proofs.YtpodpdopgdkdkaaGreatDoor
open Go.RowKit
/-- k digits of n, the first ahead. -/
def digK : Nat → Nat → List UInt8
  | 0, _ => []
  | k + 1, n => digK k (n / 10) ++ [UInt8.ofNat (48 + n % 10)]
theorem digK_length (k n : Nat) : (digK k n).length = k := by
  induction k generalizing n with
  | zero => rfl
  | succ k ih => rw [digK, List.length_append, ih]; rfl
theorem digK_zero (k : Nat) : digK k 0 = List.replicate k 48 := by
  induction k with
  | zero => rfl
  | succ k ih => rw [digK, Nat.zero_div, ih, List.replicate_succ']; rfl
theorem digK_add (a b x y : Nat) (hy : y < 10 ^ b) : digK (a + b) (x * 10 ^ b + y) = digK a x ++ digK b y := by
  induction b generalizing y with
  | zero =>
    have : y = 0 := by rw [Nat.pow_zero] at hy; omega
    subst this
    simp [digK]
  | succ b ih =>
    rw [← Nat.add_assoc, digK, digK, ← List.append_assoc, ← ih (y / 10) (by rw [Nat.pow_succ] at hy; omega)]
    have e : x * 10 ^ (b + 1) = x * 10 ^ b * 10 := by rw [Nat.pow_succ, Nat.mul_assoc]
    rw [e]
    generalize x * 10 ^ b = p
    rw [show (p * 10 + y) / 10 = p + y / 10 by omega, show (p * 10 + y) % 10 = y % 10 by omega]
theorem dec_add (m k l : Nat) (hm : 0 < m) (hl : l < 10 ^ k) : Lib.decDigits (m * 10 ^ k + l) = Lib.decDigits m ++ digK k l := by
  induction k generalizing l with
  | zero =>
    have : l = 0 := by rw [Nat.pow_zero] at hl; omega
    subst this
    simp [digK]
  | succ k ih =>
    have hp : 0 < 10 ^ k := Nat.pow_pos (by decide)
    have e : m * 10 ^ (k + 1) = m * 10 ^ k * 10 := by rw [Nat.pow_succ, Nat.mul_assoc]
    have h1 : 1 ≤ m * 10 ^ k := Nat.mul_pos hm hp
    have h2 := ih (l / 10) (by rw [Nat.pow_succ] at hl; omega)
    rw [digK, ← List.append_assoc, ← h2, e]
    generalize m * 10 ^ k = p at *
    rw [Lib.decDigits, dif_neg (by omega), show (p * 10 + l) / 10 = p + l / 10 by omega, show (p * 10 + l) % 10 = l % 10 by omega]
theorem digK_pad (k r : Nat) (h : Lib.nDigits r ≤ k) : digK k r = List.replicate (k - Lib.nDigits r) 48 ++ Lib.decDigits r := by
  induction r using Nat.strongRecOn generalizing k with
  | _ r ih =>
    have hp := Lib.nDigits_pos r
    obtain ⟨j, rfl⟩ : ∃ j, k = j + 1 := ⟨k - 1, by omega⟩
    by_cases h0 : r < 10
    · rw [digK, Nat.div_eq_of_lt h0, Nat.mod_eq_of_lt h0, digK_zero, Lib.nDigits_small h0, Lib.decDigits_one h0]
      rfl
    · rw [digK, Lib.nDigits_big h0] at *
      rw [ih (r / 10) (by omega) j (by omega), List.append_assoc]
      conv => rhs; rw [Lib.decDigits, dif_neg h0]
      rw [show j + 1 - (Lib.nDigits (r / 10) + 1) = j - Lib.nDigits (r / 10) by omega]
theorem repeatL_zero (c : Nat) : Lib.repeatL [48] c = List.replicate c 48 := by
  induction c with
  | zero => rfl
  | succ c ih => rw [Lib.repeatL, ih]; rfl
theorem nDigits_le {r k : Nat} (h : r < 10 ^ k) (hk : 0 < k) : Lib.nDigits r ≤ k := by
  induction k generalizing r with
  | zero => omega
  | succ k ih =>
    by_cases h0 : r < 10
    · rw [Lib.nDigits_small h0]; omega
    · rw [Lib.nDigits_big h0]
      rcases Nat.eq_zero_or_pos k with rfl | hk
      · simp at h; omega
      · have := ih (r := r / 10) (by rw [Nat.pow_succ] at h; omega) hk
        omega
theorem join_empty (xs : List (List UInt8)) : Lib.join xs [] = xs.flatten := by
  unfold Lib.join
  induction xs with
  | nil => rfl
  | cons x xs ih =>
    cases xs with
    | nil => simp [List.intercalate]
    | cons y ys => simp [List.intercalate] at ih ⊢; exact ih
/-- The chunk. -/
abbrev TEN19 : Nat := 10000000000000000000
/-- What the parts hold: n0's lowest digits, the value m above them. -/
def PartsOf (n0 m : Nat) (ps : List (List UInt8)) : Prop :=
  (0 < m → m = n0 / 10 ^ (19 * ps.length) ∧ ps.reverse.flatten = digK (19 * ps.length) (n0 % 10 ^ (19 * ps.length))) ∧
  (m = 0 → 0 < n0 → ps ≠ [] ∧ ps.reverse.flatten = Lib.decDigits n0)
theorem parts_start (n0 : Nat) : PartsOf n0 n0 [] := ⟨fun _ => by simp [digK], fun h h0 => by omega⟩
theorem ten19 : 10 ^ 19 = TEN19 := by decide
theorem parts_step {n0 m : Nat} {ps : List (List UInt8)} (h : PartsOf n0 m ps) (hm : 0 < m) {s : List UInt8}
    (hs : s = if 0 < m / TEN19 then List.replicate (19 - Lib.nDigits (m % TEN19)) 48 ++ Lib.decDigits (m % TEN19) else Lib.decDigits (m % TEN19)) : PartsOf n0 (m / TEN19) (ps ++ [s]) := by
  obtain ⟨e1, e2⟩ := h.1 hm
  have e6 : (ps ++ [s]).length = ps.length + 1 := by simp
  have e3 : 10 ^ (19 * (ps.length + 1)) = TEN19 * 10 ^ (19 * ps.length) := by
    rw [Nat.mul_add, Nat.mul_one, Nat.pow_add, ten19, Nat.mul_comm]
  have e4 : (ps ++ [s]).reverse.flatten = s ++ ps.reverse.flatten := by simp
  have hlow : n0 % 10 ^ (19 * ps.length) < 10 ^ (19 * ps.length) := Nat.mod_lt _ (Nat.pow_pos (by decide))
  have hdm := Nat.div_add_mod n0 (10 ^ (19 * ps.length))
  rw [← e1, Nat.mul_comm] at hdm
  unfold PartsOf
  rw [e6]
  refine ⟨fun h0 => ⟨?_, ?_⟩, fun h0 hn => ⟨by simp, ?_⟩⟩
  · rw [e3, e1, Nat.div_div_eq_div_mul, Nat.mul_comm]
  · rw [if_pos h0, ← digK_pad 19 _ (nDigits_le (by rw [ten19]; exact Nat.mod_lt _ (by decide)) (by decide))] at hs
    have e7 : n0 % 10 ^ (19 + 19 * ps.length) = m % TEN19 * 10 ^ (19 * ps.length) + n0 % 10 ^ (19 * ps.length) := by
      rw [Nat.pow_add, ten19, Nat.mul_comm TEN19, Nat.mod_mul, ← e1, Nat.add_comm, Nat.mul_comm (10 ^ (19 * ps.length))]
    rw [show 19 * (ps.length + 1) = 19 + 19 * ps.length by omega, e7, digK_add 19 _ _ _ hlow, e4, e2, hs]
  · have hr : m % TEN19 = m := Nat.mod_eq_of_lt (by have := (Nat.div_eq_zero_iff (a := m) (b := TEN19)).1 h0; unfold TEN19 at *; omega)
    rw [if_neg (by omega), hr] at hs
    rw [e4, e2, hs, ← dec_add m _ _ hm hlow, hdm]
end Go.Proofs.YtpodpdopgdkdkaaGreatDoor
