/- The contract of nat.Shl. -/
import Derived.Test.YthaplpenccpkpaaRefShift2
namespace Go.Proofs.Ythaplpenccpkpaa
open Go.RowKit
/-- copy(out[q:], xs), where it fits: its run, for the walk to take. -/
theorem run_copy_words {w w0 : World} (hB : Below w0.heap.size w0 w) {g q N : Nat} {zs : List Nat} (hg : WordsAt w g zs) (hB0 : w0.heap.size ≤ g) (hN : zs.length = N) {xa : Option Addr} {xl xc : Nat} {xs : List Nat} (hx : SlW w xa xl xc xs) (hfit : q + xl ≤ N) (dl dc ty : Nat) (hdl : xl ≤ dl) :
    ∃ W, (Builtin.copy_ #[69, 69] ty #[.slice (some ⟨g, q, none⟩) dl dc, .slice xa xl xc]).run Try.prog w = .ok (goInt xl) W ∧ Below w0.heap.size w0 W ∧ WordsAt W g (zs.take q ++ xs ++ zs.drop (q + xl)) := by
  obtain ⟨i0, hi, hz0, hz1, hz2⟩ := info_parts u64_info
  have hl := hx.hlen
  have hsz : (Try.prog.info? 59).map (·.size) = some 1 := by rw [hi]; simp [hz1]
  rcases Nat.eq_zero_or_pos xl with h0 | h0
  · refine ⟨w, ?_, hB, ?_⟩
    · rw [run_copy_none w 69 69 ty 59 _ _ dl dc xl xc Try.underlying69 hsz (by rw [h0]; exact Nat.zero_min _), h0]
      rfl
    · have hx0 : xs = [] := List.eq_nil_of_length_eq_zero (by omega)
      rw [hx0, h0, List.append_nil, Nat.add_zero, List.take_append_drop]
      exact hg
  · obtain ⟨b, off, rfl, _⟩ := hx.hcell 0 h0
    have hr := run_copy_row (P := Try.prog) w 69 69 ty 59 g q dl dc ⟨b, off, none⟩ xl xc (wcells zs) 59 (xs.map wv) Try.underlying69 hsz hg (by simp [hl, Nat.min_eq_left hdl]) (fun j v hv => by
      rw [List.getElem?_map] at hv
      cases hq : xs[j]? with
      | none => rw [hq] at hv; cases hv
      | some z =>
        rw [hq] at hv
        cases hv
        have hj := (List.getElem?_eq_some_iff.1 hq).1
        obtain ⟨b', off', e, hc⟩ := hx.hcell j (by omega)
        cases e
        rw [Addr.add_mid, hc]
        simp [wv, List.getD_eq_getElem?_getD, hq]) (by simp [wcells]; omega) (wv_one xs)
    rw [List.length_map, hl] at hr
    refine ⟨_, hr, below_setRow hB hB0 _, ?_⟩
    have h1 := setRow_heap w g _ ((wcells zs).toList.take q ++ xs.map wv ++ (wcells zs).toList.drop (q + xl)).toArray 59 _ hg
    unfold WordsAt
    rw [h1]
    simp [wcells, List.map_take, List.map_drop]
/-- What lies in the words behind the copy. -/
theorem placed {xs : List Nat} {q k : Nat} (hk : xs.length = k) (hw : W64 xs) :
    ∃ z0, (List.replicate (k + q + 1) 0).take q ++ xs ++ (List.replicate (k + q + 1) 0).drop (q + k) = z0 ∧ z0.length = k + q + 1 ∧ W64 z0 ∧ (∀ j, j < q → wd z0 j = 0) ∧ val (z0.drop q) = val xs ∧ wd z0 (k + q) = 0 ∧ val z0 = B64 ^ q * val xs := by
  have e1 : (List.replicate (k + q + 1) 0).take q = List.replicate q 0 := by rw [List.take_replicate, Nat.min_eq_left (by omega)]
  have e2 : (List.replicate (k + q + 1) 0).drop (q + k) = [0] := by rw [List.drop_replicate, show k + q + 1 - (q + k) = 1 by omega]; rfl
  have e3 : (List.replicate q 0 ++ xs ++ [0]).drop q = xs ++ [0] := by
    rw [List.append_assoc, List.drop_append_of_le_length (by simp), List.drop_of_length_le (by simp)]; rfl
  have ev : val (xs ++ [0]) = val xs := by rw [val_snoc, Nat.mul_zero, Nat.add_zero]
  refine ⟨_, rfl, ?_, ?_, ?_, ?_, ?_, ?_⟩
  · simp [hk]; omega
  · rw [e1, e2]; exact ((W64.zeros q).append hw).append (w64_one (by decide))
  · intro j hj
    rw [e1, e2]
    unfold wd
    rw [List.getD_eq_getElem?_getD, List.append_assoc, List.getElem?_append_left (by simpa using hj), List.getElem?_replicate, if_pos hj]
    rfl
  · rw [e1, e2, e3, ev]
  · rw [e1, e2]
    unfold wd
    rw [List.getD_eq_getElem?_getD, List.getElem?_append_right (by simp; omega)]
    simp [show k + q - (q + xs.length) = 0 by omega]
  · rw [e1, e2, List.append_assoc, val_append, val_zeros', ev, List.length_replicate, Nat.zero_add]
set_option maxRecDepth 10000 in
set_option maxHeartbeats 4000000 in
theorem shl_ok (w : World) (a : Option Addr) (la ca : Nat) (xs : List Nat) (m : Nat) (ha : SlW w a la ca xs) (hm : sz xs + (m + 63) / 64 ≤ 2000) :
    Calls Try.prog 94 #[.slice a la ca, .int .i64 (m : Nat)] w (NatRes2 w (val xs * 2 ^ m) 2001 (.int .i64 0)) := by
  have z1 := ha.sz_le
  have HA := Lib.hid ha
  have HS := Lib.hid (size_calls w a la ca xs ha)
  have HVX := Lib.hid (val_take_sz xs)
  have m1 := ha.hle
  have m2 := ha.hmax
  generalize sz xs = k at z1 HS HVX hm
  clear ha
  obtain ⟨r, hr⟩ : ∃ r, (m + 63) / 64 = r := ⟨_, rfl⟩
  obtain ⟨q, hq⟩ : ∃ q, m / 64 = q := ⟨_, rfl⟩
  obtain ⟨s, hs⟩ : ∃ s, m % 64 = s := ⟨_, rfl⟩
  have hs64 : s < 64 := by omega
  have HMQ := Lib.hid (show m = 64 * q + s by omega)
  have hq2 : q ≤ 2000 := by omega
  have hri : ((m : Int) + 63) / 64 = (r : Nat) := by omega
  have hqi : (m : Int) / 64 = (q : Nat) := by omega
  have hsi : (m : Int) % 64 = (s : Nat) := by omega
  have hm2 : m ≤ 128000 := by omega
  rw [hr] at hm
  obtain ⟨K, hK⟩ : ∃ K, k + r = K := ⟨_, rfl⟩
  have hK1 : (k : Int) + (r : Int) = (K : Nat) := by omega
  have hK2 : K ≤ 2000 := by omega
  obtain ⟨M, hM⟩ : ∃ M, k + q = M := ⟨_, rfl⟩
  have hM1 : (k : Int) + (q : Int) = (M : Nat) := by omega
  have HMM := Lib.hid hM
  have hM2 : M ≤ 2000 := by omega
  have hqM : q ≤ M := by omega
  obtain ⟨z0, p1, p2, p3, p4, p5, p6, p7⟩ := placed (q := q) (HA.out.take z1).hlen (HA.out.take z1).hw
  rw [hM] at p1 p2 p6
  rw [HVX.out] at p5 p7
  have HZ0 := Lib.hid (And.intro p1 (And.intro p2 (And.intro p3 (And.intro p4 (And.intro p5 (And.intro p6 p7))))))
  clear p1 p2 p3 p4 p5 p6 p7 hr hq hs hK hM hm
  go_enter Try.func94, Try.ntmps94
  go_wp2_with fail
  refine HS.out.mono ?_
  rintro e w' ⟨rfl, rfl⟩
  have hN1 : (M : Int) + 1 - (q : Int) = ((M + 1 - q : Nat) : Int) := by omega
  by_cases hs0 : 0 < s
  · have hs1 : decide (0 < (m : Int) % 64) = true := by rw [hsi]; simp; exact hs0
    go_wp2_with ((with_reducible refine gate_make 69 ?_); refine mk_words (Below.refl w'.heap.size w') (M + 1) (by omega) (fun W g hgB _ hBW _ hgw => ?_); have HGB := Lib.hid hgB; obtain ⟨W2, hrun, hB2, hz2⟩ := run_copy_words (q := q) (N := M + 1) hBW hgw hgB (by simp) ((HA.out.take z1).below hBW) (by have := HMM.out; omega) (M + 1 - q) (M + 1 - q) 3 (by have := HMM.out; omega); rw [HZ0.out.1] at hz2; have HB2 := Lib.hid hB2; have HZ2 := Lib.hid hz2; clear hBW hgw hgB hB2 hz2)
    have i1 : IntKind.i64.wrap (q : Int) = (q : Nat) := wrapI (by omega) (by omega)
    rw [hsi]
    go_loopw [8] (fun i wr => ∃ (t : Nat) (zs : List Nat), q ≤ t ∧ t ≤ M ∧ i = .int .i64 t ∧ WordsAt wr g zs ∧ zs.length = M + 1 ∧ W64 zs ∧ val (zs.drop (t + 1)) = val (z0.drop (t + 1)) * 2 ^ s + hiS s (wd z0 t) ∧ (∀ j, j ≤ t → wd zs j = wd z0 j) ∧ Below w'.heap.size w' wr) (fun i _ => (intOf i).toNat)
    case atStart =>
      refine ⟨M, z0, hqM, Nat.le_refl _, by first | rfl | go_num, HZ2.out, HZ0.out.2.1, HZ0.out.2.2.1, ?_, fun _ _ => rfl, HB2.out⟩
      rw [List.drop_of_length_le (by rw [HZ0.out.2.1]; exact Nat.le_refl _), HZ0.out.2.2.2.2.2.1]
      simp [val, hiS]
    case round =>
      obtain ⟨t, zs, hqt, htM, rfl, hz, hzl, hzw, hv, heq, hb⟩ := hrel
      have HZ := Lib.hid hz
      have HZL := Lib.hid hzl
      have HZW := Lib.hid hzw
      have HV := Lib.hid hv
      have HE := Lib.hid heq
      have HBR := Lib.hid hb
      clear hz hzl hzw hv heq hb HZ2 HB2
      by_cases hlt : q < t
      · obtain ⟨u, hu⟩ : ∃ u, t = u + 1 := ⟨t - 1, by omega⟩
        have hu1 : (t : Int) - 1 = (u : Nat) := by omega
        have hc1 := HZ.out.wcell t (by rw [HZL.out]; omega)
        have hc2 := HZ.out.wcell u (by rw [HZL.out]; omega)
        rw [HE.out t (Nat.le_refl _)] at hc1
        rw [HE.out u (by omega)] at hc2
        have hhi := hiS_lt (s := s) (x := wd z0 u) (by omega) (wd_lt HZ0.out.2.2.1 u)
        have e1 := bits_lohi (x := wd z0 t) (y := hiS s (wd z0 u)) (s := s) (by omega) hhi
        have e2 := hiS_cast s (wd z0 u)
        have i2 : IntKind.i64.wrap (u : Int) = (u : Nat) := wrapI (by omega) (by omega)
        have i3 : (u : Int) < (M : Int) + 1 := by omega
        have i4 : (t : Int) < (M : Int) + 1 := by omega
        have i5 : (64 : Int) - (s : Int) = ((64 - s : Nat) : Int) := by omega
        have i6 : IntKind.i64.wrap ((64 - s : Nat) : Int) = ((64 - s : Nat) : Int) := wrapI (by omega) (by omega)
        have i7 : min s 64 = s := by omega
        have i8 : min (64 - s) 64 = 64 - s := by omega
        have HS := Lib.hid (by rw [hu] at HV; exact shl_step (zs := zs) (z0 := z0) (t := u) (s := s) (by omega) HV.out (by rw [HZL.out]; omega) (by rw [HZ0.out.2.1]; omega))
        have HW := Lib.hid (HZW.out.set t _ (lo_add_lt (x := wd z0 t) (by omega) hhi))
        have HU := Lib.hid hu
        clear hhi hu
        go_wp2_with fail
        go_still_tail 17, (by kernel_rfl)
        change wpList _ _ _ _ _ wr.drew
        have HZ3 : Hid (WordsAt wr.drew g zs) := Lib.hid HZ.out
        have HBR2 := Lib.hid HBR.out.drew
        clear HBR HZ hc1 hc2
        generalize wr.drew = wv at HZ3 HBR2 ⊢
        go_wp2_with ((with_reducible refine gate_store 59 ?_); refine st_word HBR2.out HZ3.out HGB.out t (loS s (wd z0 t) + hiS s (wd z0 u)) (by rw [HZL.out]; omega) (fun W3 hB3 _ _ hz3 => ?_); have HB3 := Lib.hid hB3; have HZ4 := Lib.hid hz3; clear hB3 hz3)
        go_roundw
        case rel =>
          refine ⟨u, zs.set t (loS s (wd z0 t) + hiS s (wd z0 u)), by have := HU.out; omega, by have := HU.out; omega, by first | rfl | go_num, HZ4.out, by rw [List.length_set]; exact HZL.out, HW.out, ?_, fun j hj => ?_, HB3.out⟩
          · have := HS.out
            rw [← HU.out] at this
            rw [show u + 1 = t from HU.out.symm]
            exact this
          · have hut := HU.out
            rw [wd_set_ne _ (by omega)]
            exact HE.out j (by omega)
        case measure => have := HU.out; simp [intOf]; omega
      · have hte : q = t := by omega
        subst hte
        have hc1 := HZ.out.wcell q (by rw [HZL.out]; omega)
        rw [HE.out q (Nat.le_refl _)] at hc1
        have e1 : IntKind.u64.wrap ((wd z0 q : Int) * 2 ^ s) = ((loS s (wd z0 q) : Nat) : Int) := by rw [two_cast, wrapMul]; rfl
        have i7 : min s 64 = s := by omega
        have i4 : (q : Int) < (M : Int) + 1 := by omega
        have HN := Lib.hid (shl_end (by omega) HV.out (by rw [HZL.out]; omega) (by rw [HZ0.out.2.1]; omega) (fun j hj => by rw [HE.out j (by omega)]; exact HZ0.out.2.2.2.1 j hj))
        rw [HZ0.out.2.2.2.2.1] at HN
        have HW := Lib.hid (HZW.out.set q _ (loS_lt s (wd z0 q)))
        go_wp2_with ((with_reducible refine gate_store 59 ?_); refine st_word HBR.out HZ.out HGB.out q (loS s (wd z0 q)) (by rw [HZL.out]; omega) (fun W3 hB3 _ _ hz3 => ?_); have HB3 := Lib.hid hB3; have HZ4 := Lib.hid hz3; clear hB3 hz3)
        refine (size_calls _ _ (M + 1) (M + 1) _ (HZ4.out.slAll HW.out (by rw [List.length_set]; exact HZL.out) (by omega))).mono ?_
        rintro e w9 ⟨rfl, rfl⟩
        have hs2 : sz (zs.set q (loS s (wd z0 q))) ≤ M + 1 := by have := sz_le (zs.set q (loS s (wd z0 q))); rw [List.length_set, HZL.out] at this; exact this
        go_wp2
        go_ret2
        refine (natRes_mk HZ4.out HGB.out HW.out (by rw [List.length_set]; exact HZL.out) (by omega) ?_ (by omega) HB3.out).two
        rw [HN.out, HMQ.out, Nat.pow_add, B64_pow, Nat.mul_left_comm]
  · have hs1 : decide (0 < (m : Int) % 64) = false := by rw [hsi]; simp; omega
    go_wp2_with ((with_reducible refine gate_make 69 ?_); refine mk_words (Below.refl w'.heap.size w') (M + 1) (by omega) (fun W g hgB _ hBW _ hgw => ?_); have HGB := Lib.hid hgB; obtain ⟨W2, hrun, hB2, hz2⟩ := run_copy_words (q := q) (N := M + 1) hBW hgw hgB (by simp) ((HA.out.take z1).below hBW) (by have := HMM.out; omega) (M + 1 - q) (M + 1 - q) 3 (by have := HMM.out; omega); rw [HZ0.out.1] at hz2; have HB2 := Lib.hid hB2; have HZ2 := Lib.hid hz2; clear hBW hgw hgB hB2 hz2)
    go_wp2_with fail
    refine (size_calls _ _ (M + 1) (M + 1) _ (HZ2.out.slAll HZ0.out.2.2.1 HZ0.out.2.1 (by omega))).mono ?_
    rintro e w9 ⟨rfl, rfl⟩
    have hs2 : sz z0 ≤ M + 1 := by have := sz_le z0; rw [HZ0.out.2.1] at this; exact this
    go_wp2
    go_ret2
    refine (natRes_mk HZ2.out HGB.out HZ0.out.2.2.1 HZ0.out.2.1 (by omega) ?_ (by omega) HB2.out).two
    rw [HZ0.out.2.2.2.2.2.2, HMQ.out, Nat.pow_add, B64_pow, show s = 0 by omega, Nat.pow_zero, Nat.mul_one, Nat.mul_comm]
end Go.Proofs.Ythaplpenccpkpaa
