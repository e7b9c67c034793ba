/- binary.Unpack where there is no such format, or the pattern is too long. No conditions. · The contract of the reference's Shl. · The contract of nat.Shl. · The contracts of the reference's Shr and of nat.Shr. · The contract of nat.Shr. -/
import Derived.Test.YtpodpdopgdkdkaaGreatDoorMw15
import Derived.Test.YtpodpdopgdkdkaaGreatDoorMw08
import Derived.Deep.DeepCutAuto
set_option linter.unusedVariables false
set_option linter.unusedSimpArgs false
namespace Go.Proofs.YtpodpdopgdkdkaaGreatDoor
set_option linter.unusedVariables false
set_option linter.unusedSimpArgs false
open Go.RowKit
set_option maxRecDepth 100000 in
set_option maxHeartbeats 2000000 in
theorem unpack_bad (n c L m y bs wd p x : Int) (s : ByteArray) (d : Bool) (b0 b1 b2 b3 : Nat) (w : World)
    (hof : ∀ w, Calls Tryz.prog 60 #[.int .i64 n, bitsV b0 b1 b2 b3] w fun e w' => e = .returned (.tuple #[.agg (infV c s bs wd p x L m y d), .bool false]) ∧ Below w.heap.size w w') :
    Calls Tryz.prog 23 #[.int .i64 n, bitsV b0 b1 b2 b3] w fun e w' => e = .returned (.tuple #[.agg #[.int .i64 0, .bool false, .bool false, .int .i64 0, .int .u64 0, .int .u64 0, .int .u64 0, .int .u64 0], .int .i64 1]) ∧ Below w.heap.size w w' := by
  unfold bitsV infV at *
  have HO := Lib.hid hof
  clear hof
  go_enter Tryz.func23, Tryz.ntmps23
  go_wp2_with fail
  have HB0 := Lib.hid (below_alloc (below_alloc (Below.refl w.heap.size w) (.cells #[.int .u64 (b0 : Nat), .int .u64 (b1 : Nat), .int .u64 (b2 : Nat), .int .u64 (b3 : Nat)] 24)) (.cells #[.int .i64 0, .bool false, .bool false, .int .i64 0, .int .u64 0, .int .u64 0, .int .u64 0, .int .u64 0] 31))
  have HP0 : Hid ((w.alloc (.cells #[.int .u64 (b0 : Nat), .int .u64 (b1 : Nat), .int .u64 (b2 : Nat), .int .u64 (b3 : Nat)] 24)).heap[w.heap.size]? = _) := Lib.hid (heap_new w (.cells #[.int .u64 (b0 : Nat), .int .u64 (b1 : Nat), .int .u64 (b2 : Nat), .int .u64 (b3 : Nat)] 24))
  have HS0 : (w.alloc (.cells #[.int .u64 (b0 : Nat), .int .u64 (b1 : Nat), .int .u64 (b2 : Nat), .int .u64 (b3 : Nat)] 24)).heap.size = w.heap.size + 1 := by simp
  generalize (w.alloc (.cells #[.int .u64 (b0 : Nat), .int .u64 (b1 : Nat), .int .u64 (b2 : Nat), .int .u64 (b3 : Nat)] 24)) = v0 at HB0 HP0 HS0 ⊢
  have HR0 := heap_new v0 (.cells #[.int .i64 0, .bool false, .bool false, .int .i64 0, .int .u64 0, .int .u64 0, .int .u64 0, .int .u64 0] 31)
  have HP1 := Lib.hid ((heap_keep v0 (.cells #[.int .i64 0, .bool false, .bool false, .int .i64 0, .int .u64 0, .int .u64 0, .int .u64 0, .int .u64 0] 31) (lt_of_heap HP0.out)).trans HP0.out)
  rw [HS0] at HR0
  generalize (v0.alloc (.cells #[.int .i64 0, .bool false, .bool false, .int .i64 0, .int .u64 0, .int .u64 0, .int .u64 0, .int .u64 0] 31)) = v1 at HB0 HR0 HP1 ⊢
  refine (HO.out _).mono ?_
  rintro e w1 ⟨rfl, hb1⟩
  have HB1 := Lib.hid (below_then HB0.out hb1)
  have HP2 := Lib.hid (below_heap hb1 HP1.out)
  have HR2 := Lib.hid (below_heap hb1 HR0)
  clear hb1 HB0 HP1 HR0 HO HP0 HS0
  go_wp2_with (first | ((with_reducible refine gate_store 88 ?_); refine st_box 88 88 HB1.out Tryz.sizeInfo (fun W hBW hkW hXW => ?_) (hn := rfl) (h1 := by simp [Value.oneCell']); have HR3 := Lib.hid (below_heap hkW HR2.out); have HB3 := Lib.hid hBW) | ((with_reducible refine gate_store 31 ?_); go_must (refine st_row 31 (w.heap.size + 1) 31 HR3.out (n := 8) (by kernel_rfl) ?_ (hn := rfl) (h1 := by simp [Value.oneCell']))) | fail)
  exact bodyPost_ret (results_ct rfl _ _ (w.heap.size + 1) 31 _ _ _ rfl (setRow_heap _ _ _ _ _ _ HR3.out) Tryz.underlying31 rfl (by kernel_rfl)) rfl ⟨rfl, below_setRow HB3.out (by omega) _⟩
end Go.Proofs.YtpodpdopgdkdkaaGreatDoor
namespace Go.Proofs.YtpodpdopgdkdkaaGreatDoor
open Go.RowKit
def shlErr (k : Nat) (n : Int) : Int := if n < 0 then 1 else if 2000 < k + (n.toNat + 63) / 64 then 4 else 0
def shlVal (xs : List Nat) (n : Int) : Nat := if n < 0 then 0 else if 2000 < sz xs + (n.toNat + 63) / 64 then 0 else val xs * 2 ^ n.toNat
end Go.Proofs.YtpodpdopgdkdkaaGreatDoor
namespace Go.Proofs.YtpodpdopgdkdkaaGreatDoor
open Go.RowKit
/-- copy(out[q:], xs), where it fits: its run, for the walk to take. -/
theorem run_copy_words {w w0 : World} (hB : Below w0.heap.size w0 w) {g q N : Nat} {zs : List Nat} (hg : WordsAt w g zs) (hB0 : w0.heap.size ≤ g) (hN : zs.length = N) {xa : Option Addr} {xl xc : Nat} {xs : List Nat} (hx : SlW w xa xl xc xs) (hfit : q + xl ≤ N) (dl dc ty : Nat) (hdl : xl ≤ dl) :
    ∃ W, (Builtin.copy_ #[36, 36] ty #[.slice (some ⟨g, q, none⟩) dl dc, .slice xa xl xc]).run Tryz.prog w = .ok (goInt xl) W ∧ Below w0.heap.size w0 W ∧ WordsAt W g (zs.take q ++ xs ++ zs.drop (q + xl)) := by
  obtain ⟨i0, hi, hz0, hz1, hz2⟩ := info_parts u64_info
  have hl := hx.hlen
  have hsz : (Tryz.prog.info? 22).map (·.size) = some 1 := by rw [hi]; simp [hz1]
  rcases Nat.eq_zero_or_pos xl with h0 | h0
  · refine ⟨w, ?_, hB, ?_⟩
    · rw [run_copy_none w 36 36 ty 22 _ _ dl dc xl xc Tryz.underlying36 hsz (by rw [h0]; exact Nat.zero_min _), h0]
      rfl
    · have hx0 : xs = [] := List.eq_nil_of_length_eq_zero (by omega)
      rw [hx0, h0, List.append_nil, Nat.add_zero, List.take_append_drop]
      exact hg
  · obtain ⟨b, off, rfl, _⟩ := hx.hcell 0 h0
    have hr := run_copy_row (P := Tryz.prog) w 36 36 ty 22 g q dl dc ⟨b, off, none⟩ xl xc (wcells zs) 22 (xs.map wv) Tryz.underlying36 hsz hg (by simp [hl, Nat.min_eq_left hdl]) (fun j v hv => by
      rw [List.getElem?_map] at hv
      cases hq : xs[j]? with
      | none => rw [hq] at hv; cases hv
      | some z =>
        rw [hq] at hv
        cases hv
        have hj := (List.getElem?_eq_some_iff.1 hq).1
        obtain ⟨b', off', e, hc⟩ := hx.hcell j (by omega)
        cases e
        rw [Addr.add_mid, hc]
        simp [wv, List.getD_eq_getElem?_getD, hq]) (by simp [wcells]; omega) (wv_one xs)
    rw [List.length_map, hl] at hr
    refine ⟨_, hr, below_setRow hB hB0 _, ?_⟩
    have h1 := setRow_heap w g _ ((wcells zs).toList.take q ++ xs.map wv ++ (wcells zs).toList.drop (q + xl)).toArray 22 _ hg
    unfold WordsAt
    rw [h1]
    simp [wcells, List.map_take, List.map_drop]
/-- What lies in the words behind the copy. -/
theorem placed {xs : List Nat} {q k : Nat} (hk : xs.length = k) (hw : W64 xs) :
    ∃ z0, (List.replicate (k + q + 1) 0).take q ++ xs ++ (List.replicate (k + q + 1) 0).drop (q + k) = z0 ∧ z0.length = k + q + 1 ∧ W64 z0 ∧ (∀ j, j < q → wd z0 j = 0) ∧ val (z0.drop q) = val xs ∧ wd z0 (k + q) = 0 ∧ val z0 = B64 ^ q * val xs := by
  have e1 : (List.replicate (k + q + 1) 0).take q = List.replicate q 0 := by rw [List.take_replicate, Nat.min_eq_left (by omega)]
  have e2 : (List.replicate (k + q + 1) 0).drop (q + k) = [0] := by rw [List.drop_replicate, show k + q + 1 - (q + k) = 1 by omega]; rfl
  have e3 : (List.replicate q 0 ++ xs ++ [0]).drop q = xs ++ [0] := by
    rw [List.append_assoc, List.drop_append_of_le_length (by simp), List.drop_of_length_le (by simp)]; rfl
  have ev : val (xs ++ [0]) = val xs := by rw [val_snoc, Nat.mul_zero, Nat.add_zero]
  refine ⟨_, rfl, ?_, ?_, ?_, ?_, ?_, ?_⟩
  · simp [hk]; omega
  · rw [e1, e2]; exact ((W64.zeros q).append hw).append (w64_one (by decide))
  · intro j hj
    rw [e1, e2]
    unfold wd
    rw [List.getD_eq_getElem?_getD, List.append_assoc, List.getElem?_append_left (by simpa using hj), List.getElem?_replicate, if_pos hj]
    rfl
  · rw [e1, e2, e3, ev]
  · rw [e1, e2]
    unfold wd
    rw [List.getD_eq_getElem?_getD, List.getElem?_append_right (by simp; omega)]
    simp [show k + q - (q + xs.length) = 0 by omega]
  · rw [e1, e2, List.append_assoc, val_append, val_zeros', ev, List.length_replicate, Nat.zero_add]
set_option maxRecDepth 10000 in
set_option maxHeartbeats 4000000 in
theorem shl_ok (w : World) (a : Option Addr) (la ca : Nat) (xs : List Nat) (m : Nat) (ha : SlW w a la ca xs) (hm : sz xs + (m + 63) / 64 ≤ 2000) :
    Calls Tryz.prog 55 #[.slice a la ca, .int .i64 (m : Nat)] w (NatRes2 w (val xs * 2 ^ m) 2001 (.int .i64 0)) := by
  have z1 := ha.sz_le
  have HA := Lib.hid ha
  have HS := Lib.hid (size_calls w a la ca xs ha)
  have HVX := Lib.hid (val_take_sz xs)
  have m1 := ha.hle
  have m2 := ha.hmax
  generalize sz xs = k at z1 HS HVX hm
  clear ha
  obtain ⟨r, hr⟩ : ∃ r, (m + 63) / 64 = r := ⟨_, rfl⟩
  obtain ⟨q, hq⟩ : ∃ q, m / 64 = q := ⟨_, rfl⟩
  obtain ⟨s, hs⟩ : ∃ s, m % 64 = s := ⟨_, rfl⟩
  have hs64 : s < 64 := by omega
  have HMQ := Lib.hid (show m = 64 * q + s by omega)
  have hq2 : q ≤ 2000 := by omega
  have hri : ((m : Int) + 63) / 64 = (r : Nat) := by omega
  have hqi : (m : Int) / 64 = (q : Nat) := by omega
  have hsi : (m : Int) % 64 = (s : Nat) := by omega
  have hm2 : m ≤ 128000 := by omega
  rw [hr] at hm
  obtain ⟨K, hK⟩ : ∃ K, k + r = K := ⟨_, rfl⟩
  have hK1 : (k : Int) + (r : Int) = (K : Nat) := by omega
  have hK2 : K ≤ 2000 := by omega
  obtain ⟨M, hM⟩ : ∃ M, k + q = M := ⟨_, rfl⟩
  have hM1 : (k : Int) + (q : Int) = (M : Nat) := by omega
  have HMM := Lib.hid hM
  have hM2 : M ≤ 2000 := by omega
  have hqM : q ≤ M := by omega
  obtain ⟨z0, p1, p2, p3, p4, p5, p6, p7⟩ := placed (q := q) (HA.out.take z1).hlen (HA.out.take z1).hw
  rw [hM] at p1 p2 p6
  rw [HVX.out] at p5 p7
  have HZ0 := Lib.hid (And.intro p1 (And.intro p2 (And.intro p3 (And.intro p4 (And.intro p5 (And.intro p6 p7))))))
  clear p1 p2 p3 p4 p5 p6 p7 hr hq hs hK hM hm
  go_enter Tryz.func55, Tryz.ntmps55
  go_wp2_with fail
  refine HS.out.mono ?_
  rintro e w' ⟨rfl, rfl⟩
  have hN1 : (M : Int) + 1 - (q : Int) = ((M + 1 - q : Nat) : Int) := by omega
  by_cases hs0 : 0 < s
  · have hs1 : decide (0 < (m : Int) % 64) = true := by rw [hsi]; simp; exact hs0
    go_wp2_with ((with_reducible refine gate_make 36 ?_); refine mk_words (Below.refl w'.heap.size w') (M + 1) (by omega) (fun W g hgB _ hBW _ hgw => ?_); have HGB := Lib.hid hgB; obtain ⟨W2, hrun, hB2, hz2⟩ := run_copy_words (q := q) (N := M + 1) hBW hgw hgB (by simp) ((HA.out.take z1).below hBW) (by have := HMM.out; omega) (M + 1 - q) (M + 1 - q) 3 (by have := HMM.out; omega); rw [HZ0.out.1] at hz2; have HB2 := Lib.hid hB2; have HZ2 := Lib.hid hz2; clear hBW hgw hgB hB2 hz2)
    have i1 : IntKind.i64.wrap (q : Int) = (q : Nat) := wrapI (by omega) (by omega)
    rw [hsi]
    go_loopw [8] (fun i wr => ∃ (t : Nat) (zs : List Nat), q ≤ t ∧ t ≤ M ∧ i = .int .i64 t ∧ WordsAt wr g zs ∧ zs.length = M + 1 ∧ W64 zs ∧ val (zs.drop (t + 1)) = val (z0.drop (t + 1)) * 2 ^ s + hiS s (wd z0 t) ∧ (∀ j, j ≤ t → wd zs j = wd z0 j) ∧ Below w'.heap.size w' wr) (fun i _ => (intOf i).toNat)
    case atStart =>
      refine ⟨M, z0, hqM, Nat.le_refl _, by first | rfl | go_num, HZ2.out, HZ0.out.2.1, HZ0.out.2.2.1, ?_, fun _ _ => rfl, HB2.out⟩
      rw [List.drop_of_length_le (by rw [HZ0.out.2.1]; exact Nat.le_refl _), HZ0.out.2.2.2.2.2.1]
      simp [val, hiS]
    case round =>
      obtain ⟨t, zs, hqt, htM, rfl, hz, hzl, hzw, hv, heq, hb⟩ := hrel
      have HZ := Lib.hid hz
      have HZL := Lib.hid hzl
      have HZW := Lib.hid hzw
      have HV := Lib.hid hv
      have HE := Lib.hid heq
      have HBR := Lib.hid hb
      clear hz hzl hzw hv heq hb HZ2 HB2
      by_cases hlt : q < t
      · obtain ⟨u, hu⟩ : ∃ u, t = u + 1 := ⟨t - 1, by omega⟩
        have hu1 : (t : Int) - 1 = (u : Nat) := by omega
        have hc1 := HZ.out.wcell t (by rw [HZL.out]; omega)
        have hc2 := HZ.out.wcell u (by rw [HZL.out]; omega)
        rw [HE.out t (Nat.le_refl _)] at hc1
        rw [HE.out u (by omega)] at hc2
        have hhi := hiS_lt (s := s) (x := wd z0 u) (by omega) (wd_lt HZ0.out.2.2.1 u)
        have e1 := bits_lohi (x := wd z0 t) (y := hiS s (wd z0 u)) (s := s) (by omega) hhi
        have e2 := hiS_cast s (wd z0 u)
        have i2 : IntKind.i64.wrap (u : Int) = (u : Nat) := wrapI (by omega) (by omega)
        have i3 : (u : Int) < (M : Int) + 1 := by omega
        have i4 : (t : Int) < (M : Int) + 1 := by omega
        have i5 : (64 : Int) - (s : Int) = ((64 - s : Nat) : Int) := by omega
        have i6 : IntKind.i64.wrap ((64 - s : Nat) : Int) = ((64 - s : Nat) : Int) := wrapI (by omega) (by omega)
        have i7 : min s 64 = s := by omega
        have i8 : min (64 - s) 64 = 64 - s := by omega
        have HS := Lib.hid (by rw [hu] at HV; exact shl_step (zs := zs) (z0 := z0) (t := u) (s := s) (by omega) HV.out (by rw [HZL.out]; omega) (by rw [HZ0.out.2.1]; omega))
        have HW := Lib.hid (HZW.out.set t _ (lo_add_lt (x := wd z0 t) (by omega) hhi))
        have HU := Lib.hid hu
        clear hhi hu
        go_wp2_with fail
        go_still_tail 17, (by kernel_rfl)
        change wpList _ _ _ _ _ wr.drew
        have HZ3 : Hid (WordsAt wr.drew g zs) := Lib.hid HZ.out
        have HBR2 := Lib.hid HBR.out.drew
        clear HBR HZ hc1 hc2
        generalize wr.drew = wv at HZ3 HBR2 ⊢
        go_wp2_with ((with_reducible refine gate_store 22 ?_); refine st_word HBR2.out HZ3.out HGB.out t (loS s (wd z0 t) + hiS s (wd z0 u)) (by rw [HZL.out]; omega) (fun W3 hB3 _ _ hz3 => ?_); have HB3 := Lib.hid hB3; have HZ4 := Lib.hid hz3; clear hB3 hz3)
        go_roundw
        case rel =>
          refine ⟨u, zs.set t (loS s (wd z0 t) + hiS s (wd z0 u)), by have := HU.out; omega, by have := HU.out; omega, by first | rfl | go_num, HZ4.out, by rw [List.length_set]; exact HZL.out, HW.out, ?_, fun j hj => ?_, HB3.out⟩
          · have := HS.out
            rw [← HU.out] at this
            rw [show u + 1 = t from HU.out.symm]
            exact this
          · have hut := HU.out
            rw [wd_set_ne _ (by omega)]
            exact HE.out j (by omega)
        case measure => have := HU.out; simp [intOf]; omega
      · have hte : q = t := by omega
        subst hte
        have hc1 := HZ.out.wcell q (by rw [HZL.out]; omega)
        rw [HE.out q (Nat.le_refl _)] at hc1
        have e1 : IntKind.u64.wrap ((wd z0 q : Int) * 2 ^ s) = ((loS s (wd z0 q) : Nat) : Int) := by rw [two_cast, wrapMul]; rfl
        have i7 : min s 64 = s := by omega
        have i4 : (q : Int) < (M : Int) + 1 := by omega
        have HN := Lib.hid (shl_end (by omega) HV.out (by rw [HZL.out]; omega) (by rw [HZ0.out.2.1]; omega) (fun j hj => by rw [HE.out j (by omega)]; exact HZ0.out.2.2.2.1 j hj))
        rw [HZ0.out.2.2.2.2.1] at HN
        have HW := Lib.hid (HZW.out.set q _ (loS_lt s (wd z0 q)))
        go_wp2_with ((with_reducible refine gate_store 22 ?_); refine st_word HBR.out HZ.out HGB.out q (loS s (wd z0 q)) (by rw [HZL.out]; omega) (fun W3 hB3 _ _ hz3 => ?_); have HB3 := Lib.hid hB3; have HZ4 := Lib.hid hz3; clear hB3 hz3)
        refine (size_calls _ _ (M + 1) (M + 1) _ (HZ4.out.slAll HW.out (by rw [List.length_set]; exact HZL.out) (by omega))).mono ?_
        rintro e w9 ⟨rfl, rfl⟩
        have hs2 : sz (zs.set q (loS s (wd z0 q))) ≤ M + 1 := by have := sz_le (zs.set q (loS s (wd z0 q))); rw [List.length_set, HZL.out] at this; exact this
        go_wp2
        go_ret2
        refine (natRes_mk HZ4.out HGB.out HW.out (by rw [List.length_set]; exact HZL.out) (by omega) ?_ (by omega) HB3.out).two
        rw [HN.out, HMQ.out, Nat.pow_add, B64_pow, Nat.mul_left_comm]
  · have hs1 : decide (0 < (m : Int) % 64) = false := by rw [hsi]; simp; omega
    go_wp2_with ((with_reducible refine gate_make 36 ?_); refine mk_words (Below.refl w'.heap.size w') (M + 1) (by omega) (fun W g hgB _ hBW _ hgw => ?_); have HGB := Lib.hid hgB; obtain ⟨W2, hrun, hB2, hz2⟩ := run_copy_words (q := q) (N := M + 1) hBW hgw hgB (by simp) ((HA.out.take z1).below hBW) (by have := HMM.out; omega) (M + 1 - q) (M + 1 - q) 3 (by have := HMM.out; omega); rw [HZ0.out.1] at hz2; have HB2 := Lib.hid hB2; have HZ2 := Lib.hid hz2; clear hBW hgw hgB hB2 hz2)
    go_wp2_with fail
    refine (size_calls _ _ (M + 1) (M + 1) _ (HZ2.out.slAll HZ0.out.2.2.1 HZ0.out.2.1 (by omega))).mono ?_
    rintro e w9 ⟨rfl, rfl⟩
    have hs2 : sz z0 ≤ M + 1 := by have := sz_le z0; rw [HZ0.out.2.1] at this; exact this
    go_wp2
    go_ret2
    refine (natRes_mk HZ2.out HGB.out HZ0.out.2.2.1 HZ0.out.2.1 (by omega) ?_ (by omega) HB2.out).two
    rw [HZ0.out.2.2.2.2.2.2, HMQ.out, Nat.pow_add, B64_pow, show s = 0 by omega, Nat.pow_zero, Nat.mul_one, Nat.mul_comm]
end Go.Proofs.YtpodpdopgdkdkaaGreatDoor
namespace Go.Proofs.YtpodpdopgdkdkaaGreatDoor
open Go.RowKit
/-- What a shift to the right gives, and whether something goes out. -/
def shrVal (xs : List Nat) (n : Int) : Nat := if n < 1 then val xs else val xs / 2 ^ n.toNat
def shrGone (xs : List Nat) (n : Int) : Bool := if n < 1 then false else goneB (val xs % 2 ^ n.toNat)
theorem natRes2_out {w w1 : World} {n bd : Nat} {e : Ending} {v : Value} (h : NatRes w n bd e w1) : ∃ s, e = .returned s ∧ NatRes2 w n bd v (.returned (.tuple #[s, v])) w1 := by
  have h' := h
  obtain ⟨a', c', rs, rfl, _⟩ := h'
  exact ⟨_, rfl, h.two⟩
theorem gone_all {xs : List Nat} {k : Nat} (hk : sz xs = k) : goneB (val xs) = decide (0 < k) := by
  unfold goneB
  by_cases h : k = 0
  · have := sz_zero.1 (hk.trans h)
    simp [this, h]
  · have : val xs ≠ 0 := fun e => h (hk ▸ sz_zero.2 e)
    simp [this, Nat.pos_of_ne_zero h]
theorem shrW_last {s x : Nat} : srS s x = shrW s x 0 := by
  unfold shrW loS srS
  rw [Nat.zero_mul]
  rfl
theorem SlW.drop {w : World} {b off len cap : Nat} {xs : List Nat} (h : SlW w (some ⟨b, off, none⟩) len cap xs) {q : Nat} (hq : q ≤ len) : SlW w (some ⟨b, off + q, none⟩) (len - q) (cap - q) (xs.drop q) := by
  have h1 := h.hle
  have h2 := h.hmax
  refine ⟨by rw [List.length_drop, h.hlen], by omega, by omega, h.hw.drop q, (fun e => by cases e), fun i hi => ⟨b, off + q, rfl, ?_⟩⟩
  obtain ⟨b', off', e, hc⟩ := h.hcell (q + i) (by omega)
  cases e
  rw [Nat.add_assoc, hc]
  simp [List.getD_eq_getElem?_getD, List.getElem?_drop]
/-- The two parts of what goes out, as nat.Shr asks for them. -/
theorem gone_parts {xs : List Nat} (hx : W64 xs) {q s n z x : Nat} (hs : s ≤ 64) (hn : n = 64 * q + s) (hz : sz (xs.take q) = z) (hxe : wd xs q % 2 ^ s = x) (hq : q ≤ xs.length) : goneB (val xs % 2 ^ n) = (decide (x ≠ 0) || decide (0 < z)) := by
  rw [hn, (shr_split hx hs).1, hxe, ← valTo_take q hq]
  by_cases h : x = 0
  · rw [h, Nat.mul_zero, Nat.add_zero, gone_all hz]
    simp
  · rw [gone_more h (Nat.pow_pos (by decide))]
    simp [h]
end Go.Proofs.YtpodpdopgdkdkaaGreatDoor
namespace Go.Proofs.YtpodpdopgdkdkaaGreatDoor
open Go.RowKit
set_option maxRecDepth 10000 in
set_option maxHeartbeats 4000000 in
theorem shr_calls (w : World) (a : Option Addr) (la ca : Nat) (xs : List Nat) (n : Int) (h0 : -9223372036854775808 ≤ n) (h1 : n ≤ 9223372036854775807) (ha : SlW w a la ca xs) (pa : Plain a) (sa : la ≤ 4398046511104) :
    Calls Tryz.prog 52 #[.slice a la ca, .int .i64 n] w (NatRes2 w (shrVal xs n) la (.bool (shrGone xs n))) := by
  unfold shrVal shrGone
  have z1 := ha.sz_le
  have m1 := ha.hle
  have m2 := ha.hmax
  have HS := Lib.hid (size_calls w a la ca xs ha)
  have HVX := Lib.hid (val_take_sz xs)
  have HK := Lib.hid (sz_take_sz xs)
  generalize sz xs = k at z1 HS HVX HK
  have HA := Lib.hid (ha.take z1)
  clear ha
  generalize xs.take k = ys at HVX HK HA
  rw [← HVX.out]
  clear HVX
  by_cases hneg : n < 1
  · rw [if_pos hneg, if_pos hneg]
    go_enter Tryz.func52, Tryz.ntmps52
    go_wp2_with fail
    refine HS.out.mono ?_
    rintro e w' ⟨rfl, rfl⟩
    go_wp2_with fail
    refine (trim_res HA.out pa (by omega)).mono ?_
    rintro e w1 hr
    have hr2 := hr.le (bd' := la) (by omega)
    obtain ⟨a', c', rs, rfl, r⟩ := hr2
    have R := Lib.hid r
    clear r hr
    go_wp2
    go_ret2
    exact ⟨a', c', rs, rfl, R.out⟩
  · rw [if_neg hneg, if_neg hneg]
    obtain ⟨m, rfl⟩ : ∃ m : Nat, n = m := ⟨n.toNat, by omega⟩
    rw [Int.toNat_natCast]
    obtain ⟨q, hq⟩ : ∃ q, m / 64 = q := ⟨_, rfl⟩
    obtain ⟨s, hs⟩ : ∃ s, m % 64 = s := ⟨_, rfl⟩
    have hqi : (m : Int) / 64 = (q : Nat) := by omega
    have hsi : (m : Int) % 64 = (s : Nat) := by omega
    have hs64 : s < 64 := by omega
    have HMQ := Lib.hid (show m = 64 * q + s by omega)
    clear hq hs
    by_cases hbig : k ≤ q
    · have hz := shr_zero (n := m) (q := q) HA.out.hw (by have := HA.out.sz_le; omega) (by have := HMQ.out; omega)
      rw [hz.1, hz.2, gone_all HK.out]
      clear hz
      go_enter Tryz.func52, Tryz.ntmps52
      go_wp2_with fail
      refine HS.out.mono ?_
      rintro e w' ⟨rfl, rfl⟩
      go_wp2
      go_ret2
      refine ⟨none, 0, [], ?_, ownW_nil _ _, rfl, rfl, Nat.zero_le _, Below.refl _ _⟩
      simp
    · have hqk : q < k := by omega
      obtain ⟨b, off, rfl, hc⟩ := HA.out.wcell q hqk
      obtain ⟨z, hz⟩ : ∃ z, sz (ys.take q) = z := ⟨_, rfl⟩
      have HZ : SzOf w (some ⟨b, off, none⟩) q ca z := ⟨_, HA.out.take (by omega), hz⟩
      obtain ⟨x, hx⟩ : ∃ x, wd ys q % 2 ^ s = x := ⟨_, rfl⟩
      obtain ⟨gb, hgb⟩ : ∃ g, goneB (val ys % 2 ^ m) = g := ⟨_, rfl⟩
      rw [hgb]
      have hg := gone_parts HA.out.hw (s := s) (by omega) HMQ.out hz hx (by rw [HA.out.hlen]; omega)
      rw [hgb] at hg
      have HG := Lib.hid hg
      have HCL := Lib.hid (fun m : Nat => clone_calls (w.drewN m) _ _ _ _ ((HA.out.drop (q := q) (by omega)).drewN m) (.inr ⟨_, _, rfl⟩) (by omega))
      have k3 := mask_and hs64 (wd_lt HA.out.hw q)
      rw [hx] at k3
      clear hz hx hg hgb
      go_enter Tryz.func52, Tryz.ntmps52
      go_wp2_with fail
      refine HS.out.mono ?_
      rintro e w' ⟨rfl, rfl⟩
      go_upto_region 8 with fail
      go_cut [8] (fun g8 wx => g8 = .bool gb ∧ ∃ nq, wx = w'.drewN nq)
      case first =>
        by_cases hx0 : x = 0
        · subst hx0
          by_cases hz0 : 0 < z
          · have HG2 := Lib.hid (show gb = true by rw [HG.out]; simp [hz0])
            go_quiet ((go_at_call 96; exact Calls.quiet_of_same (size_of (by assumption) _)))
            go_wp2
            go_meet
            exact ⟨by rw [HG2.out], _, rfl⟩
          · have HG2 := Lib.hid (show gb = false by rw [HG.out]; simp [hz0])
            go_quiet ((go_at_call 96; exact Calls.quiet_of_same (size_of (by assumption) _)))
            go_wp2
            go_meet
            exact ⟨by rw [HG2.out], _, rfl⟩
        · have hX0 : (((x : Nat) : Int) == 0) = false := by simp; exact hx0
          have hX1 : (((x : Nat) : Int) != 0) = true := by simp; exact hx0
          have HG2 := Lib.hid (show gb = true by rw [HG.out]; simp [hx0])
          clear hx0
          go_quiet ((go_at_call 96; exact Calls.quiet_of_same (size_of (by assumption) _)))
          go_wp2
          go_meet
          exact ⟨by rw [HG2.out], _, rfl⟩
      case rest =>
        obtain ⟨rfl, nq, rfl⟩ := hcut
        go_wp2_with fail
        rw [hsi]
        refine (HCL.out nq).mono ?_
        rintro e W ⟨a1, c1, rfl, t1, t2⟩
        have HBW := Lib.hid (below_then (below_drewN' (Below.refl _ _) nq) t2)
        have e1 := t1.hlen
        have w1 := t1.hw
        have mc := t1.sl.hle
        have md := t1.sl.hmax
        have HXW := Lib.hid HA.out.hw
        have HXL := Lib.hid HA.out.hlen
        have HQS := Lib.hid (shr_split (s := s) (q := q) HA.out.hw (by omega))
        rw [← HMQ.out] at HQS
        rcases t1.words with ⟨-, h9, -⟩ | ⟨g, rfl, hg1, hg2⟩
        · exfalso
          omega
        have HGB := Lib.hid hg1
        have HGG := Lib.hid hg2
        clear t1 t2 hg1 hg2
        by_cases hs0 : 0 < s
        · obtain ⟨L, hL⟩ : ∃ L, k - q = L := ⟨_, rfl⟩
          have hLi : (k : Int) - (q : Int) = (L : Nat) := by omega
          have HLL := Lib.hid (show k = q + L by omega)
          rw [hL] at mc e1 ⊢
          have i7 : (64 : Int) - (s : Int) = ((64 - s : Nat) : Int) := by omega
          have i8 : IntKind.i64.wrap ((64 - s : Nat) : Int) = ((64 - s : Nat) : Int) := wrapI (by omega) (by omega)
          have i9 : min (64 - s) 64 = 64 - s := by omega
          have i6 : min s 64 = s := by omega
          have HE1 := Lib.hid e1
          clear hL e1
          go_wp2_with fail
          go_loopw [54] (fun i wr => ∃ (t : Nat) (zs : List Nat), t ≤ L ∧ i = .int .i64 t ∧ WordsC wr g c1 zs ∧ zs.length = L ∧ W64 zs ∧ val (zs.take t) * 2 ^ s + wd ys q % 2 ^ s = valTo (ys.drop q) t + B64 ^ t * (wd ys (q + t) % 2 ^ s) ∧ (∀ j, t ≤ j → wd zs j = wd ys (q + j)) ∧ Below w'.heap.size w' wr) (fun i _ => L - (intOf i).toNat)
          case atStart => exact ⟨0, ys.drop q, by omega, rfl, HGG.out, HE1.out, w1, by simp [val, valTo], fun j _ => wd_drop ys q j, HBW.out⟩
          case round =>
            obtain ⟨t, zs, ht, rfl, hz, hzl, hzw, hv, he, hb⟩ := hrel
            have HZ := Lib.hid hz
            have HZL := Lib.hid hzl
            have HZW := Lib.hid hzw
            have HV := Lib.hid hv
            have HE := Lib.hid he
            have HBR := Lib.hid hb
            clear hz hzl hzw hv he hb
            by_cases hlt : t < L
            · obtain ⟨u, hu⟩ : ∃ u, q + t = u := ⟨_, rfl⟩
              obtain ⟨v, hv⟩ : ∃ v, u + 1 = v := ⟨_, rfl⟩
              have hu1 : (q : Int) + (t : Int) = (u : Nat) := by omega
              have hv1 : (u : Int) + 1 = (v : Nat) := by omega
              have hc1 := HZ.out.cell t (by rw [HZL.out]; exact hlt)
              rw [HE.out t (Nat.le_refl _), hu] at hc1
              have k4 := shr_cast s (wd ys u)
              have HS := Lib.hid (shr_step (s := s) (by omega) HV.out (by rw [List.length_take, HZL.out]; omega))
              rw [hu, hv] at HS
              have HSL := Lib.hid (shrW_lt (s := s) (y := wd ys v) (by omega) (wd_lt HXW.out u))
              have hS1 : srS s (wd ys u) < B64 := Nat.lt_of_le_of_lt (Nat.div_le_self _ _) (wd_lt HXW.out u)
              have HW1 := Lib.hid (HZW.out.set t _ hS1)
              have HU := Lib.hid (And.intro hu hv)
              have huk : u < k := by have := HLL.out; omega
              have i1 : IntKind.i64.wrap (u : Int) = (u : Nat) := wrapI (by omega) (by omega)
              have i2 : IntKind.i64.wrap (v : Int) = (v : Nat) := wrapI (by omega) (by omega)
              clear hS1
              have HREL : ∀ X, X = shrW s (wd ys u) (wd ys v) → Hid (val ((zs.set t X).take (t + 1)) * 2 ^ s + wd ys q % 2 ^ s = valTo (ys.drop q) (t + 1) + B64 ^ (t + 1) * (wd ys (q + (t + 1)) % 2 ^ s)) := fun X hX => by
                rw [take_set_succ (by rw [HZL.out]; exact hlt), hX, show q + (t + 1) = v by have := HU.out; omega]
                exact HS.out
              have HRE : ∀ X, ∀ j, t + 1 ≤ j → wd (zs.set t X) j = wd ys (q + j) := fun X j hj => by rw [wd_set_ne _ (by omega)]; exact HE.out j (by omega)
              have HRL := Lib.hid HREL
              have HRR := Lib.hid HRE
              clear HREL HRE hu hv
              by_cases hl2 : t + 1 < L
              · have hl3 : (t : Int) + 1 < (L : Nat) := by omega
                go_wp2_with ((with_reducible refine gate_store 22 ?_); refine st_wordC HBR.out HZ.out HGB.out t (srS s (wd ys u)) (by rw [HZL.out]; exact hlt) (fun W2 hB2 _ _ hz2 => ?_); have HB2 := Lib.hid hB2; have HZ2 := Lib.hid hz2; clear hB2 hz2)
                obtain ⟨b2, o2, e2, hx⟩ := HA.out.wcell v (by have := HU.out; have := HLL.out; omega)
                cases e2
                have hxr : W2.cell? ⟨b, off + v, none⟩ = some (.int .u64 ((wd ys v : Nat) : Int)) := by rw [HB2.out.cell (World.block_lt_of_cell? w' _ hx)]; exact hx
                have hz2 := HZ2.out.cell t (by rw [List.length_set, HZL.out]; exact hlt)
                have e3 : wd (zs.set t (srS s (wd ys u))) t = srS s (wd ys u) := by unfold wd; simp [List.getD_eq_getElem?_getD, HZL.out, hlt]
                rw [e3] at hz2
                have k5 := bits_shr (s := s) (y := wd ys v) (by omega) (wd_lt HXW.out u)
                have hvk : v < k := by have := HU.out; have := HLL.out; omega
                clear e3 hx
                go_still_tail 15, (by kernel_rfl)
                change wpList _ _ _ _ _ W2.drew
                have HZ3 : Hid (WordsC W2.drew g c1 _) := Lib.hid (HZ2.out.drewN 1)
                have HBR2 := Lib.hid HB2.out.drew
                clear HBR HZ hz2 hxr
                generalize W2.drew = wv at HZ3 HBR2 ⊢
                go_wp2_with ((with_reducible refine gate_store 22 ?_); refine st_wordC HBR2.out HZ3.out HGB.out t (shrW s (wd ys u) (wd ys v)) (by rw [List.length_set, HZL.out]; exact hlt) (fun W3 hB3 _ _ hz3 => ?_); have HB3 := Lib.hid hB3; have HZ4 := Lib.hid hz3; clear hB3 hz3)
                rw [List.set_set] at HZ4
                go_roundw
                case rel => exact ⟨t + 1, zs.set t (shrW s (wd ys u) (wd ys v)), by omega, by go_num, HZ4.out, by rw [List.length_set]; exact HZL.out, HZW.out.set t _ HSL.out, (HRL.out _ rfl).out, HRR.out _, HB3.out⟩
                case measure => simp [intOf]; omega
              · have hl3 : (L : Int) ≤ (t : Int) + 1 := by omega
                have HX0 : Hid (srS s (wd ys u) = shrW s (wd ys u) (wd ys v)) := Lib.hid (by rw [wd_beyond (xs := ys) (i := v) (by rw [HXL.out]; have := HU.out; have := HLL.out; omega)]; exact shrW_last)
                go_wp2_with ((with_reducible refine gate_store 22 ?_); refine st_wordC HBR.out HZ.out HGB.out t (srS s (wd ys u)) (by rw [HZL.out]; exact hlt) (fun W2 hB2 _ _ hz2 => ?_); have HB2 := Lib.hid hB2; have HZ2 := Lib.hid hz2; clear hB2 hz2)
                go_roundw
                case rel => exact ⟨t + 1, zs.set t (srS s (wd ys u)), by omega, by go_num, HZ2.out, by rw [List.length_set]; exact HZL.out, HW1.out, (HRL.out _ HX0.out).out, HRR.out _, HB2.out⟩
                case measure => simp [intOf]; omega
            · have hte : L = t := by omega
              subst hte
              have HN : Hid (val zs = val ys / 2 ^ m) := Lib.hid (by
                rw [HMQ.out]
                have h9 := HV.out
                rw [List.take_of_length_le (by rw [HZL.out]; exact Nat.le_refl _)] at h9
                exact shr_end HXW.out (by omega) h9 (by rw [HXL.out, HLL.out]; exact Nat.le_refl _))
              go_wp2_with fail
              refine (size_calls wr _ L c1 zs (HZ.out.slAll HZW.out HZL.out)).mono ?_
              rintro e w9 ⟨rfl, rfl⟩
              have hsz := sz_le zs
              have hs2 : sz zs ≤ L := by rw [← HZL.out]; exact hsz
              clear hsz
              go_wp2
              go_ret2
              exact (natRes_mkC (w := w') HZ.out HGB.out HZW.out HN.out (by rw [HZL.out]; have := HLL.out; omega) HBR.out).two
        · have hs1 : s = 0 := by omega
          have HN : Hid (val (ys.drop q) = val ys / 2 ^ m) := Lib.hid (by rw [HQS.out.2, hs1]; simp)
          clear hs1
          go_wp2_with fail
          refine (size_calls W _ (k - q) c1 (ys.drop q) (HGG.out.slAll w1 e1)).mono ?_
          rintro e w9 ⟨rfl, rfl⟩
          have hsz := sz_le (ys.drop q)
          have hs2 : sz (ys.drop q) ≤ k - q := by rw [← e1]; exact hsz
          have HE1 := Lib.hid e1
          clear hsz e1
          go_wp2
          go_ret2
          exact (natRes_mkC (w := w') HGG.out HGB.out w1 HN.out (by rw [HE1.out]; omega) HBW.out).two
end Go.Proofs.YtpodpdopgdkdkaaGreatDoor
