/- The reference's Less of whatever numbers; a text's number as a fraction. No conditions. · FixedNear: the walk over the law. -/
import Derived.Test.YtpodpdopgdkdkaaGreatDoorMw35
import Derived.Test.YtpodpdopgdkdkaaGreatDoorMw38
import Derived.Test.YtpodpdopgdkdkaaGreatDoorMw37
set_option linter.unusedVariables false
set_option linter.unusedSimpArgs false
namespace Go.Proofs.YtpodpdopgdkdkaaGreatDoor
set_option linter.unusedVariables false
set_option linter.unusedSimpArgs false
open Go.RowKit
set_option maxRecDepth 10000 in
set_option maxHeartbeats 1000000 in
theorem refLess_any (w : World) (a b : Option Addr) (la ca lb cb : Nat) (xs ys : List Nat) (ha : SlW w a la ca xs) (hb : SlW w b lb cb ys) (sa : la ≤ 8796093022208) (sb : lb ≤ 8796093022208) :
    Calls Tryz.prog 17 #[.slice a la ca, .slice b lb cb] w fun e w' => ∃ n, NatRes w n (max la lb) e w' := by
  have m1 := ha.hle
  have m2 := ha.hmax
  have m3 := hb.hle
  have m4 := hb.hmax
  have HX := Lib.hid ha.hw
  have HY := Lib.hid hb.hw
  have HLA := Lib.hid ha.hlen
  have HLB := Lib.hid hb.hlen
  obtain ⟨M, hM⟩ : ∃ M, max la lb = M := ⟨_, rfl⟩
  have HMM : Hid (la ≤ M ∧ lb ≤ M) := ⟨by omega, by omega⟩
  have hM1 : max (la : Int) (lb : Int) = (M : Int) := by omega
  have hM2 : M ≤ 8796093022208 := by omega
  rw [hM]
  clear hM
  go_enter Tryz.func17, Tryz.ntmps17
  go_wp2_with ((with_reducible refine gate_make 36 ?_); refine mk_words (Below.refl w.heap.size w) (M) (by omega) (fun W g hgB _ hBW _ hgw => ?_); have HBW := Lib.hid hBW; have HGW := Lib.hid hgw; have HGB := Lib.hid hgB; clear hBW hgw hgB)
  go_loopw [16, 6] (fun i cr wr => ∃ (t c : Nat) (zs : List Nat), t ≤ M ∧ i = .int .i64 t ∧ cr = .int .u64 (c : Nat) ∧ c ≤ 1 ∧ WordsAt wr g zs ∧ zs.length = M ∧ W64 zs ∧ valTo zs t + valTo ys t = valTo xs t + B64 ^ t * c ∧ Below w.heap.size w wr) (fun i _ _ => M - (intOf i).toNat)
  case atStart => exact ⟨0, 0, List.replicate (M) 0, by omega, rfl, rfl, by omega, HGW.out, by simp, W64.zeros _, by simp [valTo], HBW.out⟩
  case round =>
    obtain ⟨t, c, zs, ht, rfl, rfl, hc, hz, hzl, hzw, hv, hbw⟩ := hrel
    have HZ := Lib.hid hz
    have HZL := Lib.hid hzl
    have HZW := Lib.hid hzw
    have HV := Lib.hid hv
    have HBR := Lib.hid hbw
    clear hz hzl hzw hv hbw HBW HGW
    by_cases hlt : t < M
    · have haw := ha.below HBR.out
      have hbw := hb.below HBR.out
      have hq := subHi_le (wd xs t) (wd ys t) c
      have HS := Lib.hid (sub_step (zs := zs) HV.out (valTo_wd xs t) (valTo_wd ys t) (by rw [HZL.out]; omega) (wd_lt HX.out t) (wd_lt HY.out t) hc)
      have HW := Lib.hid (HZW.out.set t _ (subLo_lt (wd xs t) (wd ys t) c))
      have hadd := run_sub64 (wd xs t) (wd ys t) c hc
      go_wp2_with (first | (go_at_call 48; refine (word_of (by assumption) _).mono ?_; rintro e w' ⟨rfl, rfl⟩) | ((with_reducible refine gate_store 22 ?_); refine st_word HBR.out HZ.out HGB.out t (subLo (wd xs t) (wd ys t) c) (by rw [HZL.out]; omega) (fun W2 hB2 _ _ hz2 => ?_); have HB2 := Lib.hid hB2; have HZ2 := Lib.hid hz2; clear hB2 hz2))
      go_roundw
      case rel => exact ⟨t + 1, subHi (wd xs t) (wd ys t) c, zs.set t (subLo (wd xs t) (wd ys t) c), by omega, by go_num, rfl, hq, HZ2.out, by rw [List.length_set]; exact HZL.out, HW.out, HS.out, HB2.out⟩
      case measure => simp [intOf]; omega
    · have hte : M = t := by omega
      subst hte
      go_wp2_with fail
      refine (refTrim_calls wr _ (M) (M) zs (HZ.out.slAll HZW.out HZL.out (by omega)) (.inr ⟨_, _, rfl⟩) (by omega)).mono ?_
      rintro e w2 hr
      have hr2 := natRes_trans HBR.out hr
      obtain ⟨a', c', rs, rfl, r1, r2, r3, r4, r5⟩ := hr2
      have R := Lib.hid (And.intro r1 (And.intro r2 (And.intro r3 (And.intro r4 r5))))
      clear r1 r2 r3 r4 r5 hr
      go_wp2
      go_ret
      exact ⟨_, a', c', rs, rfl, R.out.1, R.out.2.1, R.out.2.2.1, R.out.2.2.2.1, R.out.2.2.2.2⟩
theorem lessAny_at (w : World) {s t : Value} {m n k l : Nat} (hs : NatAt w m s) (ht : NatAt w n t) (hm : m < B64 ^ k) (hn : n < B64 ^ l) (hk : k ≤ 1000000) (hl : l ≤ 1000000) :
    Calls Tryz.prog 17 #[s, t] w fun e w' => ∃ q, NatOne w q e w' := by
  obtain ⟨a, c, xs, rfl, a1, rfl, a3, a4⟩ := hs
  obtain ⟨b, d, ys, rfl, b1, rfl, b3, b4⟩ := ht
  have l1 := val_len a1.hw a3 rfl hm
  have l2 := val_len b1.hw b3 rfl hn
  exact (refLess_any w a b _ c _ d xs ys a1 b1 (by omega) (by omega)).mono fun e w' ⟨q, h⟩ => ⟨q, h.at⟩
theorem less_at (w : World) {s t : Value} {m n k l : Nat} (hs : NatAt w m s) (ht : NatAt w n t) (hm : m < B64 ^ k) (hn : n < B64 ^ l) (hk : k ≤ 1000000) (hl : l ≤ 1000000) (hle : n ≤ m) :
    Calls Tryz.prog 17 #[s, t] w (NatOne w (m - n)) := by
  obtain ⟨a, c, xs, rfl, a1, rfl, a3, a4⟩ := hs
  obtain ⟨b, d, ys, rfl, b1, rfl, b3, b4⟩ := ht
  have l1 := val_len a1.hw a3 rfl hm
  have l2 := val_len b1.hw b3 rfl hn
  exact (refLess_calls w a b _ c _ d xs ys a1 b1 (by omega) (by omega) hle).mono fun e w' h => h.at
theorem number_at (S : ByteArray) (d : List UInt8) (hS : S.data.toList = d) (w : World) (hd : digs d = true) (hs : d.length ≤ 100000) : Calls Tryz.prog 43 #[.string S] w (NatOne w (dval d)) := by
  have hz := wr_size hS
  subst hS
  exact (number_calls S w hd (by omega)).mono fun e w' h => h.at
theorem nr_dval_words {d : List UInt8} (h : digs d = true) : dval d < B64 ^ (d.length + 1) :=
  Nat.lt_trans (dval_lt h) (pow_lt_words (by decide) _)
/-- Two numbers, and that it is right. -/
def FracIs (w : World) (n m : Nat) (e : Ending) (w' : World) : Prop := ∃ s t, e = .returned (.tuple #[s, t, .bool true]) ∧ NatAt w' n s ∧ NatAt w' m t ∧ Below w.heap.size w w'
set_option maxRecDepth 100000 in
set_option maxHeartbeats 4000000 in
theorem fracText_calls (w : World) (S : ByteArray) (l : List UInt8) (hS : S.data.toList = l) (hl : l.length ≤ 10000) {sg : Bool} {d : List UInt8} {e : Int} (hc : cutL l = (⟨1, sg, false, d, e⟩, 0)) (hd : digs d = true) (hdl : d.length ≤ 1000) (h0 : -20000 ≤ e) (h1 : e ≤ 20000) :
    Calls Tryz.prog 13 #[.string S] w (FracIs w (scN (dval d) e) (scD 1 e)) := by
  have hcu := fun W => refCut_calls S l hS (by omega) W
  rw [hc] at hcu
  unfold cutV partsV sv at hcu
  obtain ⟨DB, hDB⟩ : ∃ DB : ByteArray, DB = ⟨d.toArray⟩ := ⟨_, rfl⟩
  have hDd : DB.data.toList = d := by rw [hDB]
  simp only [← hDB] at hcu
  have HCU := Lib.hid hcu
  have hk := nr_dval_words hd
  obtain ⟨k, hke⟩ : ∃ k, d.length + 1 = k := ⟨_, rfl⟩
  rw [hke] at hk
  have h1k : 1 < B64 ^ k := Nat.one_lt_pow (by omega) (by decide)
  have HN := Lib.hid (fun W => number_at DB d hDd W hd (by omega))
  have HSC := Lib.hid (fun W u v (hu : NatAt W (dval d) u) (hv : NatAt W 1 v) => rscale10_calls W e hu hv hk h1k (by omega) h0 h1)
  clear hcu hDd hDB hk h1k hke hc hd hS
  go_enter Tryz.func13, Tryz.ntmps13
  go_wp2_with fail
  refine (HCU.out _).mono ?_
  rintro r w1 ⟨rfl, hb1⟩
  have HB1 := Lib.hid hb1
  clear hb1 HCU
  go_wp2_with fail
  have hG := heap_new w1 (.cells #[.int .i64 1, .bool sg, .bool false, .string DB, .int .i64 e] 69)
  have hB := below_alloc HB1.out (.cells #[.int .i64 1, .bool sg, .bool false, .string DB, .int .i64 e] 69)
  generalize (w1.alloc (.cells #[.int .i64 1, .bool sg, .bool false, .string DB, .int .i64 e] 69)) = v0 at hG hB ⊢
  have d3 : v0.cell? ⟨w1.heap.size, 3, none⟩ = some (.string DB) := cell_of_heap hG 3
  have d4 : v0.cell? ⟨w1.heap.size, 4, none⟩ = some (.int .i64 e) := cell_of_heap hG 4
  clear hG
  go_region_held3 (fun w' => w'.cell? ⟨w1.heap.size, 3, none⟩ = some (.string DB) ∧ w'.cell? ⟨w1.heap.size, 4, none⟩ = some (.int .i64 e) ∧ Below w.heap.size w w')
    (first | exact ⟨d3, d4, hB.drew⟩ | exact keepB2 (by assumption) hb | exact keepB2 (by assumption) (below_alloc (Below.refl _ _) _) | assumption)
    (first | (go_at_call 43; (with_reducible refine (HN.out _).mono ?_); rintro e w' ⟨u, rfl, hu, hb⟩) | (go_at_call 18; (with_reducible refine (HSC.out _ _ _ (by first | exact hu | exact hu.below (below_alloc (Below.refl _ _) _)) (by first | exact one_at _ | exact (one_at _).drew | exact (one_at _).below hb | exact (one_at _).drew.below hb)).mono ?_); rintro e w' ⟨s2, t2, rfl, hs2, ht2, hb⟩))
  all_goals
    have HF := Lib.hid (‹_ ∧ _ ∧ Below w.heap.size w _›).2.2
    have HS2 := Lib.hid hs2
    have HT2 := Lib.hid ht2
    go_wp2
    go_ret3
    exact ⟨_, _, rfl, HS2.out, HT2.out, HF.out⟩
end Go.Proofs.YtpodpdopgdkdkaaGreatDoor
namespace Go.Proofs.YtpodpdopgdkdkaaGreatDoor
set_option linter.unusedVariables false
set_option linter.unusedSimpArgs false
open Go.RowKit
theorem nr_get {S : ByteArray} {p q : List UInt8} (hS : S.data.toList = p ++ q) {t : Nat} (ht : t < S.size) : (t < p.length → ∃ c, p[t]? = some c ∧ S[t]'ht = c) ∧ (∀ c r, q = c :: r → t = p.length → S[t]'ht = c) := by
  have hl := wr_size hS
  have e : S[t]'ht = S.data.toList[t]'(by have := wr_size (rfl : S.data.toList = S.data.toList); omega) := by simp; rfl
  constructor
  · intro h
    refine ⟨p[t], List.getElem?_eq_getElem h, ?_⟩
    rw [e]
    have : S.data.toList[t]? = some p[t] := by rw [hS, List.getElem?_append_left h, List.getElem?_eq_getElem h]
    exact (List.getElem?_eq_some_iff.1 this).2
  · intro c r hq h
    rw [e]
    have : S.data.toList[t]? = some c := by rw [hS, List.getElem?_append_right (by omega), h, Nat.sub_self, hq]; rfl
    exact (List.getElem?_eq_some_iff.1 this).2
theorem filter_snoc {p : List UInt8} {t : Nat} {c : UInt8} (h : p[t]? = some c) : ((p.take (t + 1)).filter isDig).length = ((p.take t).filter isDig).length + (if isDig c then 1 else 0) := by
  have hlt : t < p.length := (List.getElem?_eq_some_iff.1 h).1
  have he : p[t] = c := (List.getElem?_eq_some_iff.1 h).2
  rw [List.take_succ_eq_append_getElem hlt, List.filter_append, List.length_append, he]
  by_cases hc : isDig c = true <;> simp [hc, List.filter_cons]
theorem nr_drop {p q : List UInt8} {c : UInt8} {t : Nat} (h : p.length = t) : (p ++ c :: q).drop (t + 1) = q := by
  subst h
  rw [show p ++ c :: q = (p ++ [c]) ++ q by simp]
  exact List.drop_left' (by simp)
def nrX (t : Nat) : Int := if t = 0 then 0 else (t : Int) + 1
theorem far_lt {A D M : Nat} {e : Int} (h : nearV A D M e) (hM : A * scD 1 e ≤ scN M e * D) : (scN M e * D - A * scD 1 e) * scD 1 e < scN (scD 1 e * D) e := by
  unfold nearV at h
  have e1 : scN (scD 1 e * D) e = scN D e * scD 1 e := by unfold scN; simp only [Nat.mul_assoc, Nat.mul_left_comm, Nat.mul_comm]
  rw [e1]
  exact Nat.mul_lt_mul_of_pos_right (by omega) (scD_ne (by decide))
theorem far_gt {A D M : Nat} {e : Int} (h : nearV A D M e) (hM : scN M e * D ≤ A * scD 1 e) : (A * scD 1 e - scN M e * D) * scD 1 e < scN (scD 1 e * D) e := by
  unfold nearV at h
  have e1 : scN (scD 1 e * D) e = scN D e * scD 1 e := by unfold scN; simp only [Nat.mul_assoc, Nat.mul_left_comm, Nat.mul_comm]
  rw [e1]
  exact Nat.mul_lt_mul_of_pos_right (by omega) (scD_ne (by decide))
set_option maxRecDepth 100000 in
set_option maxHeartbeats 8000000 in
theorem fixedNear_calls (n dir cnt : Int) (b0 b1 b2 b3 : Nat) (hb : W64 [b0, b1, b2, b3]) (hc0 : -9223372036854775808 ≤ cnt) (hc1 : cnt ≤ 9223372036854775807) (w : World) (hT : Tab10 w) :
    Calls Tryz.prog 4 #[.int .i64 n, .int .i64 dir, .int .i64 cnt, bitsV b0 b1 b2 b3] w fun e w' => e = .returned (.bool true) ∧ Below w.heap.size w w' := by
  have HT := Lib.hid hT
  have HA := Lib.hid (fun W (hW : Below w.heap.size w W) => awake10_calls W (tabIs_below hT hW))
  have H1 := Lib.hid (fun W (hW : Below w.heap.size w W) => write_calls n dir cnt b0 b1 b2 b3 hb hc0 hc1 W (tabIs_below hT hW))
  have H2 := Lib.hid (fun W => finite_calls n b0 b1 b2 b3 hb W)
  unfold bitsV at *
  clear hT hb
  go_enter Tryz.func4, Tryz.ntmps4
  go_wp2_with fail
  have HB0 := Lib.hid (below_alloc (Below.refl w.heap.size w) (.cells #[.int .u64 (b0 : Nat), .int .u64 (b1 : Nat), .int .u64 (b2 : Nat), .int .u64 (b3 : Nat)] 24))
  have HP0 : Hid ((w.alloc (.cells #[.int .u64 (b0 : Nat), .int .u64 (b1 : Nat), .int .u64 (b2 : Nat), .int .u64 (b3 : Nat)] 24)).heap[w.heap.size]? = _) := Lib.hid (heap_new w (.cells #[.int .u64 (b0 : Nat), .int .u64 (b1 : Nat), .int .u64 (b2 : Nat), .int .u64 (b3 : Nat)] 24))
  generalize (w.alloc (.cells #[.int .u64 (b0 : Nat), .int .u64 (b1 : Nat), .int .u64 (b2 : Nat), .int .u64 (b3 : Nat)] 24)) = v0 at HB0 HP0 ⊢
  refine (HA.out _ HB0.out).mono ?_
  rintro e w1 ⟨rfl, hb1⟩
  have HB1 := Lib.hid (below_then HB0.out hb1)
  have HP1 := Lib.hid (below_heap hb1 HP0.out)
  clear hb1 HP0 HA
  have d0 : w1.cell? ⟨w.heap.size, 0, none⟩ = some (.int .u64 (b0 : Nat)) := cell_of_heap HP1.out 0
  have d1 : w1.cell? ⟨w.heap.size, 1, none⟩ = some (.int .u64 (b1 : Nat)) := cell_of_heap HP1.out 1
  have d2 : w1.cell? ⟨w.heap.size, 2, none⟩ = some (.int .u64 (b2 : Nat)) := cell_of_heap HP1.out 2
  have d3 : w1.cell? ⟨w.heap.size, 3, none⟩ = some (.int .u64 (b3 : Nat)) := cell_of_heap HP1.out 3
  go_wp2_with fail
  refine (H2.out _).mono ?_
  intro e w2 hr
  have HB2 := Lib.hid (below_then HB1.out hr.1)
  have HP2 := Lib.hid (below_heap hr.1 HP1.out)
  obtain ⟨-, ⟨P, X, L, hI, hl, hv, c0, c1, c2, c3, hcw, hcv, rfl⟩ | ⟨-, k, sg, si, x, c0, c1, c2, c3, rfl⟩⟩ := hr
  rotate_left
  · clear d0 d1 d2 d3 H2 HP1
    unfold datV
    go_upto_region 4 with fail
    have HB3 := Lib.hid (below_alloc HB2.out (.cells #[.int .i64 k, .bool sg, .bool si, .int .i64 x, .int .u64 (c0 : Nat), .int .u64 (c1 : Nat), .int .u64 (c2 : Nat), .int .u64 (c3 : Nat)] 31))
    have HP3 := Lib.hid ((heap_keep w2 (.cells #[.int .i64 k, .bool sg, .bool si, .int .i64 x, .int .u64 (c0 : Nat), .int .u64 (c1 : Nat), .int .u64 (c2 : Nat), .int .u64 (c3 : Nat)] 31) (lt_of_heap HP2.out)).trans HP2.out)
    generalize (w2.alloc (.cells #[.int .i64 k, .bool sg, .bool si, .int .i64 x, .int .u64 (c0 : Nat), .int .u64 (c1 : Nat), .int .u64 (c2 : Nat), .int .u64 (c3 : Nat)] 31)) = w3 at HB3 HP3 ⊢
    have d0 : w3.cell? ⟨w.heap.size, 0, none⟩ = some (.int .u64 (b0 : Nat)) := cell_of_heap HP3.out 0
    have d1 : w3.cell? ⟨w.heap.size, 1, none⟩ = some (.int .u64 (b1 : Nat)) := cell_of_heap HP3.out 1
    have d2 : w3.cell? ⟨w.heap.size, 2, none⟩ = some (.int .u64 (b2 : Nat)) := cell_of_heap HP3.out 2
    have d3 : w3.cell? ⟨w.heap.size, 3, none⟩ = some (.int .u64 (b3 : Nat)) := cell_of_heap HP3.out 3
    go_wp2_with fail
    refine (H1.out _ HB3.out).mono ?_
    intro e w4 hr
    have HB4 := Lib.hid (below_then HB3.out hr.1)
    obtain ⟨S, mo, er, rfl⟩ := wrIs_shape hr
    clear hr d0 d1 d2 d3
    go_wp2
    go_ret
    exact ⟨rfl, HB4.out⟩
  by_cases hgood : (0 ≤ dir ∧ dir ≤ 4) ∧ 1 ≤ cnt ∧ cnt ≤ 800
  rotate_left
  · have hbad : ∀ W, Below w.heap.size w W → Calls Tryz.prog 9 #[.int .i64 n, .int .i64 dir, .int .i64 cnt, .agg #[.int .u64 (b0 : Nat), .int .u64 (b1 : Nat), .int .u64 (b2 : Nat), .int .u64 (b3 : Nat)]] W fun e w' => (∃ (S : ByteArray) (mo : Bool) (er : Int), (er = 1 ∨ er = 3) ∧ e = .returned (.tuple #[.string S, .bool mo, .int .i64 er])) ∧ Below W.heap.size W w' := fun W hW => (H1.out W hW).mono fun e w' h => by
      obtain ⟨hb', ⟨-, rfl⟩ | ⟨hd, P', X', L', t, -, -, -, rfl⟩⟩ := h
      · exact ⟨⟨_, _, _, .inl rfl, rfl⟩, hb'⟩
      · refine ⟨?_, hb'⟩
        unfold wrVal
        rw [if_pos (fun hc => hgood ⟨hd, hc⟩)]
        exact ⟨_, _, _, .inr rfl, rfl⟩
    have HBAD := Lib.hid hbad
    clear d0 d1 d2 d3 H2 H1 HP1 hgood hbad hI hl hv hcw hcv
    unfold datV
    generalize sgF (val [b0, b1, b2, b3]) P X = sg
    generalize expF (val [b0, b1, b2, b3]) P X L = x
    go_upto_region 4 with fail
    have HB3 := Lib.hid (below_alloc HB2.out (.cells #[.int .i64 1, .bool sg, .bool false, .int .i64 x, .int .u64 (c0 : Nat), .int .u64 (c1 : Nat), .int .u64 (c2 : Nat), .int .u64 (c3 : Nat)] 31))
    have HP3 := Lib.hid ((heap_keep w2 (.cells #[.int .i64 1, .bool sg, .bool false, .int .i64 x, .int .u64 (c0 : Nat), .int .u64 (c1 : Nat), .int .u64 (c2 : Nat), .int .u64 (c3 : Nat)] 31) (lt_of_heap HP2.out)).trans HP2.out)
    generalize (w2.alloc (.cells #[.int .i64 1, .bool sg, .bool false, .int .i64 x, .int .u64 (c0 : Nat), .int .u64 (c1 : Nat), .int .u64 (c2 : Nat), .int .u64 (c3 : Nat)] 31)) = w3 at HB3 HP3 ⊢
    have d0 : w3.cell? ⟨w.heap.size, 0, none⟩ = some (.int .u64 (b0 : Nat)) := cell_of_heap HP3.out 0
    have d1 : w3.cell? ⟨w.heap.size, 1, none⟩ = some (.int .u64 (b1 : Nat)) := cell_of_heap HP3.out 1
    have d2 : w3.cell? ⟨w.heap.size, 2, none⟩ = some (.int .u64 (b2 : Nat)) := cell_of_heap HP3.out 2
    have d3 : w3.cell? ⟨w.heap.size, 3, none⟩ = some (.int .u64 (b3 : Nat)) := cell_of_heap HP3.out 3
    go_wp2_with fail
    refine (HBAD.out _ HB3.out).mono ?_
    rintro e w4 ⟨⟨S, mo, er, her, rfl⟩, hb4⟩
    have HB4 := Lib.hid (below_then HB3.out hb4)
    clear d0 d1 d2 d3 hb4
    rcases her with rfl | rfl <;>
    · go_wp2
      go_ret
      exact ⟨rfl, HB4.out⟩
  obtain ⟨hd, hcn1, hcn2⟩ := hgood
  obtain ⟨m, rfl⟩ : ∃ m : Nat, cnt = (m : Int) := ⟨cnt.toNat, by omega⟩
  obtain ⟨TT, hT0, hT1, hTT⟩ := live_tens hI hv
  have hwj := fun W hW => (H1.out W hW).mono fun e w' h => write_live h hd ⟨hcn1, hcn2⟩ rfl hI hl hv hTT
  have hD := frD_pos (expF (val [b0, b1, b2, b3]) P X L)
  have hAp := frN_pos (x := expF (val [b0, b1, b2, b3]) P X L) hv.2
  obtain ⟨k, hk⟩ : ∃ k : Nat, 300 = k := ⟨_, rfl⟩
  have hAk := frN_lt (V := val [b0, b1, b2, b3]) hI hv.1 hk
  have hDk := frD_lt (V := val [b0, b1, b2, b3]) hI hv.1 hk
  have hxr := exp_rng hI hv.1
  have hva := fun (sg : Bool) W => value_calls W 1 sg false (expF (val [b0, b1, b2, b3]) P X L) c0 c1 c2 c3 hcw (by omega) (by omega)
  rw [hcv] at hva
  unfold datV at *
  obtain ⟨x, hx⟩ : ∃ x, expF (val [b0, b1, b2, b3]) P X L = x := ⟨_, rfl⟩
  obtain ⟨sg, hsg⟩ : ∃ sg, sgF (val [b0, b1, b2, b3]) P X = sg := ⟨_, rfl⟩
  rw [hx, hsg] at hwj
  rw [hsg]
  rw [hx] at hTT hD hAp hAk hDk hva ⊢
  obtain ⟨A, hA⟩ : ∃ A, frN (coefF (val [b0, b1, b2, b3]) P X) x = A := ⟨_, rfl⟩
  obtain ⟨D, hDe⟩ : ∃ D, frD x = D := ⟨_, rfl⟩
  rw [hA, hDe] at hwj hTT hva
  rw [hA] at hAp hAk
  rw [hDe] at hD hDk
  obtain ⟨M, ex, hM, hMl, hMt, hex, hnear, hmore⟩ := write_near hTT hAp hD (show 0 < m by omega) sg dir
  rw [hMt] at hwj
  obtain ⟨mo, hmo⟩ : ∃ mo, wrMore A D m TT = mo := ⟨_, rfl⟩
  rw [hmo] at hwj hmore
  obtain ⟨s, hs⟩ : ∃ s, Lib.decDigits M = s := ⟨_, rfl⟩
  have hsd := decDigits_digs M
  have hs0 := nr_head hM
  have hdv := dval_dec M
  rw [hs] at hwj hMl hsd hs0 hdv
  have hex0 : -10000 ≤ ex := by omega
  have hex1 : ex ≤ 10000 := by omega
  have hcut := cut_lay sg hsd hs0 (by omega) (by omega) (show -1000000 ≤ ex by omega) (show ex ≤ 1000000 by omega)
  have hlay := lay_pre sg s ex
  obtain ⟨hp1, hp2⟩ := pre_len sg s (by omega)
  obtain ⟨ph, pt, hph, hpi⟩ := pre_head sg hsd (by omega)
  have hfil := pre_filter sg hsd
  have hne := fun c hc => pre_not_e sg hsd (c := c) hc
  have hIl := Lib.itoa_length_le (ex + (s.length : Int) - 1) (by omega) (by omega)
  have hexp := exp_itoa (ex + (s.length : Int) - 1) (by omega) (by omega)
  obtain ⟨l, hle⟩ : ∃ l, layL sg s ex = l := ⟨_, rfl⟩
  obtain ⟨p, hpe⟩ : ∃ p, preL sg s = p := ⟨_, rfl⟩
  rw [hle] at hwj hcut hlay
  rw [hpe] at hlay hp1 hp2 hph hfil hne
  rw [hMl] at hlay hp2 hIl hexp
  obtain ⟨I, hI2⟩ : ∃ I, Lib.itoa (ex + (m : Int) - 1) = I := ⟨_, rfl⟩
  rw [hI2] at hlay hIl hexp
  obtain ⟨S, hS⟩ : ∃ S : ByteArray, S = ⟨l.toArray⟩ := ⟨_, rfl⟩
  rw [← hS] at hwj
  have hSd : S.data.toList = l := by rw [hS]
  have hSp : S.data.toList = p ++ 101 :: I := by rw [hSd, hlay]
  have hSz := wr_size hSp
  rw [List.length_append, List.length_cons] at hSz
  obtain ⟨np, hnp⟩ : ∃ np, p.length = np := ⟨_, rfl⟩
  rw [hnp] at hp1 hp2 hSz
  have HWJ := Lib.hid hwj
  have HFR := Lib.hid (fun W => fracText_calls W S l hSd (by rw [← wr_size hSd]; omega) hcut hsd (by omega) (by omega) (by omega))
  rw [hdv] at HFR
  have HEX := Lib.hid (fun W (R : ByteArray) (hR : R.data.toList = I) => refExp_calls R I hR (by omega) W)
  rw [hexp] at HEX
  have HVA := Lib.hid (hva sg)
  have HSP := Lib.hid hSp
  have HNE := Lib.hid hne
  have HFIL := Lib.hid hfil
  have HNP := Lib.hid hnp
  have HNPX := Lib.hid hnp
  have HPH := Lib.hid (And.intro hph hpi)
  have HMR := Lib.hid hmore
  have HNR := Lib.hid hnear
  have HAD := Lib.hid (And.intro hAk hDk)
  have HML := Lib.hid hMl
  have HDP := Lib.hid hD
  obtain ⟨k9, hk9⟩ : ∃ k : Nat, k = 900 := ⟨_, rfl⟩
  have hMk : M < B64 ^ k9 := by
    have h1 := dval_lt hsd
    rw [hdv, hMl] at h1
    exact Nat.lt_trans h1 (Nat.lt_of_lt_of_le (pow_lt_words (b := 10) (by decide) m) (Nat.pow_le_pow_right (by decide) (by omega)))
  obtain ⟨ka, hka⟩ : ∃ ka, k9 + 640 + k = ka := ⟨_, rfl⟩
  have hk2 : ka ≤ 5000 := by omega
  have hNum : scN M ex < B64 ^ (k9 + 640) := scN_lt hMk (by omega)
  have hDen : scD 1 ex < B64 ^ (k9 + 640) := scD_lt (Nat.one_lt_pow (by omega) (by decide)) (by omega)
  have hL : scN M ex * D < B64 ^ ka := by rw [← hka, Nat.pow_add]; exact Nat.mul_lt_mul'' hNum hDk
  have hR : A * scD 1 ex < B64 ^ ka := by rw [← hka, Nat.pow_add, Nat.mul_comm A]; exact Nat.mul_lt_mul'' hDen hAk
  have hU : scD 1 ex * D < B64 ^ ka := by rw [← hka, Nat.pow_add]; exact Nat.mul_lt_mul'' hDen hDk
  have hfl := fun h => far_lt (e := ex) hnear h
  have hfg := fun h => far_gt (e := ex) hnear h
  have hka0 : k ≤ 1000000 := by omega
  have hka9 : k9 + 640 ≤ 1000000 := by omega
  have HT1 := Lib.hid (fun W u v (hu : NatAt W (scN M ex) u) (hv : NatAt W D v) => times_at W hu hv hNum hDk hka9 hka0)
  have HT2 := Lib.hid (fun W u v (hu : NatAt W A u) (hv : NatAt W (scD 1 ex) v) => times_at W hu hv hAk hDen hka0 hka9)
  have HT3 := Lib.hid (fun W u v (hu : NatAt W (scD 1 ex) u) (hv : NatAt W D v) => times_at W hu hv hDen hDk hka9 hka0)
  obtain ⟨LV, hLV⟩ : ∃ LV, scN M ex * D = LV := ⟨_, rfl⟩
  obtain ⟨RV, hRV⟩ : ∃ RV, A * scD 1 ex = RV := ⟨_, rfl⟩
  obtain ⟨UV, hUV⟩ : ∃ UV, scD 1 ex * D = UV := ⟨_, rfl⟩
  rw [hLV, hRV] at hfl hfg hmore
  rw [hUV] at hfl hfg hU HT3
  rw [hLV] at hL HT1
  rw [hRV] at hR HT2
  have h1ka : 1 < B64 ^ ka := Nat.one_lt_pow (by omega) (by decide)
  have HS := Lib.hid (fun W u v (hu : NatAt W UV u) (hv : NatAt W 1 v) => rscale10_calls W ex hu hv (Nat.lt_of_lt_of_le hU (Nat.le_refl _)) h1ka (by omega) (by omega) (by omega))
  have HLA := Lib.hid (fun W u v (hu : NatAt W LV u) (hv : NatAt W RV v) => lessAny_at W hu hv hL hR (by omega) (by omega))
  have HL1 := Lib.hid (fun W u v (hu : NatAt W LV u) (hv : NatAt W RV v) (h : RV ≤ LV) => less_at W hu hv hL hR (by omega) (by omega) h)
  have HL2 := Lib.hid (fun W u v (hu : NatAt W RV u) (hv : NatAt W LV v) (h : LV ≤ RV) => less_at W hu hv hR hL (by omega) (by omega) h)
  obtain ⟨E, hE⟩ : ∃ E, ex + (m : Int) - 1 = E := ⟨_, rfl⟩
  have hEx : E - (m : Int) + 1 = ex := by omega
  rw [hE] at HEX
  have HSX : Hid (∀ W u v, NatAt W UV u → NatAt W 1 v → Calls Tryz.prog 18 #[u, v, .int .u64 10, .int .i64 (E - (m : Int) + 1)] W (NatTwo W (scN UV ex) (scD 1 ex))) := Lib.hid (fun W u v hu hv => by rw [hEx]; exact HS.out W u v hu hv)
  clear HS
  have HRK := Lib.hid hR
  have HLK := Lib.hid hL
  have HDK := Lib.hid hDen
  have HKA9 := Lib.hid hka9
  have HFL := Lib.hid hfl
  have HFG := Lib.hid hfg
  have HMO := Lib.hid hmore
  have hE0 : -100000 ≤ E := by omega
  have hE1 : E ≤ 100000 := by omega
  have hSlen : np + 1 ≤ S.size := by omega
  have hSmax : S.size ≤ 100000 := by omega
  have HEX2 : Hid (∀ W (R : ByteArray), R.data.toList = I → Calls Tryz.prog 12 #[.string R] W fun e w' => e = .returned (.tuple #[.int .i64 E, .bool true]) ∧ Below W.heap.size W w') := Lib.hid HEX.out
  have HP0' := Lib.hid hp1
  have hka3 : ka ≤ 2000 := by omega
  clear HEX hI hl hv hcw hcv hTT hT0 hT1 hwj hD hAp hAk hDk hxr hva hx hsg hA hDe hM hMl hMt hex hnear hmore hmo hs hsd hs0 hdv hcut hlay hph hpi hfil hne hIl hexp hle hpe hI2 hS hSd hSp hSz hnp hMk hk9 hka hk2 hNum hDen hL hR hU hfl hfg hka0 hka9 hLV hRV hUV h1ka hE hEx hex0 hex1 hd HNP HMR HNR HAD hp1 hp2 hk d0 d1 d2 d3 H1 H2 HP1
  go_upto_region 4 with fail
  have HB3 := Lib.hid (below_alloc HB2.out (.cells #[.int .i64 1, .bool sg, .bool false, .int .i64 x, .int .u64 (c0 : Nat), .int .u64 (c1 : Nat), .int .u64 (c2 : Nat), .int .u64 (c3 : Nat)] 31))
  have HP3 := Lib.hid ((heap_keep w2 (.cells #[.int .i64 1, .bool sg, .bool false, .int .i64 x, .int .u64 (c0 : Nat), .int .u64 (c1 : Nat), .int .u64 (c2 : Nat), .int .u64 (c3 : Nat)] 31) (lt_of_heap HP2.out)).trans HP2.out)
  have HG3 := Lib.hid (heap_new w2 (.cells #[.int .i64 1, .bool sg, .bool false, .int .i64 x, .int .u64 (c0 : Nat), .int .u64 (c1 : Nat), .int .u64 (c2 : Nat), .int .u64 (c3 : Nat)] 31))
  generalize (w2.alloc (.cells #[.int .i64 1, .bool sg, .bool false, .int .i64 x, .int .u64 (c0 : Nat), .int .u64 (c1 : Nat), .int .u64 (c2 : Nat), .int .u64 (c3 : Nat)] 31)) = w3 at HB3 HP3 HG3 ⊢
  have d0 : w3.cell? ⟨w.heap.size, 0, none⟩ = some (.int .u64 (b0 : Nat)) := cell_of_heap HP3.out 0
  have d1 : w3.cell? ⟨w.heap.size, 1, none⟩ = some (.int .u64 (b1 : Nat)) := cell_of_heap HP3.out 1
  have d2 : w3.cell? ⟨w.heap.size, 2, none⟩ = some (.int .u64 (b2 : Nat)) := cell_of_heap HP3.out 2
  have d3 : w3.cell? ⟨w.heap.size, 3, none⟩ = some (.int .u64 (b3 : Nat)) := cell_of_heap HP3.out 3
  go_wp2_with fail
  refine (HWJ.out _ HB3.out).mono ?_
  rintro e w4 ⟨rfl, hb4⟩
  have HB4 := Lib.hid (below_then HB3.out hb4)
  have HG4 := Lib.hid (below_heap hb4 HG3.out)
  clear hb4 d0 d1 d2 d3 HP3 HG3 HWJ
  go_wp2_with fail
  go_loop [14, 15, 16] (fun dg x i => ∃ t : Nat, t ≤ np ∧ i = .int .i64 (t : Nat) ∧ dg = .int .i64 ((((p.take t).filter isDig).length : Nat) : Int) ∧ x = .int .i64 (nrX t)) (fun _ _ i => np - (intOf i).toNat)
  case atStart => exact ⟨0, by omega, rfl, rfl, rfl⟩
  case round =>
    obtain ⟨t, ht, rfl, rfl, rfl⟩ := hrel
    have hts : t < S.size := by omega
    have hget := nr_get HSP.out hts
    by_cases hlt : t < np
    · obtain ⟨c, hpc, hSc⟩ := hget.1 (by have := HNPX.out; omega)
      have hc101 : c ≠ 101 := HNE.out c (List.mem_of_getElem? hpc)
      have hcn : c.toNat ≠ 101 := fun h => hc101 (UInt8.toNat_inj.1 h)
      have hv1 : (((S[t]'hts).toNat : Int) == 101) = false := by rw [hSc]; simp; omega
      have hv2 : (((S[t]'hts).toNat : Int) != 101) = true := by rw [hSc]; simp; omega
      have hcnt := filter_snoc hpc
      have hfl2 : ((p.take t).filter isDig).length ≤ t := Nat.le_trans (List.length_filter_le _ _) (List.length_take_le _ _)
      have hnx : nrX (t + 1) = (t : Int) + 2 := by unfold nrX; rw [if_neg (by omega)]; omega
      obtain ⟨cd, hcd⟩ : ∃ cd, ((p.take t).filter isDig).length = cd := ⟨_, rfl⟩
      rw [hcd] at hcnt hfl2 ⊢
      have HCNT := Lib.hid hcnt
      have HNX := Lib.hid hnx
      have hcb : c.toNat < 256 := c.toNat_lt
      have HPC := Lib.hid hSc
      by_cases hd1 : 48 ≤ c.toNat
      · by_cases hd2 : c.toNat ≤ 57
        · have HDI : Hid (isDig c = true) := Lib.hid (isDig_iff.2 ⟨hd1, hd2⟩)
          have hw1 : 48 ≤ ((S[t]'hts).toNat : Int) := by rw [hSc]; omega
          have hw2 : ((S[t]'hts).toNat : Int) ≤ 57 := by rw [hSc]; omega
          clear hget hpc hSc hc101 hcn hcnt hcd hnx hd1 hd2 hcb
          go_wp2
          go_round
          case rel => exact ⟨t + 1, by omega, by go_num, by rw [HCNT.out, HDI.out, if_pos rfl]; go_num, by rw [HNX.out]⟩
          case measure => simp [intOf]; omega
        · have HDI : Hid (isDig c = false) := Lib.hid (by cases h : isDig c with | false => rfl | true => exact absurd (isDig_iff.1 h).2 hd2)
          have hw1 : 48 ≤ ((S[t]'hts).toNat : Int) := by rw [hSc]; omega
          have hw2 : decide (((S[t]'hts).toNat : Int) ≤ 57) = false := decide_eq_false (by rw [hSc]; omega)
          clear hget hpc hSc hc101 hcn hcnt hcd hnx hd1 hd2 hcb
          go_wp2
          go_round
          case rel => exact ⟨t + 1, by omega, by go_num, by rw [HCNT.out, HDI.out, if_neg (by decide), Nat.add_zero], by rw [HNX.out]⟩
          case measure => simp [intOf]; omega
      · have HDI : Hid (isDig c = false) := Lib.hid (by cases h : isDig c with | false => rfl | true => exact absurd (isDig_iff.1 h).1 hd1)
        have hw1 : decide (48 ≤ ((S[t]'hts).toNat : Int)) = false := decide_eq_false (by rw [hSc]; omega)
        clear hget hpc hSc hc101 hcn hcnt hcd hnx hd1 hcb
        go_wp2
        go_round
        case rel => exact ⟨t + 1, by omega, by go_num, by rw [HCNT.out, HDI.out, if_neg (by decide), Nat.add_zero], by rw [HNX.out]⟩
        case measure => simp [intOf]; omega
    · obtain rfl : t = np := by omega
      have hSc := hget.2 101 I rfl HNPX.out.symm
      have hv1 : (((S[t]'hts).toNat : Int) == 101) = true := by rw [hSc]; rfl
      have hv2 : (((S[t]'hts).toNat : Int) != 101) = false := by rw [hSc]; rfl
      have hnx : nrX t = (t : Int) + 1 := by unfold nrX; rw [if_neg (by have := HP0'.out; omega)]
      have hdg : ((p.take t).filter isDig).length = m := by
        rw [List.take_of_length_le (by have := HNPX.out; omega), HFIL.out, HML.out]
      rw [hnx, hdg]
      have hRd : (S.extract (t + 1) S.size).data.toList = I := by
        rw [wr_drop HSP.out]
        exact nr_drop HNPX.out
      have HR := Lib.hid (fun W => HEX2.out W _ hRd)
      have hz0 : 0 < S.size := by omega
      have hg0 := nr_get HSP.out hz0
      have hS0 : (((S[0]'hz0).toNat : Int) == 45) = sg := by
        obtain ⟨c, hpc, hSc0⟩ := hg0.1 (by have := HNPX.out; have := HP0'.out; omega)
        rw [hSc0]
        rw [HPH.out.1] at hpc
        simp at hpc
        subst hpc
        have hi := HPH.out.2
        cases sg
        · have hne45 : ph.toNat ≠ 45 := fun h => by
            have h2 : ph = 45 := UInt8.toNat_inj.1 h
            exact absurd (hi.1 h2) (by decide)
          simp
          omega
        · simp at hi
          subst hi
          rfl
      have HS0 := Lib.hid hS0
      clear hget hSc hnx hdg hRd hg0 hS0
      go_wp2_with fail
      refine (HR.out _).mono ?_
      rintro e w5 ⟨rfl, hb5⟩
      have HB5 := Lib.hid (below_then HB4.out hb5)
      have HG5 := Lib.hid (below_heap hb5 HG4.out)
      clear hb5 HR
      go_wp2_with fail
      refine (HFR.out _).mono ?_
      rintro e w6 ⟨un, ud, rfl, hun, hud, hb6⟩
      have HB6 := Lib.hid (below_then HB5.out hb6)
      have HG6 := Lib.hid (below_heap hb6 HG5.out)
      have HN6 := Lib.hid hun
      have HD6 := Lib.hid hud
      clear hun hud hb6
      have hS0 := HS0.out
      have z0 : w6.cell? ⟨w2.heap.size, 0, none⟩ = some (.int .i64 1) := cell_of_heap HG6.out 0
      have z1 : w6.cell? ⟨w2.heap.size, 1, none⟩ = some (.bool sg) := cell_of_heap HG6.out 1
      have z2 : w6.cell? ⟨w2.heap.size, 2, none⟩ = some (.bool false) := cell_of_heap HG6.out 2
      have z3 : w6.cell? ⟨w2.heap.size, 3, none⟩ = some (.int .i64 x) := cell_of_heap HG6.out 3
      have z4 : w6.cell? ⟨w2.heap.size, 4, none⟩ = some (.int .u64 (c0 : Nat)) := cell_of_heap HG6.out 4
      have z5 : w6.cell? ⟨w2.heap.size, 5, none⟩ = some (.int .u64 (c1 : Nat)) := cell_of_heap HG6.out 5
      have z6 : w6.cell? ⟨w2.heap.size, 6, none⟩ = some (.int .u64 (c2 : Nat)) := cell_of_heap HG6.out 6
      have z7 : w6.cell? ⟨w2.heap.size, 7, none⟩ = some (.int .u64 (c3 : Nat)) := cell_of_heap HG6.out 7
      go_wp2_with fail
      go_quiet (fail)
      have HB6' := Lib.hid (below_drewN' HB6.out nq)
      have HN6' := Lib.hid (HN6.out.drewN nq)
      have HD6' := Lib.hid (HD6.out.drewN nq)
      go_wp2_with fail
      refine (HVA.out _).mono ?_
      rintro e w7 ⟨ut, ub, rfl, hut, hub, hb7⟩
      have HB7 := Lib.hid (below_then HB6'.out hb7)
      have HN7 := Lib.hid (HN6'.out.below hb7)
      have HD7 := Lib.hid (HD6'.out.below hb7)
      have HTP := Lib.hid hut
      have HT7 := Lib.hid hub
      clear hut hub hb7 z0 z1 z2 z3 z4 z5 z6 z7 hS0
      go_wp2_with fail
      refine (HT1.out _ _ _ HN7.out HT7.out).mono ?_
      rintro e wx ⟨ul, rfl, hul, hbx⟩
      have HBx := Lib.hid (below_then HB7.out hbx)
      have HLx := Lib.hid hul
      have HNx := Lib.hid (HN7.out.below hbx)
      have HDx := Lib.hid (HD7.out.below hbx)
      have HTPx := Lib.hid (HTP.out.below hbx)
      have HTx := Lib.hid (HT7.out.below hbx)
      clear hul hbx
      go_wp2_with fail
      refine (HT2.out _ _ _ HTPx.out HDx.out).mono ?_
      rintro e w8 ⟨ur, rfl, hur, hb8⟩
      have HB8 := Lib.hid (below_then HBx.out hb8)
      have HL8 := Lib.hid (HLx.out.below hb8)
      have HR8 := Lib.hid hur
      have HN8 := Lib.hid (HDx.out.below hb8)
      have HD8 := HL8
      have HT8 := Lib.hid (HTx.out.below hb8)
      have hcm := refCmp_at w8 HL8.out HR8.out
      clear hur hb8
      rcases Nat.lt_trichotomy LV RV with hlr | hlr | hlr
      · rw [cmpI_lt hlr] at hcm
        have HCM0 := Lib.hid hcm
        have HLT := Lib.hid hlr
        have hmt : mo = true := by cases hh : mo with | true => rfl | false => exact absurd (HMO.out.2 hh) (by omega)
        subst hmt
        clear hcm hlr
        go_wp2_with fail
        refine HCM0.out.mono ?_
        rintro e w' ⟨rfl, rfl⟩
        clear HCM0
        go_wp2_with fail
        refine (HLA.out _ _ _ HL8.out HR8.out).mono ?_
        rintro e w9 ⟨q9, u9, rfl, hu9, hb9⟩
        have HB9 := Lib.hid (below_then HB8.out hb9)
        have HL9 := Lib.hid (HL8.out.below hb9)
        have HR9 := Lib.hid (HR8.out.below hb9)
        have HN9 := Lib.hid (HN8.out.below hb9)
        have HD9 := Lib.hid (HD8.out.below hb9)
        have HT9 := Lib.hid (HT8.out.below hb9)
        have HU9 := Lib.hid hu9
        clear hu9 hb9
        have hcm := refCmp_at w9 HL9.out HR9.out
        rw [cmpI_lt HLT.out] at hcm
        have HCM := Lib.hid hcm
        clear hcm
        go_wp2_with fail
        refine HCM.out.mono ?_
        rintro e w' ⟨rfl, rfl⟩
        go_wp2_with fail
        refine (HL2.out _ _ _ HR9.out HL9.out (Nat.le_of_lt HLT.out)).mono ?_
        rintro e wa ⟨ua, rfl, hua, hba⟩
        have HBa := Lib.hid (below_then HB9.out hba)
        have HNa := Lib.hid (HN9.out.below hba)
        have HDa := Lib.hid (HD9.out.below hba)
        have HTa := Lib.hid (HT9.out.below hba)
        have HUa := Lib.hid hua
        clear hua hba
        go_wp2_with fail
        refine (HT3.out _ _ _ HNa.out HTa.out).mono ?_
        rintro e wb ⟨ub, rfl, hub, hbb⟩
        have HBb := Lib.hid (below_then HBa.out hbb)
        have HUb := Lib.hid (HUa.out.below hbb)
        have HS2 := Lib.hid (HSX.out _ _ _ (hub.below (below_alloc (Below.refl _ _) _)) (one_at wb))
        have HBc := Lib.hid (below_alloc HBb.out (.cells #[.int .u64 1] 22))
        have HUc := Lib.hid (HUb.out.below (below_alloc (Below.refl _ _) (.cells #[.int .u64 1] 22)))
        clear hub hbb
        go_wp2_with fail
        refine HS2.out.mono ?_
        rintro e wd ⟨un, uw, rfl, hun, huw, hbd⟩
        have HBd := Lib.hid (below_then HBc.out hbd)
        have HUn := Lib.hid hun
        have hfk : RV - LV < B64 ^ ka := Nat.lt_of_le_of_lt (Nat.sub_le _ _) HRK.out
        have HTM := Lib.hid (times_at wd (HUc.out.below hbd) huw hfk HDK.out (by omega) HKA9.out)
        clear hun huw hbd hfk
        go_wp2_with fail
        refine HTM.out.mono ?_
        rintro e we ⟨uf, rfl, huf, hbe⟩
        have HBe := Lib.hid (below_then HBd.out hbe)
        have hcf := refCmp_at we huf (HUn.out.below hbe)
        rw [cmpI_lt (HFG.out (Nat.le_of_lt HLT.out))] at hcf
        have HCF := Lib.hid hcf
        clear huf hbe hcf
        go_wp2_with fail
        refine HCF.out.mono ?_
        rintro e w' ⟨rfl, rfl⟩
        go_wp2
        go_ret
        exact ⟨rfl, HBe.out⟩
      · rw [cmpI_eq hlr] at hcm
        have HCM0 := Lib.hid hcm
        have hmt : mo = false := HMO.out.1 hlr
        subst hmt
        clear hcm hlr
        go_wp2_with fail
        refine HCM0.out.mono ?_
        rintro e w' ⟨rfl, rfl⟩
        go_wp2
        go_ret
        exact ⟨rfl, HB8.out⟩
      · rw [cmpI_gt hlr] at hcm
        have HCM0 := Lib.hid hcm
        have HLT := Lib.hid hlr
        have hmt : mo = true := by cases hh : mo with | true => rfl | false => exact absurd (HMO.out.2 hh) (by omega)
        subst hmt
        clear hcm hlr
        go_wp2_with fail
        refine HCM0.out.mono ?_
        rintro e w' ⟨rfl, rfl⟩
        clear HCM0
        go_wp2_with fail
        refine (HL1.out _ _ _ HL8.out HR8.out (Nat.le_of_lt HLT.out)).mono ?_
        rintro e w9 ⟨u9, rfl, hu9, hb9⟩
        have HB9 := Lib.hid (below_then HB8.out hb9)
        have HL9 := Lib.hid (HL8.out.below hb9)
        have HR9 := Lib.hid (HR8.out.below hb9)
        have HN9 := Lib.hid (HN8.out.below hb9)
        have HD9 := Lib.hid (HD8.out.below hb9)
        have HT9 := Lib.hid (HT8.out.below hb9)
        have HU9 := Lib.hid hu9
        clear hu9 hb9
        have hcm := refCmp_at w9 HL9.out HR9.out
        rw [cmpI_gt HLT.out] at hcm
        have HCM := Lib.hid hcm
        clear hcm
        go_wp2_with fail
        refine HCM.out.mono ?_
        rintro e w' ⟨rfl, rfl⟩
        have HBa := HB9
        have HNa := HN9
        have HDa := HD9
        have HTa := HT9
        have HUa := HU9
        go_wp2_with fail
        refine (HT3.out _ _ _ HNa.out HTa.out).mono ?_
        rintro e wb ⟨ub, rfl, hub, hbb⟩
        have HBb := Lib.hid (below_then HBa.out hbb)
        have HUb := Lib.hid (HUa.out.below hbb)
        have HS2 := Lib.hid (HSX.out _ _ _ (hub.below (below_alloc (Below.refl _ _) _)) (one_at wb))
        have HBc := Lib.hid (below_alloc HBb.out (.cells #[.int .u64 1] 22))
        have HUc := Lib.hid (HUb.out.below (below_alloc (Below.refl _ _) (.cells #[.int .u64 1] 22)))
        clear hub hbb
        go_wp2_with fail
        refine HS2.out.mono ?_
        rintro e wd ⟨un, uw, rfl, hun, huw, hbd⟩
        have HBd := Lib.hid (below_then HBc.out hbd)
        have HUn := Lib.hid hun
        have hfk : LV - RV < B64 ^ ka := Nat.lt_of_le_of_lt (Nat.sub_le _ _) HLK.out
        have HTM := Lib.hid (times_at wd (HUc.out.below hbd) huw hfk HDK.out (by omega) HKA9.out)
        clear hun huw hbd hfk
        go_wp2_with fail
        refine HTM.out.mono ?_
        rintro e we ⟨uf, rfl, huf, hbe⟩
        have HBe := Lib.hid (below_then HBd.out hbe)
        have hcf := refCmp_at we huf (HUn.out.below hbe)
        rw [cmpI_lt (HFL.out (Nat.le_of_lt HLT.out))] at hcf
        have HCF := Lib.hid hcf
        clear huf hbe hcf
        go_wp2_with fail
        refine HCF.out.mono ?_
        rintro e w' ⟨rfl, rfl⟩
        go_wp2
        go_ret
        exact ⟨rfl, HBe.out⟩
theorem fixedNear_row (n dir cnt : Int) (v : Value) (w : World) (_ : (Lit.int .i64 n).wf = true) (_ : (Lit.int .i64 dir).wf = true) (hc : (Lit.int .i64 cnt).wf = true) (h : ∃ b0 b1 b2 b3 : Nat, v = bitsV b0 b1 b2 b3 ∧ W64 [b0, b1, b2, b3]) (hT : Tab10 w) :
    Calls Tryz.prog 4 #[.int .i64 n, .int .i64 dir, .int .i64 cnt, v] w fun e w' => e = .returned (.bool true) ∧ Below w.heap.size w w' := by
  obtain ⟨b0, b1, b2, b3, rfl, hb⟩ := h
  have := fx_i64 hc
  exact fixedNear_calls n dir cnt b0 b1 b2 b3 hb (by omega) (by omega) w hT
end Go.Proofs.YtpodpdopgdkdkaaGreatDoor
