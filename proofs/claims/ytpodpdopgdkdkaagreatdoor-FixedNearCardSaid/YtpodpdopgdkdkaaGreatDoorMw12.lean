/- The reference's Bits: a number of at most four words as a pattern. No conditions. · Comparing patterns (four words, by value). No conditions. · desc.Binary: a format of base 2 with a pattern of it. No conditions. -/
import Derived.Test.YtpodpdopgdkdkaaGreatDoorMw11
import Derived.Test.YtpodpdopgdkdkaaGreatDoorMw01
import Derived.Laws.StructEq
import Derived.Test.YtpodpdopgdkdkaaGreatDoorMw09
import Derived.BigRegion
import Derived.Deep.RegionHeld3
set_option linter.unusedVariables false
set_option linter.unusedSimpArgs false
namespace Go.Proofs.YtpodpdopgdkdkaaGreatDoor
set_option linter.unusedVariables false
set_option linter.unusedSimpArgs false
open Go.RowKit
theorem wd_ext {xs zs : List Nat} (hx : xs.length ≤ 4) (hz : zs.length = 4) (h : ∀ j, j < 4 → wd zs j = wd xs j) : val zs = val xs := by
  obtain ⟨c0, c1, c2, c3, rfl⟩ := four_of hz
  have h0 := h 0 (by omega)
  have h1 := h 1 (by omega)
  have h2 := h 2 (by omega)
  have h3 := h 3 (by omega)
  match xs, hx with
  | [], _ => simp [wd] at h0 h1 h2 h3; subst h0 h1 h2 h3; rfl
  | [a], _ => simp [wd] at h0 h1 h2 h3; subst h0 h1 h2 h3; rfl
  | [a, b], _ => simp [wd] at h0 h1 h2 h3; subst h0 h1 h2 h3; rfl
  | [a, b, c], _ => simp [wd] at h0 h1 h2 h3; subst h0 h1 h2 h3; rfl
  | [a, b, c, d], _ => simp [wd] at h0 h1 h2 h3; subst h0 h1 h2 h3; rfl
set_option maxRecDepth 10000 in
set_option maxHeartbeats 2000000 in
theorem rbits_calls (w : World) (a : Option Addr) (la ca : Nat) (xs : List Nat) (h : SlW w a la ca xs) (hl : la ≤ 4) :
    Calls Tryz.prog 87 #[.slice a la ca] w (BitsRes w (val xs)) := by
  have HA := Lib.hid h
  have hxl : xs.length ≤ 4 := by rw [h.hlen]; exact hl
  have HXL := Lib.hid hxl
  have HX := Lib.hid h.hw
  clear h hl hxl
  go_enter Tryz.func87, Tryz.ntmps87
  go_wp2_with fail
  have HB0 := Lib.hid (below_alloc (below_alloc (Below.refl w.heap.size w) (.cells #[.int .u64 0, .int .u64 0, .int .u64 0, .int .u64 0] 24)) (.cells #[.int .u64 0, .int .u64 0, .int .u64 0, .int .u64 0] 24))
  have hp0 : ((w.alloc (.cells #[.int .u64 0, .int .u64 0, .int .u64 0, .int .u64 0] 24)).alloc (.cells #[.int .u64 0, .int .u64 0, .int .u64 0, .int .u64 0] 24)).heap[w.heap.size]? = some (.cells #[.int .u64 0, .int .u64 0, .int .u64 0, .int .u64 0] 24 (0, 0)) := (heap_keep _ _ (by simp)).trans (heap_new w _)
  have hq0 : ((w.alloc (.cells #[.int .u64 0, .int .u64 0, .int .u64 0, .int .u64 0] 24)).alloc (.cells #[.int .u64 0, .int .u64 0, .int .u64 0, .int .u64 0] 24)).heap[w.heap.size + 1]? = some (.cells #[.int .u64 0, .int .u64 0, .int .u64 0, .int .u64 0] 24 (0, 0)) := by
    have := heap_new (w.alloc (.cells #[.int .u64 0, .int .u64 0, .int .u64 0, .int .u64 0] 24)) (.cells #[.int .u64 0, .int .u64 0, .int .u64 0, .int .u64 0] 24)
    simpa using this
  generalize ((w.alloc (.cells #[.int .u64 0, .int .u64 0, .int .u64 0, .int .u64 0] 24)).alloc (.cells #[.int .u64 0, .int .u64 0, .int .u64 0, .int .u64 0] 24)) = W0 at HB0 hp0 hq0 ⊢
  have HP0 : Hid (ArrAt 24 W0 w.heap.size [0, 0, 0, 0]) := Lib.hid hp0
  have HQ0 : Hid (ArrAt 24 W0 (w.heap.size + 1) [0, 0, 0, 0]) := Lib.hid hq0
  clear hp0 hq0
  go_loopw [5] (fun i wr => ∃ (t : Nat) (zs : List Nat), t ≤ 4 ∧ i = .int .i64 t ∧ Hid (ArrAt 24 wr (w.heap.size + 1) zs) ∧ Hid (ArrAt 24 wr w.heap.size [0, 0, 0, 0]) ∧ Hid (zs.length = 4) ∧ Hid (W64 zs) ∧ Hid (∀ j, j < t → wd zs j = wd xs j) ∧ Hid (Below w.heap.size w wr)) (fun i _ => 4 - (intOf i).toNat)
  case atStart => exact ⟨0, [0, 0, 0, 0], by omega, rfl, HQ0, HP0, Lib.hid rfl, Lib.hid (by intro x hx; simp at hx; subst hx; decide), Lib.hid (fun j hj => by omega), HB0⟩
  case round =>
    obtain ⟨t, zs, ht, rfl, HZ, HR, HZL, HZW, HD, HB⟩ := hrel
    clear HP0 HQ0 HB0
    by_cases hlt : t < 4
    · have HWT := Lib.hid (word_of (HA.out.below HB.out) t)
      have HW := Lib.hid (HZW.out.set t _ (wd_lt HX.out t))
      have a0 := HZ.out.cell t (by rw [HZL.out]; exact hlt)
      have f0 := HZ.out.free t
      have h4 : (t : Int) < 4 := by omega
      have h0 : (0 : Int) ≤ (t : Int) := by omega
      go_wp2_with fail
      refine HWT.out.mono ?_
      rintro e w5 ⟨rfl, rfl⟩
      go_wp2
      go_roundw
      case rel => exact ⟨t + 1, zs.set t (wd xs t), by omega, by go_num, Lib.hid (HZ.out.set t _), Lib.hid (HR.out.other (by omega) t _), Lib.hid (by rw [List.length_set]; exact HZL.out), HW, Lib.hid (fun j hj => by
          by_cases e : j = t
          · rw [e, wd_set_eq (by rw [HZL.out]; omega)]
          · rw [wd_set_ne _ (by omega)]; exact HD.out j (by omega)), Lib.hid (HB.out.setCell (by show w.heap.size ≤ w.heap.size + 1; omega) _)⟩
      case measure => simp [intOf]; omega
    · obtain rfl : t = 4 := by omega
      have HN := Lib.hid (wd_ext HXL.out HZL.out HD.out)
      obtain ⟨c0, c1, c2, c3, rfl⟩ := four_of HZL.out
      have a0 := HZ.out.cell 0 (by simp)
      have a1 := HZ.out.cell 1 (by simp)
      have a2 := HZ.out.cell 2 (by simp)
      have a3 := HZ.out.cell 3 (by simp)
      have r0 := HR.out.cell 0 (by simp)
      have r1 := HR.out.cell 1 (by simp)
      have r2 := HR.out.cell 2 (by simp)
      have r3 := HR.out.cell 3 (by simp)
      have f0 := HR.out.free 0
      have f1 := HR.out.free 1
      have f2 := HR.out.free 2
      have f3 := HR.out.free 3
      simp only [wd, List.getD_cons_zero, List.getD_cons_succ] at a0 a1 a2 a3 r0 r1 r2 r3
      go_wp2
      obtain ⟨W2, hW2, k1, k2, k3, k4⟩ := sto4 (f := (0, 0)) (t := 24) (a0 := .int .u64 (0 : Nat)) (a1 := .int .u64 (0 : Nat)) (a2 := .int .u64 (0 : Nat)) (a3 := .int .u64 (0 : Nat)) HR.out (.int .u64 (c0 : Nat)) (.int .u64 (c1 : Nat)) (.int .u64 (c2 : Nat)) (.int .u64 (c3 : Nat))
      rw [← hW2]
      exact bodyPost_ret (results_cell rfl _ _ w.heap.size 24 _ _ _ rfl k1 Tryz.underlying24 rfl (by kernel_rfl)) rfl ⟨c0, c1, c2, c3, HZW.out, HN.out, rfl, k4 _ _ (Nat.le_refl _) HB.out⟩
end Go.Proofs.YtpodpdopgdkdkaaGreatDoor
namespace Go.Proofs.YtpodpdopgdkdkaaGreatDoor
open Go.RowKit
theorem equalIn_words4 {P : Program} (w : World) (d : Nat) (t e : TypeId) (ht : P.underlying t = some (.array 4 e)) (he : P.underlying e = some (.int .u64)) (hsz : ∀ w, (sizeOf e).run P w = .ok 1 w) (a0 a1 a2 a3 : Int) :
    (Op.equalIn (d + 2) t (.agg #[.int .u64 a0, .int .u64 a1, .int .u64 a2, .int .u64 a3]) (.agg #[.int .u64 a0, .int .u64 a1, .int .u64 a2, .int .u64 a3])).run P w = .ok true w := by
  have pe : ∀ a : Int, (Op.equalIn (d + 1) e (.int .u64 a) (.int .u64 a)).run P w = .ok true w := fun a => by
    rw [run_equalIn_int w d e .u64 .u64 _ _ he]; simp
  have pp : ∀ i : Nat, i < 4 → ∃ a : Int, (part e #[.int .u64 a0, .int .u64 a1, .int .u64 a2, .int .u64 a3] (i * 1)).run P w = .ok (.int .u64 a) w := fun i hi => by
    rcases (show i = 0 ∨ i = 1 ∨ i = 2 ∨ i = 3 by omega) with rfl | rfl | rfl | rfl
    · exact ⟨a0, by simp [part, isAgg, run_underlying he]⟩
    · exact ⟨a1, by simp [part, isAgg, run_underlying he]⟩
    · exact ⟨a2, by simp [part, isAgg, run_underlying he]⟩
    · exact ⟨a3, by simp [part, isAgg, run_underlying he]⟩
  rw [Op.equalIn]
  simp only [Sem.run_bind, run_underlying ht, Result.andThen_ok, hsz, Std.Legacy.Range.forIn_eq_forIn_range', Std.Legacy.Range.size, Nat.sub_zero, Nat.add_sub_cancel, Nat.div_one]
  have hl : ∀ i ∈ List.range' 0 4 1, i < 4 := fun i hi => by simpa using (List.mem_range'_1.1 hi).2
  generalize List.range' 0 4 1 = l at hl ⊢
  induction l with
  | nil => simp
  | cons i l ih =>
    obtain ⟨a, pa⟩ := pp i (hl i (by simp))
    simp only [List.forIn_cons, Sem.run_bind, pa, pe, Result.andThen_ok]
    simp only [Bool.not_true, Bool.false_eq_true, if_false, Sem.run_pure, Result.andThen_ok]
    exact ih fun j hj => hl j (by simp [hj])
theorem bits_eql (w : World) (a0 a1 a2 a3 : Int) : (binOp .eql 24 (.agg #[.int .u64 a0, .int .u64 a1, .int .u64 a2, .int .u64 a3]) (.agg #[.int .u64 a0, .int .u64 a1, .int .u64 a2, .int .u64 a3])).run Tryz.prog w = .ok (.bool true) w := by
  rw [run_eql_struct, equalIn_words4 w 9998 24 22 Tryz.underlying24 Tryz.underlying22 (fun w => by kernel_rfl)]
  rfl
theorem bits_neq (w : World) (a0 a1 a2 a3 : Int) : (binOp .neq 24 (.agg #[.int .u64 a0, .int .u64 a1, .int .u64 a2, .int .u64 a3]) (.agg #[.int .u64 a0, .int .u64 a1, .int .u64 a2, .int .u64 a3])).run Tryz.prog w = .ok (.bool false) w := by
  rw [run_neq_struct, equalIn_words4 w 9998 24 22 Tryz.underlying24 Tryz.underlying22 (fun w => by kernel_rfl)]
  rfl
end Go.Proofs.YtpodpdopgdkdkaaGreatDoor
namespace Go.Proofs.YtpodpdopgdkdkaaGreatDoor
set_option linter.unusedVariables false
set_option linter.unusedSimpArgs false
open Go.RowKit
/-- The cells of a desc.Info. -/
def infV (c : Int) (s : ByteArray) (b wd p x l m y : Int) (d : Bool) : Array Value := #[.int .i64 c, .string s, .int .i64 b, .int .i64 wd, .int .i64 p, .int .i64 x, .int .i64 l, .int .i64 m, .int .i64 y, .bool d]
/-- Ten cells stored into a block of ten. -/
theorem sto10 {W : World} {r : Nat} {a0 a1 a2 a3 a4 a5 a6 a7 a8 a9 : Value} {t : TypeId} {f : Nat × Nat} (h : W.heap[r]? = some (.cells #[a0, a1, a2, a3, a4, a5, a6, a7, a8, a9] t f)) (v0 v1 v2 v3 v4 v5 v6 v7 v8 v9 : Value) :
    ∃ W', W' = (((((((((W.setCell ⟨r, 0, none⟩ v0).setCell ⟨r, 1, none⟩ v1).setCell ⟨r, 2, none⟩ v2).setCell ⟨r, 3, none⟩ v3).setCell ⟨r, 4, none⟩ v4).setCell ⟨r, 5, none⟩ v5).setCell ⟨r, 6, none⟩ v6).setCell ⟨r, 7, none⟩ v7).setCell ⟨r, 8, none⟩ v8).setCell ⟨r, 9, none⟩ v9 ∧
      W'.heap[r]? = some (.cells #[v0, v1, v2, v3, v4, v5, v6, v7, v8, v9] t f) ∧ (∀ b, b ≠ r → W'.heap[b]? = W.heap[b]?) ∧ W'.heap.size = W.heap.size ∧
      (∀ (B : Nat) (w0 : World), B ≤ r → Below B w0 W → Below B w0 W') := by
  have h0 : (W.setCell ⟨r, 0, none⟩ v0).heap[r]? = some (.cells #[v0, a1, a2, a3, a4, a5, a6, a7, a8, a9] t f) := heap_set h 0 v0
  have h1 : ((W.setCell ⟨r, 0, none⟩ v0).setCell ⟨r, 1, none⟩ v1).heap[r]? = some (.cells #[v0, v1, a2, a3, a4, a5, a6, a7, a8, a9] t f) := heap_set h0 1 v1
  have h2 : (((W.setCell ⟨r, 0, none⟩ v0).setCell ⟨r, 1, none⟩ v1).setCell ⟨r, 2, none⟩ v2).heap[r]? = some (.cells #[v0, v1, v2, a3, a4, a5, a6, a7, a8, a9] t f) := heap_set h1 2 v2
  have h3 : ((((W.setCell ⟨r, 0, none⟩ v0).setCell ⟨r, 1, none⟩ v1).setCell ⟨r, 2, none⟩ v2).setCell ⟨r, 3, none⟩ v3).heap[r]? = some (.cells #[v0, v1, v2, v3, a4, a5, a6, a7, a8, a9] t f) := heap_set h2 3 v3
  have h4 : (((((W.setCell ⟨r, 0, none⟩ v0).setCell ⟨r, 1, none⟩ v1).setCell ⟨r, 2, none⟩ v2).setCell ⟨r, 3, none⟩ v3).setCell ⟨r, 4, none⟩ v4).heap[r]? = some (.cells #[v0, v1, v2, v3, v4, a5, a6, a7, a8, a9] t f) := heap_set h3 4 v4
  have h5 : ((((((W.setCell ⟨r, 0, none⟩ v0).setCell ⟨r, 1, none⟩ v1).setCell ⟨r, 2, none⟩ v2).setCell ⟨r, 3, none⟩ v3).setCell ⟨r, 4, none⟩ v4).setCell ⟨r, 5, none⟩ v5).heap[r]? = some (.cells #[v0, v1, v2, v3, v4, v5, a6, a7, a8, a9] t f) := heap_set h4 5 v5
  have h6 : (((((((W.setCell ⟨r, 0, none⟩ v0).setCell ⟨r, 1, none⟩ v1).setCell ⟨r, 2, none⟩ v2).setCell ⟨r, 3, none⟩ v3).setCell ⟨r, 4, none⟩ v4).setCell ⟨r, 5, none⟩ v5).setCell ⟨r, 6, none⟩ v6).heap[r]? = some (.cells #[v0, v1, v2, v3, v4, v5, v6, a7, a8, a9] t f) := heap_set h5 6 v6
  have h7 : ((((((((W.setCell ⟨r, 0, none⟩ v0).setCell ⟨r, 1, none⟩ v1).setCell ⟨r, 2, none⟩ v2).setCell ⟨r, 3, none⟩ v3).setCell ⟨r, 4, none⟩ v4).setCell ⟨r, 5, none⟩ v5).setCell ⟨r, 6, none⟩ v6).setCell ⟨r, 7, none⟩ v7).heap[r]? = some (.cells #[v0, v1, v2, v3, v4, v5, v6, v7, a8, a9] t f) := heap_set h6 7 v7
  have h8 : (((((((((W.setCell ⟨r, 0, none⟩ v0).setCell ⟨r, 1, none⟩ v1).setCell ⟨r, 2, none⟩ v2).setCell ⟨r, 3, none⟩ v3).setCell ⟨r, 4, none⟩ v4).setCell ⟨r, 5, none⟩ v5).setCell ⟨r, 6, none⟩ v6).setCell ⟨r, 7, none⟩ v7).setCell ⟨r, 8, none⟩ v8).heap[r]? = some (.cells #[v0, v1, v2, v3, v4, v5, v6, v7, v8, a9] t f) := heap_set h7 8 v8
  have h9 : ((((((((((W.setCell ⟨r, 0, none⟩ v0).setCell ⟨r, 1, none⟩ v1).setCell ⟨r, 2, none⟩ v2).setCell ⟨r, 3, none⟩ v3).setCell ⟨r, 4, none⟩ v4).setCell ⟨r, 5, none⟩ v5).setCell ⟨r, 6, none⟩ v6).setCell ⟨r, 7, none⟩ v7).setCell ⟨r, 8, none⟩ v8).setCell ⟨r, 9, none⟩ v9).heap[r]? = some (.cells #[v0, v1, v2, v3, v4, v5, v6, v7, v8, v9] t f) := heap_set h8 9 v9
  refine ⟨_, rfl, h9, fun b hb => ?_, ?_, fun B w0 hB hb => ?_⟩
  · rw [heap_set_other hb, heap_set_other hb, heap_set_other hb, heap_set_other hb, heap_set_other hb, heap_set_other hb, heap_set_other hb, heap_set_other hb, heap_set_other hb, heap_set_other hb]
  · rw [size_set, size_set, size_set, size_set, size_set, size_set, size_set, size_set, size_set, size_set]
  · exact (((((((((hb.setCell hB _).setCell hB _).setCell hB _).setCell hB _).setCell hB _).setCell hB _).setCell hB _).setCell hB _).setCell hB _).setCell hB _
theorem other10 {W : World} {r b : Nat} (hb : b ≠ r) (o : Nat) (v0 v1 v2 v3 v4 v5 v6 v7 v8 v9 : Value) :
    ((((((((((W.setCell ⟨r, 0, none⟩ v0).setCell ⟨r, 1, none⟩ v1).setCell ⟨r, 2, none⟩ v2).setCell ⟨r, 3, none⟩ v3).setCell ⟨r, 4, none⟩ v4).setCell ⟨r, 5, none⟩ v5).setCell ⟨r, 6, none⟩ v6).setCell ⟨r, 7, none⟩ v7).setCell ⟨r, 8, none⟩ v8).setCell ⟨r, 9, none⟩ v9).cell? ⟨b, o, none⟩ = W.cell? ⟨b, o, none⟩ := by
  have e : ∀ (V : World) (i : Nat) (v : Value), (V.setCell ⟨r, i, none⟩ v).cell? ⟨b, o, none⟩ = V.cell? ⟨b, o, none⟩ := fun V i v => by
    unfold World.cell?
    rw [heap_set_other hb]
  rw [e, e, e, e, e, e, e, e, e, e]
theorem inf0_is : inf0 = #[.int .i64 0, .string ⟨#[]⟩, .int .i64 0, .int .i64 0, .int .i64 0, .int .i64 0, .int .i64 0, .int .i64 0, .int .i64 0, .bool false] := rfl
set_option maxRecDepth 100000 in
set_option maxHeartbeats 2000000 in
theorem binary_ten (n c wd p x l m y : Int) (s : ByteArray) (d : Bool) (b0 b1 b2 b3 : Nat) (hb : W64 [b0, b1, b2, b3]) (w : World)
    (hof : ∀ w, Calls Tryz.prog 104 #[.int .i64 n] w fun e w' => e = .returned (.tuple #[.agg (infV c s 10 wd p x l m y d), .int .i64 0]) ∧ Below w.heap.size w w') :
    Calls Tryz.prog 60 #[.int .i64 n, bitsV b0 b1 b2 b3] w fun e w' => e = .returned (.tuple #[.agg (infV c s 10 wd p x l m y d), .bool false]) ∧ Below w.heap.size w w' := by
  unfold bitsV
  unfold infV at hof ⊢
  have HO := Lib.hid hof
  clear hof hb
  go_enter Tryz.func60, Tryz.ntmps60
  go_wp2_with fail
  have HB0 := Lib.hid (below_alloc (below_alloc (Below.refl w.heap.size w) (.cells #[.int .u64 (b0 : Nat), .int .u64 (b1 : Nat), .int .u64 (b2 : Nat), .int .u64 (b3 : Nat)] 24)) (.cells #[.int .i64 0, .string ⟨#[]⟩, .int .i64 0, .int .i64 0, .int .i64 0, .int .i64 0, .int .i64 0, .int .i64 0, .int .i64 0, .bool false] 88))
  have HX0 : Hid ((w.alloc (.cells #[.int .u64 (b0 : Nat), .int .u64 (b1 : Nat), .int .u64 (b2 : Nat), .int .u64 (b3 : Nat)] 24)).heap[w.heap.size]? = _) := Lib.hid (heap_new w (.cells #[.int .u64 (b0 : Nat), .int .u64 (b1 : Nat), .int .u64 (b2 : Nat), .int .u64 (b3 : Nat)] 24))
  have HS0 : (w.alloc (.cells #[.int .u64 (b0 : Nat), .int .u64 (b1 : Nat), .int .u64 (b2 : Nat), .int .u64 (b3 : Nat)] 24)).heap.size = w.heap.size + 1 := by simp
  generalize (w.alloc (.cells #[.int .u64 (b0 : Nat), .int .u64 (b1 : Nat), .int .u64 (b2 : Nat), .int .u64 (b3 : Nat)] 24)) = w0 at HB0 HX0 HS0 ⊢
  have HR0 := heap_new w0 (.cells #[.int .i64 0, .string ⟨#[]⟩, .int .i64 0, .int .i64 0, .int .i64 0, .int .i64 0, .int .i64 0, .int .i64 0, .int .i64 0, .bool false] 88)
  have HX1 := Lib.hid ((heap_keep w0 (.cells #[.int .i64 0, .string ⟨#[]⟩, .int .i64 0, .int .i64 0, .int .i64 0, .int .i64 0, .int .i64 0, .int .i64 0, .int .i64 0, .bool false] 88) (lt_of_heap HX0.out)).trans HX0.out)
  rw [HS0] at HR0
  have HS1 : (w0.alloc (.cells #[.int .i64 0, .string ⟨#[]⟩, .int .i64 0, .int .i64 0, .int .i64 0, .int .i64 0, .int .i64 0, .int .i64 0, .int .i64 0, .bool false] 88)).heap.size = w.heap.size + 1 + 1 := by simp [HS0]
  generalize (w0.alloc (.cells #[.int .i64 0, .string ⟨#[]⟩, .int .i64 0, .int .i64 0, .int .i64 0, .int .i64 0, .int .i64 0, .int .i64 0, .int .i64 0, .bool false] 88)) = w1 at HB0 HR0 HX1 HS1 ⊢
  refine (HO.out _).mono ?_
  rintro e w2 ⟨rfl, hb2⟩
  have HB2 := Lib.hid (below_then HB0.out hb2)
  have HX2 := Lib.hid (below_heap hb2 HX1.out)
  have HR2 := Lib.hid (below_heap hb2 HR0)
  clear hb2 HB0 HX1 HR0 HO HX0 HS0
  go_wp2_with (first | ((with_reducible refine gate_store 88 ?_); refine st_box 88 88 HB2.out Tryz.sizeInfo (fun W hBW hkW hXW => ?_) (hn := rfl) (h1 := by simp [Value.oneCell'])) | fail)
  have HXA := Lib.hid (below_heap hkW HX2.out)
  have HRA := Lib.hid (below_heap hkW HR2.out)
  have HWA := Lib.hid hXW
  have HBA := Lib.hid hBW
  have hne : w.heap.size + 1 < w2.heap.size := by have := lt_of_heap HR2.out; omega
  clear hBW hkW hXW HX2 HR2 HB2
  have x0 : W.cell? ⟨w.heap.size, 0, none⟩ = some (.int .u64 (b0 : Nat)) := cell_of_heap HXA.out 0
  have x1 : W.cell? ⟨w.heap.size, 1, none⟩ = some (.int .u64 (b1 : Nat)) := cell_of_heap HXA.out 1
  have x2 : W.cell? ⟨w.heap.size, 2, none⟩ = some (.int .u64 (b2 : Nat)) := cell_of_heap HXA.out 2
  have x3 : W.cell? ⟨w.heap.size, 3, none⟩ = some (.int .u64 (b3 : Nat)) := cell_of_heap HXA.out 3
  have z0 : W.cell? ⟨w2.heap.size, 0, none⟩ = some (.int .i64 c) := cell_of_heap HWA.out 0
  have z1 : W.cell? ⟨w2.heap.size, 1, none⟩ = some (.string s) := cell_of_heap HWA.out 1
  have z2 : W.cell? ⟨w2.heap.size, 2, none⟩ = some (.int .i64 10) := cell_of_heap HWA.out 2
  have z3 : W.cell? ⟨w2.heap.size, 3, none⟩ = some (.int .i64 wd) := cell_of_heap HWA.out 3
  have z4 : W.cell? ⟨w2.heap.size, 4, none⟩ = some (.int .i64 p) := cell_of_heap HWA.out 4
  have z5 : W.cell? ⟨w2.heap.size, 5, none⟩ = some (.int .i64 x) := cell_of_heap HWA.out 5
  have z6 : W.cell? ⟨w2.heap.size, 6, none⟩ = some (.int .i64 l) := cell_of_heap HWA.out 6
  have z7 : W.cell? ⟨w2.heap.size, 7, none⟩ = some (.int .i64 m) := cell_of_heap HWA.out 7
  have z8 : W.cell? ⟨w2.heap.size, 8, none⟩ = some (.int .i64 y) := cell_of_heap HWA.out 8
  have z9 : W.cell? ⟨w2.heap.size, 9, none⟩ = some (.bool d) := cell_of_heap HWA.out 9
  have y0 : W.cell? ⟨w.heap.size + 1, 0, none⟩ = some (.int .i64 0) := cell_of_heap HRA.out 0
  have f0 := free_of_heap HRA.out 0
  have y1 : W.cell? ⟨w.heap.size + 1, 1, none⟩ = some (.string ⟨#[]⟩) := cell_of_heap HRA.out 1
  have f1 := free_of_heap HRA.out 1
  have y2 : W.cell? ⟨w.heap.size + 1, 2, none⟩ = some (.int .i64 0) := cell_of_heap HRA.out 2
  have f2 := free_of_heap HRA.out 2
  have y3 : W.cell? ⟨w.heap.size + 1, 3, none⟩ = some (.int .i64 0) := cell_of_heap HRA.out 3
  have f3 := free_of_heap HRA.out 3
  have y4 : W.cell? ⟨w.heap.size + 1, 4, none⟩ = some (.int .i64 0) := cell_of_heap HRA.out 4
  have f4 := free_of_heap HRA.out 4
  have y5 : W.cell? ⟨w.heap.size + 1, 5, none⟩ = some (.int .i64 0) := cell_of_heap HRA.out 5
  have f5 := free_of_heap HRA.out 5
  have y6 : W.cell? ⟨w.heap.size + 1, 6, none⟩ = some (.int .i64 0) := cell_of_heap HRA.out 6
  have f6 := free_of_heap HRA.out 6
  have y7 : W.cell? ⟨w.heap.size + 1, 7, none⟩ = some (.int .i64 0) := cell_of_heap HRA.out 7
  have f7 := free_of_heap HRA.out 7
  have y8 : W.cell? ⟨w.heap.size + 1, 8, none⟩ = some (.int .i64 0) := cell_of_heap HRA.out 8
  have f8 := free_of_heap HRA.out 8
  have y9 : W.cell? ⟨w.heap.size + 1, 9, none⟩ = some (.bool false) := cell_of_heap HRA.out 9
  have f9 := free_of_heap HRA.out 9
  go_region
  all_goals
    go_wp2
    obtain ⟨W2, hW2, k1, k2, k3, k4⟩ := sto10 HRA.out (.int .i64 c) (.string s) (.int .i64 10) (.int .i64 wd) (.int .i64 p) (.int .i64 x) (.int .i64 l) (.int .i64 m) (.int .i64 y) (.bool d)
    rw [← hW2]
    exact bodyPost_ret (results_ct rfl _ _ (w.heap.size + 1) 88 _ _ _ rfl k1 Tryz.underlying88 rfl (by kernel_rfl)) rfl ⟨rfl, (k4 _ _ (by omega) HBA.out).drew⟩
set_option maxRecDepth 100000 in
set_option maxHeartbeats 2000000 in
theorem binary_none (n c bs wd p x l m y : Int) (s : ByteArray) (d : Bool) (b0 b1 b2 b3 : Nat) (hb : W64 [b0, b1, b2, b3]) (w : World)
    (hof : ∀ w, Calls Tryz.prog 104 #[.int .i64 n] w fun e w' => e = .returned (.tuple #[.agg (infV c s bs wd p x l m y d), .int .i64 1]) ∧ Below w.heap.size w w') :
    Calls Tryz.prog 60 #[.int .i64 n, bitsV b0 b1 b2 b3] w fun e w' => e = .returned (.tuple #[.agg (infV c s bs wd p x l m y d), .bool false]) ∧ Below w.heap.size w w' := by
  unfold bitsV
  unfold infV at hof ⊢
  have HO := Lib.hid hof
  clear hof hb
  go_enter Tryz.func60, Tryz.ntmps60
  go_wp2_with fail
  have HB0 := Lib.hid (below_alloc (below_alloc (Below.refl w.heap.size w) (.cells #[.int .u64 (b0 : Nat), .int .u64 (b1 : Nat), .int .u64 (b2 : Nat), .int .u64 (b3 : Nat)] 24)) (.cells #[.int .i64 0, .string ⟨#[]⟩, .int .i64 0, .int .i64 0, .int .i64 0, .int .i64 0, .int .i64 0, .int .i64 0, .int .i64 0, .bool false] 88))
  have HX0 : Hid ((w.alloc (.cells #[.int .u64 (b0 : Nat), .int .u64 (b1 : Nat), .int .u64 (b2 : Nat), .int .u64 (b3 : Nat)] 24)).heap[w.heap.size]? = _) := Lib.hid (heap_new w (.cells #[.int .u64 (b0 : Nat), .int .u64 (b1 : Nat), .int .u64 (b2 : Nat), .int .u64 (b3 : Nat)] 24))
  have HS0 : (w.alloc (.cells #[.int .u64 (b0 : Nat), .int .u64 (b1 : Nat), .int .u64 (b2 : Nat), .int .u64 (b3 : Nat)] 24)).heap.size = w.heap.size + 1 := by simp
  generalize (w.alloc (.cells #[.int .u64 (b0 : Nat), .int .u64 (b1 : Nat), .int .u64 (b2 : Nat), .int .u64 (b3 : Nat)] 24)) = w0 at HB0 HX0 HS0 ⊢
  have HR0 := heap_new w0 (.cells #[.int .i64 0, .string ⟨#[]⟩, .int .i64 0, .int .i64 0, .int .i64 0, .int .i64 0, .int .i64 0, .int .i64 0, .int .i64 0, .bool false] 88)
  have HX1 := Lib.hid ((heap_keep w0 (.cells #[.int .i64 0, .string ⟨#[]⟩, .int .i64 0, .int .i64 0, .int .i64 0, .int .i64 0, .int .i64 0, .int .i64 0, .int .i64 0, .bool false] 88) (lt_of_heap HX0.out)).trans HX0.out)
  rw [HS0] at HR0
  have HS1 : (w0.alloc (.cells #[.int .i64 0, .string ⟨#[]⟩, .int .i64 0, .int .i64 0, .int .i64 0, .int .i64 0, .int .i64 0, .int .i64 0, .int .i64 0, .bool false] 88)).heap.size = w.heap.size + 1 + 1 := by simp [HS0]
  generalize (w0.alloc (.cells #[.int .i64 0, .string ⟨#[]⟩, .int .i64 0, .int .i64 0, .int .i64 0, .int .i64 0, .int .i64 0, .int .i64 0, .int .i64 0, .bool false] 88)) = w1 at HB0 HR0 HX1 HS1 ⊢
  refine (HO.out _).mono ?_
  rintro e w2 ⟨rfl, hb2⟩
  have HB2 := Lib.hid (below_then HB0.out hb2)
  have HX2 := Lib.hid (below_heap hb2 HX1.out)
  have HR2 := Lib.hid (below_heap hb2 HR0)
  clear hb2 HB0 HX1 HR0 HO HX0 HS0
  go_wp2_with (first | ((with_reducible refine gate_store 88 ?_); refine st_box 88 88 HB2.out Tryz.sizeInfo (fun W hBW hkW hXW => ?_) (hn := rfl) (h1 := by simp [Value.oneCell'])) | fail)
  have HXA := Lib.hid (below_heap hkW HX2.out)
  have HRA := Lib.hid (below_heap hkW HR2.out)
  have HWA := Lib.hid hXW
  have HBA := Lib.hid hBW
  have hne : w.heap.size + 1 < w2.heap.size := by have := lt_of_heap HR2.out; omega
  clear hBW hkW hXW HX2 HR2 HB2
  have x0 : W.cell? ⟨w.heap.size, 0, none⟩ = some (.int .u64 (b0 : Nat)) := cell_of_heap HXA.out 0
  have x1 : W.cell? ⟨w.heap.size, 1, none⟩ = some (.int .u64 (b1 : Nat)) := cell_of_heap HXA.out 1
  have x2 : W.cell? ⟨w.heap.size, 2, none⟩ = some (.int .u64 (b2 : Nat)) := cell_of_heap HXA.out 2
  have x3 : W.cell? ⟨w.heap.size, 3, none⟩ = some (.int .u64 (b3 : Nat)) := cell_of_heap HXA.out 3
  have z0 : W.cell? ⟨w2.heap.size, 0, none⟩ = some (.int .i64 c) := cell_of_heap HWA.out 0
  have z1 : W.cell? ⟨w2.heap.size, 1, none⟩ = some (.string s) := cell_of_heap HWA.out 1
  have z2 : W.cell? ⟨w2.heap.size, 2, none⟩ = some (.int .i64 bs) := cell_of_heap HWA.out 2
  have z3 : W.cell? ⟨w2.heap.size, 3, none⟩ = some (.int .i64 wd) := cell_of_heap HWA.out 3
  have z4 : W.cell? ⟨w2.heap.size, 4, none⟩ = some (.int .i64 p) := cell_of_heap HWA.out 4
  have z5 : W.cell? ⟨w2.heap.size, 5, none⟩ = some (.int .i64 x) := cell_of_heap HWA.out 5
  have z6 : W.cell? ⟨w2.heap.size, 6, none⟩ = some (.int .i64 l) := cell_of_heap HWA.out 6
  have z7 : W.cell? ⟨w2.heap.size, 7, none⟩ = some (.int .i64 m) := cell_of_heap HWA.out 7
  have z8 : W.cell? ⟨w2.heap.size, 8, none⟩ = some (.int .i64 y) := cell_of_heap HWA.out 8
  have z9 : W.cell? ⟨w2.heap.size, 9, none⟩ = some (.bool d) := cell_of_heap HWA.out 9
  have y0 : W.cell? ⟨w.heap.size + 1, 0, none⟩ = some (.int .i64 0) := cell_of_heap HRA.out 0
  have f0 := free_of_heap HRA.out 0
  have y1 : W.cell? ⟨w.heap.size + 1, 1, none⟩ = some (.string ⟨#[]⟩) := cell_of_heap HRA.out 1
  have f1 := free_of_heap HRA.out 1
  have y2 : W.cell? ⟨w.heap.size + 1, 2, none⟩ = some (.int .i64 0) := cell_of_heap HRA.out 2
  have f2 := free_of_heap HRA.out 2
  have y3 : W.cell? ⟨w.heap.size + 1, 3, none⟩ = some (.int .i64 0) := cell_of_heap HRA.out 3
  have f3 := free_of_heap HRA.out 3
  have y4 : W.cell? ⟨w.heap.size + 1, 4, none⟩ = some (.int .i64 0) := cell_of_heap HRA.out 4
  have f4 := free_of_heap HRA.out 4
  have y5 : W.cell? ⟨w.heap.size + 1, 5, none⟩ = some (.int .i64 0) := cell_of_heap HRA.out 5
  have f5 := free_of_heap HRA.out 5
  have y6 : W.cell? ⟨w.heap.size + 1, 6, none⟩ = some (.int .i64 0) := cell_of_heap HRA.out 6
  have f6 := free_of_heap HRA.out 6
  have y7 : W.cell? ⟨w.heap.size + 1, 7, none⟩ = some (.int .i64 0) := cell_of_heap HRA.out 7
  have f7 := free_of_heap HRA.out 7
  have y8 : W.cell? ⟨w.heap.size + 1, 8, none⟩ = some (.int .i64 0) := cell_of_heap HRA.out 8
  have f8 := free_of_heap HRA.out 8
  have y9 : W.cell? ⟨w.heap.size + 1, 9, none⟩ = some (.bool false) := cell_of_heap HRA.out 9
  have f9 := free_of_heap HRA.out 9
  go_region
  all_goals
    go_wp2
    obtain ⟨W2, hW2, k1, k2, k3, k4⟩ := sto10 HRA.out (.int .i64 c) (.string s) (.int .i64 bs) (.int .i64 wd) (.int .i64 p) (.int .i64 x) (.int .i64 l) (.int .i64 m) (.int .i64 y) (.bool d)
    rw [← hW2]
    exact bodyPost_ret (results_ct rfl _ _ (w.heap.size + 1) 88 _ _ _ rfl k1 Tryz.underlying88 rfl (by kernel_rfl)) rfl ⟨rfl, (k4 _ _ (by omega) HBA.out).drew⟩
end Go.Proofs.YtpodpdopgdkdkaaGreatDoor
