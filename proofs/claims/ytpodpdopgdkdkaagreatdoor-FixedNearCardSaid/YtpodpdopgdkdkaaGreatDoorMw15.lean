/- Comparing patterns of four words: they are equal just if all words are. No conditions. · binary.Unpack. No conditions. -/
import Derived.Test.YtpodpdopgdkdkaaGreatDoorMw12
import Derived.Test.YtpodpdopgdkdkaaGreatDoorMw13
import Derived.Test.YtpodpdopgdkdkaaGreatDoorMw14
set_option linter.unusedVariables false
set_option linter.unusedSimpArgs false
namespace Go.Proofs.YtpodpdopgdkdkaaGreatDoor
open Go.RowKit
theorem equalIn_gen4 {P : Program} (w : World) (d : Nat) (t e : TypeId) (ht : P.underlying t = some (.array 4 e)) (he : P.underlying e = some (.int .u64)) (hsz : ∀ w, (sizeOf e).run P w = .ok 1 w) (a0 a1 a2 a3 b0 b1 b2 b3 : Int) :
    (Op.equalIn (d + 2) t (.agg #[.int .u64 a0, .int .u64 a1, .int .u64 a2, .int .u64 a3]) (.agg #[.int .u64 b0, .int .u64 b1, .int .u64 b2, .int .u64 b3])).run P w = .ok (a0 == b0 && (a1 == b1 && (a2 == b2 && a3 == b3))) w := by
  have pe : ∀ a b : Int, (Op.equalIn (d + 1) e (.int .u64 a) (.int .u64 b)).run P w = .ok (a == b) w := fun a b => by
    rw [run_equalIn_int w d e .u64 .u64 _ _ he]; try simp
  have pp : ∀ i : Nat, i < 4 → (part e #[.int .u64 a0, .int .u64 a1, .int .u64 a2, .int .u64 a3] (i * 1)).run P w = .ok (.int .u64 ([a0, a1, a2, a3].getD i 0)) w ∧ (part e #[.int .u64 b0, .int .u64 b1, .int .u64 b2, .int .u64 b3] (i * 1)).run P w = .ok (.int .u64 ([b0, b1, b2, b3].getD i 0)) w := fun i hi => by
    rcases (show i = 0 ∨ i = 1 ∨ i = 2 ∨ i = 3 by omega) with rfl | rfl | rfl | rfl <;> constructor <;> simp [part, isAgg, run_underlying he]
  have hall : (a0 == b0 && (a1 == b1 && (a2 == b2 && a3 == b3))) = (List.range' 0 4 1).all (fun i => [a0, a1, a2, a3].getD i 0 == [b0, b1, b2, b3].getD i 0) := by
    show _ = List.all [0, 1, 2, 3] _
    simp
  rw [hall]
  rw [Op.equalIn]
  simp only [Sem.run_bind, run_underlying ht, Result.andThen_ok, hsz, Std.Legacy.Range.forIn_eq_forIn_range', Std.Legacy.Range.size, Nat.sub_zero, Nat.add_sub_cancel, Nat.div_one]
  have hl : ∀ i ∈ List.range' 0 4 1, i < 4 := fun i hi => by simpa using (List.mem_range'_1.1 hi).2
  generalize List.range' 0 4 1 = l at hl ⊢
  clear hall
  induction l with
  | nil => simp
  | cons i l ih =>
    obtain ⟨pa, pb⟩ := pp i (hl i (by simp))
    simp only [List.forIn_cons, Sem.run_bind, pa, pb, pe, Result.andThen_ok, List.all_cons]
    cases hq : ([a0, a1, a2, a3].getD i 0 == [b0, b1, b2, b3].getD i 0)
    · simp only [Bool.not_false, if_true, Sem.run_pure, Result.andThen_ok, Bool.false_and]
    · simp only [Bool.not_true, Bool.false_eq_true, if_false, Sem.run_pure, Result.andThen_ok, Bool.true_and]
      exact ih fun j hj => hl j (by simp [hj])
theorem bits_eqIn (w : World) (a0 a1 a2 a3 b0 b1 b2 b3 : Int) : (Op.equalIn 10000 24 (.agg #[.int .u64 a0, .int .u64 a1, .int .u64 a2, .int .u64 a3]) (.agg #[.int .u64 b0, .int .u64 b1, .int .u64 b2, .int .u64 b3])).run Tryz.prog w = .ok (a0 == b0 && (a1 == b1 && (a2 == b2 && a3 == b3))) w :=
  equalIn_gen4 w 9998 24 22 Tryz.underlying24 Tryz.underlying22 (fun w => by kernel_rfl) a0 a1 a2 a3 b0 b1 b2 b3
theorem bits_eqlG (w : World) (a0 a1 a2 a3 b0 b1 b2 b3 : Int) : (binOp .eql 24 (.agg #[.int .u64 a0, .int .u64 a1, .int .u64 a2, .int .u64 a3]) (.agg #[.int .u64 b0, .int .u64 b1, .int .u64 b2, .int .u64 b3])).run Tryz.prog w = .ok (.bool (a0 == b0 && (a1 == b1 && (a2 == b2 && a3 == b3)))) w := by
  rw [run_eql_struct, equalIn_gen4 w 9998 24 22 Tryz.underlying24 Tryz.underlying22 (fun w => by kernel_rfl)]
  rfl
end Go.Proofs.YtpodpdopgdkdkaaGreatDoor
namespace Go.Proofs.YtpodpdopgdkdkaaGreatDoor
set_option linter.unusedVariables false
set_option linter.unusedSimpArgs false
open Go.RowKit
/-- What Unpack tells of a pattern V of a format of base 2. -/
def UnpRes (V P X : Nat) (L : Int) (w : World) (e : Ending) (w' : World) : Prop := Below w.heap.size w w' ∧
  (V / 2 ^ (P - 1) % 2 ^ X < 2 ^ X - 1 → ∃ c0 c1 c2 c3 : Nat, W64 [c0, c1, c2, c3] ∧ val [c0, c1, c2, c3] = (if V / 2 ^ (P - 1) % 2 ^ X = 0 then V % 2 ^ (P - 1) else V % 2 ^ (P - 1) ||| 2 ^ (P - 1)) ∧
    e = .returned (.tuple #[.agg #[.int .i64 1, .bool (((V / 2 ^ (P + X - 1) % 2 : Nat) : Int) == 1), .bool false, .int .i64 (L + max (((V / 2 ^ (P - 1) % 2 ^ X : Nat) : Int) - 1) 0), .int .u64 (c0 : Nat), .int .u64 (c1 : Nat), .int .u64 (c2 : Nat), .int .u64 (c3 : Nat)], .int .i64 0])) ∧
  (¬ V / 2 ^ (P - 1) % 2 ^ X < 2 ^ X - 1 → ∃ (k : Int) (sg si : Bool) (c0 c1 c2 c3 : Nat), (k = 2 ∨ k = 3) ∧
    e = .returned (.tuple #[.agg #[.int .i64 k, .bool sg, .bool si, .int .i64 0, .int .u64 (c0 : Nat), .int .u64 (c1 : Nat), .int .u64 (c2 : Nat), .int .u64 (c3 : Nat)], .int .i64 0]))
/-- The first word of a pattern. -/
theorem bits_first (w : World) (a0 a1 a2 a3 : Int) : (Instr.index 24 (.agg #[.int .u64 a0, .int .u64 a1, .int .u64 a2, .int .u64 a3]) (.int .i64 0)).run Tryz.prog w = .ok (.int .u64 a0) w := by
  have hsz : ∀ w, (sizeOf 22).run Tryz.prog w = .ok 1 w := fun w => by kernel_rfl
  simp [Instr.index, asIntOf, run_underlying Tryz.underlying24, hsz, part, isAgg, run_underlying Tryz.underlying22]
set_option maxRecDepth 100000 in
set_option maxHeartbeats 2500000 in
theorem unpack_fin (n c L m y : Int) (P X : Nat) (hL : -20000 ≤ L ∧ L ≤ 0) (hP : 2 ≤ P) (hP2 : P ≤ 241) (hX1 : 1 ≤ X) (hX : X ≤ 15) (s : ByteArray) (d : Bool) (b0 b1 b2 b3 : Nat) (hb : W64 [b0, b1, b2, b3]) (w : World)
    (hof : ∀ w, Calls Tryz.prog 60 #[.int .i64 n, bitsV b0 b1 b2 b3] w fun e w' => e = .returned (.tuple #[.agg (infV c s 2 ((P + X : Nat) : Int) (P : Nat) (X : Nat) L m y d), .bool true]) ∧ Below w.heap.size w w') :
    Calls Tryz.prog 23 #[.int .i64 n, bitsV b0 b1 b2 b3] w (UnpRes (val [b0, b1, b2, b3]) P X L w) := by
  have HF1 := Lib.hid (fun W => bfield_calls W b0 b1 b2 b3 hb 0 (P - 1) (by omega) (by omega))
  have HF2 := Lib.hid (fun W => bfield_calls W b0 b1 b2 b3 hb (P - 1) X (by omega) (by omega))
  have HBT := Lib.hid (fun W => limBit_calls W b0 b1 b2 b3 hb (P + X - 1) (by omega))
  obtain ⟨V, hV⟩ : ∃ V, val [b0, b1, b2, b3] = V := ⟨_, rfl⟩
  rw [hV] at HF1 HF2 HBT ⊢
  clear hV
  unfold bitsV infV at *
  have HO := Lib.hid hof
  have HBW := Lib.hid hb
  have HL := Lib.hid hL
  have HPX := Lib.hid (And.intro (And.intro hP hP2) (And.intro hX1 hX))
  clear hL hof hb hP hP2 hX1 hX
  obtain ⟨p, hp⟩ : ∃ p, P - 1 = p := ⟨_, rfl⟩
  obtain ⟨q, hq⟩ : ∃ q, P + X - 1 = q := ⟨_, rfl⟩
  obtain ⟨W8, hW8⟩ : ∃ W8, P + X = W8 := ⟨_, rfl⟩
  have e1 : IntKind.i64.wrap ((P : Int) - 1) = (p : Nat) := by have := HPX.out; rw [IntWalk.i64_in _ (by omega)]; omega
  have e2 : IntKind.i64.wrap ((W8 : Int) - 1) = (q : Nat) := by have := HPX.out; rw [IntWalk.i64_in _ (by omega)]; omega
  rw [hp] at HF1 HF2
  rw [hq] at HBT
  rw [hW8] at HO
  have HP := Lib.hid hp
  have HQ := Lib.hid (And.intro hq hW8)
  clear hp hq hW8
  go_enter Tryz.func23, Tryz.ntmps23
  go_wp2_with fail
  have HB0 := Lib.hid (below_alloc (below_alloc (Below.refl w.heap.size w) (.cells #[.int .u64 (b0 : Nat), .int .u64 (b1 : Nat), .int .u64 (b2 : Nat), .int .u64 (b3 : Nat)] 24)) (.cells #[.int .i64 0, .bool false, .bool false, .int .i64 0, .int .u64 0, .int .u64 0, .int .u64 0, .int .u64 0] 31))
  have HP0 : Hid ((w.alloc (.cells #[.int .u64 (b0 : Nat), .int .u64 (b1 : Nat), .int .u64 (b2 : Nat), .int .u64 (b3 : Nat)] 24)).heap[w.heap.size]? = _) := Lib.hid (heap_new w (.cells #[.int .u64 (b0 : Nat), .int .u64 (b1 : Nat), .int .u64 (b2 : Nat), .int .u64 (b3 : Nat)] 24))
  have HS0 : (w.alloc (.cells #[.int .u64 (b0 : Nat), .int .u64 (b1 : Nat), .int .u64 (b2 : Nat), .int .u64 (b3 : Nat)] 24)).heap.size = w.heap.size + 1 := by simp
  generalize (w.alloc (.cells #[.int .u64 (b0 : Nat), .int .u64 (b1 : Nat), .int .u64 (b2 : Nat), .int .u64 (b3 : Nat)] 24)) = v0 at HB0 HP0 HS0 ⊢
  have HR0 := heap_new v0 (.cells #[.int .i64 0, .bool false, .bool false, .int .i64 0, .int .u64 0, .int .u64 0, .int .u64 0, .int .u64 0] 31)
  have HP1 := Lib.hid ((heap_keep v0 (.cells #[.int .i64 0, .bool false, .bool false, .int .i64 0, .int .u64 0, .int .u64 0, .int .u64 0, .int .u64 0] 31) (lt_of_heap HP0.out)).trans HP0.out)
  rw [HS0] at HR0
  generalize (v0.alloc (.cells #[.int .i64 0, .bool false, .bool false, .int .i64 0, .int .u64 0, .int .u64 0, .int .u64 0, .int .u64 0] 31)) = v1 at HB0 HR0 HP1 ⊢
  refine (HO.out _).mono ?_
  rintro e w1 ⟨rfl, hb1⟩
  have HB1 := Lib.hid (below_then HB0.out hb1)
  have HP2 := Lib.hid (below_heap hb1 HP1.out)
  have HR2 := Lib.hid (below_heap hb1 HR0)
  clear hb1 HB0 HP1 HR0 HO HP0 HS0
  go_wp2_with (first | ((with_reducible refine gate_store 88 ?_); refine st_box 88 88 HB1.out Tryz.sizeInfo (fun W hBW hkW hXW => ?_) (hn := rfl) (h1 := by simp [Value.oneCell']); have HP3 := Lib.hid (below_heap hkW HP2.out); have HR3 := Lib.hid (below_heap hkW HR2.out); have HI3 := Lib.hid hXW; have HB3 := Lib.hid hBW; have gI : w.heap.size + 1 < w1.heap.size := lt_of_heap HR2.out; obtain ⟨gi, hgi⟩ : ∃ g, w1.heap.size = g := ⟨_, rfl⟩; rw [hgi] at HI3 gI ⊢; clear hBW hkW hXW HP2 HR2 HB1; have x0 : W.cell? ⟨w.heap.size, 0, none⟩ = some (.int .u64 (b0 : Nat)) := cell_of_heap HP3.out 0; have x1 : W.cell? ⟨w.heap.size, 1, none⟩ = some (.int .u64 (b1 : Nat)) := cell_of_heap HP3.out 1; have x2 : W.cell? ⟨w.heap.size, 2, none⟩ = some (.int .u64 (b2 : Nat)) := cell_of_heap HP3.out 2; have x3 : W.cell? ⟨w.heap.size, 3, none⟩ = some (.int .u64 (b3 : Nat)) := cell_of_heap HP3.out 3; have z0 : W.cell? ⟨gi, 0, none⟩ = some (.int .i64 c) := cell_of_heap HI3.out 0; have z1 : W.cell? ⟨gi, 1, none⟩ = some (.string s) := cell_of_heap HI3.out 1; have z2 : W.cell? ⟨gi, 2, none⟩ = some (.int .i64 2) := cell_of_heap HI3.out 2; have z3 : W.cell? ⟨gi, 3, none⟩ = some (.int .i64 (W8 : Nat)) := cell_of_heap HI3.out 3; have z4 : W.cell? ⟨gi, 4, none⟩ = some (.int .i64 (P : Nat)) := cell_of_heap HI3.out 4; have z5 : W.cell? ⟨gi, 5, none⟩ = some (.int .i64 (X : Nat)) := cell_of_heap HI3.out 5; have z6 : W.cell? ⟨gi, 6, none⟩ = some (.int .i64 L) := cell_of_heap HI3.out 6; have z7 : W.cell? ⟨gi, 7, none⟩ = some (.int .i64 m) := cell_of_heap HI3.out 7; have z8 : W.cell? ⟨gi, 8, none⟩ = some (.int .i64 y) := cell_of_heap HI3.out 8; have z9 : W.cell? ⟨gi, 9, none⟩ = some (.bool d) := cell_of_heap HI3.out 9) | fail)
  refine (HF1.out _).mono ?_
  rintro e w4 ⟨f0, f1, f2, f3, hfw, hfv, rfl, hb4⟩
  unfold bitsV
  have HFW := Lib.hid (And.intro hfw hfv)
  have HB4 := Lib.hid (below_then HB3.out hb4)
  have HP4 := Lib.hid (below_heap hb4 HP3.out)
  have HR4 := Lib.hid (below_heap hb4 HR3.out)
  have HI4 := Lib.hid (below_heap hb4 HI3.out)
  clear hfw hfv hb4 HB3 HP3 HR3 HI3 HF1 x0 x1 x2 x3 z0 z1 z2 z3 z4 z5 z6 z7 z8 z9
  go_wp2_with (first | ((with_reducible refine gate_store 24 ?_); refine st_box 24 24 HB4.out (n := 4) (by kernel_rfl) (fun W5 hBW hkW hXW => ?_) (hn := rfl) (h1 := by simp [Value.oneCell']); have HP5 := Lib.hid (below_heap hkW HP4.out); have HR5 := Lib.hid (below_heap hkW HR4.out); have HI5 := Lib.hid (below_heap hkW HI4.out); have HF5 := Lib.hid hXW; have HB5 := Lib.hid hBW; have gF : gi < w4.heap.size := lt_of_heap HI4.out; obtain ⟨gf, hgf⟩ : ∃ g, w4.heap.size = g := ⟨_, rfl⟩; rw [hgf] at HF5 gF ⊢; clear hBW hkW hXW HP4 HR4 HI4 HB4; have x0 : W5.cell? ⟨w.heap.size, 0, none⟩ = some (.int .u64 (b0 : Nat)) := cell_of_heap HP5.out 0; have x1 : W5.cell? ⟨w.heap.size, 1, none⟩ = some (.int .u64 (b1 : Nat)) := cell_of_heap HP5.out 1; have x2 : W5.cell? ⟨w.heap.size, 2, none⟩ = some (.int .u64 (b2 : Nat)) := cell_of_heap HP5.out 2; have x3 : W5.cell? ⟨w.heap.size, 3, none⟩ = some (.int .u64 (b3 : Nat)) := cell_of_heap HP5.out 3; have z0 : W5.cell? ⟨gi, 0, none⟩ = some (.int .i64 c) := cell_of_heap HI5.out 0; have z1 : W5.cell? ⟨gi, 1, none⟩ = some (.string s) := cell_of_heap HI5.out 1; have z2 : W5.cell? ⟨gi, 2, none⟩ = some (.int .i64 2) := cell_of_heap HI5.out 2; have z3 : W5.cell? ⟨gi, 3, none⟩ = some (.int .i64 (W8 : Nat)) := cell_of_heap HI5.out 3; have z4 : W5.cell? ⟨gi, 4, none⟩ = some (.int .i64 (P : Nat)) := cell_of_heap HI5.out 4; have z5 : W5.cell? ⟨gi, 5, none⟩ = some (.int .i64 (X : Nat)) := cell_of_heap HI5.out 5; have z6 : W5.cell? ⟨gi, 6, none⟩ = some (.int .i64 L) := cell_of_heap HI5.out 6; have z7 : W5.cell? ⟨gi, 7, none⟩ = some (.int .i64 m) := cell_of_heap HI5.out 7; have z8 : W5.cell? ⟨gi, 8, none⟩ = some (.int .i64 y) := cell_of_heap HI5.out 8; have z9 : W5.cell? ⟨gi, 9, none⟩ = some (.bool d) := cell_of_heap HI5.out 9) | fail)
  refine (HF2.out _).mono ?_
  rintro e w6 ⟨e0, e1, e2, e3, hew, hev, rfl, hb6⟩
  have HE := Lib.hid hev
  have HB6 := Lib.hid (below_then HB5.out hb6)
  have HP6 := Lib.hid (below_heap hb6 HP5.out)
  have HR6 := Lib.hid (below_heap hb6 HR5.out)
  have HI6 := Lib.hid (below_heap hb6 HI5.out)
  have HF6 := Lib.hid (below_heap hb6 HF5.out)
  have hlt : val [e0, e1, e2, e3] < 2 ^ 15 := by rw [hev]; exact Nat.lt_of_lt_of_le (Nat.mod_lt _ (Nat.two_pow_pos X)) (Nat.pow_le_pow_right (by decide) HPX.out.2.2)
  have he0 : e0 < 2 ^ 15 := by rw [val4, B64_val] at hlt; omega
  have HE0 : Hid (e0 = val [e0, e1, e2, e3]) := Lib.hid (by rw [val4, B64_val] at hlt ⊢; omega)
  have hwe : IntKind.i64.wrap (e0 : Int) = (e0 : Int) := IntWalk.i64_in _ (by omega)
  clear hlt hev hew hb6 HB5 HP5 HR5 HI5 HF5 HF2 x0 x1 x2 x3 z0 z1 z2 z3 z4 z5 z6 z7 z8 z9
  have x0 : w6.cell? ⟨w.heap.size, 0, none⟩ = some (.int .u64 (b0 : Nat)) := cell_of_heap HP6.out 0
  have x1 : w6.cell? ⟨w.heap.size, 1, none⟩ = some (.int .u64 (b1 : Nat)) := cell_of_heap HP6.out 1
  have x2 : w6.cell? ⟨w.heap.size, 2, none⟩ = some (.int .u64 (b2 : Nat)) := cell_of_heap HP6.out 2
  have x3 : w6.cell? ⟨w.heap.size, 3, none⟩ = some (.int .u64 (b3 : Nat)) := cell_of_heap HP6.out 3
  have z0 : w6.cell? ⟨gi, 0, none⟩ = some (.int .i64 c) := cell_of_heap HI6.out 0
  have z1 : w6.cell? ⟨gi, 1, none⟩ = some (.string s) := cell_of_heap HI6.out 1
  have z2 : w6.cell? ⟨gi, 2, none⟩ = some (.int .i64 2) := cell_of_heap HI6.out 2
  have z3 : w6.cell? ⟨gi, 3, none⟩ = some (.int .i64 (W8 : Nat)) := cell_of_heap HI6.out 3
  have z4 : w6.cell? ⟨gi, 4, none⟩ = some (.int .i64 (P : Nat)) := cell_of_heap HI6.out 4
  have z5 : w6.cell? ⟨gi, 5, none⟩ = some (.int .i64 (X : Nat)) := cell_of_heap HI6.out 5
  have z6 : w6.cell? ⟨gi, 6, none⟩ = some (.int .i64 L) := cell_of_heap HI6.out 6
  have z7 : w6.cell? ⟨gi, 7, none⟩ = some (.int .i64 m) := cell_of_heap HI6.out 7
  have z8 : w6.cell? ⟨gi, 8, none⟩ = some (.int .i64 y) := cell_of_heap HI6.out 8
  have z9 : w6.cell? ⟨gi, 9, none⟩ = some (.bool d) := cell_of_heap HI6.out 9
  unfold bitsV
  have hix := bits_first w6 e0 e1 e2 e3
  go_wp2_with fail
  refine (HBT.out _).mono ?_
  rintro e w7 ⟨rfl, hb7⟩
  have HB7 := Lib.hid (below_then HB6.out hb7)
  have HR7 := Lib.hid (below_heap hb7 HR6.out)
  have HI7 := Lib.hid (below_heap hb7 HI6.out)
  have HF7 := Lib.hid (below_heap hb7 HF6.out)
  have HP7 := Lib.hid (below_heap hb7 HP6.out)
  clear hb7 HB6 HR6 HI6 HF6 HP6 HBT x0 x1 x2 x3 z0 z1 z2 z3 z4 z5 z6 z7 z8 z9
  obtain ⟨sb, hsb⟩ : ∃ sb, V / 2 ^ q % 2 = sb := ⟨_, rfl⟩
  rw [hsb]
  have HSB := Lib.hid hsb
  clear hsb
  go_wp2_with (first | ((with_reducible refine gate_store 31 ?_); refine st_box 31 31 HB7.out (n := 8) (by kernel_rfl) (fun W8w hBW hkW hXW => ?_) (hn := rfl) (h1 := by simp [Value.oneCell']); have HP8 := Lib.hid (below_heap hkW HP7.out); have HR8 := Lib.hid (below_heap hkW HR7.out); have HI8 := Lib.hid (below_heap hkW HI7.out); have HF8 := Lib.hid (below_heap hkW HF7.out); have HD8 := Lib.hid hXW; have HB8 := Lib.hid hBW; have gD : gf < w7.heap.size := lt_of_heap HF7.out; obtain ⟨gd, hgd⟩ : ∃ g, w7.heap.size = g := ⟨_, rfl⟩; rw [hgd] at HD8 gD ⊢; clear hBW hkW hXW HP7 HR7 HI7 HF7 HB7; refine Hid.out ?_) | fail)
  obtain ⟨sg, hsg⟩ : ∃ sg : Bool, ((sb : Int) == 1) = sg := ⟨_, rfl⟩
  rw [hsg] at HD8 ⊢
  have HSG := Lib.hid hsg
  clear hsg hwe hix
  refine Lib.hid ?_
  have z5 : W8w.cell? ⟨gi, 5, none⟩ = some (.int .i64 (X : Nat)) := cell_of_heap HI8.out 5
  have z6 : W8w.cell? ⟨gi, 6, none⟩ = some (.int .i64 L) := cell_of_heap HI8.out 6
  have y0 : W8w.cell? ⟨gf, 0, none⟩ = some (.int .u64 (f0 : Nat)) := cell_of_heap HF8.out 0
  have y1 : W8w.cell? ⟨gf, 1, none⟩ = some (.int .u64 (f1 : Nat)) := cell_of_heap HF8.out 1
  have y2 : W8w.cell? ⟨gf, 2, none⟩ = some (.int .u64 (f2 : Nat)) := cell_of_heap HF8.out 2
  have y3 : W8w.cell? ⟨gf, 3, none⟩ = some (.int .u64 (f3 : Nat)) := cell_of_heap HF8.out 3
  have d0 : W8w.cell? ⟨gd, 0, none⟩ = some (.int .i64 1) := cell_of_heap HD8.out 0
  have fd0 := free_of_heap HD8.out 0
  have d1 : W8w.cell? ⟨gd, 1, none⟩ = some (.bool sg) := cell_of_heap HD8.out 1
  have fd1 := free_of_heap HD8.out 1
  have d2 : W8w.cell? ⟨gd, 2, none⟩ = some (.bool false) := cell_of_heap HD8.out 2
  have fd2 := free_of_heap HD8.out 2
  have d3 : W8w.cell? ⟨gd, 3, none⟩ = some (.int .i64 0) := cell_of_heap HD8.out 3
  have fd3 := free_of_heap HD8.out 3
  have d4 : W8w.cell? ⟨gd, 4, none⟩ = some (.int .u64 0) := cell_of_heap HD8.out 4
  have fd4 := free_of_heap HD8.out 4
  have d5 : W8w.cell? ⟨gd, 5, none⟩ = some (.int .u64 0) := cell_of_heap HD8.out 5
  have fd5 := free_of_heap HD8.out 5
  have d6 : W8w.cell? ⟨gd, 6, none⟩ = some (.int .u64 0) := cell_of_heap HD8.out 6
  have fd6 := free_of_heap HD8.out 6
  have d7 : W8w.cell? ⟨gd, 7, none⟩ = some (.int .u64 0) := cell_of_heap HD8.out 7
  have fd7 := free_of_heap HD8.out 7
  have n1 : gf ≠ gd := by omega
  have n2 : gi ≠ gd := by omega
  have n3 : gd ≠ w.heap.size + 1 := by omega
  have hX0 : (0 : Int) ≤ (X : Nat) := by omega
  have hX64 : ((X : Nat) : Int) ≤ 64 := by have := HPX.out; omega
  obtain ⟨T, hT⟩ : ∃ T, 2 ^ X = T := ⟨_, rfl⟩
  have hT2 : T ≤ 2 ^ 15 := by rw [← hT]; exact Nat.pow_le_pow_right (by decide) HPX.out.2.2
  have hT3 : 2 ≤ T := by rw [← hT]; exact Nat.pow_le_pow_right (n := 2) (i := 1) (by decide) HPX.out.2.1
  have hw1 : IntKind.i64.wrap ((2 : Int) ^ X) = (T : Nat) := by
    have : ((2 : Int) ^ X) = ((2 ^ X : Nat) : Int) := by push_cast; rfl
    rw [this, hT]; exact IntWalk.i64_in _ (by omega)
  obtain ⟨M, hM⟩ : ∃ M, T - 1 = M := ⟨_, rfl⟩
  have hw2 : IntKind.i64.wrap ((T : Int) - 1) = (M : Nat) := by rw [IntWalk.i64_in _ (by omega)]; omega
  have HT := Lib.hid (And.intro (And.intro hT hT2) (And.intro hT3 hM))
  have hLw : IntKind.i64.wrap L = L := IntWalk.i64_in _ (by have := HL.out; omega)
  clear hT hT2 hT3
  by_cases hlt : e0 < M
  · rcases Nat.eq_zero_or_pos e0 with he | hpos
    · subst he
      have hM0 : (0 : Int) < (M : Nat) := by omega
      clear hM hlt
      go_wp2_with (first | ((with_reducible refine gate_load 24 ?_); refine Hid.out ?_) | fail)
      refine Lib.hid ?_
      have hmx : wrap64 (L + max (-1) 0) = L := by have := HL.out; unfold wrap64; rw [show max (-1 : Int) 0 = 0 from rfl]; omega
      rw [hmx]
      have hD9 : (W8w.setCell ⟨gd, 3, none⟩ (.int .i64 (L))).heap[gd]? = some (.cells #[.int .i64 1, .bool sg, .bool false, .int .i64 (L), .int .u64 0, .int .u64 0, .int .u64 0, .int .u64 0] 31 (0, 0)) := heap_set HD8.out 3 _
      have hF9 := (heap_set_other (w := W8w) n1 3 (.int .i64 (L))).trans HF8.out
      have hR9 := (heap_set_other (w := W8w) n3.symm 3 (.int .i64 (L))).trans HR8.out
      have hB9 : Below w.heap.size w (W8w.setCell ⟨gd, 3, none⟩ (.int .i64 (L))) := HB8.out.setCell (by show w.heap.size ≤ gd; omega) _
      generalize (W8w.setCell ⟨gd, 3, none⟩ (.int .i64 (L))) = W9 at hD9 hF9 hR9 hB9 ⊢
      have HD9 := Lib.hid hD9
      have HF9 := Lib.hid hF9
      have HR9 := Lib.hid hR9
      have HB9 := Lib.hid hB9
      clear hD9 hF9 hR9 hB9
      clear z5 z6 y0 y1 y2 y3 d0 d1 d2 d3 d4 d5 d6 d7 fd0 fd1 fd2 fd3 fd4 fd5 fd6 fd7
      have d4 := cell_of_heap HD9.out 4
      have d5 := cell_of_heap HD9.out 5
      have d6 := cell_of_heap HD9.out 6
      have d7 := cell_of_heap HD9.out 7
      have fd4 := free_of_heap HD9.out 4
      have fd5 := free_of_heap HD9.out 5
      have fd6 := free_of_heap HD9.out 6
      have fd7 := free_of_heap HD9.out 7
      simp at d4 d5 d6 d7
      go_wp2_with (first | ((with_reducible refine gate_load 24 ?_); go_must (refine ld_row 24 gf 24 HF9.out Tryz.underlying24 (n := 4) (by kernel_rfl) ?_ (hn := rfl))) | ((with_reducible refine gate_load 31 ?_); refine Hid.out ?_) | fail)
      refine Lib.hid ?_
      have hD10 : ((((W9.setCell ⟨gd, 4, none⟩ (.int .u64 (f0 : Nat))).setCell ⟨gd, 5, none⟩ (.int .u64 (f1 : Nat))).setCell ⟨gd, 6, none⟩ (.int .u64 (f2 : Nat))).setCell ⟨gd, 7, none⟩ (.int .u64 (f3 : Nat))).heap[gd]? = some (.cells #[.int .i64 1, .bool sg, .bool false, .int .i64 (L), .int .u64 (f0 : Nat), .int .u64 (f1 : Nat), .int .u64 (f2 : Nat), .int .u64 (f3 : Nat)] 31 (0, 0)) := heap_set (heap_set (heap_set (heap_set HD9.out 4 _) 5 _) 6 _) 7 _
      have hR10 : ((((W9.setCell ⟨gd, 4, none⟩ (.int .u64 (f0 : Nat))).setCell ⟨gd, 5, none⟩ (.int .u64 (f1 : Nat))).setCell ⟨gd, 6, none⟩ (.int .u64 (f2 : Nat))).setCell ⟨gd, 7, none⟩ (.int .u64 (f3 : Nat))).heap[w.heap.size + 1]? = _ := (heap_set_other n3.symm _ _).trans ((heap_set_other n3.symm _ _).trans ((heap_set_other n3.symm _ _).trans ((heap_set_other n3.symm _ _).trans HR9.out)))
      have hB10 : Below w.heap.size w ((((W9.setCell ⟨gd, 4, none⟩ (.int .u64 (f0 : Nat))).setCell ⟨gd, 5, none⟩ (.int .u64 (f1 : Nat))).setCell ⟨gd, 6, none⟩ (.int .u64 (f2 : Nat))).setCell ⟨gd, 7, none⟩ (.int .u64 (f3 : Nat))) := (((HB9.out.setCell (by show w.heap.size ≤ gd; omega) _).setCell (by show w.heap.size ≤ gd; omega) _).setCell (by show w.heap.size ≤ gd; omega) _).setCell (by show w.heap.size ≤ gd; omega) _
      generalize ((((W9.setCell ⟨gd, 4, none⟩ (.int .u64 (f0 : Nat))).setCell ⟨gd, 5, none⟩ (.int .u64 (f1 : Nat))).setCell ⟨gd, 6, none⟩ (.int .u64 (f2 : Nat))).setCell ⟨gd, 7, none⟩ (.int .u64 (f3 : Nat))) = W10 at hD10 hR10 hB10 ⊢
      have HD10 := Lib.hid hD10
      have HR10 := Lib.hid hR10
      have HB10 := Lib.hid hB10
      clear hD10 hR10 hB10
      clear d4 d5 d6 d7 fd4 fd5 fd6 fd7
      go_wp2_with (first | ((with_reducible refine gate_load 31 ?_); go_must (refine ld_row 31 gd 31 HD10.out Tryz.underlying31 (n := 8) (by kernel_rfl) ?_ (hn := rfl))) | ((with_reducible refine gate_store 31 ?_); go_must (refine st_row 31 (w.heap.size + 1) 31 HR10.out (n := 8) (by kernel_rfl) ?_ (hn := rfl) (h1 := by simp [Value.oneCell']))) | fail)
      refine bodyPost_ret (results_ct rfl _ _ (w.heap.size + 1) 31 _ _ _ rfl (setRow_heap _ _ _ _ _ _ HR10.out) Tryz.underlying31 rfl (by kernel_rfl)) rfl ⟨below_setRow HB10.out (by omega) _, fun _ => ⟨f0, f1, f2, f3, ?_, ?_, ?_⟩, fun h => (h ?_).elim⟩
      · exact HFW.out.1
      · rw [HP.out, ← HE.out, ← HE0.out, if_pos rfl, HFW.out.2]; simp
      · rw [HP.out, HQ.out.1, ← HE.out, ← HE0.out, HSB.out, HSG.out, show max (((0 : Nat) : Int) - 1) 0 = 0 from rfl, Int.add_zero]; rfl
      · rw [HP.out, ← HE.out, ← HE0.out, HT.out.1.1]; have := HT.out.2.1; omega
    · obtain ⟨k, hk⟩ : ∃ k, e0 - 1 = k := ⟨_, rfl⟩
      have hwk : IntKind.i64.wrap ((e0 : Int) - 1) = (k : Nat) := by rw [IntWalk.i64_in _ (by omega)]; omega
      have hltI : (e0 : Int) < (M : Nat) := by omega
      have hposI : (0 : Int) < (e0 : Nat) := by omega
      have HK := Lib.hid (And.intro hk (And.intro hpos (And.intro hlt he0)))
      have n4 : w.heap.size + 1 ≠ gf := by omega
      clear hM hlt hpos hk he0
      go_wp2_with fail
      have hmx : wrap64 (L + (k : Nat)) = L + (k : Nat) := by have := HL.out; have := HK.out; unfold wrap64; omega
      rw [hmx]
      have hD9 : (W8w.setCell ⟨gd, 3, none⟩ (.int .i64 (L + (k : Nat)))).heap[gd]? = some (.cells #[.int .i64 1, .bool sg, .bool false, .int .i64 (L + (k : Nat)), .int .u64 0, .int .u64 0, .int .u64 0, .int .u64 0] 31 (0, 0)) := heap_set HD8.out 3 _
      have hF9 := (heap_set_other (w := W8w) n1 3 (.int .i64 (L + (k : Nat)))).trans HF8.out
      have hR9 := (heap_set_other (w := W8w) n3.symm 3 (.int .i64 (L + (k : Nat)))).trans HR8.out
      have hB9 : Below w.heap.size w (W8w.setCell ⟨gd, 3, none⟩ (.int .i64 (L + (k : Nat)))) := HB8.out.setCell (by show w.heap.size ≤ gd; omega) _
      generalize (W8w.setCell ⟨gd, 3, none⟩ (.int .i64 (L + (k : Nat)))) = W9 at hD9 hF9 hR9 hB9 ⊢
      have HD9 := Lib.hid hD9
      have HF9 := Lib.hid hF9
      have HR9 := Lib.hid hR9
      have HB9 := Lib.hid hB9
      clear hD9 hF9 hR9 hB9
      clear z5 z6 y0 y1 y2 y3 d0 d1 d2 d3 d4 d5 d6 d7 fd0 fd1 fd2 fd3 fd4 fd5 fd6 fd7
      have y0 : W9.cell? ⟨gf, 0, none⟩ = some (.int .u64 (f0 : Nat)) := cell_of_heap HF9.out 0
      have y1 : W9.cell? ⟨gf, 1, none⟩ = some (.int .u64 (f1 : Nat)) := cell_of_heap HF9.out 1
      have y2 : W9.cell? ⟨gf, 2, none⟩ = some (.int .u64 (f2 : Nat)) := cell_of_heap HF9.out 2
      have y3 : W9.cell? ⟨gf, 3, none⟩ = some (.int .u64 (f3 : Nat)) := cell_of_heap HF9.out 3
      have fy0 := free_of_heap HF9.out 0
      have fy1 := free_of_heap HF9.out 1
      have fy2 := free_of_heap HF9.out 2
      have fy3 := free_of_heap HF9.out 3
      have HLAY := Lib.hid (fun W => blay1_calls W f0 f1 f2 f3 HFW.out.1 p (by have := HPX.out; have := HP.out; omega))
      unfold bitsV at HLAY
      go_region_with (first
        | (go_at_call 64; go_must (refine (bof1_calls _).mono ?_); go_must (rintro e w11 ⟨rfl, hb⟩); have hbv := (⟨hb.os, hb.tape, hb.output, hb.size, hb.block⟩ : Below W9.heap.size W9 w11); have HF11 := Lib.hid (below_heap hbv HF9.out); have HD11 := Lib.hid (below_heap hbv HD9.out); have HR11 := Lib.hid (below_heap hbv HR9.out); have HB11 := Lib.hid (below_then HB9.out hbv); clear hb hbv; have y0 : w11.cell? ⟨gf, 0, none⟩ = some (.int .u64 (f0 : Nat)) := cell_of_heap HF11.out 0; have y1 : w11.cell? ⟨gf, 1, none⟩ = some (.int .u64 (f1 : Nat)) := cell_of_heap HF11.out 1; have y2 : w11.cell? ⟨gf, 2, none⟩ = some (.int .u64 (f2 : Nat)) := cell_of_heap HF11.out 2; have y3 : w11.cell? ⟨gf, 3, none⟩ = some (.int .u64 (f3 : Nat)) := cell_of_heap HF11.out 3; have fy0 := free_of_heap HF11.out 0; have fy1 := free_of_heap HF11.out 1; have fy2 := free_of_heap HF11.out 2; have fy3 := free_of_heap HF11.out 3)
        | (go_at_call 63; go_must (refine (HLAY.out _).mono ?_); go_must (rintro e w12 ⟨c0, c1, c2, c3, hw, hv, rfl, hb⟩); go_must (unfold bitsV); have HC12 := Lib.hid (And.intro hw hv); have HF12 := Lib.hid (below_heap hb HF11.out); have HD12 := Lib.hid (below_heap hb HD11.out); have HR12 := Lib.hid (below_heap hb HR11.out); have HB12 := Lib.hid (below_then HB11.out hb); clear hb hw hv; have y0 : w12.cell? ⟨gf, 0, none⟩ = some (.int .u64 (f0 : Nat)) := cell_of_heap HF12.out 0; have y1 : w12.cell? ⟨gf, 1, none⟩ = some (.int .u64 (f1 : Nat)) := cell_of_heap HF12.out 1; have y2 : w12.cell? ⟨gf, 2, none⟩ = some (.int .u64 (f2 : Nat)) := cell_of_heap HF12.out 2; have y3 : w12.cell? ⟨gf, 3, none⟩ = some (.int .u64 (f3 : Nat)) := cell_of_heap HF12.out 3; have fy0 := free_of_heap HF12.out 0; have fy1 := free_of_heap HF12.out 1; have fy2 := free_of_heap HF12.out 2; have fy3 := free_of_heap HF12.out 3))
      all_goals
        have hF13 : ((((w12.setCell ⟨gf, 0, none⟩ (.int .u64 (c0 : Nat))).setCell ⟨gf, 1, none⟩ (.int .u64 (c1 : Nat))).setCell ⟨gf, 2, none⟩ (.int .u64 (c2 : Nat))).setCell ⟨gf, 3, none⟩ (.int .u64 (c3 : Nat))).heap[gf]? = some (.cells #[.int .u64 (c0 : Nat), .int .u64 (c1 : Nat), .int .u64 (c2 : Nat), .int .u64 (c3 : Nat)] 24 (0, 0)) := heap_set (heap_set (heap_set (heap_set HF12.out 0 _) 1 _) 2 _) 3 _
        have hD13 : ((((w12.setCell ⟨gf, 0, none⟩ (.int .u64 (c0 : Nat))).setCell ⟨gf, 1, none⟩ (.int .u64 (c1 : Nat))).setCell ⟨gf, 2, none⟩ (.int .u64 (c2 : Nat))).setCell ⟨gf, 3, none⟩ (.int .u64 (c3 : Nat))).heap[gd]? = _ := (heap_set_other n1.symm _ _).trans ((heap_set_other n1.symm _ _).trans ((heap_set_other n1.symm _ _).trans ((heap_set_other n1.symm _ _).trans HD12.out)))
        have hR13 : ((((w12.setCell ⟨gf, 0, none⟩ (.int .u64 (c0 : Nat))).setCell ⟨gf, 1, none⟩ (.int .u64 (c1 : Nat))).setCell ⟨gf, 2, none⟩ (.int .u64 (c2 : Nat))).setCell ⟨gf, 3, none⟩ (.int .u64 (c3 : Nat))).heap[w.heap.size + 1]? = _ := (heap_set_other n4 _ _).trans ((heap_set_other n4 _ _).trans ((heap_set_other n4 _ _).trans ((heap_set_other n4 _ _).trans HR12.out)))
        have hB13 : Below w.heap.size w ((((w12.setCell ⟨gf, 0, none⟩ (.int .u64 (c0 : Nat))).setCell ⟨gf, 1, none⟩ (.int .u64 (c1 : Nat))).setCell ⟨gf, 2, none⟩ (.int .u64 (c2 : Nat))).setCell ⟨gf, 3, none⟩ (.int .u64 (c3 : Nat))) := (((HB12.out.setCell (by show w.heap.size ≤ gf; omega) _).setCell (by show w.heap.size ≤ gf; omega) _).setCell (by show w.heap.size ≤ gf; omega) _).setCell (by show w.heap.size ≤ gf; omega) _
        generalize ((((w12.setCell ⟨gf, 0, none⟩ (.int .u64 (c0 : Nat))).setCell ⟨gf, 1, none⟩ (.int .u64 (c1 : Nat))).setCell ⟨gf, 2, none⟩ (.int .u64 (c2 : Nat))).setCell ⟨gf, 3, none⟩ (.int .u64 (c3 : Nat))) = W13 at hF13 hD13 hR13 hB13 ⊢
        have HF13 := Lib.hid hF13
        have HD13 := Lib.hid hD13
        have HR13 := Lib.hid hR13
        have HB13 := Lib.hid hB13
        clear hF13 hD13 hR13 hB13
        clear y0 y1 y2 y3 fy0 fy1 fy2 fy3
        have d4 := cell_of_heap HD13.out 4
        have d5 := cell_of_heap HD13.out 5
        have d6 := cell_of_heap HD13.out 6
        have d7 := cell_of_heap HD13.out 7
        have fd4 := free_of_heap HD13.out 4
        have fd5 := free_of_heap HD13.out 5
        have fd6 := free_of_heap HD13.out 6
        have fd7 := free_of_heap HD13.out 7
        simp at d4 d5 d6 d7
        go_wp2_with (first | ((with_reducible refine gate_load 24 ?_); go_must (refine ld_row 24 gf 24 HF13.out Tryz.underlying24 (n := 4) (by kernel_rfl) ?_ (hn := rfl))) | ((with_reducible refine gate_load 31 ?_); refine Hid.out ?_) | fail)
        refine Lib.hid ?_
        have hD10 : ((((W13.setCell ⟨gd, 4, none⟩ (.int .u64 (c0 : Nat))).setCell ⟨gd, 5, none⟩ (.int .u64 (c1 : Nat))).setCell ⟨gd, 6, none⟩ (.int .u64 (c2 : Nat))).setCell ⟨gd, 7, none⟩ (.int .u64 (c3 : Nat))).heap[gd]? = some (.cells #[.int .i64 1, .bool sg, .bool false, .int .i64 (L + (k : Nat)), .int .u64 (c0 : Nat), .int .u64 (c1 : Nat), .int .u64 (c2 : Nat), .int .u64 (c3 : Nat)] 31 (0, 0)) := heap_set (heap_set (heap_set (heap_set HD13.out 4 _) 5 _) 6 _) 7 _
        have hR10 : ((((W13.setCell ⟨gd, 4, none⟩ (.int .u64 (c0 : Nat))).setCell ⟨gd, 5, none⟩ (.int .u64 (c1 : Nat))).setCell ⟨gd, 6, none⟩ (.int .u64 (c2 : Nat))).setCell ⟨gd, 7, none⟩ (.int .u64 (c3 : Nat))).heap[w.heap.size + 1]? = _ := (heap_set_other n3.symm _ _).trans ((heap_set_other n3.symm _ _).trans ((heap_set_other n3.symm _ _).trans ((heap_set_other n3.symm _ _).trans HR13.out)))
        have hB10 : Below w.heap.size w ((((W13.setCell ⟨gd, 4, none⟩ (.int .u64 (c0 : Nat))).setCell ⟨gd, 5, none⟩ (.int .u64 (c1 : Nat))).setCell ⟨gd, 6, none⟩ (.int .u64 (c2 : Nat))).setCell ⟨gd, 7, none⟩ (.int .u64 (c3 : Nat))) := (((HB13.out.setCell (by show w.heap.size ≤ gd; omega) _).setCell (by show w.heap.size ≤ gd; omega) _).setCell (by show w.heap.size ≤ gd; omega) _).setCell (by show w.heap.size ≤ gd; omega) _
        generalize ((((W13.setCell ⟨gd, 4, none⟩ (.int .u64 (c0 : Nat))).setCell ⟨gd, 5, none⟩ (.int .u64 (c1 : Nat))).setCell ⟨gd, 6, none⟩ (.int .u64 (c2 : Nat))).setCell ⟨gd, 7, none⟩ (.int .u64 (c3 : Nat))) = W10 at hD10 hR10 hB10 ⊢
        have HD10 := Lib.hid hD10
        have HR10 := Lib.hid hR10
        have HB10 := Lib.hid hB10
        clear hD10 hR10 hB10
        clear d4 d5 d6 d7 fd4 fd5 fd6 fd7
        go_wp2_with (first | ((with_reducible refine gate_load 31 ?_); go_must (refine ld_row 31 gd 31 HD10.out Tryz.underlying31 (n := 8) (by kernel_rfl) ?_ (hn := rfl))) | ((with_reducible refine gate_store 31 ?_); go_must (refine st_row 31 (w.heap.size + 1) 31 HR10.out (n := 8) (by kernel_rfl) ?_ (hn := rfl) (h1 := by simp [Value.oneCell']))) | fail)
        refine bodyPost_ret (results_ct rfl _ _ (w.heap.size + 1) 31 _ _ _ rfl (setRow_heap _ _ _ _ _ _ HR10.out) Tryz.underlying31 rfl (by kernel_rfl)) rfl ⟨below_setRow HB10.out (by omega) _, fun _ => ⟨c0, c1, c2, c3, ?_, ?_, ?_⟩, fun h => (h ?_).elim⟩
        · exact HC12.out.1
        · rw [HP.out, ← HE.out, ← HE0.out, if_neg (by have := HK.out.2.1; omega), HC12.out.2, HFW.out.2]; simp
        · rw [HP.out, HQ.out.1, ← HE.out, ← HE0.out, HSB.out, HSG.out, show max ((e0 : Int) - 1) 0 = (k : Nat) by have := HK.out; omega]; rfl
        · rw [HP.out, ← HE.out, ← HE0.out, HT.out.1.1]; have := HT.out.2.2; have := HK.out; omega
  · have hltI : ¬ (e0 : Int) < (M : Nat) := by omega
    have hnE : ¬ V / 2 ^ (P - 1) % 2 ^ X < 2 ^ X - 1 := by rw [HP.out, ← HE.out, ← HE0.out, HT.out.1.1]; have := HT.out.2.2; omega
    clear hM hlt he0
    by_cases hz : f0 = 0 ∧ f1 = 0 ∧ f2 = 0 ∧ f3 = 0
    · obtain ⟨rfl, rfl, rfl, rfl⟩ := hz
      have heq := bits_eqIn W8w 0 0 0 0 0 0 0 0
      simp only [beq_self_eq_true, Bool.and_self] at heq
      go_wp2_with (first | ((with_reducible refine gate_load 31 ?_); refine Hid.out ?_) | fail)
      refine Lib.hid ?_
      have hD9 : (W8w.setCell ⟨gd, 0, none⟩ (.int .i64 2)).heap[gd]? = some (.cells #[.int .i64 2, .bool sg, .bool false, .int .i64 0, .int .u64 0, .int .u64 0, .int .u64 0, .int .u64 0] 31 (0, 0)) := heap_set HD8.out 0 _
      have hR9 : (W8w.setCell ⟨gd, 0, none⟩ (.int .i64 2)).heap[w.heap.size + 1]? = _ := (heap_set_other n3.symm _ _).trans HR8.out
      have hB9 : Below w.heap.size w (W8w.setCell ⟨gd, 0, none⟩ (.int .i64 2)) := HB8.out.setCell (by show w.heap.size ≤ gd; omega) _
      generalize (W8w.setCell ⟨gd, 0, none⟩ (.int .i64 2)) = W9 at hD9 hR9 hB9 ⊢
      have HD9 := Lib.hid hD9
      have HR9 := Lib.hid hR9
      have HB9 := Lib.hid hB9
      clear hD9 hR9 hB9
      clear z5 z6 y0 y1 y2 y3 d0 d1 d2 d3 d4 d5 d6 d7 fd0 fd1 fd2 fd3 fd4 fd5 fd6 fd7
      go_wp2_with (first | ((with_reducible refine gate_load 31 ?_); go_must (refine ld_row 31 gd 31 HD9.out Tryz.underlying31 (n := 8) (by kernel_rfl) ?_ (hn := rfl))) | ((with_reducible refine gate_store 31 ?_); go_must (refine st_row 31 (w.heap.size + 1) 31 HR9.out (n := 8) (by kernel_rfl) ?_ (hn := rfl) (h1 := by simp [Value.oneCell']))) | fail)
      refine bodyPost_ret (results_ct rfl _ _ (w.heap.size + 1) 31 _ _ _ rfl (setRow_heap _ _ _ _ _ _ HR9.out) Tryz.underlying31 rfl (by kernel_rfl)) rfl ⟨below_setRow HB9.out (by omega) _, fun h => (hnE h).elim, fun _ => ⟨2, sg, false, 0, 0, 0, 0, Or.inl rfl, rfl⟩⟩
    · have heq := bits_eqIn W8w f0 f1 f2 f3 0 0 0 0
      have hbz : ((f0 : Int) == 0 && ((f1 : Int) == 0 && ((f2 : Int) == 0 && (f3 : Int) == 0))) = false := by
        rw [Bool.eq_false_iff]; intro h; apply hz; simp at h; exact h
      rw [hbz] at heq
      have n5 : w.heap.size ≠ gd := by omega
      obtain ⟨p1, hp1⟩ : ∃ p1, p - 1 = p1 := ⟨_, rfl⟩
      have hwp : IntKind.i64.wrap ((p : Int) - 1) = (p1 : Nat) := by have := HPX.out; have := HP.out; rw [IntWalk.i64_in _ (by omega)]; omega
      have HP1 := Lib.hid hp1
      have HBL := Lib.hid (fun W => limBit_calls W b0 b1 b2 b3 HBW.out p1 (by have := HPX.out; have := HP.out; have := HP1.out; omega))
      have HFL := Lib.hid (fun W => bfield_calls W f0 f1 f2 f3 HFW.out.1 0 p1 (by omega) (by have := HPX.out; have := HP.out; have := HP1.out; omega))
      unfold bitsV at HBL HFL
      clear hz hbz hp1
      have x0 : W8w.cell? ⟨w.heap.size, 0, none⟩ = some (.int .u64 (b0 : Nat)) := cell_of_heap HP8.out 0
      have x1 : W8w.cell? ⟨w.heap.size, 1, none⟩ = some (.int .u64 (b1 : Nat)) := cell_of_heap HP8.out 1
      have x2 : W8w.cell? ⟨w.heap.size, 2, none⟩ = some (.int .u64 (b2 : Nat)) := cell_of_heap HP8.out 2
      have x3 : W8w.cell? ⟨w.heap.size, 3, none⟩ = some (.int .u64 (b3 : Nat)) := cell_of_heap HP8.out 3
      go_wp2_with fail
      have hD9 : (W8w.setCell ⟨gd, 0, none⟩ (.int .i64 3)).heap[gd]? = some (.cells #[.int .i64 3, .bool sg, .bool false, .int .i64 0, .int .u64 0, .int .u64 0, .int .u64 0, .int .u64 0] 31 (0, 0)) := heap_set HD8.out 0 _
      have hR9 : (W8w.setCell ⟨gd, 0, none⟩ (.int .i64 3)).heap[w.heap.size + 1]? = _ := (heap_set_other n3.symm _ _).trans HR8.out
      have hB9 : Below w.heap.size w (W8w.setCell ⟨gd, 0, none⟩ (.int .i64 3)) := HB8.out.setCell (by show w.heap.size ≤ gd; omega) _
      have hF9 : (W8w.setCell ⟨gd, 0, none⟩ (.int .i64 3)).heap[gf]? = _ := (heap_set_other n1 _ _).trans HF8.out
      generalize (W8w.setCell ⟨gd, 0, none⟩ (.int .i64 3)) = W9 at hD9 hR9 hB9 hF9 ⊢
      have HD9 := Lib.hid hD9
      have HR9 := Lib.hid hR9
      have HB9 := Lib.hid hB9
      have HF9 := Lib.hid hF9
      clear hD9 hR9 hB9 hF9
      clear z5 z6 y0 y1 y2 y3 d0 d1 d2 d3 d4 d5 d6 d7 fd0 fd1 fd2 fd3 fd4 fd5 fd6 fd7
      clear x0 x1 x2 x3 heq
      refine (HBL.out _).mono ?_
      rintro e w11 ⟨rfl, hb⟩
      have HD11 := Lib.hid (below_heap hb HD9.out)
      have HR11 := Lib.hid (below_heap hb HR9.out)
      have HF11 := Lib.hid (below_heap hb HF9.out)
      have HB11 := Lib.hid (below_then HB9.out hb)
      generalize val [b0, b1, b2, b3] / 2 ^ p1 % 2 = sb2
      clear hb
      have y0 : w11.cell? ⟨gf, 0, none⟩ = some (.int .u64 (f0 : Nat)) := cell_of_heap HF11.out 0
      have y1 : w11.cell? ⟨gf, 1, none⟩ = some (.int .u64 (f1 : Nat)) := cell_of_heap HF11.out 1
      have y2 : w11.cell? ⟨gf, 2, none⟩ = some (.int .u64 (f2 : Nat)) := cell_of_heap HF11.out 2
      have y3 : w11.cell? ⟨gf, 3, none⟩ = some (.int .u64 (f3 : Nat)) := cell_of_heap HF11.out 3
      have fy0 := free_of_heap HF11.out 0
      have fy1 := free_of_heap HF11.out 1
      have fy2 := free_of_heap HF11.out 2
      have fy3 := free_of_heap HF11.out 3
      have d2 := cell_of_heap HD11.out 2
      have fd2 := free_of_heap HD11.out 2
      simp at d2
      go_wp2_with fail
      obtain ⟨si, hsi⟩ : ∃ si : Bool, ((sb2 : Int) == 0) = si := ⟨_, rfl⟩
      rw [hsi]
      clear hsi
      have hD12 : (w11.setCell ⟨gd, 2, none⟩ (.bool si)).heap[gd]? = some (.cells #[.int .i64 3, .bool sg, .bool si, .int .i64 0, .int .u64 0, .int .u64 0, .int .u64 0, .int .u64 0] 31 (0, 0)) := heap_set HD11.out 2 _
      have hR12 : (w11.setCell ⟨gd, 2, none⟩ (.bool si)).heap[w.heap.size + 1]? = _ := (heap_set_other n3.symm _ _).trans HR11.out
      have hB12 : Below w.heap.size w (w11.setCell ⟨gd, 2, none⟩ (.bool si)) := HB11.out.setCell (by show w.heap.size ≤ gd; omega) _
      generalize (w11.setCell ⟨gd, 2, none⟩ (.bool si)) = W12 at hD12 hR12 hB12 ⊢
      have HD12 := Lib.hid hD12
      have HR12 := Lib.hid hR12
      have HB12 := Lib.hid hB12
      clear hD12 hR12 hB12
      clear y0 y1 y2 y3 fy0 fy1 fy2 fy3 d2 fd2
      refine (HFL.out _).mono ?_
      rintro e w14 ⟨c0, c1, c2, c3, hw, hv, rfl, hb⟩
      unfold bitsV
      have HD14 := Lib.hid (below_heap hb HD12.out)
      have HR14 := Lib.hid (below_heap hb HR12.out)
      have HB14 := Lib.hid (below_then HB12.out hb)
      clear hb hw hv
      have d4 := cell_of_heap HD14.out 4
      have d5 := cell_of_heap HD14.out 5
      have d6 := cell_of_heap HD14.out 6
      have d7 := cell_of_heap HD14.out 7
      have fd4 := free_of_heap HD14.out 4
      have fd5 := free_of_heap HD14.out 5
      have fd6 := free_of_heap HD14.out 6
      have fd7 := free_of_heap HD14.out 7
      simp at d4 d5 d6 d7
      go_wp2_with (first | ((with_reducible refine gate_load 31 ?_); refine Hid.out ?_) | fail)
      refine Lib.hid ?_
      have hD15 : ((((w14.setCell ⟨gd, 4, none⟩ (.int .u64 (c0 : Nat))).setCell ⟨gd, 5, none⟩ (.int .u64 (c1 : Nat))).setCell ⟨gd, 6, none⟩ (.int .u64 (c2 : Nat))).setCell ⟨gd, 7, none⟩ (.int .u64 (c3 : Nat))).heap[gd]? = some (.cells #[.int .i64 3, .bool sg, .bool si, .int .i64 0, .int .u64 (c0 : Nat), .int .u64 (c1 : Nat), .int .u64 (c2 : Nat), .int .u64 (c3 : Nat)] 31 (0, 0)) := heap_set (heap_set (heap_set (heap_set HD14.out 4 _) 5 _) 6 _) 7 _
      have hR15 : ((((w14.setCell ⟨gd, 4, none⟩ (.int .u64 (c0 : Nat))).setCell ⟨gd, 5, none⟩ (.int .u64 (c1 : Nat))).setCell ⟨gd, 6, none⟩ (.int .u64 (c2 : Nat))).setCell ⟨gd, 7, none⟩ (.int .u64 (c3 : Nat))).heap[w.heap.size + 1]? = _ := (heap_set_other n3.symm _ _).trans ((heap_set_other n3.symm _ _).trans ((heap_set_other n3.symm _ _).trans ((heap_set_other n3.symm _ _).trans HR14.out)))
      have hB15 : Below w.heap.size w ((((w14.setCell ⟨gd, 4, none⟩ (.int .u64 (c0 : Nat))).setCell ⟨gd, 5, none⟩ (.int .u64 (c1 : Nat))).setCell ⟨gd, 6, none⟩ (.int .u64 (c2 : Nat))).setCell ⟨gd, 7, none⟩ (.int .u64 (c3 : Nat))) := (((HB14.out.setCell (by show w.heap.size ≤ gd; omega) _).setCell (by show w.heap.size ≤ gd; omega) _).setCell (by show w.heap.size ≤ gd; omega) _).setCell (by show w.heap.size ≤ gd; omega) _
      generalize ((((w14.setCell ⟨gd, 4, none⟩ (.int .u64 (c0 : Nat))).setCell ⟨gd, 5, none⟩ (.int .u64 (c1 : Nat))).setCell ⟨gd, 6, none⟩ (.int .u64 (c2 : Nat))).setCell ⟨gd, 7, none⟩ (.int .u64 (c3 : Nat))) = W15 at hD15 hR15 hB15 ⊢
      have HD15 := Lib.hid hD15
      have HR15 := Lib.hid hR15
      have HB15 := Lib.hid hB15
      clear hD15 hR15 hB15
      clear d4 d5 d6 d7 fd4 fd5 fd6 fd7
      go_wp2_with (first | ((with_reducible refine gate_load 31 ?_); go_must (refine ld_row 31 gd 31 HD15.out Tryz.underlying31 (n := 8) (by kernel_rfl) ?_ (hn := rfl))) | ((with_reducible refine gate_store 31 ?_); go_must (refine st_row 31 (w.heap.size + 1) 31 HR15.out (n := 8) (by kernel_rfl) ?_ (hn := rfl) (h1 := by simp [Value.oneCell']))) | fail)
      refine bodyPost_ret (results_ct rfl _ _ (w.heap.size + 1) 31 _ _ _ rfl (setRow_heap _ _ _ _ _ _ HR15.out) Tryz.underlying31 rfl (by kernel_rfl)) rfl ⟨below_setRow HB15.out (by omega) _, fun h => (hnE h).elim, fun _ => ⟨3, sg, si, c0, c1, c2, c3, Or.inr rfl, rfl⟩⟩
end Go.Proofs.YtpodpdopgdkdkaaGreatDoor
