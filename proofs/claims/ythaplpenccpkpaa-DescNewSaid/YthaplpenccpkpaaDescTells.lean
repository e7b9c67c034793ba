/- DescTells: for every number n the program tells the format that the document has, or none; and the list of all formats is the document's. No conditions. -/
import Derived.Test.YthaplpenccpkpaaDescAll
import Derived.Test.YthaplpenccpkpaaDescRef
import Derived.Deep.DeepMust
import Derived.StillTailTactics
namespace Go.Proofs.Ythaplpenccpkpaa
open Go.RowKit
set_option maxHeartbeats 1000000 in
theorem same_calls (n b w' p x l m y : Int) (s : ByteArray) (d : Bool) (w : World) :
    Calls Try.prog 18 #[.agg #[.int .i64 n, .string s, .int .i64 b, .int .i64 w', .int .i64 p, .int .i64 x, .int .i64 l, .int .i64 m, .int .i64 y, .bool d], .agg #[.int .i64 n, .string s, .int .i64 b, .int .i64 w', .int .i64 p, .int .i64 x, .int .i64 l, .int .i64 m, .int .i64 y, .bool d]] w
      fun e w' => e = .returned (.bool true) ∧ Below w.heap.size w w' := by
  go_enter Try.func18, Try.ntmps18
  go_wp2
  go_ret
  exact ⟨rfl, below_alloc (below_alloc (below_alloc (below_alloc (Below.refl _ _) _) _) _) _⟩
theorem same_inf (n : Int) (w : World) : Calls Try.prog 18 #[.agg (infF n), .agg (infF n)] w fun e w' => e = .returned (.bool true) ∧ Below w.heap.size w w' := same_calls _ _ _ _ _ _ _ _ _ _ w
theorem same_inf0 (w : World) : Calls Try.prog 18 #[.agg inf0, .agg inf0] w fun e w' => e = .returned (.bool true) ∧ Below w.heap.size w w' := same_calls _ _ _ _ _ _ _ _ _ _ w
set_option maxHeartbeats 1000000 in
theorem awake04_calls (w : World) : Calls Try.prog 14 #[] w fun e w' => e = .returned (.bool true) ∧ Below w.heap.size w w' := by
  go_enter Try.func14, Try.ntmps14
  go_wp2_with fail
  refine (of_calls3 _).mono ?_
  rintro e w1 ⟨rfl, hb⟩
  rw [inf_lit3]
  go_wp2
  go_ret
  exact ⟨rfl, below_alloc hb _⟩
section
variable {P : Program} {ops : Array Oper} {rest : List Oper} {Q : Act → Prop} {a : Act} {w : World} {d : Option Tmp} {x : Operand} {T : TypeId} {pos : String} {af : Array Edge} {gd : Option (Nat × Bool)}
/-- In a region that draws: a load of an aggregate out of the middle of a block. -/
theorem still_mid (ty b o : Nat) (cs : List Value) (hc : w.rangeAt b o cs) {D : TypeDesc} (hu : P.underlying ty = some D) {n : Nat} (hi : (P.info? ty).map (·.size) = some n)
    (h : wpStill P ops w Q rest (a.put d (.agg cs.toArray)))
    (hw : Region.wanted { dst := d, op := .load ty x, type := T, pos := pos, after := af, guard := gd } (yielded ops a.tmps) = true := by rfl)
    (hx : a.eval x = .pointer (some ⟨b, o, none⟩) := by rfl) (hd : D.isRow = true := by rfl) (hn : cs.length = n := by rfl) :
    wpStill P ops w Q ({ dst := d, op := .load ty x, type := T, pos := pos, after := af, guard := gd } :: rest) a :=
  wpStill_step fun K hK => by
    rw [if_pos hw]
    have := run_loadAt_mid (P := P) w b o ty cs D hc hu hd (by rw [hi, hn])
    simp only [Oper.still, execOp, hx, Sem.run_bind, this, Result.andThen_ok, Sem.run_pure, Oper.stillUpon_value]
    exact hK _ h
end
set_option maxRecDepth 100000 in
theorem all_range {w : World} {g : Nat} (hg : w.heap[g]? = some (.cells allCells 24)) (k : Nat) (hk : k < 12) : w.rangeAt g (k * 10) (infF ((k : Int) + 1)).toList := by
  intro j v hv
  rw [all_at hg]
  have hj : j < 10 := by
    by_cases h : j < 10
    · exact h
    · rw [List.getElem?_eq_none (by show 10 ≤ j; omega)] at hv; cases hv
  have : ∀ k : Nat, k < 12 → ∀ j : Nat, j < 10 → allCells[k * 10 + j]? = (infF ((k : Int) + 1)).toList[j]? := by
    intro k hk j hj
    rcases (show k = 0 ∨ k = 1 ∨ k = 2 ∨ k = 3 ∨ k = 4 ∨ k = 5 ∨ k = 6 ∨ k = 7 ∨ k = 8 ∨ k = 9 ∨ k = 10 ∨ k = 11 by omega) with rfl | rfl | rfl | rfl | rfl | rfl | rfl | rfl | rfl | rfl | rfl | rfl <;>
    rcases (show j = 0 ∨ j = 1 ∨ j = 2 ∨ j = 3 ∨ j = 4 ∨ j = 5 ∨ j = 6 ∨ j = 7 ∨ j = 8 ∨ j = 9 by omega) with rfl | rfl | rfl | rfl | rfl | rfl | rfl | rfl | rfl | rfl <;> kernel_rfl
  rw [this k hk j hj]; exact hv
theorem row_range {w : World} {g : Nat} {C : Array Value} {t : TypeId} (hg : w.heap[g]? = some (.cells C t (0, 0))) : w.rangeAt g 0 C.toList := by
  intro j v hv
  rw [cell_of_heap hg]; simpa using hv
set_option maxRecDepth 100000 in
set_option maxHeartbeats 1000000 in
theorem tells_calls (n : Int) (w : World) : Calls Try.prog 3 #[.int .i64 n] w fun e w' => e = .returned (.bool true) ∧ Below w.heap.size w w' := by
  have hof : ∃ (E : Int) (C : Array Value), (C.size = 10 ∧ C.all (·.oneCell') = true) ∧ (∀ w, Calls Try.prog 15 #[.int .i64 n] w fun e w' => e = .returned (.tuple #[.agg C, .int .i64 E]) ∧ Below w.heap.size w w') ∧
      (∀ w, Calls Try.prog 16 #[.int .i64 n] w fun e w' => e = .returned (.tuple #[.agg C, .int .i64 E]) ∧ Below w.heap.size w w') ∧
      (∀ w, Calls Try.prog 18 #[.agg C, .agg C] w fun e w' => e = .returned (.bool true) ∧ Below w.heap.size w w') := by
    by_cases h : 1 ≤ n ∧ n ≤ 12
    · exact ⟨0, infF n, ⟨rfl, by simp [infF, Value.oneCell']⟩, fun w => of_calls n w h.1 h.2, fun w => refOf_calls n w h.1 h.2, same_inf n⟩
    · exact ⟨1, inf0, ⟨rfl, by simp [inf0, Value.oneCell']⟩, fun w => of_none n w (by omega), fun w => refOf_none n w (by omega), same_inf0⟩
  obtain ⟨E, C, hE, h1, h2, h3⟩ := hof
  have H1 := Lib.hid h1
  have H2 := Lib.hid h2
  have H3 := Lib.hid h3
  have HE := Lib.hid hE
  clear h1 h2 h3 hE
  go_enter Try.func3, Try.ntmps3
  go_wp2_with fail
  refine (awake04_calls _).mono ?_
  rintro e w1 ⟨rfl, hb1⟩
  go_wp2_with fail
  refine (H1.out _).mono ?_
  rintro e w2 ⟨rfl, hb2⟩
  go_wp2_with (first | ((with_reducible refine gate_store 24 ?_); refine st_row 24 w2.heap.size 24 (heap_new w2 (.cells inf0 24)) Try.sizeInfo ?_ (hn := HE.out.1) (h1 := HE.out.2)) | fail)
  refine (H2.out _).mono ?_
  rintro e w3 ⟨rfl, hb3⟩
  have HX : w3.heap[w2.heap.size]? = some (.cells C 24) := below_heap hb3 (setRow_heap _ _ _ _ _ _ (heap_new w2 (.cells inf0 24)))
  have hz3 : w2.heap.size < w3.heap.size := lt_of_heap HX
  go_wp2_with (first | ((with_reducible refine gate_store 28 ?_); refine st_row 28 w3.heap.size 28 (heap_new w3 (.cells inf0 28)) Try.sizeRefInfo ?_ (hn := HE.out.1) (h1 := HE.out.2)) | fail)
  refine (all_calls _).mono ?_
  rintro e w4 ⟨⟨g, hg0, rfl, hg⟩, hb4⟩
  have HX4 : w4.heap[w2.heap.size]? = some (.cells C 24) := below_heap hb4 (by rw [setRow_other _ _ _ _ (by omega), heap_keep _ _ hz3]; exact HX)
  have HY4 : w4.heap[w3.heap.size]? = some (.cells C 28) := below_heap hb4 (setRow_heap _ _ _ _ _ _ (heap_new w3 (.cells inf0 28)))
  have B4 : Below w.heap.size w w4 := by
    have k2 := below_then hb1 hb2
    have k3 := below_then (below_setRow (below_alloc k2 (.cells inf0 24)) (g := w2.heap.size) k2.size C) hb3
    exact below_then (below_setRow (below_alloc k3 (.cells inf0 28)) (g := w3.heap.size) k3.size C) hb4
  clear hb1 hb2 hb3 hb4 HX hg0
  go_wp2_with (first | ((with_reducible refine gate_load 24 ?_); go_must (refine ld_row 24 w2.heap.size 24 HX4 Try.underlying24 Try.sizeInfo ?_ (hn := HE.out.1))) | ((with_reducible refine gate_load 28 ?_); go_must (refine ld_row 28 w3.heap.size 28 HY4 Try.underlying28 Try.sizeRefInfo ?_ (hn := HE.out.1))) | fail)
  refine (H3.out _).mono ?_
  rintro e w5 ⟨rfl, hb5⟩
  have HG : w5.heap[g]? = some (.cells allCells 24) := below_heap hb5 hg
  have B5 := below_then B4 hb5
  clear HX4 HY4 B4 hb5 hg H1 H2 H3
  go_wp2_with fail
  have HB := Lib.hid B5
  clear B5
  go_loopw [40] (fun i wr => ∃ k : Nat, k ≤ 12 ∧ i = .int .i64 k ∧ wr.heap[g]? = some (.cells allCells 24) ∧ Below w.heap.size w wr) (fun i _ => 12 - (intOf i).toNat)
  case atStart => exact ⟨0, by omega, rfl, HG, HB.out⟩
  case round =>
    obtain ⟨k, hk, rfl, hG, hB⟩ := hrel
    have HBk := Lib.hid hB
    have HGk := Lib.hid hG
    clear hB hG HG HB
    by_cases hlt : k < 12
    · go_wp2_with fail
      refine (refOf_calls _ _ (by omega) (by omega)).mono ?_
      rintro e w6 ⟨rfl, hb6⟩
      go_wp2_with (first | ((with_reducible refine gate_store 28 ?_); refine st_row 28 w6.heap.size 28 (heap_new w6 (.cells inf0 28)) Try.sizeRefInfo ?_ (hn := rfl) (h1 := by simp [infF, Value.oneCell'])) | fail)
      have HG7 : (((w6.alloc (.cells inf0 28)).setRow w6.heap.size (infF ((k : Int) + 1)))).heap[g]? = some (.cells allCells 24) := by
        have hg6 := below_heap hb6 HGk.out
        have := lt_of_heap hg6
        rw [setRow_other _ _ _ _ (by omega), heap_keep _ _ this]; exact hg6
      have HZ7 : (((w6.alloc (.cells inf0 28)).setRow w6.heap.size (infF ((k : Int) + 1)))).heap[w6.heap.size]? = some (.cells (infF ((k : Int) + 1)) 28) :=
        setRow_heap _ _ _ _ _ _ (heap_new w6 (.cells inf0 28))
      have HB7 : Below w.heap.size w ((w6.alloc (.cells inf0 28)).setRow w6.heap.size (infF ((k : Int) + 1))) := by
        have k6 := below_then HBk.out hb6
        exact below_setRow (below_alloc k6 _) k6.size _
      change Code.wp _ _ _ _ ((w6.alloc (.cells inf0 28)).setRow w6.heap.size (infF ((k : Int) + 1)))
      generalize ((w6.alloc (.cells inf0 28)).setRow w6.heap.size (infF ((k : Int) + 1))) = W7 at HG7 HZ7 HB7 ⊢
      have H7 := Lib.hid (And.intro HG7 HB7)
      have R1 := all_range HG7 k hlt
      have R2 := row_range HZ7
      have HR := Lib.hid (And.intro R1 R2)
      clear HG7 HZ7 HB7 hb6 HBk HGk R1 R2
      have S := same_inf ((k : Int) + 1)
      have HS := Lib.hid S
      clear S
      go_still_tail 5, (by kernel_rfl)
      refine still_mid 24 g (k * 10) _ HR.out.1 Try.underlying24 Try.sizeInfo ?_
      refine still_mid 28 w6.heap.size 0 _ HR.out.2 Try.underlying28 Try.sizeRefInfo ?_
      refine wpStill_nil ?_
      change wpList _ _ _ _ _ W7.drew
      have H8 : Hid (W7.drew.heap[g]? = some (.cells allCells 24) ∧ Below w.heap.size w W7.drew) := ⟨H7.out.1, H7.out.2.drew⟩
      clear H7 HR
      generalize W7.drew = W8 at H8 ⊢
      go_wp2_with fail
      refine (HS.out _).mono ?_
      rintro e w9 ⟨rfl, hb9⟩
      have HG9 : Hid (w9.heap[g]? = some (.cells allCells 24)) := below_heap hb9 H8.out.1
      have HB9 : Hid (Below w.heap.size w w9) := below_then H8.out.2 hb9
      clear H8 hb9 HS
      go_wp2
      go_roundw
      case rel => exact ⟨k + 1, by omega, by go_num, HG9.out, HB9.out⟩
      case measure => simp [intOf]; omega
    · go_wp2
      go_ret
      exact ⟨rfl, HBk.out⟩
theorem tells_row (n : Int) (w : World) (_ : (Lit.int .i64 n).wf = true) : Calls Try.prog 3 #[.int .i64 n] w fun e w' => e = .returned (.bool true) ∧ Below w.heap.size w w' := tells_calls n w
end Go.Proofs.Ythaplpenccpkpaa
