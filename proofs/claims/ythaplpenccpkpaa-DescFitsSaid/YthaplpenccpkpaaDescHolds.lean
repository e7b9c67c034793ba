/- DescHolds: one format holds another one just if the document says so; it goes through, and each holds itself. No conditions. -/
import Derived.Test.YthaplpenccpkpaaDescTells
import Derived.Test.YthaplpenccpkpaaBoxes
namespace Go.Proofs.Ythaplpenccpkpaa
open Go.RowKit
/-- Is it a format? -/
def isF (n : Int) : Bool := decide (1 ≤ n) && decide (n ≤ 12)
def holdsF (f g : Int) : Bool :=
  isF f && isF g && decide (bsF f = bsF g) && decide (prF f ≤ prF g) && decide (loF g ≤ loF f) && decide (hiF f + prF f ≤ hiF g + prF g)
theorem bnds (n : Int) (h1 : 1 ≤ n) (h2 : n ≤ 12) : 7 ≤ prF n ∧ prF n ≤ 241 ∧ -20000 ≤ loF n ∧ loF n ≤ 0 ∧ 0 ≤ hiF n ∧ hiF n ≤ 20000 := by
  rcases twelve h1 h2 with rfl | rfl | rfl | rfl | rfl | rfl | rfl | rfl | rfl | rfl | rfl | rfl <;> decide
/-- What Of tells, both ways in one. -/
structure OfTells (n E : Int) (C : Array Value) (b p l m : Int) : Prop where
  of : ∀ w, Calls Try.prog 15 #[.int .i64 n] w fun e w' => e = .returned (.tuple #[.agg C, .int .i64 E]) ∧ Below w.heap.size w w'
  ref : ∀ w, Calls Try.prog 16 #[.int .i64 n] w fun e w' => e = .returned (.tuple #[.agg C, .int .i64 E]) ∧ Below w.heap.size w w'
  cells : C.size = 10 ∧ C.all (·.oneCell') = true ∧ C[2]? = some (.int .i64 b) ∧ C[4]? = some (.int .i64 p) ∧ C[6]? = some (.int .i64 l) ∧ C[7]? = some (.int .i64 m)
  bd : 0 ≤ p ∧ p ≤ 241 ∧ -20000 ≤ l ∧ l ≤ 20000 ∧ 0 ≤ m ∧ m ≤ 20000
  ok : E = 0 ↔ isF n = true
  is : isF n = true → b = bsF n ∧ p = prF n ∧ l = loF n ∧ m = hiF n
theorem ofTells (n : Int) : ∃ E C b p l m, OfTells n E C b p l m := by
  by_cases h : 1 ≤ n ∧ n ≤ 12
  · have := bnds n h.1 h.2
    exact ⟨0, infF n, bsF n, prF n, loF n, hiF n, fun w => of_calls n w h.1 h.2, fun w => refOf_calls n w h.1 h.2, ⟨rfl, by simp [infF, Value.oneCell'], rfl, rfl, rfl, rfl⟩, by omega, by simp [isF, h.1, h.2], fun _ => ⟨rfl, rfl, rfl, rfl⟩⟩
  · have hf : isF n = false := by simp [isF]; omega
    exact ⟨1, inf0, 0, 0, 0, 0, fun w => of_none n w (by omega), fun w => refOf_none n w (by omega), ⟨rfl, by simp [inf0, Value.oneCell'], rfl, rfl, rfl, rfl⟩, by omega, by simp [hf], fun h => by simp [hf] at h⟩
theorem holdsF_of {f g E E' b p l m b' p' l' m' : Int} {C C' : Array Value} (H : OfTells f E C b p l m) (H' : OfTells g E' C' b' p' l' m') :
    holdsF f g = (decide (E = 0) && decide (E' = 0) && decide (b = b') && decide (p ≤ p') && decide (l' ≤ l) && decide (m + p ≤ m' + p')) := by
  unfold holdsF
  cases h1 : isF f with
  | false => have : ¬ E = 0 := fun e => by rw [H.ok.1 e] at h1; cases h1
             simp [this]
  | true =>
    cases h2 : isF g with
    | false => have : ¬ E' = 0 := fun e => by rw [H'.ok.1 e] at h2; cases h2
               simp [this]
    | true =>
      obtain ⟨rfl, rfl, rfl, rfl⟩ := H.is h1
      obtain ⟨rfl, rfl, rfl, rfl⟩ := H'.is h2
      simp [H.ok.2 h1, H'.ok.2 h2]
set_option maxRecDepth 100000 in
set_option maxHeartbeats 1000000 in
theorem holds_calls (f g : Int) (w : World) : Calls Try.prog 24 #[.int .i64 f, .int .i64 g] w fun e w' => e = .returned (.bool (holdsF f g)) ∧ Below w.heap.size w w' := by
  obtain ⟨E, C, b, p, l, m, H⟩ := ofTells f
  obtain ⟨E', C', b', p', l', m', H'⟩ := ofTells g
  rw [holdsF_of H H']
  go_enter Try.func24, Try.ntmps24
  go_wp2_with fail
  refine (H.of _).mono ?_
  rintro e w1 ⟨rfl, hb1⟩
  go_wp2_with (first | ((with_reducible refine gate_store 24 ?_); refine st_row 24 w1.heap.size 24 (heap_new w1 (.cells inf0 24)) Try.sizeInfo ?_ (hn := H.cells.1) (h1 := H.cells.2.1)) | fail)
  refine (H'.of _).mono ?_
  rintro e w2 ⟨rfl, hb2⟩
  have HX : w2.heap[w1.heap.size]? = some (.cells C 24) := below_heap hb2 (setRow_heap _ _ _ _ _ _ (heap_new w1 (.cells inf0 24)))
  have hx : w1.heap.size < w2.heap.size := lt_of_heap HX
  have HW : Hid (Below w.heap.size w ((w2.alloc (.cells inf0 24)).setRow w2.heap.size C')) := by
    have k1 := below_then (below_setRow (below_alloc hb1 (.cells inf0 24)) (g := w1.heap.size) hb1.size C) hb2
    exact below_setRow (below_alloc k1 (.cells inf0 24)) k1.size C'
  have HXX : ((w2.alloc (.cells inf0 24)).setRow w2.heap.size C').heap[w1.heap.size]? = some (.cells C 24) := by
    rw [setRow_other _ _ _ _ (by omega), heap_keep _ _ hx]; exact HX
  have HYY : ((w2.alloc (.cells inf0 24)).setRow w2.heap.size C').heap[w2.heap.size]? = some (.cells C' 24) := setRow_heap _ _ _ _ _ _ (heap_new w2 (.cells inf0 24))
  obtain ⟨W, hW⟩ : ∃ W, ((w2.alloc (.cells inf0 24)).setRow w2.heap.size C') = W := ⟨_, rfl⟩
  rw [hW] at HW HXX HYY
  have HV := Lib.hid hW
  clear hW HX
  have x2 := (cell_of_heap HXX 2).trans H.cells.2.2.1
  have x4 := (cell_of_heap HXX 4).trans H.cells.2.2.2.1
  have x6 := (cell_of_heap HXX 6).trans H.cells.2.2.2.2.1
  have x7 := (cell_of_heap HXX 7).trans H.cells.2.2.2.2.2
  have y2 := (cell_of_heap HYY 2).trans H'.cells.2.2.1
  have y4 := (cell_of_heap HYY 4).trans H'.cells.2.2.2.1
  have y6 := (cell_of_heap HYY 6).trans H'.cells.2.2.2.2.1
  have y7 := (cell_of_heap HYY 7).trans H'.cells.2.2.2.2.2
  have d1 := H.bd.1
  have d2 := H.bd.2.1
  have d3 := H.bd.2.2.2.2.1
  have d4 := H.bd.2.2.2.2.2
  have d5 := H'.bd.1
  have d6 := H'.bd.2.1
  have d7 := H'.bd.2.2.2.2.1
  have d8 := H'.bd.2.2.2.2.2
  clear HXX HYY
  go_wp2_with (first | ((with_reducible refine gate_store 24 ?_); refine st_row 24 w2.heap.size 24 (heap_new w2 (.cells inf0 24)) Try.sizeInfo ?_ (hn := H'.cells.1) (h1 := H'.cells.2.1); (change wpList _ _ _ _ _ ((w2.alloc (.cells inf0 24)).setRow w2.heap.size C')); rw [HV.out]) | fail)
  all_goals
    go_ret
    refine ⟨congrArg (fun b => Ending.returned (.bool b)) ?_, HW.out⟩
    clear HW HV H H' x2 x4 x6 x7 y2 y4 y6 y7
    simp_all
  all_goals omega
set_option maxRecDepth 100000 in
set_option maxHeartbeats 1000000 in
theorem refHolds_calls (f g : Int) (w : World) : Calls Try.prog 25 #[.int .i64 f, .int .i64 g] w fun e w' => e = .returned (.bool (holdsF f g)) ∧ Below w.heap.size w w' := by
  obtain ⟨E, C, b, p, l, m, H⟩ := ofTells f
  obtain ⟨E', C', b', p', l', m', H'⟩ := ofTells g
  rw [holdsF_of H H']
  go_enter Try.func25, Try.ntmps25
  go_wp2_with fail
  refine (H.ref _).mono ?_
  rintro e w1 ⟨rfl, hb1⟩
  go_wp2_with (first | ((with_reducible refine gate_store 28 ?_); refine st_row 28 w1.heap.size 28 (heap_new w1 (.cells inf0 28)) Try.sizeRefInfo ?_ (hn := H.cells.1) (h1 := H.cells.2.1)) | fail)
  refine (H'.ref _).mono ?_
  rintro e w2 ⟨rfl, hb2⟩
  have HX : w2.heap[w1.heap.size]? = some (.cells C 28) := below_heap hb2 (setRow_heap _ _ _ _ _ _ (heap_new w1 (.cells inf0 28)))
  have hx : w1.heap.size < w2.heap.size := lt_of_heap HX
  have HW : Hid (Below w.heap.size w ((w2.alloc (.cells inf0 28)).setRow w2.heap.size C')) := by
    have k1 := below_then (below_setRow (below_alloc hb1 (.cells inf0 28)) (g := w1.heap.size) hb1.size C) hb2
    exact below_setRow (below_alloc k1 (.cells inf0 28)) k1.size C'
  have HXX : ((w2.alloc (.cells inf0 28)).setRow w2.heap.size C').heap[w1.heap.size]? = some (.cells C 28) := by
    rw [setRow_other _ _ _ _ (by omega), heap_keep _ _ hx]; exact HX
  have HYY : ((w2.alloc (.cells inf0 28)).setRow w2.heap.size C').heap[w2.heap.size]? = some (.cells C' 28) := setRow_heap _ _ _ _ _ _ (heap_new w2 (.cells inf0 28))
  obtain ⟨W, hW⟩ : ∃ W, ((w2.alloc (.cells inf0 28)).setRow w2.heap.size C') = W := ⟨_, rfl⟩
  rw [hW] at HW HXX HYY
  have HV := Lib.hid hW
  clear hW HX
  have x2 := (cell_of_heap HXX 2).trans H.cells.2.2.1
  have x4 := (cell_of_heap HXX 4).trans H.cells.2.2.2.1
  have x6 := (cell_of_heap HXX 6).trans H.cells.2.2.2.2.1
  have x7 := (cell_of_heap HXX 7).trans H.cells.2.2.2.2.2
  have y2 := (cell_of_heap HYY 2).trans H'.cells.2.2.1
  have y4 := (cell_of_heap HYY 4).trans H'.cells.2.2.2.1
  have y6 := (cell_of_heap HYY 6).trans H'.cells.2.2.2.2.1
  have y7 := (cell_of_heap HYY 7).trans H'.cells.2.2.2.2.2
  have d1 := H.bd.1
  have d2 := H.bd.2.1
  have d3 := H.bd.2.2.2.2.1
  have d4 := H.bd.2.2.2.2.2
  have d5 := H'.bd.1
  have d6 := H'.bd.2.1
  have d7 := H'.bd.2.2.2.2.1
  have d8 := H'.bd.2.2.2.2.2
  clear HXX HYY
  go_wp2_with (first | ((with_reducible refine gate_store 28 ?_); refine st_row 28 w2.heap.size 28 (heap_new w2 (.cells inf0 28)) Try.sizeRefInfo ?_ (hn := H'.cells.1) (h1 := H'.cells.2.1); (change wpList _ _ _ _ _ ((w2.alloc (.cells inf0 28)).setRow w2.heap.size C')); rw [HV.out]) | fail)
  all_goals
    go_ret
    refine ⟨congrArg (fun b => Ending.returned (.bool b)) ?_, HW.out⟩
    clear HW HV H H' x2 x4 x6 x7 y2 y4 y6 y7
    simp_all
  all_goals omega

theorem isF_ok (n E : Int) (C : Array Value) (b p l m : Int) (H : OfTells n E C b p l m) : (E == 0) = isF n := by
  rw [Bool.eq_iff_iff, beq_iff_eq]; exact H.ok
theorem holdsF_self (f : Int) : holdsF f f = isF f := by unfold holdsF; cases isF f <;> simp
theorem holdsF_trans {f g h : Int} (a : holdsF f g = true) (b : holdsF g h = true) : holdsF f h = true := by
  unfold holdsF at *
  simp only [Bool.and_eq_true, decide_eq_true_eq] at *
  obtain ⟨⟨⟨⟨⟨a1, a2⟩, a3⟩, a4⟩, a5⟩, a6⟩ := a
  obtain ⟨⟨⟨⟨⟨b1, b2⟩, b3⟩, b4⟩, b5⟩, b6⟩ := b
  refine ⟨⟨⟨⟨⟨a1, b2⟩, ?_⟩, ?_⟩, ?_⟩, ?_⟩ <;> omega
set_option maxRecDepth 100000 in
set_option maxHeartbeats 1000000 in
theorem descHolds_row (f g h : Int) (w : World) (_ : (Lit.int .i64 f).wf = true) (_ : (Lit.int .i64 g).wf = true) (_ : (Lit.int .i64 h).wf = true) :
    Calls Try.prog 5 #[.int .i64 f, .int .i64 g, .int .i64 h] w fun e w' => e = .returned (.bool true) ∧ Below w.heap.size w w' := by
  obtain ⟨E, C, b, p, l, m, H⟩ := ofTells f
  have hE := isF_ok f E C b p l m H
  have hff := holdsF_self f
  rw [← hE] at hff
  have htr := @holdsF_trans f g h
  have HT := Lib.hid htr
  have HO := Lib.hid H.of
  have HC := Lib.hid H.cells
  clear hE htr H
  have HB := Lib.hid (Below.refl w.heap.size w)
  cases h1 : (E == 0) <;> rw [h1] at hff <;> cases hfg : holdsF f g <;> cases hgh : holdsF g h <;> cases hfh : holdsF f h
  all_goals first
    | (exfalso; have := HT.out hfg hgh; rw [hfh] at this; cases this; done)
    | (clear HT
       go_enter Try.func5, Try.ntmps5
       go_wp2_with (first
         | (go_at_call 14; refine (awake04_calls _).mono ?_; rintro e W' ⟨rfl, hb⟩; have HB' := Lib.hid (below_then HB.out hb); clear HB hb; have HB := HB'; clear HB')
         | (go_at_call 24; refine (holds_calls _ _ _).mono ?_; rintro e W' ⟨rfl, hb⟩; have HB' := Lib.hid (below_then HB.out hb); clear HB hb; have HB := HB'; clear HB')
         | (go_at_call 25; refine (refHolds_calls _ _ _).mono ?_; rintro e W' ⟨rfl, hb⟩; have HB' := Lib.hid (below_then HB.out hb); clear HB hb; have HB := HB'; clear HB')
         | (go_at_call 15; refine (HO.out _).mono ?_; rintro e W' ⟨rfl, hb⟩; have HB' := Lib.hid (below_then HB.out hb); clear HB hb; have HB := HB'; clear HB')
         | ((with_reducible refine gate_store 24 ?_); refine st_box 24 24 HB.out Try.sizeInfo (fun W2 hB2 _ _ => ?_) (hn := HC.out.1) (h1 := HC.out.2.1); have HB' := Lib.hid hB2; clear HB hB2; have HB := HB'; clear HB'))
       go_ret
       exact ⟨rfl, HB.out⟩)
end Go.Proofs.Ythaplpenccpkpaa
