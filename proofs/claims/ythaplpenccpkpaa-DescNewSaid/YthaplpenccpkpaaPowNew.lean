/- desc.NewPowers. -/
import Derived.Test.YthaplpenccpkpaaPowCall
import Derived.Test.YthaplpenccpkpaaDescAll
namespace Go.Proofs.Ythaplpenccpkpaa
open Go.RowKit
set_option maxRecDepth 10000 in
set_option maxHeartbeats 2000000 in
theorem newPowers_of (n : Int) (w : World) (C : Array Value) (bb : Int) (p : Nat) (tb : Bool)
    (hof : ∀ w, Calls Try.prog 15 #[.int .i64 n] w fun e w' => e = .returned (.tuple #[.agg C, .int .i64 0]) ∧ Below w.heap.size w w')
    (hC : C.size = 10 ∧ C.all (·.oneCell') = true) (c2 : C[2]? = some (.int .i64 bb)) (c4 : C[4]? = some (.int .i64 (p : Nat))) (etb : (bb == 10) = tb) :
    Calls Try.prog 33 #[.int .i64 n] w fun e w' => ∃ g, e = .returned (.pointer (some ⟨g, 0, none⟩)) ∧ w.heap.size ≤ g ∧ PowNew w' g (if tb then 10 else 5) p ∧ Below w.heap.size w w' := by
  have HO := Lib.hid hof
  have HC := Lib.hid hC
  have H2 := Lib.hid c2
  have H4 := Lib.hid c4
  clear hof hC c2 c4
  cases tb
  all_goals
    go_enter Try.func33, Try.ntmps33
    go_wp2_with fail
    refine (HO.out _).mono ?_
    rintro e w2 ⟨rfl, hb2⟩
    have HB2 := Lib.hid hb2
    clear hb2
    go_wp2_with (first | ((with_reducible refine gate_store 24 ?_); refine st_box 24 24 (w0 := w) HB2.out Try.sizeInfo (fun W hbW hbw hW => ?_) (hn := HC.out.1) (h1 := HC.out.2); have q2 : W.cell? ⟨w2.heap.size, 2, none⟩ = some (.int .i64 bb) := (cell_of_heap hW 2).trans H2.out; have q4 : W.cell? ⟨w2.heap.size, 4, none⟩ = some (.int .i64 (p : Nat)) := (cell_of_heap hW 4).trans H4.out; have q2a : ∀ o, (W.alloc o).cell? ⟨w2.heap.size, 2, none⟩ = some (.int .i64 bb) := (fun o => by rw [World.cell?_alloc_past _ _ _ (lt_of_heap hW)]; exact q2); have HBW := Lib.hid hbW; clear hbW hbw hW) | fail)
    go_ret
    first
      | exact ⟨W.heap.size, rfl, HBW.out.size, heap_new _ _, HBW.out.alloc HBW.out.size _⟩
      | exact ⟨W.heap.size, rfl, HBW.out.size, heap_set (heap_new _ _) 0 _, (HBW.out.alloc HBW.out.size _).setCell HBW.out.size _⟩
set_option maxRecDepth 10000 in
set_option maxHeartbeats 2000000 in
theorem newPowers_none (n : Int) (w : World) (h : n < 1 ∨ 12 < n) :
    Calls Try.prog 33 #[.int .i64 n] w fun e w' => e = .returned (.pointer none) ∧ Below w.heap.size w w' := by
  have HO := Lib.hid (of_none n w h)
  clear h
  go_enter Try.func33, Try.ntmps33
  go_wp2_with fail
  refine HO.out.mono ?_
  rintro e w2 ⟨rfl, hb2⟩
  have HB2 := Lib.hid hb2
  clear hb2
  go_wp2_with (first | ((with_reducible refine gate_store 24 ?_); refine st_box 24 24 (w0 := w) HB2.out Try.sizeInfo (fun W hbW hbw hW => ?_) (hn := rfl) (h1 := by simp [inf0, Value.oneCell']); have HBW := Lib.hid hbW; clear hbW hbw hW) | fail)
  go_ret
  exact ⟨rfl, HBW.out⟩
/-- The base of a format's powers, and its precision. -/
def powBase (n : Nat) : Nat := if 7 ≤ n then 10 else 5
theorem newPowers_calls (n : Nat) (w : World) (h1 : 1 ≤ n) (h2 : n ≤ 12) : ∃ p, p ≤ 300 ∧ (infF (n : Nat))[4]? = some (.int .i64 (p : Nat)) ∧
    Calls Try.prog 33 #[.int .i64 (n : Nat)] w fun e w' => ∃ g, e = .returned (.pointer (some ⟨g, 0, none⟩)) ∧ w.heap.size ≤ g ∧ PowNew w' g (powBase n) p ∧ Below w.heap.size w w' := by
  have hn : n = 1 ∨ n = 2 ∨ n = 3 ∨ n = 4 ∨ n = 5 ∨ n = 6 ∨ n = 7 ∨ n = 8 ∨ n = 9 ∨ n = 10 ∨ n = 11 ∨ n = 12 := by omega
  rcases hn with rfl | rfl | rfl | rfl | rfl | rfl | rfl | rfl | rfl | rfl | rfl | rfl
  · exact ⟨11, by decide, rfl, newPowers_of _ w (infF _) 2 11 false (fun w => of_calls _ w (by decide) (by decide)) ⟨rfl, by simp [infF, Value.oneCell']⟩ rfl rfl rfl⟩
  · exact ⟨8, by decide, rfl, newPowers_of _ w (infF _) 2 8 false (fun w => of_calls _ w (by decide) (by decide)) ⟨rfl, by simp [infF, Value.oneCell']⟩ rfl rfl rfl⟩
  · exact ⟨24, by decide, rfl, newPowers_of _ w (infF _) 2 24 false (fun w => of_calls _ w (by decide) (by decide)) ⟨rfl, by simp [infF, Value.oneCell']⟩ rfl rfl rfl⟩
  · exact ⟨53, by decide, rfl, newPowers_of _ w (infF _) 2 53 false (fun w => of_calls _ w (by decide) (by decide)) ⟨rfl, by simp [infF, Value.oneCell']⟩ rfl rfl rfl⟩
  · exact ⟨113, by decide, rfl, newPowers_of _ w (infF _) 2 113 false (fun w => of_calls _ w (by decide) (by decide)) ⟨rfl, by simp [infF, Value.oneCell']⟩ rfl rfl rfl⟩
  · exact ⟨241, by decide, rfl, newPowers_of _ w (infF _) 2 241 false (fun w => of_calls _ w (by decide) (by decide)) ⟨rfl, by simp [infF, Value.oneCell']⟩ rfl rfl rfl⟩
  · exact ⟨7, by decide, rfl, newPowers_of _ w (infF _) 10 7 true (fun w => of_calls _ w (by decide) (by decide)) ⟨rfl, by simp [infF, Value.oneCell']⟩ rfl rfl rfl⟩
  · exact ⟨16, by decide, rfl, newPowers_of _ w (infF _) 10 16 true (fun w => of_calls _ w (by decide) (by decide)) ⟨rfl, by simp [infF, Value.oneCell']⟩ rfl rfl rfl⟩
  · exact ⟨34, by decide, rfl, newPowers_of _ w (infF _) 10 34 true (fun w => of_calls _ w (by decide) (by decide)) ⟨rfl, by simp [infF, Value.oneCell']⟩ rfl rfl rfl⟩
  · exact ⟨7, by decide, rfl, newPowers_of _ w (infF _) 10 7 true (fun w => of_calls _ w (by decide) (by decide)) ⟨rfl, by simp [infF, Value.oneCell']⟩ rfl rfl rfl⟩
  · exact ⟨16, by decide, rfl, newPowers_of _ w (infF _) 10 16 true (fun w => of_calls _ w (by decide) (by decide)) ⟨rfl, by simp [infF, Value.oneCell']⟩ rfl rfl rfl⟩
  · exact ⟨34, by decide, rfl, newPowers_of _ w (infF _) 10 34 true (fun w => of_calls _ w (by decide) (by decide)) ⟨rfl, by simp [infF, Value.oneCell']⟩ rfl rfl rfl⟩
end Go.Proofs.Ythaplpenccpkpaa
