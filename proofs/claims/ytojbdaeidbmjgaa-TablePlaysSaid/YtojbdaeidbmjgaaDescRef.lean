/- The contract of the reference's Of (caliperref04). No conditions. -/
import Derived.Test.YtojbdaeidbmjgaaDesc
namespace Go.Proofs.Ytojbdaeidbmjgaa
open Go.RowKit
theorem Try.sizeRefInfo : (Try.prog.info? 73).map (·.size) = some 10 := by kernel_rfl
set_option maxRecDepth 100000 in
set_option maxHeartbeats 1000000 in
theorem refOf_calls1 (w : World) :
    Calls Try.prog 26 #[.int .i64 1] w fun e w' => e = .returned (.tuple #[.agg (infF 1), .int .i64 0]) ∧ Below w.heap.size w w' := by
  go_enter Try.func26, Try.ntmps26
  go_wp2
  exact bodyPost_ret (results_ct rfl _ _ w.heap.size 73 (infF 1) _ _ rfl (heap_alloc2_old _ _ _) Try.underlying73 rfl Try.sizeRefInfo) rfl
    ⟨rfl, below_alloc (below_alloc (Below.refl _ _) _) _⟩
set_option maxRecDepth 100000 in
set_option maxHeartbeats 1000000 in
theorem refOf_calls2 (w : World) :
    Calls Try.prog 26 #[.int .i64 2] w fun e w' => e = .returned (.tuple #[.agg (infF 2), .int .i64 0]) ∧ Below w.heap.size w w' := by
  go_enter Try.func26, Try.ntmps26
  go_wp2
  exact bodyPost_ret (results_ct rfl _ _ w.heap.size 73 (infF 2) _ _ rfl (heap_alloc2_old _ _ _) Try.underlying73 rfl Try.sizeRefInfo) rfl
    ⟨rfl, below_alloc (below_alloc (Below.refl _ _) _) _⟩
set_option maxRecDepth 100000 in
set_option maxHeartbeats 1000000 in
theorem refOf_calls3 (w : World) :
    Calls Try.prog 26 #[.int .i64 3] w fun e w' => e = .returned (.tuple #[.agg (infF 3), .int .i64 0]) ∧ Below w.heap.size w w' := by
  go_enter Try.func26, Try.ntmps26
  go_wp2
  exact bodyPost_ret (results_ct rfl _ _ w.heap.size 73 (infF 3) _ _ rfl (heap_alloc2_old _ _ _) Try.underlying73 rfl Try.sizeRefInfo) rfl
    ⟨rfl, below_alloc (below_alloc (Below.refl _ _) _) _⟩
set_option maxRecDepth 100000 in
set_option maxHeartbeats 1000000 in
theorem refOf_calls4 (w : World) :
    Calls Try.prog 26 #[.int .i64 4] w fun e w' => e = .returned (.tuple #[.agg (infF 4), .int .i64 0]) ∧ Below w.heap.size w w' := by
  go_enter Try.func26, Try.ntmps26
  go_wp2
  exact bodyPost_ret (results_ct rfl _ _ w.heap.size 73 (infF 4) _ _ rfl (heap_alloc2_old _ _ _) Try.underlying73 rfl Try.sizeRefInfo) rfl
    ⟨rfl, below_alloc (below_alloc (Below.refl _ _) _) _⟩
set_option maxRecDepth 100000 in
set_option maxHeartbeats 1000000 in
theorem refOf_calls5 (w : World) :
    Calls Try.prog 26 #[.int .i64 5] w fun e w' => e = .returned (.tuple #[.agg (infF 5), .int .i64 0]) ∧ Below w.heap.size w w' := by
  go_enter Try.func26, Try.ntmps26
  go_wp2
  exact bodyPost_ret (results_ct rfl _ _ w.heap.size 73 (infF 5) _ _ rfl (heap_alloc2_old _ _ _) Try.underlying73 rfl Try.sizeRefInfo) rfl
    ⟨rfl, below_alloc (below_alloc (Below.refl _ _) _) _⟩
set_option maxRecDepth 100000 in
set_option maxHeartbeats 1000000 in
theorem refOf_calls6 (w : World) :
    Calls Try.prog 26 #[.int .i64 6] w fun e w' => e = .returned (.tuple #[.agg (infF 6), .int .i64 0]) ∧ Below w.heap.size w w' := by
  go_enter Try.func26, Try.ntmps26
  go_wp2
  exact bodyPost_ret (results_ct rfl _ _ w.heap.size 73 (infF 6) _ _ rfl (heap_alloc2_old _ _ _) Try.underlying73 rfl Try.sizeRefInfo) rfl
    ⟨rfl, below_alloc (below_alloc (Below.refl _ _) _) _⟩
set_option maxRecDepth 100000 in
set_option maxHeartbeats 1000000 in
theorem refOf_calls7 (w : World) :
    Calls Try.prog 26 #[.int .i64 7] w fun e w' => e = .returned (.tuple #[.agg (infF 7), .int .i64 0]) ∧ Below w.heap.size w w' := by
  go_enter Try.func26, Try.ntmps26
  go_wp2
  exact bodyPost_ret (results_ct rfl _ _ w.heap.size 73 (infF 7) _ _ rfl (heap_alloc2_old _ _ _) Try.underlying73 rfl Try.sizeRefInfo) rfl
    ⟨rfl, below_alloc (below_alloc (Below.refl _ _) _) _⟩
set_option maxRecDepth 100000 in
set_option maxHeartbeats 1000000 in
theorem refOf_calls8 (w : World) :
    Calls Try.prog 26 #[.int .i64 8] w fun e w' => e = .returned (.tuple #[.agg (infF 8), .int .i64 0]) ∧ Below w.heap.size w w' := by
  go_enter Try.func26, Try.ntmps26
  go_wp2
  exact bodyPost_ret (results_ct rfl _ _ w.heap.size 73 (infF 8) _ _ rfl (heap_alloc2_old _ _ _) Try.underlying73 rfl Try.sizeRefInfo) rfl
    ⟨rfl, below_alloc (below_alloc (Below.refl _ _) _) _⟩
set_option maxRecDepth 100000 in
set_option maxHeartbeats 1000000 in
theorem refOf_calls9 (w : World) :
    Calls Try.prog 26 #[.int .i64 9] w fun e w' => e = .returned (.tuple #[.agg (infF 9), .int .i64 0]) ∧ Below w.heap.size w w' := by
  go_enter Try.func26, Try.ntmps26
  go_wp2
  exact bodyPost_ret (results_ct rfl _ _ w.heap.size 73 (infF 9) _ _ rfl (heap_alloc2_old _ _ _) Try.underlying73 rfl Try.sizeRefInfo) rfl
    ⟨rfl, below_alloc (below_alloc (Below.refl _ _) _) _⟩
set_option maxRecDepth 100000 in
set_option maxHeartbeats 1000000 in
theorem refOf_calls10 (w : World) :
    Calls Try.prog 26 #[.int .i64 10] w fun e w' => e = .returned (.tuple #[.agg (infF 10), .int .i64 0]) ∧ Below w.heap.size w w' := by
  go_enter Try.func26, Try.ntmps26
  go_wp2
  exact bodyPost_ret (results_ct rfl _ _ w.heap.size 73 (infF 10) _ _ rfl (heap_alloc2_old _ _ _) Try.underlying73 rfl Try.sizeRefInfo) rfl
    ⟨rfl, below_alloc (below_alloc (Below.refl _ _) _) _⟩
set_option maxRecDepth 100000 in
set_option maxHeartbeats 1000000 in
theorem refOf_calls11 (w : World) :
    Calls Try.prog 26 #[.int .i64 11] w fun e w' => e = .returned (.tuple #[.agg (infF 11), .int .i64 0]) ∧ Below w.heap.size w w' := by
  go_enter Try.func26, Try.ntmps26
  go_wp2
  exact bodyPost_ret (results_ct rfl _ _ w.heap.size 73 (infF 11) _ _ rfl (heap_alloc2_old _ _ _) Try.underlying73 rfl Try.sizeRefInfo) rfl
    ⟨rfl, below_alloc (below_alloc (Below.refl _ _) _) _⟩
set_option maxRecDepth 100000 in
set_option maxHeartbeats 1000000 in
theorem refOf_calls12 (w : World) :
    Calls Try.prog 26 #[.int .i64 12] w fun e w' => e = .returned (.tuple #[.agg (infF 12), .int .i64 0]) ∧ Below w.heap.size w w' := by
  go_enter Try.func26, Try.ntmps26
  go_wp2
  exact bodyPost_ret (results_ct rfl _ _ w.heap.size 73 (infF 12) _ _ rfl (heap_alloc2_old _ _ _) Try.underlying73 rfl Try.sizeRefInfo) rfl
    ⟨rfl, below_alloc (below_alloc (Below.refl _ _) _) _⟩

theorem refOf_calls (n : Int) (w : World) (h1 : 1 ≤ n) (h2 : n ≤ 12) :
    Calls Try.prog 26 #[.int .i64 n] w fun e w' => e = .returned (.tuple #[.agg (infF n), .int .i64 0]) ∧ Below w.heap.size w w' := by
  rcases twelve h1 h2 with rfl | rfl | rfl | rfl | rfl | rfl | rfl | rfl | rfl | rfl | rfl | rfl
  · exact refOf_calls1 w
  · exact refOf_calls2 w
  · exact refOf_calls3 w
  · exact refOf_calls4 w
  · exact refOf_calls5 w
  · exact refOf_calls6 w
  · exact refOf_calls7 w
  · exact refOf_calls8 w
  · exact refOf_calls9 w
  · exact refOf_calls10 w
  · exact refOf_calls11 w
  · exact refOf_calls12 w

set_option maxHeartbeats 1000000 in
theorem refOf_none (n : Int) (w : World) (h : n < 1 ∨ 12 < n) :
    Calls Try.prog 26 #[.int .i64 n] w fun e w' => e = .returned (.tuple #[.agg inf0, .int .i64 1]) ∧ Below w.heap.size w w' := by
  have e1 : (n == 1) = false := beq_eq_false_iff_ne.2 (by omega)
  have e2 : (n == 2) = false := beq_eq_false_iff_ne.2 (by omega)
  have e3 : (n == 3) = false := beq_eq_false_iff_ne.2 (by omega)
  have e4 : (n == 4) = false := beq_eq_false_iff_ne.2 (by omega)
  have e5 : (n == 5) = false := beq_eq_false_iff_ne.2 (by omega)
  have e6 : (n == 6) = false := beq_eq_false_iff_ne.2 (by omega)
  have e7 : (n == 7) = false := beq_eq_false_iff_ne.2 (by omega)
  have e8 : (n == 8) = false := beq_eq_false_iff_ne.2 (by omega)
  have e9 : (n == 9) = false := beq_eq_false_iff_ne.2 (by omega)
  have e10 : (n == 10) = false := beq_eq_false_iff_ne.2 (by omega)
  have e11 : (n == 11) = false := beq_eq_false_iff_ne.2 (by omega)
  have e12 : (n == 12) = false := beq_eq_false_iff_ne.2 (by omega)
  clear h
  go_enter Try.func26, Try.ntmps26
  go_wp2
  exact bodyPost_ret (results_ct rfl _ _ w.heap.size 73 inf0 _ _ rfl (heap_alloc2_old _ _ _) Try.underlying73 rfl Try.sizeRefInfo) rfl
    ⟨rfl, below_alloc (below_alloc (Below.refl _ _) _) _⟩
end Go.Proofs.Ytojbdaeidbmjgaa
