/- The contracts of package flags, in one goroutine. -/
import Derived.Test.YthaplpenccpkpaaAtom
import Derived.Test.YthaplpenccpkpaaBits4
namespace Go.Proofs.Ythaplpenccpkpaa
open Go.RowKit
/-- A context lies in block g: its flags, its direction. -/
def CtxAt (w : World) (g : Nat) (r : B4) (d : Int) : Prop := w.heap[g]? = some (.cells #[.int .u32 (num r), .int .i32 d] 53)
theorem CtxAt.set0 {w : World} {g : Nat} {r : B4} {d : Int} (h : CtxAt w g r d) (s : B4) : CtxAt (w.setCell ⟨g, 0, none⟩ (.int .u32 (num s))) g s d := by
  have := heap_set h 0 (.int .u32 (num s)); exact this
theorem CtxAt.set1 {w : World} {g : Nat} {r : B4} {d : Int} (h : CtxAt w g r d) (s : Int) : CtxAt (w.setCell ⟨g, 1, none⟩ (.int .i32 s)) g r s := by
  have := heap_set h 1 (.int .i32 s); exact this
set_option maxHeartbeats 1000000 in
theorem new_calls (w : World) : Calls Try.prog 20 #[] w fun e w' => e = .returned (.pointer (some ⟨w.heap.size, 0, none⟩)) ∧ w' = w.alloc (.cells #[.int .u32 0, .int .i32 0] 53) := by
  go_enter Try.func20, Try.ntmps20
  go_wp2
  go_ret
  exact ⟨rfl, rfl⟩
theorem ctx_new (w : World) : CtxAt (w.alloc (.cells #[.int .u32 0, .int .i32 0] 53)) w.heap.size 0 0 := heap_new w _
set_option maxRecDepth 10000 in
set_option maxHeartbeats 1000000 in
theorem or_calls (w : World) (g : Nat) (r s : B4) (d : Int) (h : CtxAt w g r d) : Calls Try.prog 46 #[.pointer (some ⟨g, 0, none⟩), .int .u32 (num s)] w
    fun e w' => e = .returned (.int .u32 (num r)) ∧ w' = w.setCell ⟨g, 0, none⟩ (.int .u32 (num (r ||| s))) := by
  have h0 : w.cell? ⟨g, 0, none⟩ = some (.int .u32 (num r)) := cell_of_heap h 0
  have h1 : w.frozen? ⟨g, 0, none⟩ = false := free_of_heap h 0
  have hl := run_call_upd (P := Try.prog) (y := num s) Try.func67 (by kernel_rfl) (by kernel_rfl) (by kernel_rfl) .u32 (Op.intBits .or) (by kernel_rfl) h0 h1 (bits_or _ _ _ _)
  rw [or_num32] at hl
  clear h
  go_enter Try.func46, Try.ntmps46
  go_wp2
  go_ret
  exact ⟨rfl, rfl⟩
set_option maxRecDepth 10000 in
set_option maxHeartbeats 1000000 in
theorem and_calls (w : World) (g : Nat) (r : B4) (x d : Int) (h : CtxAt w g r d) : Calls Try.prog 47 #[.pointer (some ⟨g, 0, none⟩), .int .u32 x] w
    fun e w' => e = .returned (.int .u32 (num r)) ∧ w' = w.setCell ⟨g, 0, none⟩ (.int .u32 (num (r &&& fl x))) := by
  have h0 : w.cell? ⟨g, 0, none⟩ = some (.int .u32 (num r)) := cell_of_heap h 0
  have h1 : w.frozen? ⟨g, 0, none⟩ = false := free_of_heap h 0
  have hl := run_call_upd (P := Try.prog) (y := x) Try.func68 (by kernel_rfl) (by kernel_rfl) (by kernel_rfl) .u32 (Op.intBits .and) (by kernel_rfl) h0 h1 (bits_and _ _ _ _)
  rw [and_num32] at hl
  clear h
  go_enter Try.func47, Try.ntmps47
  go_wp2
  go_ret
  exact ⟨rfl, rfl⟩
set_option maxRecDepth 10000 in
set_option maxHeartbeats 1000000 in
theorem load_calls (w : World) (g : Nat) (r : B4) (d : Int) (h : CtxAt w g r d) : Calls Try.prog 48 #[.pointer (some ⟨g, 0, none⟩)] w
    fun e w' => e = .returned (.int .u32 (num r)) ∧ w' = w := by
  have h0 : w.cell? ⟨g, 0, none⟩ = some (.int .u32 (num r)) := cell_of_heap h 0
  have hl := run_call_load (P := Try.prog) Try.func69 (by kernel_rfl) (by kernel_rfl) (by kernel_rfl) .u32 (by kernel_rfl) h0
  clear h
  go_enter Try.func48, Try.ntmps48
  go_wp2
  go_ret
  exact ⟨rfl, rfl⟩
set_option maxRecDepth 10000 in
set_option maxHeartbeats 1000000 in
theorem raise_calls (w : World) (g : Nat) (r : B4) (d n : Int) (h : CtxAt w g r d) : Calls Try.prog 21 #[.pointer (some ⟨g, 0, none⟩), .int .i64 n] w
    fun e w' => e = .returned (.tuple #[]) ∧ w' = w.setCell ⟨g, 0, none⟩ (.int .u32 (num (r ||| fl n))) := by
  have e1 := and15 n
  have e2 : num (fl n) % 4294967296 = num (fl n) := by have := num_lt (fl n); omega
  go_enter Try.func21, Try.ntmps21
  go_wp2_with fail
  refine (or_calls w g r (fl n) d h).mono ?_
  rintro e w' ⟨rfl, rfl⟩
  go_wp2
  go_end0
  exact ⟨rfl, rfl⟩
set_option maxRecDepth 10000 in
set_option maxHeartbeats 1000000 in
theorem flags_calls (w : World) (g : Nat) (r : B4) (d : Int) (h : CtxAt w g r d) : Calls Try.prog 23 #[.pointer (some ⟨g, 0, none⟩)] w
    fun e w' => e = .returned (.int .i64 (num r)) ∧ w' = w := by
  have hb := num_lt r
  have b1 := hb.1
  have b2 := hb.2
  clear hb
  go_enter Try.func23, Try.ntmps23
  go_wp2_with fail
  refine (load_calls w g r d h).mono ?_
  rintro e w' ⟨rfl, rfl⟩
  go_wp2
  go_ret
  exact ⟨rfl, rfl⟩
theorem num_ne (a : B4) : (num a != 0) = (a != 0) := by
  rw [Bool.eq_iff_iff]
  simp only [bne_iff_ne, ne_eq]
  exact not_congr ⟨fun h => num_inj (h.trans num_zero.symm), fun h => by rw [h]; rfl⟩
set_option maxRecDepth 10000 in
set_option maxHeartbeats 1000000 in
theorem test_calls (w : World) (g : Nat) (r : B4) (d n : Int) (h : CtxAt w g r d) : Calls Try.prog 26 #[.pointer (some ⟨g, 0, none⟩), .int .i64 n] w
    fun e w' => e = .returned (.bool (r &&& fl n != 0)) ∧ w' = w := by
  have e1 := and_num r n
  have e2 := num_ne (r &&& fl n)
  go_enter Try.func26, Try.ntmps26
  go_wp2_with fail
  refine (flags_calls w g r d h).mono ?_
  rintro e w' ⟨rfl, rfl⟩
  go_wp2
  go_ret
  exact ⟨rfl, rfl⟩
theorem fl_not (n : Int) : fl (bits .xor .u32 IntKind.u32.max (num (fl n))) = ~~~ fl n := by
  have h : ∀ a : B4, fl (bits .xor .u32 IntKind.u32.max (num a)) = ~~~ a := by decide +kernel
  exact h _
theorem num_and_idem (r : B4) (n : Int) : bits .and .i64 (num r) (num (fl n)) = num (r &&& fl n) := by
  rw [and_num, fl_num]
set_option maxRecDepth 10000 in
set_option maxHeartbeats 1000000 in
theorem clear_calls (w : World) (g : Nat) (r : B4) (d n : Int) (h : CtxAt w g r d) : Calls Try.prog 22 #[.pointer (some ⟨g, 0, none⟩), .int .i64 n] w
    fun e w' => e = .returned (.int .i64 (num (r &&& fl n))) ∧ w' = w.setCell ⟨g, 0, none⟩ (.int .u32 (num (r &&& ~~~ fl n))) := by
  have e1 := and15 n
  have e2 : num (fl n) % 4294967296 = num (fl n) := by have := num_lt (fl n); omega
  have e4 := num_and_idem r n
  have b1 := (num_lt r).1
  have b2 := (num_lt r).2
  have c1 := (num_lt (fl n)).1
  have c2 := (num_lt (fl n)).2
  have e0 : IntKind.u32.signed = false := rfl
  go_enter Try.func22, Try.ntmps22
  go_wp2_with fail
  refine (and_calls w g r _ d h).mono ?_
  rintro e w' ⟨rfl, rfl⟩
  rw [fl_not]
  go_wp2
  go_ret
  exact ⟨rfl, rfl⟩
set_option maxRecDepth 10000 in
set_option maxHeartbeats 1000000 in
theorem direction_calls (w : World) (g : Nat) (r : B4) (d : Int) (h : CtxAt w g r d) (h0 : 0 ≤ d) (h1 : d ≤ 4) : Calls Try.prog 28 #[.pointer (some ⟨g, 0, none⟩)] w
    fun e w' => e = .returned (.int .i64 d) ∧ w' = w := by
  have hc : w.cell? ⟨g, 1, none⟩ = some (.int .i32 d) := cell_of_heap h 1
  have hl := run_call_load (P := Try.prog) Try.func71 (by kernel_rfl) (by kernel_rfl) (by kernel_rfl) .i32 (by kernel_rfl) hc
  clear h
  go_enter Try.func28, Try.ntmps28
  go_wp2
  go_ret
  exact ⟨rfl, rfl⟩
set_option maxRecDepth 10000 in
set_option maxHeartbeats 1000000 in
theorem set_calls (w : World) (g : Nat) (r : B4) (d n : Int) (h : CtxAt w g r d) (h0 : 0 ≤ d) (h1 : d ≤ 4) (hn : 0 ≤ n) (hn' : n ≤ 4) : Calls Try.prog 27 #[.pointer (some ⟨g, 0, none⟩), .int .i64 n] w
    fun e w' => e = .returned (.tuple #[.int .i64 d, .int .i64 0]) ∧ w' = w.setCell ⟨g, 1, none⟩ (.int .i32 n) := by
  have hc : w.cell? ⟨g, 1, none⟩ = some (.int .i32 d) := cell_of_heap h 1
  have hz : w.frozen? ⟨g, 1, none⟩ = false := free_of_heap h 1
  have hl := run_call_swap (P := Try.prog) (y := n) Try.func70 (by kernel_rfl) (by kernel_rfl) (by kernel_rfl) .i32 (by kernel_rfl) hc hz
  clear h
  go_enter Try.func27, Try.ntmps27
  go_wp2
  go_ret2
  exact ⟨rfl, rfl⟩
set_option maxRecDepth 10000 in
set_option maxHeartbeats 1000000 in
theorem set_none (w : World) (g : Nat) (n : Int) (hn : n < 0 ∨ 4 < n) : Calls Try.prog 27 #[.pointer (some ⟨g, 0, none⟩), .int .i64 n] w
    fun e w' => e = .returned (.tuple #[.int .i64 0, .int .i64 1]) ∧ w' = w := by
  rcases hn with hn | hn
  · go_enter Try.func27, Try.ntmps27
    go_wp2
    go_ret2
    exact ⟨rfl, rfl⟩
  · have hn' : 0 ≤ n := by omega
    have hd : decide (n ≤ 4) = false := by simp; omega
    go_enter Try.func27, Try.ntmps27
    go_wp2
    go_ret2
    exact ⟨rfl, rfl⟩
end Go.Proofs.Ythaplpenccpkpaa
