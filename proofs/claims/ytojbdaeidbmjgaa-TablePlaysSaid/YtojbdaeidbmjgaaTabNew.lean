/- A table made anew; what the methods answer in short; awake. No conditions. -/
import Derived.Test.YtojbdaeidbmjgaaTabHdl
namespace Go.Proofs.Ytojbdaeidbmjgaa
set_option linter.unusedVariables false
set_option linter.unusedSimpArgs false
open Go.RowKit Go.Maps
theorem tabAt_new {w0 w : World} (hb : Below w0.heap.size w0 w) : TabAt w0 (w.alloc (.cells #[.int .i32 0, .int .u32 0, .map none] 55)) w.heap.size (.map []) := by
  have h := heap_new w (.cells #[.int .i32 0, .int .u32 0, .map none] 55)
  exact ⟨cell_of_heap h 0, fun i => free_of_heap h i, .inl ⟨cell_of_heap h 2, rfl⟩, hb.size, hb.alloc hb.size _⟩
set_option maxRecDepth 10000 in
theorem new_calls (w : World) : Calls Try.prog 9 #[] w fun e w' => e = .returned (.pointer (some ⟨w.heap.size, 0, none⟩)) ∧ w' = w.alloc (.cells #[.int .i32 0, .int .u32 0, .map none] 55) := by
  go_enter Try.func9, Try.ntmps9
  go_wp2
  go_ret
  exact ⟨rfl, rfl⟩
/-- Get, every other block of cells as it was. -/
theorem get_keep (w0 : World) (sb : Nat) (D : DataW Unit) (x : Int) (w : World) (hT : TabAt w0 w sb D) (hwx : (Lit.int .i64 x).wf = true) :
    Calls Try.prog 14 #[.pointer (some ⟨sb, 0, none⟩), .int .i64 x] w fun e w' => (∃ v, D.atKey (.int .i64 x) (entD zeroE) = entD v ∧ e = .returned (getV v (Maps.has D (.int .i64 x)))) ∧
      TabAt w0 w' sb D ∧ Keep sb w w' :=
  (get_tab w0 sb D x w hT hwx).mono fun e w' ⟨h1, h2, h3⟩ => ⟨h1, h2, Keep.of_others h3⟩
theorem free_tab (w0 : World) (sb : Nat) (D : DataW Unit) (x : Int) (w : World) (hT : TabAt w0 w sb D) (hwx : (Lit.int .i64 x).wf = true) :
    Calls Try.prog 11 #[.pointer (some ⟨sb, 0, none⟩), .int .i64 x] w fun e w' => e = .returned (.int .i64 (if Maps.has D (.int .i64 x) then 0 else 6)) ∧
      TabAt w0 w' sb (if Maps.has D (.int .i64 x) then D.del (.int .i64 x) else D) ∧ Keep sb w w' := by
  rcases hT.fld with ⟨h1, rfl⟩ | ⟨bm, n, h1, h2, h3, h4⟩
  · exact (free_nil w0 sb x w hT h1 hwx).mono fun e w' ⟨he, ht, hk⟩ => ⟨he, ht, hk⟩
  · exact (free_full w0 sb bm n D x w hT h1 h2 h3 h4 hwx).mono fun e w' ⟨he, ht, hk⟩ => ⟨he, ht, hk⟩
theorem fits_ok (num : Int) (a : Nat) (h1 : 1 ≤ num) (h2 : num ≤ 12) (ha : a < 65536) : fitsF num a 0 0 0 = true := by
  have hw := wd_bd num h1 h2
  have hv : val [a, 0, 0, 0] = a := by simp [val]
  have hbl : blen a ≤ 16 := by
    by_cases h0 : a = 0
    · rw [h0]; decide
    · unfold blen
      rw [if_neg h0]
      have := (Nat.log2_lt (k := 16) h0).2 (by omega)
      omega
  unfold fitsF
  rw [hv]
  have : isF num = true := by simp [isF, h1, h2]
  rw [this]
  simp
  omega
/-- Put, where there is room. -/
theorem put_ok (w0 : World) (sb : Nat) (D : DataW Unit) (num : Int) (b0 b1 b2 b3 : Nat) (hb : W64 [b0, b1, b2, b3]) (w : World) (hT : TabAt w0 w sb D) (hf : fitsF num b0 b1 b2 b3 = true) (hsz : Maps.size D < 1000) (k : Nat) (hk : LeastFree D k) :
    Calls Try.prog 10 #[.pointer (some ⟨sb, 0, none⟩), .int .i64 num, bitsV b0 b1 b2 b3] w fun e w' => e = .returned (.tuple #[.int .i64 k, .int .i64 0]) ∧ TabAt w0 w' sb (D.put (.int .i64 k) (entD ⟨num, b0, b1, b2, b3⟩)) ∧ Keep sb w w' := by
  refine (put_tab w0 sb D num b0 b1 b2 b3 hb w hT).mono ?_
  rintro e w' ⟨hkp, h⟩
  rcases h with ⟨h1, _⟩ | ⟨_, h1, _⟩ | ⟨_, _, j, hj, _, rfl, ht⟩
  · rw [hf] at h1; cases h1
  · omega
  · obtain rfl := hj.unique hk
    exact ⟨rfl, ht, hkp⟩
theorem put_full (w0 : World) (sb : Nat) (D : DataW Unit) (num : Int) (b0 b1 b2 b3 : Nat) (hb : W64 [b0, b1, b2, b3]) (w : World) (hT : TabAt w0 w sb D) (hf : fitsF num b0 b1 b2 b3 = true) (hsz : 1000 ≤ Maps.size D) :
    Calls Try.prog 10 #[.pointer (some ⟨sb, 0, none⟩), .int .i64 num, bitsV b0 b1 b2 b3] w fun e w' => e = .returned (.tuple #[.int .i64 0, .int .i64 5]) ∧ TabAt w0 w' sb D ∧ Keep sb w w' := by
  refine (put_tab w0 sb D num b0 b1 b2 b3 hb w hT).mono ?_
  rintro e w' ⟨hkp, h⟩
  rcases h with ⟨h1, _⟩ | ⟨_, _, rfl, ht⟩ | ⟨_, h1, _⟩
  · rw [hf] at h1; cases h1
  · exact ⟨rfl, ht, hkp⟩
  · omega
set_option maxRecDepth 10000 in
set_option maxHeartbeats 1600000 in
theorem tawake_calls (w : World) : Calls Try.prog 8 #[] w fun e w' => e = .returned (.bool true) ∧ Below w.heap.size w w' := by
  have HT := Lib.hid (tabAt_new (Below.refl w.heap.size w))
  have HP : Hid (Calls Try.prog 10 #[.pointer (some ⟨w.heap.size, 0, none⟩), .int .i64 3, .agg #[.int .u64 5, .int .u64 0, .int .u64 0, .int .u64 0]] (w.alloc (.cells #[.int .i32 0, .int .u32 0, .map none] 55))
      fun e w' => e = .returned (.tuple #[.int .i64 1, .int .i64 0]) ∧ TabAt w w' w.heap.size ((DataW.map []).put (.int .i64 (1 : Nat)) (entD ⟨3, 5, 0, 0, 0⟩)) ∧ Keep w.heap.size (w.alloc (.cells #[.int .i32 0, .int .u32 0, .map none] 55)) w') :=
    Lib.hid (put_ok w w.heap.size (.map []) 3 5 0 0 0 (by intro x hx; simp at hx; rcases hx with rfl | rfl <;> decide) _ HT.out (fits_ok 3 5 (by omega) (by omega) (by omega)) (by simp [Maps.size]) 1 rel_empty.least)
  go_enter Try.func8, Try.ntmps8
  go_wp2_with fail
  refine (new_calls _).mono ?_
  rintro e w' ⟨rfl, rfl⟩
  go_wp2_with fail
  refine HP.out.mono ?_
  rintro e w2 ⟨rfl, ht, hk⟩
  have hsz : Maps.size ((DataW.map [] : DataW Unit).put (.int .i64 (1 : Nat)) (entD ⟨3, 5, 0, 0, 0⟩)) = 1 := by rw [size_put tidy_empty]; rfl
  have HLN := Lib.hid (len_tab w w.heap.size _ w2 ht (by omega))
  rw [hsz] at HLN
  clear ht hk hsz HP HT
  go_wp2_with fail
  refine HLN.out.mono ?_
  rintro e w3 ⟨rfl, ht, hk⟩
  have HB := Lib.hid ht.bel
  clear ht hk HLN
  go_wp2
  go_ret
  exact ⟨rfl, HB.out⟩
end Go.Proofs.Ytojbdaeidbmjgaa
