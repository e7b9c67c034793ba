/- TableNil: a nil table has nothing; answers are new memory. No conditions. -/
import Derived.Test.YtojbdaeidbmjgaaTabSets
namespace Go.Proofs.Ytojbdaeidbmjgaa
set_option linter.unusedVariables false
set_option linter.unusedSimpArgs false
open Go.RowKit Go.Maps
set_option maxRecDepth 10000 in
theorem put_nilp (w : World) (n b0 b1 b2 b3 : Int) : Calls Try.prog 10 #[.pointer none, .int .i64 n, .agg #[.int .u64 b0, .int .u64 b1, .int .u64 b2, .int .u64 b3]] w fun e w' =>
    e = .returned (.tuple #[.int .i64 0, .int .i64 1]) ∧ Below w.heap.size w w' := by
  go_enter_defers Try.func10, Try.ntmps10
  go_wp2
  exact ⟨_, results_tmp2 rfl _ _ _, rfl, below_alloc (Below.refl _ _) _⟩
set_option maxRecDepth 10000 in
theorem get_nilp (w : World) (h : Int) : Calls Try.prog 14 #[.pointer none, .int .i64 h] w fun e w' =>
    e = .returned (.tuple #[.int .i64 0, .agg #[.int .u64 0, .int .u64 0, .int .u64 0, .int .u64 0], .int .i64 1]) ∧ Below w.heap.size w w' := by
  have hz0 := heap_new w (.cells #[.int .u64 0, .int .u64 0, .int .u64 0, .int .u64 0] 31)
  have zc0 : (w.alloc (.cells #[.int .u64 0, .int .u64 0, .int .u64 0, .int .u64 0] 31)).cell? ⟨w.heap.size, 0, none⟩ = some (.int .u64 0) := cell_of_heap hz0 0
  have zc1 : (w.alloc (.cells #[.int .u64 0, .int .u64 0, .int .u64 0, .int .u64 0] 31)).cell? ⟨w.heap.size, 1, none⟩ = some (.int .u64 0) := cell_of_heap hz0 1
  have zc2 : (w.alloc (.cells #[.int .u64 0, .int .u64 0, .int .u64 0, .int .u64 0] 31)).cell? ⟨w.heap.size, 2, none⟩ = some (.int .u64 0) := cell_of_heap hz0 2
  have zc3 : (w.alloc (.cells #[.int .u64 0, .int .u64 0, .int .u64 0, .int .u64 0] 31)).cell? ⟨w.heap.size, 3, none⟩ = some (.int .u64 0) := cell_of_heap hz0 3
  have zf : ∀ i, (w.alloc (.cells #[.int .u64 0, .int .u64 0, .int .u64 0, .int .u64 0] 31)).frozen? ⟨w.heap.size, i, none⟩ = false := fun i => free_of_heap hz0 i
  go_enter_defers Try.func14, Try.ntmps14
  go_wp2
  exact ⟨_, results_tct rfl _ _ w.heap.size 31 _ _ _ rfl hz0 Try.underlying31 rfl (by kernel_rfl), rfl, below_alloc (Below.refl _ _) _⟩
set_option maxRecDepth 10000 in
theorem free_nilp (w : World) (h : Int) : Calls Try.prog 11 #[.pointer none, .int .i64 h] w fun e w' => e = .returned (.int .i64 1) ∧ Below w.heap.size w w' := by
  go_enter_defers Try.func11, Try.ntmps11
  go_wp2
  exact ⟨_, results_tmp rfl _ _ _, rfl, Below.refl _ _⟩
set_option maxRecDepth 10000 in
theorem set_nilp (w : World) (h n b0 b1 b2 b3 : Int) : Calls Try.prog 13 #[.pointer none, .int .i64 h, .int .i64 n, .agg #[.int .u64 b0, .int .u64 b1, .int .u64 b2, .int .u64 b3]] w fun e w' =>
    e = .returned (.int .i64 1) ∧ Below w.heap.size w w' := by
  go_enter_defers Try.func13, Try.ntmps13
  go_wp2
  exact ⟨_, results_tmp rfl _ _ _, rfl, below_alloc (Below.refl _ _) _⟩
set_option maxRecDepth 10000 in
theorem handles_nilp (w : World) : Calls Try.prog 22 #[.pointer none] w fun e w' => e = .returned (.slice none 0 0) ∧ Below w.heap.size w w' := by
  go_enter_defers Try.func22, Try.ntmps22
  go_wp2
  exact ⟨_, results_tmp rfl _ _ _, rfl, Below.refl _ _⟩
set_option maxRecDepth 10000 in
theorem len_nilp (w : World) : Calls Try.prog 12 #[.pointer none] w fun e w' => e = .returned (.int .i64 0) ∧ Below w.heap.size w w' := by
  go_enter Try.func12, Try.ntmps12
  go_wp2_with fail
  refine (handles_nilp _).mono ?_
  rintro e w1 ⟨rfl, hb⟩
  go_wp2
  go_ret
  exact ⟨rfl, hb⟩
set_option maxRecDepth 10000 in
theorem together_nilp (w : World) (n : Int) (a : Option Addr) (l c : Nat) : Calls Try.prog 21 #[.pointer none, .int .i64 n, .slice a l c] w fun e w' => e = .returned (.slice none 0 0) ∧ Below w.heap.size w w' := by
  go_enter Try.func21, Try.ntmps21
  go_wp2
  go_ret
  exact ⟨rfl, below_alloc (below_alloc (Below.refl _ _) _) _⟩
theorem TabAt.setOther {w0 W : World} {sb g : Nat} {D : DataW Unit} {cs : Array Value} {t : TypeId} {f : Nat × Nat} (h : TabAt w0 W sb D) (hg : W.heap[g]? = some (.cells cs t f)) (hne : g ≠ sb) (hB : w0.heap.size ≤ g) (i : Nat) (v : Value) :
    TabAt w0 (W.setCell ⟨g, i, none⟩ v) sb D := by
  have e : (W.setCell ⟨g, i, none⟩ v).heap[sb]? = W.heap[sb]? := heap_set_other (fun e => hne e.symm) i v
  refine ⟨(cell_eq e 0).trans h.lock, fun j => (frozen_eq e j).trans (h.free j), ?_, h.base, h.bel.setCell hB _⟩
  rcases h.fld with ⟨h1, h2⟩ | ⟨bm, n, h1, h2, h3, h4⟩
  · exact .inl ⟨(cell_eq e 2).trans h1, h2⟩
  · have hbm : bm ≠ g := fun e => by
      obtain ⟨es, clock, hm, _⟩ := h4
      rw [e, hg] at hm
      cases hm
    exact .inr ⟨bm, n, (cell_eq e 2).trans h1, h2, h3, h4.setCell (a := ⟨g, i, none⟩) hbm v⟩
theorem one_key {xs : List Int} {en : EntL} (h : SortedKeys ((DataW.map [] : DataW Unit).put (.int .i64 (1 : Nat)) (entD en)) xs) : xs = [1] :=
  h.unique (rel_empty.putNew (by simp) en).sorted
set_option maxRecDepth 100000 in
set_option maxHeartbeats 3200000 in
theorem tnil_calls (w : World) (h num : Int) (b0 b1 b2 b3 : Nat) : Calls Try.prog 7 #[.int .i64 h, .int .i64 num, bitsV b0 b1 b2 b3] w fun e w' => e = .returned (.bool true) ∧ Below w.heap.size w w' := by
  have HP : Hid (∀ W sb, TabAt w W sb (.map []) → Calls Try.prog 10 #[.pointer (some ⟨sb, 0, none⟩), .int .i64 3, .agg #[.int .u64 1, .int .u64 0, .int .u64 0, .int .u64 0]] W
      fun e w' => e = .returned (.tuple #[.int .i64 1, .int .i64 0]) ∧ TabAt w w' sb ((DataW.map []).put (.int .i64 (1 : Nat)) (entD ⟨3, 1, 0, 0, 0⟩)) ∧ Keep sb W w') :=
    Lib.hid (fun W sb hT => put_ok w sb (.map []) 3 1 0 0 0 (w64_one 1 (by omega)) W hT (fits_ok 3 1 (by omega) (by omega) (by omega)) (by simp [Maps.size]) 1 rel_empty.least)
  have hsz : Maps.size ((DataW.map [] : DataW Unit).put (.int .i64 (1 : Nat)) (entD ⟨3, 1, 0, 0, 0⟩)) = 1 := by rw [size_put tidy_empty]; rfl
  have HH : Hid (∀ W sb, TabAt w W sb ((DataW.map []).put (.int .i64 (1 : Nat)) (entD ⟨3, 1, 0, 0, 0⟩)) → Calls Try.prog 22 #[.pointer (some ⟨sb, 0, none⟩)] W
      fun e w' => ∃ g cap cur, e = .returned (.slice (some ⟨g, 0, none⟩) 1 cap) ∧ 1 ≤ cap ∧ W.heap.size ≤ g ∧ w'.heap[g]? = some (.cells cur 3 (0, 0)) ∧ cur[0]? = some (.int .i64 1) ∧ TabAt w w' sb ((DataW.map []).put (.int .i64 (1 : Nat)) (entD ⟨3, 1, 0, 0, 0⟩)) ∧ Keep sb W w') :=
    Lib.hid (fun W sb hT => (handles_tab w sb _ W hT (by omega)).mono (by
      rintro e w' ⟨v, xs, rfl, hs, _, hr, ht, hk⟩
      obtain rfl := one_key hs
      rcases hr.2 with ⟨_, h0⟩ | ⟨g, cap, cur, rfl, hB, hg, h1, h2, h3, h4⟩
      · cases h0
      · refine ⟨g, cap, cur, rfl, h1, hB, hg, ?_, ht, hk⟩
        have e0 : (cur.toList.take (1 * 1))[0]? = some (encZ 1) := by
          have h5 : cur.toList.take (1 * 1) = [encZ 1] := h4
          rw [h5]; rfl
        rw [List.getElem?_take, if_pos (by omega), Array.getElem?_toList] at e0
        exact e0))
  unfold bitsV
  clear hsz
  go_enter Try.func7, Try.ntmps7
  go_wp2_with fail
  have HB0 := Lib.hid (below_alloc (Below.refl w.heap.size w) (.cells #[.int .u64 (b0 : Nat), .int .u64 (b1 : Nat), .int .u64 (b2 : Nat), .int .u64 (b3 : Nat)] 31))
  have HX0 := Lib.hid (heap_new w (.cells #[.int .u64 (b0 : Nat), .int .u64 (b1 : Nat), .int .u64 (b2 : Nat), .int .u64 (b3 : Nat)] 31))
  generalize w.alloc (.cells #[.int .u64 (b0 : Nat), .int .u64 (b1 : Nat), .int .u64 (b2 : Nat), .int .u64 (b3 : Nat)] 31) = wa at HB0 HX0 ⊢
  refine (tawake_calls _).mono ?_
  rintro e w1 ⟨rfl, hb1⟩
  have HB1 := Lib.hid (below_then HB0.out hb1)
  have HX1 := Lib.hid (below_heap hb1 HX0.out)
  clear hb1 HB0 HX0
  have x0 := cell_of_heap HX1.out 0
  have x1 := cell_of_heap HX1.out 1
  have x2 := cell_of_heap HX1.out 2
  have x3 := cell_of_heap HX1.out 3
  simp at x0 x1 x2 x3
  go_wp2_with fail
  refine (put_nilp _ _ _ _ _ _).mono ?_
  rintro e w2 ⟨rfl, hb2⟩
  have HB2 := Lib.hid (below_then HB1.out hb2)
  have HX2 := Lib.hid (below_heap hb2 HX1.out)
  clear hb2 HB1 HX1 x0 x1 x2 x3
  go_wp2_with fail
  refine (get_nilp _ _).mono ?_
  rintro e w3 ⟨rfl, hb3⟩
  have HB3 := Lib.hid (below_then HB2.out hb3)
  have HX3 := Lib.hid (below_heap hb3 HX2.out)
  clear hb3 HB2 HX2
  go_wp2_with fail
  have HB4 := Lib.hid (below_alloc HB3.out (.cells #[.int .u64 0, .int .u64 0, .int .u64 0, .int .u64 0] 31))
  have HX4 := Lib.hid (below_heap (below_alloc (Below.refl _ _) (.cells #[.int .u64 0, .int .u64 0, .int .u64 0, .int .u64 0] 31)) HX3.out)
  have HY4 := Lib.hid (heap_new w3 (.cells #[.int .u64 0, .int .u64 0, .int .u64 0, .int .u64 0] 31))
  generalize w3.alloc (.cells #[.int .u64 0, .int .u64 0, .int .u64 0, .int .u64 0] 31) = w4 at HB4 HX4 HY4 ⊢
  have HLX := Lib.hid (lt_of_heap HX3.out)
  clear HB3 HX3
  obtain ⟨yb, hyb⟩ : ∃ y, w3.heap.size = y := ⟨_, rfl⟩
  rw [hyb] at HY4 HLX ⊢
  clear hyb
  refine (new_calls _).mono ?_
  rintro e w' ⟨rfl, rfl⟩
  have HT := Lib.hid (tabAt_new HB4.out)
  have HX := Lib.hid (below_heap (below_alloc (Below.refl w4.heap.size w4) (.cells #[.int .i32 0, .int .u32 0, .map none] 55)) HX4.out)
  have HY := Lib.hid (below_heap (below_alloc (Below.refl w4.heap.size w4) (.cells #[.int .i32 0, .int .u32 0, .map none] 55)) HY4.out)
  have HNX : Hid (w.heap.size ≠ w4.heap.size) := Lib.hid (Nat.ne_of_lt (lt_of_heap HX4.out))
  have HNY : Hid (yb ≠ w4.heap.size) := Lib.hid (Nat.ne_of_lt (lt_of_heap HY4.out))
  obtain ⟨sb, hsb⟩ : ∃ s, w4.heap.size = s := ⟨_, rfl⟩
  rw [hsb] at HT HNX HNY ⊢
  generalize w4.alloc (.cells #[.int .i32 0, .int .u32 0, .map none] 55) = W at HT HX HY ⊢
  clear hsb HB4 HX4 HY4
  go_wp2_with fail
  refine (HP.out _ _ HT.out).mono ?_
  rintro e w5 ⟨rfl, ht5, hk5⟩
  have HT5 := Lib.hid ht5
  have HX5 := Lib.hid (hk5 _ _ _ _ HNX.out HX.out)
  have HY5 := Lib.hid (hk5 _ _ _ _ HNY.out HY.out)
  clear ht5 hk5 HT HX HY HP
  go_wp2_with fail
  refine (HH.out _ _ HT5.out).mono ?_
  rintro e w6 ⟨g, cap, cur, rfl, hcap, hg, hcur, hcell, ht6, hk6⟩
  have HX6 := Lib.hid (hk6 _ _ _ _ HNX.out HX5.out)
  have HY6 := Lib.hid (hk6 _ _ _ _ HNY.out HY5.out)
  have hgx : w.heap.size ≠ g := by have := lt_of_heap HX5.out; omega
  have hgy : yb ≠ g := by have := lt_of_heap HY5.out; omega
  have hgs : g ≠ sb := by have := HT5.out.lt; omega
  have hgw : w.heap.size ≤ g := by have := lt_of_heap HX5.out; omega
  have HT7 := Lib.hid (ht6.setOther hcur hgs hgw 0 (.int .i64 9))
  have HX7 := Lib.hid ((heap_set_other hgx 0 (.int .i64 9)).trans HX6.out)
  have HY7 := Lib.hid ((heap_set_other hgy 0 (.int .i64 9)).trans HY6.out)
  have hc0 : w6.cell? ⟨g, 0, none⟩ = some (.int .i64 1) := (cell_of_heap hcur 0).trans hcell
  have hf0 : w6.frozen? ⟨g, 0, none⟩ = false := free_of_heap hcur 0
  clear hgx hgy hgs hgw ht6 hk6 hcur hcell HX5 HY5 HX6 HY6 HT5 hg
  obtain ⟨w7, hw7⟩ : ∃ W, W = w6.setCell ⟨g, 0, none⟩ (.int .i64 9) := ⟨_, rfl⟩
  rw [← hw7] at HT7 HX7 HY7
  have y0 : w7.cell? ⟨yb, 0, none⟩ = some (.int .u64 0) := cell_of_heap HY7.out 0
  have y1 : w7.cell? ⟨yb, 1, none⟩ = some (.int .u64 0) := cell_of_heap HY7.out 1
  have y2 : w7.cell? ⟨yb, 2, none⟩ = some (.int .u64 0) := cell_of_heap HY7.out 2
  have y3 : w7.cell? ⟨yb, 3, none⟩ = some (.int .u64 0) := cell_of_heap HY7.out 3
  rw [hw7] at y0 y1 y2 y3
  have heql := bits_eql
  go_wp2_with fail
  rw [← hw7]
  clear y0 y1 y2 y3 hc0 hf0 hw7 heql
  refine (free_nilp _ _).mono ?_
  rintro e w8 ⟨rfl, hb8⟩
  have HT8 := Lib.hid (HT7.out.grow hb8)
  have HX8 := Lib.hid (below_heap hb8 HX7.out)
  clear hb8 HT7 HX7 HY7
  have x0 := cell_of_heap HX8.out 0
  have x1 := cell_of_heap HX8.out 1
  have x2 := cell_of_heap HX8.out 2
  have x3 := cell_of_heap HX8.out 3
  simp at x0 x1 x2 x3
  go_wp2_with fail
  refine (set_nilp _ _ _ _ _ _ _).mono ?_
  rintro e w9 ⟨rfl, hb9⟩
  have HT9 := Lib.hid (HT8.out.grow hb9)
  have HX9 := Lib.hid (below_heap hb9 HX8.out)
  clear hb9 HT8 HX8 x0 x1 x2 x3
  go_wp2_with fail
  refine (len_nilp _).mono ?_
  rintro e w10 ⟨rfl, hb10⟩
  have HT10 := Lib.hid (HT9.out.grow hb10)
  have HX10 := Lib.hid (below_heap hb10 HX9.out)
  clear hb10 HT9 HX9
  have x0 := cell_of_heap HX10.out 0
  have x1 := cell_of_heap HX10.out 1
  have x2 := cell_of_heap HX10.out 2
  have x3 := cell_of_heap HX10.out 3
  simp at x0 x1 x2 x3
  go_wp2_with fail
  refine (together_nilp _ _ _ _ _).mono ?_
  rintro e w11 ⟨rfl, hb11⟩
  have HT11 := Lib.hid (HT10.out.grow (below_then (below_alloc (below_alloc (Below.refl _ _) _) _) hb11))
  clear hb11 HT10 HX10 x0 x1 x2 x3
  go_wp2_with fail
  refine (handles_nilp _).mono ?_
  rintro e w12 ⟨rfl, hb12⟩
  have HT12 := Lib.hid (HT11.out.grow hb12)
  clear hb12 HT11
  go_wp2_with fail
  refine (HH.out _ _ HT12.out).mono ?_
  rintro e w13 ⟨g2, cap2, cur2, rfl, hcap2, hg2, hcur2, hcell2, ht13, hk13⟩
  have hc0 : w13.cell? ⟨g2, 0, none⟩ = some (.int .i64 1) := (cell_of_heap hcur2 0).trans hcell2
  have HBF := Lib.hid ht13.bel
  clear hcur2 hcell2 hk13 ht13 hg2
  go_wp2
  go_ret
  exact ⟨rfl, HBF.out⟩
theorem tableNil_row (h num : Int) (v : Value) (w : World) (_ : (Lit.int .i64 h).wf = true) (_ : (Lit.int .i64 num).wf = true) (hv : ∃ b0 b1 b2 b3 : Nat, v = bitsV b0 b1 b2 b3 ∧ W64 [b0, b1, b2, b3]) :
    Calls Try.prog 7 #[.int .i64 h, .int .i64 num, v] w fun e w' => e = .returned (.bool true) ∧ Below w.heap.size w w' := by
  obtain ⟨b0, b1, b2, b3, rfl, hb⟩ := hv
  exact tnil_calls w h num b0 b1 b2 b3
end Go.Proofs.Ytojbdaeidbmjgaa
