/- Words for the laws of the grammar: awake; ours; GrammarCuts: the walk. -/
import Derived.Test.YtiocdgehpiagjaaDoorRfCut2
import Derived.Deep.RegionHeld3
namespace Go.Proofs.YtiocdgehpiagjaaDoor
open Go.RowKit
theorem Utf8Tabs.keep {w W : World} (h : Lib.Utf8Tabs 2 3 w) (hb : Below w.heap.size w W) : Lib.Utf8Tabs 2 3 W := by
  obtain ⟨h1, h2⟩ := h
  refine ⟨fun c hc => below_cell hb (h1 c hc), fun i hi => ⟨below_cell hb (h2 i hi).1, below_cell hb (h2 i hi).2⟩⟩
theorem cut_keep (t : ByteArray) (l : List UInt8) (h : t.data.toList = l) (hm : l.length ≤ 140737488351232) (w0 w : World) (hT : Lib.Utf8Tabs 2 3 w0) (hb : Below w0.heap.size w0 w) :
    Calls Tryd.prog 9 #[.string t] w fun e w' => e = .returned (cutV (cutL l)) ∧ Below w.heap.size w w' :=
  cut_calls t l h hm w fun _ hW => Utf8Tabs.keep hT (below_then hb hW)
theorem aw_cut : cutL [45, 49, 46, 53, 48, 101, 51] = (⟨1, true, false, [49, 53, 48], 1⟩, 0) := by kernel_rfl
set_option maxRecDepth 10000 in
set_option maxHeartbeats 1000000 in
theorem gawake_calls (w : World) (hT : Lib.Utf8Tabs 2 3 w) : Calls Tryd.prog 8 #[] w fun e w' => e = .returned (.bool true) ∧ Below w.heap.size w w' := by
  have K := cut_keep ⟨#[45, 49, 46, 53, 48, 101, 51]⟩ _ rfl (by decide) w w hT (Below.refl _ _)
  have e0 : (⟨#[45, 49, 46, 53, 48, 101, 51]⟩ : ByteArray).data.toList = [45, 49, 46, 53, 48, 101, 51] := rfl
  rw [e0, aw_cut] at K
  have J := Lib.hid K
  clear K e0 hT
  go_enter Tryd.func8, Tryd.ntmps8
  go_wp2_with fail
  refine J.out.mono ?_
  rintro e w1 ⟨rfl, hb⟩
  have HB := Lib.hid hb
  clear hb
  have e1 : cutV (⟨1, true, false, [49, 53, 48], 1⟩, 0) = .tuple #[.agg #[.int .i64 1, .bool true, .bool false, .string ⟨#[49, 53, 48]⟩, .int .i64 1], .int .i64 0] := rfl
  rw [e1]
  clear e1
  go_wp2
  go_ret
  exact ⟨rfl, below_alloc HB.out _⟩
/-- One result: an aggregate in memory. -/
theorem results_c {P : Program} {fn : Func} {p : Tmp} {ty : TypeId} (h : fn.results = #[.cell p ty]) (tmps : Array Value) (w : World) (g : Nat) (t : TypeId) (cs : Array Value) (fr : Nat × Nat) (d : TypeDesc)
    (hp : tmps.getD p undef = .pointer (some ⟨g, 0, none⟩)) (hg : w.heap[g]? = some (.cells cs t fr))
    (hu : P.underlying ty = some d) (hd : (match d with | .struct _ | .array _ _ => true | _ => false) = true) (hi : (P.info? ty).map (·.size) = some cs.size) :
    (results fn tmps).run P w = .ok (.agg cs) w := by
  have hp' : tmps[p]?.getD undef = .pointer (some ⟨g, 0, none⟩) := by simpa using hp
  simp [results, h, hp', asAddr, run_loadVar_row w g t ty cs fr d hg hu hd hi]
theorem heap_two (w : World) (a b : Obj) : ((w.alloc a).alloc b).heap[w.heap.size + 1]? = some b := by
  have h := heap_new (w.alloc a) b
  have e : (w.alloc a).heap.size = w.heap.size + 1 := by simp
  rw [e] at h
  exact h
set_option maxRecDepth 10000 in
set_option maxHeartbeats 1000000 in
theorem ours_calls (c : Int) (s g : Bool) (d : ByteArray) (x : Int) (w : World) :
    Calls Tryd.prog 11 #[.agg #[.int .i64 c, .bool s, .bool g, .string d, .int .i64 x]] w fun e w' => e = .returned (.agg #[.int .i64 c, .bool s, .bool g, .string d, .int .i64 x]) ∧ Below w.heap.size w w' := by
  go_enter Tryd.func11, Tryd.ntmps11
  go_wp2
  exact bodyPost_ret (results_c rfl _ _ (w.heap.size + 1) 28 _ _ _ rfl (heap_two _ _ _) Tryd.underlying28 rfl rparts_info) rfl ⟨rfl, below_alloc (below_alloc (Below.refl _ _) _) _⟩
set_option maxRecDepth 10000 in
set_option maxHeartbeats 4000000 in
theorem cuts_calls (t : ByteArray) (l : List UInt8) (h : t.data.toList = l) (hm : l.length ≤ 140737488351232) (w : World) (hT : Lib.Utf8Tabs 2 3 w) :
    Calls Tryd.prog 3 #[.string t] w fun e w' => e = .returned (.bool true) ∧ Below w.heap.size w w' := by
  have hsz := str_size h
  have HAW := Lib.hid (fun W hT => gawake_calls W hT)
  have HC1 := Lib.hid (fun W hb => cut_keep t l h hm w W hT hb)
  have HC2 := Lib.hid (fun W => refCut_calls t l h hm W)
  have HT := Lib.hid hT
  generalize cutL l = R at HC1 HC2
  obtain ⟨⟨c, s, g, d, x⟩, E⟩ := R
  have ev : cutV (⟨c, s, g, d, x⟩, E) = .tuple #[.agg #[.int .i64 c, .bool s, .bool g, .string ⟨d.toArray⟩, .int .i64 x], .int .i64 E] := rfl
  rw [ev] at HC1 HC2
  generalize (⟨d.toArray⟩ : ByteArray) = D at HC1 HC2
  have HO := Lib.hid (fun w => ours_calls c s g D x w)
  obtain ⟨n, hn⟩ : ∃ n, t.size = n := ⟨_, rfl⟩
  have hn2 : n ≤ 140737488351232 := by omega
  clear h hm hT ev hsz
  by_cases hl : n ≤ 10000
  · go_enter Tryd.func3, Tryd.ntmps3
    go_wp2_with fail
    refine (HAW.out _ HT.out).mono ?_
    rintro e w1 ⟨rfl, hb1⟩
    have HB1 := Lib.hid hb1
    clear hb1
    go_wp2_with fail
    refine (HC1.out _ HB1.out).mono ?_
    rintro e w2 ⟨rfl, hb2⟩
    have HB2 := Lib.hid (below_then HB1.out hb2)
    clear hb2 HB1
    go_wp2_with fail
    refine (HC2.out _).mono ?_
    rintro e w3 ⟨rfl, hb3⟩
    have HB3 : Hid (Below w.heap.size w w3) := Lib.hid (below_then (below_alloc HB2.out _) hb3)
    have HX3 : Hid (w3.heap[w2.heap.size]? = some (.cells #[.int .i64 c, .bool s, .bool g, .string D, .int .i64 x] 24 (0, 0))) := Lib.hid (below_heap hb3 (heap_new _ _))
    clear hb3 HB2
    have HB4 : Hid (Below w.heap.size w (w3.alloc (.cells #[.int .i64 c, .bool s, .bool g, .string D, .int .i64 x] 28))) := Lib.hid (below_alloc HB3.out _)
    have HX4 : Hid ((w3.alloc (.cells #[.int .i64 c, .bool s, .bool g, .string D, .int .i64 x] 28)).heap[w2.heap.size]? = some (.cells #[.int .i64 c, .bool s, .bool g, .string D, .int .i64 x] 24 (0, 0))) := Lib.hid ((heap_keep _ _ (lt_of_heap HX3.out)).trans HX3.out)
    have HY4 : Hid ((w3.alloc (.cells #[.int .i64 c, .bool s, .bool g, .string D, .int .i64 x] 28)).heap[w3.heap.size]? = some (.cells #[.int .i64 c, .bool s, .bool g, .string D, .int .i64 x] 28 (0, 0))) := Lib.hid (heap_new _ _)
    go_wp2_with fail
    generalize w3.alloc (.cells #[.int .i64 c, .bool s, .bool g, .string D, .int .i64 x] 28) = W4 at *
    generalize w2.heap.size = ba at *
    generalize w3.heap.size = bb at *
    have x0 : W4.cell? ⟨ba, 0, none⟩ = some (.int .i64 c) := cell_of_heap HX4.out 0
    have x1 : W4.cell? ⟨ba, 1, none⟩ = some (.bool s) := cell_of_heap HX4.out 1
    have x2 : W4.cell? ⟨ba, 2, none⟩ = some (.bool g) := cell_of_heap HX4.out 2
    have x3 : W4.cell? ⟨ba, 3, none⟩ = some (.string D) := cell_of_heap HX4.out 3
    have x4 : W4.cell? ⟨ba, 4, none⟩ = some (.int .i64 x) := cell_of_heap HX4.out 4
    have y0 : W4.cell? ⟨bb, 0, none⟩ = some (.int .i64 c) := cell_of_heap HY4.out 0
    have y1 : W4.cell? ⟨bb, 1, none⟩ = some (.bool s) := cell_of_heap HY4.out 1
    have y2 : W4.cell? ⟨bb, 2, none⟩ = some (.bool g) := cell_of_heap HY4.out 2
    have y3 : W4.cell? ⟨bb, 3, none⟩ = some (.string D) := cell_of_heap HY4.out 3
    have y4 : W4.cell? ⟨bb, 4, none⟩ = some (.int .i64 x) := cell_of_heap HY4.out 4
    have hB4 := HB4.out
    clear HX3 HB3 HX4 HY4
    go_region_held3 (fun w' => w'.cell? ⟨ba, 0, none⟩ = some (.int .i64 c) ∧ w'.cell? ⟨ba, 1, none⟩ = some (.bool s) ∧ w'.cell? ⟨ba, 2, none⟩ = some (.bool g) ∧ w'.cell? ⟨ba, 3, none⟩ = some (.string D) ∧ w'.cell? ⟨ba, 4, none⟩ = some (.int .i64 x) ∧ w'.cell? ⟨bb, 0, none⟩ = some (.int .i64 c) ∧ w'.cell? ⟨bb, 1, none⟩ = some (.bool s) ∧ w'.cell? ⟨bb, 2, none⟩ = some (.bool g) ∧ w'.cell? ⟨bb, 3, none⟩ = some (.string D) ∧ w'.cell? ⟨bb, 4, none⟩ = some (.int .i64 x) ∧ Below w.heap.size w w')
      (first | exact ⟨x0, x1, x2, x3, x4, y0, y1, y2, y3, y4, hB4.drew⟩ | exact keepB10 (by assumption) hb | assumption)
      (first | (go_at_call 11; refine (HO.out _).mono ?_; rintro e w' ⟨rfl, hb⟩))
    all_goals
      have HF := Lib.hid (‹_ ∧ _ ∧ _ ∧ _ ∧ _ ∧ _ ∧ _ ∧ _ ∧ _ ∧ _ ∧ Below w.heap.size w _›).2.2.2.2.2.2.2.2.2.2
      go_wp2
      go_ret
      exact ⟨rfl, HF.out⟩
  · have hli : (10000 : Int) < (n : Int) := by omega
    go_enter Tryd.func3, Tryd.ntmps3
    go_wp2_with fail
    refine (HAW.out _ HT.out).mono ?_
    rintro e w1 ⟨rfl, hb1⟩
    have HB1 := Lib.hid hb1
    clear hb1
    go_wp2_with fail
    refine (HAW.out _ (Utf8Tabs.keep HT.out HB1.out)).mono ?_
    rintro e w2 ⟨rfl, hb2⟩
    have HB2 := Lib.hid (below_then HB1.out hb2)
    clear hb2
    go_wp2
    go_ret
    exact ⟨rfl, HB2.out⟩
/-- The tables that the grammar reads. -/
structure GramT (w : World) : Prop where
  u8 : Lib.Utf8Tabs 2 3 w
  t10 : Lib.TabIs Tryd.prog w "internal/strconv.uint64pow10" .u64 Lib.pow10Tab
theorem grammarCuts_row (t : ByteArray) (w : World) (hs : t.size ≤ 140737488351232) (hT : GramT w) :
    Calls Tryd.prog 3 #[.string t] w fun e w' => e = .returned (.bool true) ∧ Below w.heap.size w w' :=
  cuts_calls t _ rfl (by have := str_size (t := t) rfl; omega) w hT.u8
end Go.Proofs.YtiocdgehpiagjaaDoor
