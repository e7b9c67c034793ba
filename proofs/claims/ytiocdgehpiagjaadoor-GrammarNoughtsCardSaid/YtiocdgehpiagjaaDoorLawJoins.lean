/- GrammarJoins: the walk. -/
import Derived.Test.YtiocdgehpiagjaaDoorRfJoin
import Derived.OpenShut
import Derived.Lib.ItoaLen
namespace Go.Proofs.YtiocdgehpiagjaaDoor
set_option linter.unusedVariables false
set_option linter.unusedSimpArgs false
open Go.RowKit Go.ChangeShapes Go.WideShapes
theorem tabIs_below {P : Program} {w w' : World} {name : String} {k : IntKind} {zs : List Int} (h : Lib.TabIs P w name k zs) (hb : Below w.heap.size w w') : Lib.TabIs P w' name k zs := by
  unfold Lib.TabIs World.var? at *
  cases hg : P.globalNamed name with
  | none => simp [hg] at h
  | some g =>
    simp only [hg, Option.bind_some] at h ⊢
    have hlt : g < w.heap.size := by
      rcases Nat.lt_or_ge g w.heap.size with h' | h'
      · exact h'
      · rw [Array.getElem?_eq_none h'] at h; simp at h
    rw [hb.block g hlt]
    exact h
theorem TabIs.keep {w W : World} (h : Lib.TabIs Tryd.prog w "internal/strconv.uint64pow10" .u64 Lib.pow10Tab) (hb : Below w.heap.size w W) : Lib.TabIs Tryd.prog W "internal/strconv.uint64pow10" .u64 Lib.pow10Tab := tabIs_below h hb
set_option maxRecDepth 10000 in
set_option maxHeartbeats 4000000 in
theorem joins_calls (c : Int) (s g : Bool) (D : ByteArray) (d : List UInt8) (x : Int) (hD : D.data.toList = d) (hm : d.length ≤ 9223372036854775807) (h0 : -9223372036854775808 ≤ x) (h1 : x ≤ 9223372036854775807) (w : World)
    (hT : Lib.Utf8Tabs 2 3 w) (hT2 : Lib.TabIs Tryd.prog w "internal/strconv.uint64pow10" .u64 Lib.pow10Tab) :
    Calls Tryd.prog 6 #[.agg #[.int .i64 c, .bool s, .bool g, .string D, .int .i64 x]] w fun e w' => e = .returned (.bool true) ∧ Below w.heap.size w w' := by
  have hsz := str_size hD
  obtain ⟨n, hn⟩ : ∃ n, D.size = n := ⟨_, rfl⟩
  have hn2 : n ≤ 9223372036854775807 := by omega
  have HAW := Lib.hid (fun W hT => gawake_calls W hT)
  have HT := Lib.hid hT
  by_cases hl : n ≤ 10000
  · have hd : d.length ≤ 10000 := by omega
    have hI : ∀ W, Below w.heap.size w W → Calls Tryd.prog 39 #[.int .i64 x] W fun e w' => e = .returned (.string ⟨(Lib.itoa x).toArray⟩) ∧ Below W.heap.size W w' := fun W hb => itoa_keep x h0 h1 W (TabIs.keep hT2 hb)
    have hx := Lib.itoa_length_le x h0 h1
    have HJ1 := Lib.hid (fun W (hb : Below w.heap.size w W) => join_calls c s g D d x hD hd W (Utf8Tabs.keep hT hb) (fun W' hb' => hI W' (below_then hb hb')) hx)
    have HJ2 := Lib.hid (fun W (hb : Below w.heap.size w W) => refJoin_calls c s g D d x hD hd W (fun W' hb' => hI W' (below_then hb hb')) hx)
    have HO := Lib.hid (fun W => theirs_calls c s g D x W)
    generalize joinL ⟨c, s, g, d, x⟩ = J at *
    obtain ⟨T, E⟩ := J
    have ev : joinV (T, E) = .tuple #[.string ⟨T.toArray⟩, .int .i64 E] := rfl
    rw [ev] at HJ1 HJ2
    generalize (⟨T.toArray⟩ : ByteArray) = T at HJ1 HJ2
    clear hI hx hd hT hT2 hsz hm h0 h1 hD ev
    go_enter Tryd.func6, Tryd.ntmps6
    go_wp2_with fail
    refine (HAW.out _ (Utf8Tabs.keep HT.out (below_alloc (Below.refl _ _) _))).mono ?_
    rintro e w1 ⟨rfl, hb1⟩
    have HX1 : Hid (w1.heap[w.heap.size]? = some (.cells #[.int .i64 c, .bool s, .bool g, .string D, .int .i64 x] 28 (0, 0))) := Lib.hid (below_heap hb1 (heap_new _ _))
    have HB1 := Lib.hid (below_then (below_alloc (Below.refl _ _) _) hb1)
    clear hb1
    have px0 : w1.cell? ⟨w.heap.size, 0, none⟩ = some (.int .i64 c) := cell_of_heap HX1.out 0
    have px1 : w1.cell? ⟨w.heap.size, 1, none⟩ = some (.bool s) := cell_of_heap HX1.out 1
    have px2 : w1.cell? ⟨w.heap.size, 2, none⟩ = some (.bool g) := cell_of_heap HX1.out 2
    have px3 : w1.cell? ⟨w.heap.size, 3, none⟩ = some (.string D) := cell_of_heap HX1.out 3
    have px4 : w1.cell? ⟨w.heap.size, 4, none⟩ = some (.int .i64 x) := cell_of_heap HX1.out 4
    go_wp2_with fail
    refine (HO.out _).mono ?_
    rintro e w2 ⟨rfl, hb2⟩
    have HX2 : Hid (w2.heap[w.heap.size]? = some (.cells #[.int .i64 c, .bool s, .bool g, .string D, .int .i64 x] 28 (0, 0))) := Lib.hid (below_heap hb2 HX1.out)
    have HB2 := Lib.hid (below_then HB1.out hb2)
    clear hb2 px0 px1 px2 px3 px4 HX1 HB1
    go_wp2_with fail
    refine (HJ1.out _ HB2.out).mono ?_
    rintro e w3 ⟨rfl, hb3⟩
    have HX3 : Hid (w3.heap[w.heap.size]? = some (.cells #[.int .i64 c, .bool s, .bool g, .string D, .int .i64 x] 28 (0, 0))) := Lib.hid (below_heap hb3 HX2.out)
    have HB3 := Lib.hid (below_then HB2.out hb3)
    have px0 : w3.cell? ⟨w.heap.size, 0, none⟩ = some (.int .i64 c) := cell_of_heap HX3.out 0
    have px1 : w3.cell? ⟨w.heap.size, 1, none⟩ = some (.bool s) := cell_of_heap HX3.out 1
    have px2 : w3.cell? ⟨w.heap.size, 2, none⟩ = some (.bool g) := cell_of_heap HX3.out 2
    have px3 : w3.cell? ⟨w.heap.size, 3, none⟩ = some (.string D) := cell_of_heap HX3.out 3
    have px4 : w3.cell? ⟨w.heap.size, 4, none⟩ = some (.int .i64 x) := cell_of_heap HX3.out 4
    clear hb3 HX2 HB2
    go_wp2_with fail
    refine (HJ2.out _ HB3.out).mono ?_
    rintro e w4 ⟨rfl, hb4⟩
    have HB4 := Lib.hid (below_then HB3.out hb4)
    clear hb4 px0 px1 px2 px3 px4
    go_wp2
    go_ret
    exact ⟨rfl, HB4.out⟩
  · have hli : (10000 : Int) < (n : Int) := by omega
    clear hT hT2 hsz hm h0 h1 hD
    go_enter Tryd.func6, Tryd.ntmps6
    go_wp2_with fail
    refine (HAW.out _ (Utf8Tabs.keep HT.out (below_alloc (Below.refl _ _) _))).mono ?_
    rintro e w1 ⟨rfl, hb1⟩
    have HX1 : Hid (w1.heap[w.heap.size]? = some (.cells #[.int .i64 c, .bool s, .bool g, .string D, .int .i64 x] 28 (0, 0))) := Lib.hid (below_heap hb1 (heap_new _ _))
    have HB1 := Lib.hid (below_then (below_alloc (Below.refl _ _) _) hb1)
    clear hb1
    have px0 : w1.cell? ⟨w.heap.size, 0, none⟩ = some (.int .i64 c) := cell_of_heap HX1.out 0
    have px1 : w1.cell? ⟨w.heap.size, 1, none⟩ = some (.bool s) := cell_of_heap HX1.out 1
    have px2 : w1.cell? ⟨w.heap.size, 2, none⟩ = some (.bool g) := cell_of_heap HX1.out 2
    have px3 : w1.cell? ⟨w.heap.size, 3, none⟩ = some (.string D) := cell_of_heap HX1.out 3
    have px4 : w1.cell? ⟨w.heap.size, 4, none⟩ = some (.int .i64 x) := cell_of_heap HX1.out 4
    go_wp2_with fail
    refine (HAW.out _ (Utf8Tabs.keep HT.out HB1.out)).mono ?_
    rintro e w2 ⟨rfl, hb2⟩
    have HB2 := Lib.hid (below_then HB1.out hb2)
    clear hb2
    go_wp2
    go_ret
    exact ⟨rfl, HB2.out⟩
/-- A Parts by value, as a row hands it. -/
def PartsIs (v : Value) : Prop := ∃ (c : Int) (s g : Bool) (D : ByteArray) (x : Int), v = .agg #[.int .i64 c, .bool s, .bool g, .string D, .int .i64 x] ∧ D.size ≤ 9223372036854775807 ∧ -9223372036854775808 ≤ x ∧ x ≤ 9223372036854775807
theorem grammarJoins_row (v : Value) (w : World) (hv : PartsIs v) (hT : GramT w) :
    Calls Tryd.prog 6 #[v] w fun e w' => e = .returned (.bool true) ∧ Below w.heap.size w w' := by
  obtain ⟨c, s, g, D, x, rfl, hD, h0, h1⟩ := hv
  exact joins_calls c s g D _ x rfl (by have := str_size (t := D) rfl; omega) h0 h1 w hT.u8 hT.t10
end Go.Proofs.YtiocdgehpiagjaaDoor
