/- awake of the laws of Fixed; FixedWrites: the walk over the law. · Words for the rows of Fixed: a world whose listed variables read as listed; the table that the laws need. · A pattern (four words, by value) as an argument of a law. -/
import Derived.Test.YtpodpdopgdkdkaaGreatDoorMw27
import Derived.Test.YtpodpdopgdkdkaaGreatDoorRows
import Derived.Test.YtpodpdopgdkdkaaGreatDoorMw19
import Derived.Lib.LaidTab
import Derived.Stop.LaidErr
import Derived.LaidMore
import Derived.Test.YtpodpdopgdkdkaaGreatDoorMw09
import Derived.OpenShut
import Derived.Lib.SmallJoins
set_option linter.unusedVariables false
set_option linter.unusedSimpArgs false
namespace Go.Proofs.YtpodpdopgdkdkaaGreatDoor
set_option linter.unusedVariables false
set_option linter.unusedSimpArgs false
open Go.RowKit
theorem wrIs_shape {n dir cnt : Int} {b0 b1 b2 b3 : Nat} {w w' : World} {e : Ending} (h : WrIs n dir cnt b0 b1 b2 b3 w e w') : ∃ (S : ByteArray) (m : Bool) (er : Int), e = .returned (.tuple #[.string S, .bool m, .int .i64 er]) := by
  obtain ⟨-, ⟨-, rfl⟩ | ⟨-, P, X, L, t, -, -, -, rfl⟩⟩ := h
  · exact ⟨_, _, _, rfl⟩
  · unfold wrVal wrNo
    split
    · exact ⟨_, _, _, rfl⟩
    · split
      · exact ⟨_, _, _, rfl⟩
      · split <;> exact ⟨_, _, _, rfl⟩
theorem awake_tens : isTens (frN (coefF (val [1036831949, 0, 0, 0]) 24 8) (expF (val [1036831949, 0, 0, 0]) 24 8 (-149))) (frD (expF (val [1036831949, 0, 0, 0]) 24 8 (-149))) (-1) := by
  unfold isTens
  decide +kernel
theorem awake_val : wrVal (val [1036831949, 0, 0, 0]) 24 8 (-149) 0 3 (-1) = .tuple #[.string ⟨#[49, 46, 48, 48, 101, 45, 49]⟩, .bool true, .int .i64 0] := by kernel_rfl
theorem awake_is {w w' : World} {e : Ending} (h : WrIs 3 0 3 1036831949 0 0 0 w e w') : e = .returned (.tuple #[.string ⟨#[49, 46, 48, 48, 101, 45, 49]⟩, .bool true, .int .i64 0]) ∧ Below w.heap.size w w' := by
  obtain ⟨hb, ⟨hn, -⟩ | ⟨-, P, X, L, t, hI, -, ht, rfl⟩⟩ := h
  · exact absurd ⟨⟨by decide, by decide, by decide +kernel⟩, by decide, by decide⟩ hn
  · obtain ⟨rfl, rfl, rfl⟩ := hI.uniq (show Inf6 3 24 8 (-149) from ⟨by decide, by decide, by decide, rfl, _, _, _, _, _, inf_lit3⟩)
    have := tens_unique (ht ⟨by decide, by decide +kernel, by decide +kernel⟩) awake_tens
    subst this
    rw [awake_val]
    exact ⟨rfl, hb⟩
set_option maxRecDepth 100000 in
set_option maxHeartbeats 1000000 in
theorem awake10_calls (w : World) (hT : Tab10 w) : Calls Tryz.prog 8 #[] w fun e w' => e = .returned (.bool true) ∧ Below w.heap.size w w' := by
  have HW := Lib.hid (write_calls 3 0 3 1036831949 0 0 0 (by unfold W64 B64; decide) (by omega) (by omega) w hT)
  unfold bitsV at HW
  clear hT
  go_enter Tryz.func8, Tryz.ntmps8
  go_wp2_with fail
  refine HW.out.mono ?_
  intro e w1 hr
  obtain ⟨rfl, hb1⟩ := awake_is hr
  have HB1 := Lib.hid hb1
  clear hr hb1
  go_wp2
  go_ret
  exact ⟨rfl, HB1.out⟩
set_option maxRecDepth 100000 in
set_option maxHeartbeats 2000000 in
theorem fixedWrites_calls (n dir cnt : Int) (b0 b1 b2 b3 : Nat) (hb : W64 [b0, b1, b2, b3]) (hc0 : -9223372036854775808 ≤ cnt) (hc1 : cnt ≤ 9223372036854775807) (w : World) (hT : Tab10 w) :
    Calls Tryz.prog 3 #[.int .i64 n, .int .i64 dir, .int .i64 cnt, bitsV b0 b1 b2 b3] w fun e w' => e = .returned (.bool true) ∧ Below w.heap.size w w' := by
  have HT := Lib.hid hT
  have HA := Lib.hid (fun W (hW : Below w.heap.size w W) => awake10_calls W (tabIs_below hT hW))
  have H1 := Lib.hid (fun W (hW : Below w.heap.size w W) => write_calls n dir cnt b0 b1 b2 b3 hb hc0 hc1 W (tabIs_below hT hW))
  have H2 := Lib.hid (fun W (hW : Below w.heap.size w W) => rwrite_calls n dir cnt b0 b1 b2 b3 hb hc0 hc1 W (tabIs_below hT hW))
  unfold bitsV at *
  clear hT hb
  go_enter Tryz.func3, Tryz.ntmps3
  go_wp2_with fail
  have HB0 := Lib.hid (below_alloc (Below.refl w.heap.size w) (.cells #[.int .u64 (b0 : Nat), .int .u64 (b1 : Nat), .int .u64 (b2 : Nat), .int .u64 (b3 : Nat)] 24))
  have HP0 : Hid ((w.alloc (.cells #[.int .u64 (b0 : Nat), .int .u64 (b1 : Nat), .int .u64 (b2 : Nat), .int .u64 (b3 : Nat)] 24)).heap[w.heap.size]? = _) := Lib.hid (heap_new w (.cells #[.int .u64 (b0 : Nat), .int .u64 (b1 : Nat), .int .u64 (b2 : Nat), .int .u64 (b3 : Nat)] 24))
  generalize (w.alloc (.cells #[.int .u64 (b0 : Nat), .int .u64 (b1 : Nat), .int .u64 (b2 : Nat), .int .u64 (b3 : Nat)] 24)) = v0 at HB0 HP0 ⊢
  refine (HA.out _ HB0.out).mono ?_
  rintro e w1 ⟨rfl, hb1⟩
  have HB1 := Lib.hid (below_then HB0.out hb1)
  have HP1 := Lib.hid (below_heap hb1 HP0.out)
  clear hb1 HP0 HA
  have d0 : w1.cell? ⟨w.heap.size, 0, none⟩ = some (.int .u64 (b0 : Nat)) := cell_of_heap HP1.out 0
  have d1 : w1.cell? ⟨w.heap.size, 1, none⟩ = some (.int .u64 (b1 : Nat)) := cell_of_heap HP1.out 1
  have d2 : w1.cell? ⟨w.heap.size, 2, none⟩ = some (.int .u64 (b2 : Nat)) := cell_of_heap HP1.out 2
  have d3 : w1.cell? ⟨w.heap.size, 3, none⟩ = some (.int .u64 (b3 : Nat)) := cell_of_heap HP1.out 3
  go_wp2_with fail
  refine (H1.out _ HB1.out).mono ?_
  intro e w2 hr
  have HR := Lib.hid hr
  have HB2 := Lib.hid (below_then HB1.out hr.1)
  have HP2 := Lib.hid (below_heap hr.1 HP1.out)
  obtain ⟨S, m, er, rfl⟩ := wrIs_shape hr
  clear hr d0 d1 d2 d3 H1
  have d0 : w2.cell? ⟨w.heap.size, 0, none⟩ = some (.int .u64 (b0 : Nat)) := cell_of_heap HP2.out 0
  have d1 : w2.cell? ⟨w.heap.size, 1, none⟩ = some (.int .u64 (b1 : Nat)) := cell_of_heap HP2.out 1
  have d2 : w2.cell? ⟨w.heap.size, 2, none⟩ = some (.int .u64 (b2 : Nat)) := cell_of_heap HP2.out 2
  have d3 : w2.cell? ⟨w.heap.size, 3, none⟩ = some (.int .u64 (b3 : Nat)) := cell_of_heap HP2.out 3
  go_wp2_with fail
  refine (H2.out _ HB2.out).mono ?_
  intro e w3 hr
  have hs := wrIs_same HR.out hr
  have HB3 := Lib.hid (below_then HB2.out hr.1)
  subst hs
  clear hr d0 d1 d2 d3 H2
  cases m <;>
  · go_wp2
    go_ret
    exact ⟨by simp, HB3.out⟩
theorem fx_i64 {n : Int} (h : (Lit.int .i64 n).wf = true) : -9223372036854775808 ≤ n ∧ n ≤ 9223372036854775807 := by
  have e1 : IntKind.i64.min = -9223372036854775808 := rfl
  have e2 : IntKind.i64.max = 9223372036854775807 := rfl
  simp [Lit.wf, e1, e2] at h
  omega
theorem fixedWrites_row (n dir cnt : Int) (v : Value) (w : World) (_ : (Lit.int .i64 n).wf = true) (_ : (Lit.int .i64 dir).wf = true) (hc : (Lit.int .i64 cnt).wf = true) (h : ∃ b0 b1 b2 b3 : Nat, v = bitsV b0 b1 b2 b3 ∧ W64 [b0, b1, b2, b3]) (hT : Tab10 w) :
    Calls Tryz.prog 3 #[.int .i64 n, .int .i64 dir, .int .i64 cnt, v] w fun e w' => e = .returned (.bool true) ∧ Below w.heap.size w w' := by
  obtain ⟨b0, b1, b2, b3, rfl, hb⟩ := h
  have := fx_i64 hc
  exact fixedWrites_calls n dir cnt b0 b1 b2 b3 hb (by omega) (by omega) w hT
end Go.Proofs.YtpodpdopgdkdkaaGreatDoor
namespace Go.Proofs.YtpodpdopgdkdkaaGreatDoor
open Go.RowKit
def tabCells : DataW Unit → Array Value
  | .agg xs => (xs.map fun | .lit (.int k n) => Value.int k n | _ => undef).toArray
  | _ => #[]
def setCells (c : Array Value) : Obj → Obj
  | .cells _ t fr => .cells c t fr
  | o => o
/-- A world whose tables read as listed. -/
noncomputable def fxWorld (os : Os) : World :=
  let w0 := World.holding Tryz.prog os ⟨#[], #[], []⟩
  { w0 with heap := ((w0.heap.modify 6 (setCells (tabCells Rows.laid_math_bits_deBruijn32tab))).modify 7 (setCells (tabCells Rows.laid_math_bits_deBruijn64tab))).modify 3 (setCells (tabCells Rows.laid_internal_strconv_uint64pow10)) }
theorem fxWorld_met (os : Os) (args : Array Value) : laidMetH Tryz.prog Rows.fixedWritesRow.laid ((fxWorld os).forCall (fun _ _ => 0) ⟨#[], args, []⟩).memory :=
  show laidMet Tryz.prog Rows.fixedWritesRow.laid _ from laidMet_of_run' 8 (by kernel_rfl) (by kernel_rfl)
theorem tab10_of_list {W : World} (h : laidMet Tryz.prog [("internal/strconv.uint64pow10", Rows.laid_internal_strconv_uint64pow10)] W) : Tab10 W := by
  have e : (Rows.laid_internal_strconv_uint64pow10 : DataW Unit) = Lib.tabData .u64 Lib.pow10Tab := by kernel_rfl
  rw [e] at h
  exact Lib.tabIs_of_head (g := 3) (t := 173) (e := 22) (n := 20) (by kernel_rfl) (by kernel_rfl) Tryz.underlying173 Tryz.underlying22 (by kernel_rfl) (by kernel_rfl) h
theorem tab10_of_fx {W : World} (h : laidMetH Tryz.prog Rows.fixedWritesRow.laid W) : Tab10 W := by
  have h' : laidMet Tryz.prog Rows.fixedWritesRow.laid W := h
  exact tab10_of_list h'.tail.tail
end Go.Proofs.YtpodpdopgdkdkaaGreatDoor
namespace Go.Proofs.YtpodpdopgdkdkaaGreatDoor
open Go.RowKit Go.ChangeShapes Go.WideShapes
theorem bits_word_of {P : Program} {H : Type} {enc : TypeId × Value → H} {w : World} {base : Nat} {spare : Nat → Bool} {held : Bool} {e : TypeId} {fuel : Nat} {c : Value} {x : DataW H × List MemPlace}
    (he : P.underlying e = some (.int .u64)) (h : DataW.trod enc P w base spare held fuel e [c] = some x) : ∃ n : Nat, c = .int .u64 (n : Nat) ∧ n < B64 := by
  obtain ⟨n, e1, _, hw⟩ := DataW.trod_int he h
  simp at e1
  have hb : 0 ≤ n ∧ n < 18446744073709551616 := by
    have := bounds_u64 hw
    omega
  exact ⟨n.toNat, by rw [e1, Int.toNat_of_nonneg hb.1], by unfold B64; omega⟩
theorem open_bits {P : Program} {H : Type} {enc : TypeId × Value → H} {w : World} {base b0 : Nat} {r : Reach} {spare : Nat → Bool} {held : Bool} {t e : TypeId} {v : Value} {d : DataW H} {p : List MemPlace}
    (ht : P.underlying t = some (.array 4 e)) (he : P.underlying e = some (.int .u64)) (hc : P.cellsOf t = 4) (hce : P.cellsOf e = 1)
    (hv : Value.okWide P w r b0 t v) (h : DataW.Trod enc P w base spare held t v d p) : ∃ b0 b1 b2 b3 : Nat, v = bitsV b0 b1 b2 b3 ∧ W64 [b0, b1, b2, b3] := by
  have hv' : ∃ cs, v = .agg cs ∧ cs.size = P.cellsOf t := by
    unfold Value.okWide at hv
    rw [ht] at hv
    obtain ⟨cs, h1, h2, _⟩ := hv
    exact ⟨cs, h1, h2⟩
  obtain ⟨cs, rfl, hsz⟩ := hv'
  obtain ⟨c0, c1, c2, c3, rfl⟩ := Joins.array4 (hsz.trans hc)
  obtain ⟨fuel, hf⟩ := h
  obtain ⟨xs, m, _, _, _, hl, hx⟩ := DataW.trod_array ht hf
  have each : ∀ i, i < 4 → ∀ c, ([c0, c1, c2, c3].drop i).take 1 = [c] → ∃ n : Nat, c = .int .u64 (n : Nat) ∧ n < B64 := by
    intro i hi c hcc
    have := hx i hi
    rw [hce, Nat.mul_one] at this
    simp only [Value.cells] at this
    rw [hcc, List.getElem?_eq_getElem (by omega)] at this
    exact bits_word_of he this
  obtain ⟨n0, rfl, g0⟩ := each 0 (by omega) c0 rfl
  obtain ⟨n1, rfl, g1⟩ := each 1 (by omega) c1 rfl
  obtain ⟨n2, rfl, g2⟩ := each 2 (by omega) c2 rfl
  obtain ⟨n3, rfl, g3⟩ := each 3 (by omega) c3 rfl
  exact ⟨n0, n1, n2, n3, rfl, W64.mk g0 (W64.mk g1 (W64.mk g2 (W64.mk g3 W64.nil)))⟩
end Go.Proofs.YtpodpdopgdkdkaaGreatDoor
