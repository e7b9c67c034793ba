/- Words for the rows of the laws of nat: what such an argument holds; the tables that the rows list. -/
import Derived.Test.YtoikoeileilegaaDoorLawNat
import Derived.Test.YtoikoeileilegaaDoorRowWords
import Derived.Test.YtoikoeileilegaaDoorRows
import Derived.Lib.LaidTab
import Derived.Stop.LaidErr
namespace Go.Proofs.YtoikoeileilegaaDoor
open Go.RowKit
theorem wf_u64 {n : Int} (h : (Lit.int .u64 n).wf = true) : 0 ≤ n ∧ n < 18446744073709551616 := by
  have e1 : IntKind.u64.min = 0 := rfl
  have e2 : IntKind.u64.max = 18446744073709551615 := rfl
  simp [Lit.wf, e1, e2] at h
  omega
theorem plain_of_ok {P : Program} {w : World} {r : Reach} {base : Nat} {t e : TypeId} {a : Option Addr} {len cap : Nat} (ht : P.underlying t = some (.slice e)) (h : Value.okWide P w r base t (.slice a len cap)) : Plain a := by
  simp only [Value.okWide, ht, Cell.okWide] at h
  cases a with
  | none => exact .inl rfl
  | some x =>
    have hs : x.spot = none := by
      simp [Cell.ok, ht, World.has] at h
      exact h.2.2.2.1
    obtain ⟨b, off, s⟩ := x
    subst hs
    exact .inr ⟨b, off, rfl⟩
/-- What came in as a slice of words. -/
theorem RowAt.slW {w : World} {a : Option Addr} {len cap : Nat} {zs : List Int} (h : RowAt .u64 w a len cap zs) (hp : Plain a) : SlW w a len cap ((zs.map Int.toNat).take len) := by
  rcases h with ⟨rfl, rfl, rfl, rfl⟩ | ⟨x, rfl, hl, hm, hz, hc, hw⟩
  · exact SlW.nil0 w
  · have hw' : W64 (zs.map Int.toNat) := by
      intro n hn
      obtain ⟨z, hz1, rfl⟩ := List.mem_map.1 hn
      have := wf_u64 (hw z hz1)
      unfold B64
      omega
    unfold maxLen at hm
    rcases hp with hp | ⟨b, off, hp⟩
    · cases hp
    · cases hp
      refine ⟨by simp; omega, hl, by omega, hw'.take len, (fun e => by cases e), fun i hi => ⟨b, off, rfl, ?_⟩⟩
      have h1 := hc i (by omega)
      rw [add_at] at h1
      rw [h1]
      have h2 : zs.getD i 0 ∈ zs := by
        rw [List.getD_eq_getElem?_getD, List.getElem?_eq_getElem (by omega)]
        exact List.getElem_mem _
      have h3 := wf_u64 (hw _ h2)
      have h4 : ((zs.map Int.toNat).take len).getD i 0 = (zs.getD i 0).toNat := by
        simp [List.getD_eq_getElem?_getD, hi, show i < zs.length by omega]
      rw [h4, Int.toNat_of_nonneg h3.1]
def tabCells : DataW Unit → Array Value
  | .agg xs => (xs.map fun | .lit (.int k n) => Value.int k n | _ => undef).toArray
  | _ => #[]
def setCells (c : Array Value) : Obj → Obj
  | .cells _ t fr => .cells c t fr
  | o => o
/-- A world whose tables read as listed. -/
noncomputable def laidWorld (os : Os) : World :=
  let w0 := World.holding Tryd.prog os ⟨#[], #[], []⟩
  { w0 with heap := ((w0.heap.modify 8 (setCells (tabCells Rows.laid_math_bits_deBruijn32tab))).modify 9 (setCells (tabCells Rows.laid_math_bits_deBruijn64tab))).modify 2 (setCells (tabCells Rows.laid_internal_strconv_uint64pow10)) }
theorem laidWorld_met (os : Os) (args : Array Value) : laidMetH Tryd.prog Rows.natMulsRow.laid ((laidWorld os).forCall (fun _ _ => 0) ⟨#[], args, []⟩).memory :=
  show laidMet Tryd.prog Rows.natMulsRow.laid _ from laidMet_of_run' 8 (by kernel_rfl) (by kernel_rfl)
theorem tab10_of_laid {W : World} (h : laidMetH Tryd.prog Rows.natMulsRow.laid W) : Tab10 W := by
  have h' : laidMet Tryd.prog Rows.natMulsRow.laid W := h
  have h2 : laidMet Tryd.prog [("internal/strconv.uint64pow10", Rows.laid_internal_strconv_uint64pow10)] W := h'.tail.tail
  have e : (Rows.laid_internal_strconv_uint64pow10 : DataW Unit) = Lib.tabData .u64 Lib.pow10Tab := by kernel_rfl
  rw [e] at h2
  exact Lib.tabIs_of_head (g := 2) (t := 114) (e := 46) (n := 20) (by kernel_rfl) (by kernel_rfl) Tryd.underlying114 Tryd.underlying46 (by kernel_rfl) (by kernel_rfl) h2
end Go.Proofs.YtoikoeileilegaaDoor
