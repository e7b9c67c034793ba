/- A pattern (four words, by value) as an argument of a law. -/
import Derived.Test.YtojbdaeidbmjgaaLimbs
import Derived.OpenShut
import Derived.Lib.SmallJoins
namespace Go.Proofs.Ytojbdaeidbmjgaa
open Go.RowKit Go.ChangeShapes Go.WideShapes
theorem word_of {P : Program} {H : Type} {enc : TypeId × Value → H} {w : World} {base : Nat} {spare : Nat → Bool} {held : Bool} {e : TypeId} {fuel : Nat} {c : Value} {x : DataW H × List MemPlace}
    (he : P.underlying e = some (.int .u64)) (h : DataW.trod enc P w base spare held fuel e [c] = some x) : ∃ n : Nat, c = .int .u64 (n : Nat) ∧ n < B64 := by
  obtain ⟨n, e1, _, hw⟩ := DataW.trod_int he h
  simp at e1
  have hb : 0 ≤ n ∧ n < 18446744073709551616 := by
    have := bounds_u64 hw
    omega
  exact ⟨n.toNat, by rw [e1, Int.toNat_of_nonneg hb.1], by unfold B64; omega⟩
theorem open_bits {P : Program} {H : Type} {enc : TypeId × Value → H} {w : World} {base b0 : Nat} {r : Reach} {spare : Nat → Bool} {held : Bool} {t e : TypeId} {v : Value} {d : DataW H} {p : List MemPlace}
    (ht : P.underlying t = some (.array 4 e)) (he : P.underlying e = some (.int .u64)) (hc : P.cellsOf t = 4) (hce : P.cellsOf e = 1)
    (hv : Value.okWide P w r b0 t v) (h : DataW.Trod enc P w base spare held t v d p) : ∃ b0 b1 b2 b3 : Nat, v = bitsV b0 b1 b2 b3 ∧ W64 [b0, b1, b2, b3] := by
  have hv' : ∃ cs, v = .agg cs ∧ cs.size = P.cellsOf t := by
    unfold Value.okWide at hv
    rw [ht] at hv
    obtain ⟨cs, h1, h2, _⟩ := hv
    exact ⟨cs, h1, h2⟩
  obtain ⟨cs, rfl, hsz⟩ := hv'
  obtain ⟨c0, c1, c2, c3, rfl⟩ := Joins.array4 (hsz.trans hc)
  obtain ⟨fuel, hf⟩ := h
  obtain ⟨xs, m, _, _, _, hl, hx⟩ := DataW.trod_array ht hf
  have each : ∀ i, i < 4 → ∀ c, ([c0, c1, c2, c3].drop i).take 1 = [c] → ∃ n : Nat, c = .int .u64 (n : Nat) ∧ n < B64 := by
    intro i hi c hcc
    have := hx i hi
    rw [hce, Nat.mul_one] at this
    simp only [Value.cells] at this
    rw [hcc, List.getElem?_eq_getElem (by omega)] at this
    exact word_of he this
  obtain ⟨n0, rfl, g0⟩ := each 0 (by omega) c0 rfl
  obtain ⟨n1, rfl, g1⟩ := each 1 (by omega) c1 rfl
  obtain ⟨n2, rfl, g2⟩ := each 2 (by omega) c2 rfl
  obtain ⟨n3, rfl, g3⟩ := each 3 (by omega) c3 rfl
  exact ⟨n0, n1, n2, n3, rfl, W64.mk g0 (W64.mk g1 (W64.mk g2 (W64.mk g3 W64.nil)))⟩
end Go.Proofs.Ytojbdaeidbmjgaa
