/- A slice of structs of three ints and a pattern (four words), as an argument of a law: what its cells hold. -/
import Derived.Test.YtojbdaeidbmjgaaRowPairs
import Derived.Test.YtojbdaeidbmjgaaRowBits
import Derived.Test.YtojbdaeidbmjgaaTabPlays
namespace Go.Proofs.Ytojbdaeidbmjgaa
open Go.RowKit Go.ChangeShapes Go.WideShapes Go.Deep
set_option linter.unusedVariables false
theorem open_ops {H : Type} {enc : TypeId × Value → H} {P : Program} {w : World} {base : Nat} {spare : Nat → Bool} {held : Bool} {t e u : TypeId} {f0 f1 f2 f3 : Field} {fuel len cap : Nat} {a : Option Addr} {x : DataW H × List MemPlace}
    (ht : P.underlying t = some (.slice e)) (he : P.underlying e = some (.struct #[f0, f1, f2, f3])) (hc : P.cellsOf e = 7) (o0 : f0.offset = 0) (o1 : f1.offset = 1) (o2 : f2.offset = 2) (o3 : f3.offset = 3)
    (t0 : P.underlying f0.type = some (.int .i64)) (t1 : P.underlying f1.type = some (.int .i64)) (t2 : P.underlying f2.type = some (.int .i64)) (t3 : P.underlying f3.type = some (.array 4 u)) (tu : P.underlying u = some (.int .u64))
    (c0 : P.cellsOf f0.type = 1) (c1 : P.cellsOf f1.type = 1) (c2 : P.cellsOf f2.type = 1) (c3 : P.cellsOf f3.type = 4) (cu : P.cellsOf u = 1)
    (h : DataW.trod enc P w base spare held fuel t [.slice a len cap] = some x) :
    len ≤ 9223372036854775807 ∧ OpsAt w a len := by
  rcases open_slice ht h with ⟨hcs, _⟩ | ⟨ad, l, c, m, n, D, Pl, hcs, _, hl, hm, hmm, _, hx⟩
  · simp only [List.cons.injEq, Value.slice.injEq, and_true] at hcs
    obtain ⟨rfl, rfl, rfl⟩ := hcs
    exact ⟨by omega, fun i hi => by omega⟩
  · simp only [List.cons.injEq, Value.slice.injEq, and_true] at hcs
    obtain ⟨rfl, rfl, rfl⟩ := hcs
    have hlm : len ≤ m := by rw [hmm]; split <;> omega
    have cell : ∀ i, i < len → ∃ (K H N : Int) (b0 b1 b2 b3 : Nat), w.cell? ((ad.add (i * 7)).add 0) = some (.int .i64 K) ∧ w.cell? ((ad.add (i * 7)).add 1) = some (.int .i64 H) ∧ w.cell? ((ad.add (i * 7)).add 2) = some (.int .i64 N) ∧
        w.cell? ((ad.add (i * 7)).add 3) = some (.int .u64 b0) ∧ w.cell? ((ad.add (i * 7)).add 4) = some (.int .u64 b1) ∧ w.cell? ((ad.add (i * 7)).add 5) = some (.int .u64 b2) ∧ w.cell? ((ad.add (i * 7)).add 6) = some (.int .u64 b3) ∧ (Lit.int .i64 H).wf = true ∧ W64 [b0, b1, b2, b3] := by
      intro i hi
      obtain ⟨cs', h1, h2⟩ := hx i (by omega)
      rw [hc] at h1
      obtain ⟨_, hcl, hat⟩ := World.cells?_some h1
      obtain ⟨ys, n', hn', hy, hlen, hyl, hf⟩ := DataW.trod_struct he h2
      match cs', hcl with
      | [v0, v1, v2, v3, v4, v5, v6], _ =>
        have g0 := hf 0 f0 rfl
        have g1 := hf 1 f1 rfl
        have g2 := hf 2 f2 rfl
        have g3 := hf 3 f3 rfl
        rw [o0, c0] at g0
        rw [o1, c1] at g1
        rw [o2, c2] at g2
        rw [o3, c3] at g3
        have y0 : ys[0]? = some (ys[0]'(by rw [hyl]; simp)) := List.getElem?_eq_getElem _
        have y1 : ys[1]? = some (ys[1]'(by rw [hyl]; simp)) := List.getElem?_eq_getElem _
        have y2 : ys[2]? = some (ys[2]'(by rw [hyl]; simp)) := List.getElem?_eq_getElem _
        have y3 : ys[3]? = some (ys[3]'(by rw [hyl]; simp)) := List.getElem?_eq_getElem _
        rw [y0] at g0
        rw [y1] at g1
        rw [y2] at g2
        rw [y3] at g3
        obtain ⟨K, e0, _, _⟩ := DataW.trod_int t0 g0
        obtain ⟨H', e1, _, hwh⟩ := DataW.trod_int t1 g1
        obtain ⟨N, e2, _, _⟩ := DataW.trod_int t2 g2
        simp at e0 e1 e2
        subst e0 e1 e2
        obtain ⟨xs, m', _, _, _, hl', hx'⟩ := DataW.trod_array t3 g3
        have each : ∀ i, i < 4 → ∀ q, ([v3, v4, v5, v6].drop i).take 1 = [q] → ∃ n : Nat, q = .int .u64 (n : Nat) ∧ n < B64 := by
          intro i hi q hq
          have := hx' i hi
          rw [cu, Nat.mul_one] at this
          simp only [List.drop_succ_cons, List.drop_zero, List.take_succ_cons, List.take_zero] at this
          rw [hq, List.getElem?_eq_getElem (by omega)] at this
          exact word_of tu this
        obtain ⟨n0, rfl, k0⟩ := each 0 (by omega) v3 rfl
        obtain ⟨n1, rfl, k1⟩ := each 1 (by omega) v4 rfl
        obtain ⟨n2, rfl, k2⟩ := each 2 (by omega) v5 rfl
        obtain ⟨n3, rfl, k3⟩ := each 3 (by omega) v6 rfl
        exact ⟨K, H', N, n0, n1, n2, n3, hat 0 (by omega), hat 1 (by omega), hat 2 (by omega), hat 3 (by omega), hat 4 (by omega), hat 5 (by omega), hat 6 (by omega), hwh, W64.mk k0 (W64.mk k1 (W64.mk k2 (W64.mk k3 W64.nil)))⟩
    refine ⟨by unfold maxLen at hm; omega, fun i hi => ?_⟩
    obtain ⟨_, _, _, _, _, _, _, z0, _⟩ := cell 0 (by omega)
    have hs := spot_none z0
    have hs' : ad.spot = none := by
      have e1 : (ad.add (0 * 7)).add 0 = ad := by simp [Addr.add]
      rw [e1] at hs; exact hs
    obtain ⟨b, o, s⟩ := ad
    subst hs'
    obtain ⟨K, H', N, b0, b1, b2, b3, g0, g1, g2, g3, g4, g5, g6, hw, hb⟩ := cell i hi
    rw [add_at, add_at] at g0 g1 g2 g3 g4 g5 g6
    exact ⟨b, o, K, H', N, b0, b1, b2, b3, rfl, g0, g1, g2, g3, g4, g5, g6, hw, hb⟩
theorem tablePlays_row (a : Option Addr) (len cap : Nat) (z : Bool) (w : World) (h : len ≤ 9223372036854775807 ∧ OpsAt w a len) :
    Calls Try.prog 5 #[.slice a len cap, .bool z] w fun e w' => e = .returned (.bool true) ∧ Below w.heap.size w w' := plays_calls w a len cap z h.1 h.2
end Go.Proofs.Ytojbdaeidbmjgaa
