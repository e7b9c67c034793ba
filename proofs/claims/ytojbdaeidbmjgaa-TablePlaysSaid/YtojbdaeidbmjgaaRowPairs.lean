/- A slice of structs of two ints, as an argument of a law: what its cells hold. -/
import Derived.Test.YtojbdaeidbmjgaaRowWords
import Derived.ChangeSame
import Derived.Deep.Slices
namespace Go.Proofs.Ytojbdaeidbmjgaa
open Go.RowKit Go.ChangeShapes Go.WideShapes Go.Deep
def intAt (w : World) (a : Addr) : Int := match w.cell? a with | some (.int _ n) => n | _ => 0
theorem intAt_eq {w : World} {a : Addr} {k : IntKind} {n : Int} (h : w.cell? a = some (.int k n)) : intAt w a = n := by simp [intAt, h]
theorem cells2 {w : World} {base : Nat} {a : Addr} {cs : List Value} (h : w.cells? base a 2 = some cs) : ∃ u v, cs = [u, v] ∧ w.cell? (a.add 0) = some u ∧ w.cell? (a.add 1) = some v := by
  unfold World.cells? at h
  split at h
  · simp only [show List.range 2 = [0, 1] from rfl, List.mapM_cons, List.mapM_nil, Option.pure_def, Option.bind_eq_bind] at h
    cases h0 : w.cell? (a.add 0) with
    | none => rw [h0] at h; cases h
    | some u =>
      cases h1 : w.cell? (a.add 1) with
      | none => rw [h0, h1] at h; cases h
      | some v => rw [h0, h1] at h; cases h; exact ⟨u, v, rfl, rfl, rfl⟩
  · cases h
theorem open_pairs {H : Type} {enc : TypeId × Value → H} {P : Program} {w : World} {base : Nat} {spare : Nat → Bool} {held : Bool} {t e : TypeId} {f0 f1 : Field} {fuel len cap : Nat} {a : Option Addr} {x : DataW H × List MemPlace}
    (ht : P.underlying t = some (.slice e)) (he : P.underlying e = some (.struct #[f0, f1])) (hc : P.cellsOf e = 2) (o0 : f0.offset = 0) (o1 : f1.offset = 1)
    (t0 : P.underlying f0.type = some (.int .i64)) (t1 : P.underlying f1.type = some (.int .i64)) (c0 : P.cellsOf f0.type = 1) (c1 : P.cellsOf f1.type = 1)
    (h : DataW.trod enc P w base spare held fuel t [.slice a len cap] = some x) :
    len ≤ 9223372036854775807 ∧ ∀ i, i < len → ∃ b off n0 n1, a = some ⟨b, off, none⟩ ∧ w.cell? ⟨b, off + i * 2, none⟩ = some (.int .i64 n0) ∧ w.cell? ⟨b, off + i * 2 + 1, none⟩ = some (.int .i64 n1) := by
  rcases open_slice ht h with ⟨hcs, _⟩ | ⟨ad, l, c, m, n, D, Pl, hcs, _, hl, hm, hmm, _, hx⟩
  · simp only [List.cons.injEq, Value.slice.injEq, and_true] at hcs
    obtain ⟨rfl, rfl, rfl⟩ := hcs
    exact ⟨by omega, fun i hi => by omega⟩
  · simp only [List.cons.injEq, Value.slice.injEq, and_true] at hcs
    obtain ⟨rfl, rfl, rfl⟩ := hcs
    have hlm : len ≤ m := by rw [hmm]; split <;> omega
    have cell : ∀ i, i < len → ∃ n0 n1, w.cell? ((ad.add (i * 2)).add 0) = some (.int .i64 n0) ∧ w.cell? ((ad.add (i * 2)).add 1) = some (.int .i64 n1) := by
      intro i hi
      obtain ⟨cs', h1, h2⟩ := hx i (by omega)
      rw [hc] at h1
      obtain ⟨u, v, rfl, hu, hv⟩ := cells2 h1
      obtain ⟨y0, y1, n', _, _, g0, g1⟩ := trod_struct2 he h2
      rw [o0, c0] at g0
      rw [o1, c1] at g1
      obtain ⟨n0, e0, _, _⟩ := DataW.trod_int t0 g0
      obtain ⟨n1, e1, _, _⟩ := DataW.trod_int t1 g1
      simp at e0 e1
      subst e0 e1
      exact ⟨n0, n1, hu, hv⟩
    refine ⟨by unfold maxLen at hm; omega, fun i hi => ?_⟩
    obtain ⟨_, _, z0, _⟩ := cell 0 (by omega)
    have hs := spot_none z0
    have hs' : ad.spot = none := by
      have e1 : (ad.add (0 * 2)).add 0 = ad := by simp [Addr.add]
      rw [e1] at hs; exact hs
    obtain ⟨b, o, s⟩ := ad
    subst hs'
    obtain ⟨n0, n1, g0, g1⟩ := cell i hi
    rw [add_at, add_at] at g0 g1
    exact ⟨b, o, n0, n1, rfl, g0, g1⟩
end Go.Proofs.Ytojbdaeidbmjgaa
