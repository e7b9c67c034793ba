/- A Parts (five fields, by value) as an argument of a law. -/
import Derived.Test.YtiocdgehpiagjaaDoorLawJoins
import Derived.Lib.SmallJoins
namespace Go.Proofs.YtiocdgehpiagjaaDoor
set_option linter.unusedVariables false
set_option linter.unusedSimpArgs false
open Go.RowKit Go.ChangeShapes Go.WideShapes
theorem array5 {α : Type} {cs : Array α} (h : cs.size = 5) : ∃ a b c d e, cs = #[a, b, c, d, e] := by
  obtain ⟨l⟩ := cs
  match l, h with
  | [a, b, c, d, e], _ => exact ⟨a, b, c, d, e, rfl⟩
theorem open_five {P : Program} {H : Type} {enc : TypeId × Value → H} {w : World} {base b0 : Nat} {r : Reach} {spare : Nat → Bool} {held : Bool} {t : TypeId} {v : Value} {d : DataW H} {p : List MemPlace} {f0 f1 f2 f3 f4 : Field}
    (hu : P.underlying t = some (.struct #[f0, f1, f2, f3, f4])) (hc : P.cellsOf t = 5)
    (o0 : f0.offset = 0 ∧ P.cellsOf f0.type = 1 ∧ P.underlying f0.type = some (.int .i64)) (o1 : f1.offset = 1 ∧ P.cellsOf f1.type = 1 ∧ P.underlying f1.type = some .bool) (o2 : f2.offset = 2 ∧ P.cellsOf f2.type = 1 ∧ P.underlying f2.type = some .bool)
    (o3 : f3.offset = 3 ∧ P.cellsOf f3.type = 1 ∧ P.underlying f3.type = some .string) (o4 : f4.offset = 4 ∧ P.cellsOf f4.type = 1 ∧ P.underlying f4.type = some (.int .i64))
    (hv : Value.okWide P w r b0 t v) (h : DataW.Trod enc P w base spare held t v d p) : PartsIs v := by
  have hv' : ∃ cs, v = .agg cs ∧ cs.size = P.cellsOf t := by
    unfold Value.okWide at hv
    rw [hu] at hv
    obtain ⟨cs, h1, h2, _⟩ := hv
    exact ⟨cs, h1, h2⟩
  obtain ⟨cs, rfl, hsz⟩ := hv'
  obtain ⟨c0, c1, c2, c3, c4, rfl⟩ := array5 (hsz.trans hc)
  obtain ⟨fuel, hf⟩ := h
  obtain ⟨xs, m, _, _, _, hl, hx⟩ := DataW.trod_struct hu hf
  have hl5 : xs.length = 5 := hl
  have t0 := hx 0 f0 rfl
  have t1 := hx 1 f1 rfl
  have t2 := hx 2 f2 rfl
  have t3 := hx 3 f3 rfl
  have t4 := hx 4 f4 rfl
  rw [List.getElem?_eq_getElem (by omega), o0.1, o0.2.1] at t0
  rw [List.getElem?_eq_getElem (by omega), o1.1, o1.2.1] at t1
  rw [List.getElem?_eq_getElem (by omega), o2.1, o2.2.1] at t2
  rw [List.getElem?_eq_getElem (by omega), o3.1, o3.2.1] at t3
  rw [List.getElem?_eq_getElem (by omega), o4.1, o4.2.1] at t4
  simp only [Value.cells] at t0 t1 t2 t3 t4
  obtain ⟨n0, e0, _, _⟩ := DataW.trod_int o0.2.2 t0
  obtain ⟨n1, e1, _⟩ := DataW.trod_bool o1.2.2 t1
  obtain ⟨n2, e2, _⟩ := DataW.trod_bool o2.2.2 t2
  obtain ⟨n3, e3, _, g3⟩ := DataW.trod_string o3.2.2 t3
  obtain ⟨n4, e4, _, g4⟩ := DataW.trod_int o4.2.2 t4
  simp at e0 e1 e2 e3 e4
  subst e0 e1 e2 e3 e4
  have hb := bounds_i64 g4
  exact ⟨n0, n1, n2, n3, n4, rfl, g3, hb.1, hb.2⟩
set_option maxRecDepth 100000 in
theorem open_parts {H : Type} {enc : TypeId × Value → H} {w : World} {base b0 : Nat} {r : Reach} {spare : Nat → Bool} {held : Bool} {v : Value} {d : DataW H} {p : List MemPlace}
    (hv : Value.okWide Tryd.prog w r b0 28 v) (h : DataW.Trod enc Tryd.prog w base spare held 28 v d p) : PartsIs v :=
  open_five Tryd.underlying28 (by kernel_rfl) ⟨rfl, by kernel_rfl, Tryd.underlying3⟩ ⟨rfl, by kernel_rfl, Tryd.underlying4⟩ ⟨rfl, by kernel_rfl, Tryd.underlying4⟩ ⟨rfl, by kernel_rfl, Tryd.underlying9⟩ ⟨rfl, by kernel_rfl, Tryd.underlying3⟩ hv h
end Go.Proofs.YtiocdgehpiagjaaDoor
