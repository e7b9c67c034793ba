/- Words for the rows of laws over slices of integers: what such an argument holds, and its size. -/
import Derived.Test.YtojbdaeidbmjgaaBase
import Derived.SizedLaws
import Derived.ChangeSlices
namespace Go.Proofs.Ytojbdaeidbmjgaa
open Go.RowKit Go.ChangeShapes Go.WideShapes
/-- A slice of integers as it came in: nil, or zs in its cells up to its capacity. -/
def RowAt (k : IntKind) (w : World) (a : Option Addr) (len cap : Nat) (zs : List Int) : Prop :=
  (a = none ∧ len = 0 ∧ cap = 0 ∧ zs = []) ∨
  ∃ x, a = some x ∧ len ≤ cap ∧ cap ≤ maxLen ∧ zs.length = cap ∧ (∀ i, i < zs.length → w.cell? (x.add i) = some (.int k (zs.getD i 0))) ∧ ∀ n ∈ zs, (Lit.int k n).wf = true
theorem sized_ints {H : Type} {enc : TypeId × Value → H} {P : Program} {W : World} {base : Nat} {spare : Nat → Bool} {held : Bool} {t e : TypeId} {k : IntKind} {a : Option Addr} {len cap : Nat} {d : DataW H} {ps : List MemPlace} {ts : List TypeId} {ds : List (DataW H)} {j : Nat}
    (hsz : (DataW.weightsEach P ts ds).all (· ≤ reachBytes) = true) (ht : ts[j]? = some t) (hd : ds[j]? = some d) (hu : P.underlying t = some (.slice e)) (he : P.underlying e = some (.int k)) (hc : P.cellsOf e = 1) {B : Nat} (hB : P.bytesOf e = B)
    (h : DataW.Trod enc P W base spare held t (.slice a len cap) d ps) : len * B ≤ 140737488351232 := by
  obtain ⟨fuel, hf⟩ := h
  rcases open_ints hu he hc hf with ⟨hcs, _⟩ | ⟨x, l, c, zs, hcs, _, hl, _, hz, hx, _, _⟩
  · obtain ⟨_, rfl, _⟩ : a = none ∧ len = 0 ∧ cap = 0 := by simpa [Value.cells] using hcs
    omega
  · obtain ⟨_, rfl, rfl⟩ : a = some x ∧ len = l ∧ cap = c := by simpa [Value.cells] using hcs
    have e1 : d = .slice (lits k (zs.take len)) (lits k (zs.drop len)) := (Prod.mk.inj hx).1
    have z := sized_slice hsz ht (e1 ▸ hd) hu
    rw [hB] at z
    have h1 : (lits (H := H) k (zs.take len)).length + (lits (H := H) k (zs.drop len)).length = zs.length := by
      simp [lits]; omega
    have hl2 : len ≤ zs.length := by rw [hz]; split <;> omega
    rw [h1] at z
    exact Nat.le_trans (Nat.mul_le_mul_right _ hl2) z
theorem add_at (b o j : Nat) : (⟨b, o, none⟩ : Addr).add j = ⟨b, o + j, none⟩ := Addr.add_mid b o j
theorem spot_none {w : World} {x : Addr} {v : Value} (h : w.cell? x = some v) : x.spot = none := by
  cases hs : x.spot with
  | none => rfl
  | some s => simp only [World.cell?, hs] at h; split at h <;> simp at h
theorem add_spot (x : Addr) (i : Nat) (h : (x.add i).spot = none) (hi : i = 0) : x.spot = none := by subst hi; simpa [Addr.add] using h
/-- The cells of such a slice, at plain addresses. -/
theorem RowAt.at {k : IntKind} {w : World} {a : Option Addr} {len cap : Nat} {zs : List Int} (h : RowAt k w a len cap zs) (hne : 0 < len) :
    ∃ b off, a = some ⟨b, off, none⟩ ∧ len ≤ cap ∧ cap ≤ maxLen ∧ zs.length = cap ∧ ∀ i, i < cap → w.cell? ⟨b, off + i, none⟩ = some (.int k (zs.getD i 0)) := by
  rcases h with ⟨_, rfl, _⟩ | ⟨x, rfl, hl, hm, hz, hc, _⟩
  · omega
  · have h0 := hc 0 (by omega)
    have hx0 : x.add 0 = x := by unfold Addr.add; simp
    rw [hx0] at h0
    have hs := spot_none h0
    obtain ⟨b, o, s⟩ := x
    subst hs
    exact ⟨b, o, rfl, hl, hm, hz, fun i hi => by have := hc i (by omega); rw [add_at] at this; exact this⟩
end Go.Proofs.Ytojbdaeidbmjgaa
