/- The closure of desc.Powers.make: the first 64 powers, and the greatest coefficient. -/
import Derived.Test.YthaplpenccpkpaaOnce
import Derived.Test.YthaplpenccpkpaaNatPowers2
import Derived.Deep.AppendLies
import Derived.Deep.RegionLaw
namespace Go.Proofs.Ythaplpenccpkpaa
open Go.RowKit
theorem row_info : (Try.prog.info? 69).map (fun i => (i.zero, i.size, i.bytes)) = some (some (.slice none 0 0), 1, 24) := by kernel_rfl
/-- The box of a Powers. -/
def PowBox (w : World) (g b p : Nat) (d s m : Int) (lv gv : Value) : Prop := w.heap[g]? = some (.cells #[.int .i64 (b : Nat), .int .i64 (p : Nat), .int .u32 d, .int .i32 s, .int .u32 0, .int .i32 m, lv, gv] 106 (0, 0))
/-- A slice value that is a natural number in memory. -/
def PowVal (w : World) (v : Value) (n : Nat) : Prop := ∃ a c zs, v = .slice a zs.length c ∧ OwnW 0 w a zs.length c zs ∧ val zs = n ∧ zs.length ≤ 400
/-- All blocks of type t are as they were. -/
def KeepsT (w W : World) (t : TypeId) : Prop := ∀ (k : Nat) (cur : Array Value) (fz : Nat × Nat), w.heap[k]? = some (Obj.cells cur t fz) → W.heap[k]? = some (Obj.cells cur t fz)
theorem PowVal.keep {w W : World} {v : Value} {n : Nat} (h : PowVal w v n) (hk : KeepsT w W 59) : PowVal W v n := by
  obtain ⟨a, c, zs, rfl, ho, hv, hl⟩ := h
  obtain ⟨⟨h1, h2⟩, hl2, hw⟩ := ho
  refine ⟨a, c, zs, rfl, ⟨⟨h1, ?_⟩, hl2, hw⟩, hv, hl⟩
  rcases h2 with h2 | ⟨g, c', cur, e, hB, hg, r⟩
  · exact .inl h2
  · exact .inr ⟨g, c', cur, e, hB, hk _ _ _ hg, r⟩
theorem keepsT_below {w W : World} (t : TypeId) (hb : Below w.heap.size w W) : KeepsT w W t := fun _ _ _ h => below_heap hb h
theorem keepsT_grown {w W : World} {t t' : TypeId} {row : Option Nat} (hg : w.grownBy W row) (hr : ∀ k, row = some k → ∃ (cur : Array Value) (fz : Nat × Nat), w.heap[k]? = some (Obj.cells cur t' fz)) (hne : t ≠ t') : KeepsT w W t := by
  intro k cur fz h
  rw [hg.block k (lt_of_heap h) ?_]
  · exact h
  · intro e
    obtain ⟨c2, f2, h2⟩ := hr k e.symm
    rw [h] at h2
    simp only [Option.some.injEq, Obj.cells.injEq] at h2
    exact hne h2.2.1
theorem keepsT_set {w : World} {g : Nat} {t t' : TypeId} {cs : Array Value} {f : Nat × Nat} (hg : w.heap[g]? = some (.cells cs t' f)) (i : Nat) (v : Value) (hne : t ≠ t') : KeepsT w (w.setCell ⟨g, i, none⟩ v) t := by
  intro k cur fz h
  rw [heap_set_other (fun e => ?_)]
  · exact h
  · subst e
    rw [h] at hg
    simp only [Option.some.injEq, Obj.cells.injEq] at hg
    exact hne hg.2.1
theorem KeepsT.trans {a b c : World} {t : TypeId} (h : KeepsT a b t) (k : KeepsT b c t) : KeepsT a c t := fun _ _ _ e => k _ _ _ (h _ _ _ e)
theorem natRes2_pow {w w' : World} {n bd : Nat} {v : Value} {e : Ending} (h : NatRes2 w n bd v e w') (hb : bd ≤ 400) : ∃ x, e = .returned (.tuple #[x, v]) ∧ PowVal w' x n ∧ Below w.heap.size w w' := by
  obtain ⟨a, c, zs, rfl, ho, hv, _, hl, hbb⟩ := h
  exact ⟨_, rfl, ⟨a, c, zs, rfl, ho.mono (Nat.zero_le _), hv, by omega⟩, hbb⟩
/-- The rows of the list, in a block of their own. -/
def RowsIn (B : Nat) (w : World) (a : Option Addr) (n c : Nat) (vs : List Value) : Prop := w.ownsRow B 69 1 (.slice a n c) n vs
theorem RowsIn.keep {B : Nat} {w W : World} {a : Option Addr} {n c : Nat} {vs : List Value} (h : RowsIn B w a n c vs) (hk : KeepsT w W 69) : RowsIn B W a n c vs := by
  obtain ⟨h1, h2⟩ := h
  refine ⟨h1, ?_⟩
  rcases h2 with h2 | ⟨g, c', cur, e, hB, hg, r⟩
  · exact .inl h2
  · exact .inr ⟨g, c', cur, e, hB, hk _ _ _ hg, r⟩
theorem RowsIn.row {B : Nat} {w : World} {a : Option Addr} {n c : Nat} {vs : List Value} (h : RowsIn B w a n c vs) : ∀ k, a.map (·.block) = some k → ∃ (cur : Array Value) (fz : Nat × Nat), w.heap[k]? = some (Obj.cells cur 69 fz) := by
  intro k hk
  rcases h.2 with ⟨e, _⟩ | ⟨g, c', cur, e, hB, hg, r⟩
  · simp only [Value.slice.injEq] at e
    rw [e.1] at hk
    cases hk
  · simp only [Value.slice.injEq] at e
    rw [e.1] at hk
    cases hk
    exact ⟨_, _, hg⟩
/-- The list's rows are the powers from 0 on. -/
def PowRows (w : World) (b : Nat) (vs : List Value) : Prop := ∀ i, i < vs.length → ∃ v, vs[i]? = some v ∧ PowVal w v (b ^ i)
theorem PowRows.keep {w W : World} {b : Nat} {vs : List Value} (h : PowRows w b vs) (hk : KeepsT w W 59) : PowRows W b vs := fun i hi => by
  obtain ⟨v, h1, h2⟩ := h i hi
  exact ⟨v, h1, h2.keep hk⟩
theorem PowRows.snoc {w : World} {b : Nat} {vs : List Value} {v : Value} {k : Nat} (h : PowRows w b vs) (hl : vs.length = k) (hv : PowVal w v (b ^ k)) : PowRows w b (vs ++ [v]) := fun i hi => by
  rw [List.length_append, List.length_singleton] at hi
  rcases Nat.lt_or_ge i vs.length with h1 | h1
  · obtain ⟨u, h2, h3⟩ := h i h1
    exact ⟨u, by rw [List.getElem?_append_left h1]; exact h2, h3⟩
  · have : i = k := by omega
    subst this
    exact ⟨v, by rw [List.getElem?_append_right h1, hl, Nat.sub_self]; rfl, hv⟩
section
variable {ops : Array Oper} {rest : List Oper} {Q : Exit → Act → World → Prop} {a : Act} {w : World} {d : Option Tmp} {x y : Operand} {T : TypeId} {pos : String} {af : Array Edge}
/-- append(list, x). -/
theorem app_row {w0 : World} (hB : Below w0.heap.size w0 w) {sa : Option Addr} {sl sc g : Nat} {vs : List Value} (v : Value) (hs : RowsIn w0.heap.size w sa sl sc vs) (hx : w.cell? ⟨g, 0, none⟩ = some v) (hv : v.oneCell' = true) (hlen : sl + 1 ≤ 1000000)
    (h : ∀ (W : World) (a' : Option Addr) (c' : Nat), Below w0.heap.size w0 W → RowsIn w0.heap.size W a' (sl + 1) c' (vs ++ [v]) → w.grownBy W (sa.map (·.block)) → wpList Try.prog ops Q rest (a.put d (.slice a' (sl + 1) c')) W)
    (he : a.eval x = .slice sa sl sc := by rfl) (hf : a.eval y = .slice (some ⟨g, 0, none⟩) 1 1 := by rfl) :
    wpList Try.prog ops Q ({ dst := d, op := .call { callee := .builtin .append, args := #[x, y], argTypes := #[79, 79] }, type := T, pos := pos, after := af, guard := none } :: rest) a w := by
  obtain ⟨i0, hi, hz0, hz1, hz2⟩ := info_parts row_info
  refine wpList_append_own _ rfl x y 79 rfl w0.heap.size 69 i0 (.slice none 0 0) 1 24 Try.underlying79 hi hz0 hz1 hz2 rfl (by omega) _ sl _ he hs ⟨g, 0, none⟩ 1 1 [v] hf rfl ?_ (by simpa using hv) (by unfold maxLen; omega) (by omega) hB.size ?_
  · intro j u hu
    cases j with
    | zero =>
      cases hu
      rw [Addr.add_mid]
      exact hx
    | succ j => simp at hu
  · intro v' W ho hg _
    have e : (Value.slice sa sl sc).ownBlock = sa.map (·.block) := by cases sa <;> rfl
    have hbel : Below w0.heap.size w0 W := hB.grown hg hB.size fun k hk => (World.ownsRow.lt hs k hk).1
    obtain ⟨a', c', rfl⟩ : ∃ a' c', v' = .slice a' (sl + 1) c' := by
      rcases ho.2 with ⟨rfl, h0⟩ | ⟨g, c, cur, rfl, _⟩
      · omega
      · exact ⟨_, _, rfl⟩
    rw [e] at hg
    exact h W a' c' hbel ho hg
/-- append(list, x), as a step of a region that draws its order. -/
theorem step_app_row {o : Oper} {K : Act → World → Prop} {E : Prop} {w0 : World} (hgd : o.guard = none) (ho : o.op = .call { callee := .builtin .append, args := #[x, y], argTypes := #[79, 79] })
    (hB : Below w0.heap.size w0 w) {sa : Option Addr} {sl sc g : Nat} {vs : List Value} (v : Value) (hs : RowsIn w0.heap.size w sa sl sc vs) (hx : w.cell? ⟨g, 0, none⟩ = some v) (hv : v.oneCell' = true) (hlen : sl + 1 ≤ 1000000)
    (he : a.eval x = .slice sa sl sc) (hf : a.eval y = .slice (some ⟨g, 0, none⟩) 1 1)
    (h : ∀ (W : World) (a' : Option Addr) (c' : Nat), Below w0.heap.size w0 W → RowsIn w0.heap.size W a' (sl + 1) c' (vs ++ [v]) → w.grownBy W (sa.map (·.block)) → K (a.put o.dst (.slice a' (sl + 1) c')) W) :
    if Region.wanted o (yielded ops a.tmps) = true then Oper.wp Try.prog o a w K Q else E := by
  obtain ⟨i0, hi, hz0, hz1, hz2⟩ := info_parts row_info
  refine step_append_lies w hgd x y 79 ho w0.heap.size 69 i0 (.slice none 0 0) 1 24 Try.underlying79 hi hz0 hz1 hz2 rfl (by omega) _ sl _ he hs ⟨g, 0, none⟩ 1 1 [v] hf rfl ?_ (by simpa using hv) (by omega) (by unfold maxLen; omega) (by omega) hB.size _ rfl ?_
  · intro j u hu
    cases j with
    | zero =>
      cases hu
      rw [Addr.add_mid]
      exact hx
    | succ j => simp at hu
  · intro g' cap W ho2 hg _ _
    have e : (Value.slice sa sl sc).ownBlock = sa.map (·.block) := by cases sa <;> rfl
    have hbel : Below w0.heap.size w0 W := hB.grown hg hB.size fun k hk => (World.ownsRow.lt hs k hk).1
    rw [e] at hg
    exact h W _ _ hbel ho2 hg
end
end Go.Proofs.Ythaplpenccpkpaa
