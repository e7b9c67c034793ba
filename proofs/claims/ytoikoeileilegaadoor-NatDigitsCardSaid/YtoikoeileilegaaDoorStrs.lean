/- Rows of strings of the call's own; slices.Reverse and strings.Join on them. -/
import Derived.Test.YtoikoeileilegaaDoorDigMath
import Derived.Lib.OwnBridge
namespace Go.Proofs.YtoikoeileilegaaDoor
open Go.RowKit Go.Sort
theorem str_info : (Tryd.prog.info? 9).map (fun i => (i.zero, i.size, i.bytes)) = some (some (.string ⟨#[]⟩), 1, 16) := by kernel_rfl
/-- A slice of strings in memory of the call's own. -/
def OwnS (B : Nat) (w : World) (a : Option Addr) (len cap : Nat) (ss : List (List UInt8)) : Prop := w.ownsRow B 9 1 (.slice a len cap) len (ss.map encStr)
theorem OwnS.keep {B : Nat} {w w' : World} {a : Option Addr} {len cap : Nat} {ss : List (List UInt8)} (h : OwnS B w a len cap ss) (hb : Below w.heap.size w w') : OwnS B w' a len cap ss := by
  obtain ⟨h1, h2⟩ := h
  refine ⟨h1, ?_⟩
  rcases h2 with h2 | ⟨g, c, cur, hv, hB, hg, r⟩
  · exact .inl h2
  · exact .inr ⟨g, c, cur, hv, hB, below_heap hb hg, r⟩
theorem OwnS.len {B : Nat} {w : World} {a : Option Addr} {len cap : Nat} {ss : List (List UInt8)} (h : OwnS B w a len cap ss) : ss.length = len := by simpa using h.1
theorem ownS_nil (B : Nat) (w : World) : OwnS B w none 0 0 [] := ⟨rfl, .inl ⟨rfl, rfl⟩⟩
theorem OwnS.lt {B : Nat} {w : World} {ad : Addr} {len cap : Nat} {ss : List (List UInt8)} (h : OwnS B w (some ad) len cap ss) : B ≤ ad.block ∧ ad.block < w.heap.size := World.ownsRow.lt h _ rfl
theorem SlW.grown {w W : World} {a : Option Addr} {len cap : Nat} {xs : List Nat} (h : SlW w a len cap xs) {row : Option Nat} (hg : w.grownBy W row) (hne : ∀ ad, a = some ad → some ad.block ≠ row) : SlW W a len cap xs :=
  ⟨h.hlen, h.hle, h.hmax, h.hw, h.hnil, fun i hi => by
    obtain ⟨b, off, e, hc⟩ := h.hcell i hi
    exact ⟨b, off, e, hg.cell hc (hne ⟨b, off, none⟩ e)⟩⟩
section
variable {ops : Array Oper} {rest : List Oper} {Q : Exit → Act → World → Prop} {a : Act} {w : World} {d : Option Tmp} {x y : Operand} {T : TypeId} {pos : String} {af : Array Edge}
/-- append(parts, s). -/
theorem app_str {w0 : World} (hB : Below w0.heap.size w0 w) {sa : Option Addr} {sl sc g : Nat} {ss : List (List UInt8)} (s : List UInt8) (hs : OwnS w0.heap.size w sa sl sc ss) (hx : w.cell? ⟨g, 0, none⟩ = some (encStr s)) (hlen : sl + 1 ≤ 1000000)
    (h : ∀ (W : World) (a' : Option Addr) (c' : Nat), Below w0.heap.size w0 W → OwnS w0.heap.size W a' (sl + 1) c' (ss ++ [s]) → w.grownBy W (sa.map (·.block)) → wpList Tryd.prog ops Q rest (a.put d (.slice a' (sl + 1) c')) W)
    (he : a.eval x = .slice sa sl sc := by rfl) (hf : a.eval y = .slice (some ⟨g, 0, none⟩) 1 1 := by rfl) :
    wpList Tryd.prog ops Q ({ dst := d, op := .call { callee := .builtin .append, args := #[x, y], argTypes := #[57, 57] }, type := T, pos := pos, after := af, guard := none } :: rest) a w := by
  obtain ⟨i0, hi, hz0, hz1, hz2⟩ := info_parts str_info
  refine wpList_append_own _ rfl x y 57 rfl w0.heap.size 9 i0 (.string ⟨#[]⟩) 1 16 Tryd.underlying57 hi hz0 hz1 hz2 rfl (by omega) _ sl _ he hs ⟨g, 0, none⟩ 1 1 [encStr s] hf rfl ?_ (by simp [Value.oneCell']) (by unfold maxLen; omega) (by omega) hB.size ?_
  · intro j u hu
    cases j with
    | zero =>
      cases hu
      rw [Addr.add_mid]
      exact hx
    | succ j => simp at hu
  · intro v' W ho hg _
    have e : (Value.slice sa sl sc).ownBlock = sa.map (·.block) := by cases sa <;> rfl
    have hbel : Below w0.heap.size w0 W := hB.grown hg hB.size fun k hk => (World.ownsRow.lt hs k hk).1
    obtain ⟨a', c', rfl⟩ : ∃ a' c', v' = .slice a' (sl + 1) c' := by
      rcases ho.2 with ⟨rfl, h0⟩ | ⟨g, c, cur, rfl, _⟩
      · omega
      · exact ⟨_, _, rfl⟩
    rw [e] at hg
    refine h W a' c' hbel ?_ hg
    unfold OwnS
    rw [List.map_append]
    exact ho
end
theorem OwnS.some {B : Nat} {w : World} {a : Option Addr} {len cap : Nat} {ss : List (List UInt8)} (h : OwnS B w a len cap ss) (hl : 0 < len) : ∃ g, a = some ⟨g, 0, none⟩ ∧ B ≤ g ∧ g < w.heap.size ∧ len ≤ cap ∧ cap ≤ maxLen ∧ Holds encStr w g 0 ss.toArray := by
  obtain ⟨g, c, hv, h1, h2, h3, h4, _, h5⟩ := Lib.holds_of_ownsRow h (by intro e; injection e with e1 e2 e3; omega)
  injection hv with e1 _ e3
  subst e3
  exact ⟨g, e1, h1, h2, h3, h4, h5⟩
theorem rev_calls {B : Nat} {w : World} {g n c : Nat} {ss : List (List UInt8)} (h : OwnS B w (some ⟨g, 0, none⟩) n c ss) (hn : 0 < n) :
    Calls Tryd.prog 61 #[.slice (some ⟨g, 0, none⟩) n c] w fun e w' => e = .returned (.tuple #[]) ∧ OwnS B w' (some ⟨g, 0, none⟩) n c ss.reverse ∧ ∀ w0, Below B w0 w → Below B w0 w' := by
  obtain ⟨g', e, h1, h2, h3, h4, h5⟩ := h.some hn
  cases e
  have hl := h.len
  have hr := Tryd.slices_Reverse_string g 0 c ss w h5 (by unfold maxLen at h4; omega)
  rw [hl] at hr
  refine hr.mono ?_
  rintro e w' ⟨rfl, m, rfl⟩
  refine ⟨rfl, ?_, fun w0 hb => Lib.below_putRow hb h1⟩
  have := Lib.ownsRow_putRow (q := m) (k := n) (ys := ss.reverse) h (by simp [hl]) (Nat.le_refl _)
  rw [List.take_of_length_le (by simp [hl])] at this
  exact this
theorem join_calls {B : Nat} {w : World} {g n c : Nat} {ss : List (List UInt8)} (h : OwnS B w (some ⟨g, 0, none⟩) n c ss) (hn : 0 < n) (hlen : ss.flatten.length ≤ 140737488355328) (hm : n ≤ 1000000) :
    Calls Tryd.prog 62 #[.slice (some ⟨g, 0, none⟩) n c, .string ⟨#[]⟩] w fun e w' => e = .returned (.string ⟨ss.flatten.toArray⟩) ∧ Below w.heap.size w w' := by
  obtain ⟨g', e, h1, h2, h3, h4, h5⟩ := h.some hn
  cases e
  have hl := h.len
  have hmap : (ss.map fun l => (⟨l.toArray⟩ : ByteArray)).map (fun x => x.data.toList) = ss := by simp [Function.comp_def]
  have hj := Tryd.strings_Join g 0 c (ss.map fun l => ⟨l.toArray⟩) ⟨#[]⟩ w (fun j x hx => by
    rw [List.getElem?_map] at hx
    cases hq : ss[j]? with
    | none => rw [hq] at hx; cases hx
    | some l =>
      rw [hq] at hx
      cases hx
      have hjl := (List.getElem?_eq_some_iff.1 hq).1
      have := (h5 j (by simpa using hjl)).1
      rw [this]
      simp [getElem!_pos, hjl, encStr]
      rw [← (List.getElem?_eq_some_iff.1 hq).2]) h2 (by simp; omega) (by simp; omega) (by rw [hmap, join_empty]; exact hlen)
  rw [hmap, join_empty] at hj
  simp only [List.length_map, hl] at hj
  exact hj
end Go.Proofs.YtoikoeileilegaaDoor
