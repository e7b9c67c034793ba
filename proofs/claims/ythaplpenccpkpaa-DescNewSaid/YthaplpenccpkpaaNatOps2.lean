/- Words of the call's own, in a block that may have more cells than they are. -/
import Derived.Test.YthaplpenccpkpaaRefNat3
namespace Go.Proofs.Ythaplpenccpkpaa
open Go.RowKit
structure WordsC (w : World) (g c : Nat) (xs : List Nat) : Prop where
  hcur : ∃ cur, w.heap[g]? = some (.cells cur 59 (0, 0)) ∧ cur.size = c ∧ cur.toList.take xs.length = xs.map wv
  hle : xs.length ≤ c
  hmax : c ≤ maxLen
theorem WordsC.cell {w : World} {g c : Nat} {xs : List Nat} (h : WordsC w g c xs) (i : Nat) (hi : i < xs.length) : w.cell? ⟨g, i, none⟩ = some (.int .u64 ((wd xs i : Nat) : Int)) := by
  obtain ⟨⟨cur, hg, hs, ht⟩, h1, h2⟩ := h
  rw [cell_of_heap hg]
  have e1 : (cur.toList.take xs.length)[i]? = some (wv (wd xs i)) := by
    rw [ht, List.getElem?_map, List.getElem?_eq_getElem hi]
    simp [wd, List.getD_eq_getElem?_getD, List.getElem?_eq_getElem hi]
  rw [List.getElem?_take, if_pos hi] at e1
  simpa [wv] using e1
theorem WordsC.free {w : World} {g c : Nat} {xs : List Nat} (h : WordsC w g c xs) (i : Nat) : w.frozen? ⟨g, i, none⟩ = false := by
  obtain ⟨⟨cur, hg, _⟩, _⟩ := h; exact free_of_heap hg i
theorem WordsC.keep {w w' : World} {g c : Nat} {xs : List Nat} (h : WordsC w g c xs) (hb : Below w.heap.size w w') : WordsC w' g c xs := by
  obtain ⟨⟨cur, hg, r⟩, h1, h2⟩ := h; exact ⟨⟨cur, below_heap hb hg, r⟩, h1, h2⟩
theorem WordsC.drewN {w : World} {g c : Nat} {xs : List Nat} (h : WordsC w g c xs) (m : Nat) : WordsC (w.drewN m) g c xs := ⟨h.hcur, h.hle, h.hmax⟩
theorem WordsC.other {w W : World} {g h c : Nat} {xs : List Nat} (hx : WordsC w g c xs) (hk : ∀ k, k ≠ h → W.heap[k]? = w.heap[k]?) (hne : g ≠ h) : WordsC W g c xs := by
  obtain ⟨⟨cur, hg, r⟩, h1, h2⟩ := hx; exact ⟨⟨cur, (hk g hne).trans hg, r⟩, h1, h2⟩
theorem WordsC.lt {w : World} {g c : Nat} {xs : List Nat} (h : WordsC w g c xs) : g < w.heap.size := by
  obtain ⟨⟨cur, hg, r⟩, h1, h2⟩ := h; exact lt_of_heap hg
theorem WordsC.own {B : Nat} {w : World} {g c : Nat} {zs : List Nat} (h : WordsC w g c zs) (hB : B ≤ g) (hw : W64 zs) {k : Nat} (hk : k ≤ zs.length) :
    OwnW B w (some ⟨g, 0, none⟩) k c (zs.take k) := by
  obtain ⟨⟨cur, hg, hs, ht⟩, h1, h2⟩ := h
  refine ⟨⟨by simp; omega, .inr ⟨g, c, cur, rfl, hB, hg, by omega, h2, by omega, ?_⟩⟩, by simp; omega, hw.take k⟩
  rw [Nat.mul_one, List.map_take, ← ht, List.take_take, Nat.min_eq_left hk]
theorem WordsC.sl {w : World} {g c : Nat} {zs : List Nat} (h : WordsC w g c zs) (hw : W64 zs) {k : Nat} (hk : k ≤ zs.length) : SlW w (some ⟨g, 0, none⟩) k c (zs.take k) := (h.own (Nat.zero_le _) hw hk).sl
theorem WordsC.slAll {w : World} {g c : Nat} {zs : List Nat} (h : WordsC w g c zs) (hw : W64 zs) {N : Nat} (hN : zs.length = N) : SlW w (some ⟨g, 0, none⟩) N c zs := by
  subst hN
  have := h.sl hw (Nat.le_refl _)
  rwa [List.take_length] at this
theorem WordsC.slDrop {w : World} {g c : Nat} {zs : List Nat} (h : WordsC w g c zs) (hw : W64 zs) {j k c' : Nat} (hk : j + k ≤ zs.length) (hc : j + c' ≤ c) (hkc : k ≤ c') : SlW w (some ⟨g, j, none⟩) k c' ((zs.drop j).take k) := by
  refine ⟨by simp; omega, hkc, by have := h.hmax; unfold maxLen at this; omega, (hw.drop j).take k, (fun e => by cases e), fun i hi => ⟨g, j, rfl, ?_⟩⟩
  rw [h.cell (j + i) (by omega)]
  simp [wd, List.getD_eq_getElem?_getD, List.getElem?_drop, hi]
theorem OwnW.words {B : Nat} {w : World} {a : Option Addr} {len cap : Nat} {xs : List Nat} (h : OwnW B w a len cap xs) :
    (a = none ∧ len = 0 ∧ cap = 0 ∧ xs = []) ∨ ∃ g, a = some ⟨g, 0, none⟩ ∧ B ≤ g ∧ WordsC w g cap xs := by
  obtain ⟨⟨h1, h2⟩, hl, hw⟩ := h
  rcases h2 with ⟨hv, hn⟩ | ⟨g, c, cur, hv, hB, hg, hle, hm, hs, ht⟩
  · simp only [Value.slice.injEq] at hv
    obtain ⟨rfl, rfl, rfl⟩ := hv
    exact .inl ⟨rfl, rfl, rfl, List.eq_nil_of_length_eq_zero hl⟩
  · simp only [Value.slice.injEq] at hv
    obtain ⟨rfl, _, rfl⟩ := hv
    exact .inr ⟨g, rfl, hB, ⟨⟨cur, hg, by omega, by rw [hl]; simpa using ht⟩, by omega, hm⟩⟩
theorem WordsAt.wordsC {w : World} {g N : Nat} {zs : List Nat} (h : WordsAt w g zs) (hN : zs.length = N) (hl : N ≤ 17592186044416) : WordsC w g N zs := by
  subst hN
  exact ⟨⟨_, h, by simp [wcells], by simp only [wcells]; rw [List.take_of_length_le (by simp)]⟩, Nat.le_refl _, by unfold maxLen; omega⟩
section
variable {ops : Array Oper} {rest : List Oper} {Q : Exit → Act → World → Prop} {a : Act} {w : World} {d : Option Tmp} {x y : Operand} {T : TypeId} {pos : String} {af : Array Edge}
/-- A store of a word into such a block: it alone is another one. -/
theorem st_wordC {w0 : World} (hB : Below w0.heap.size w0 w) {g c : Nat} {xs : List Nat} (hg : WordsC w g c xs) (hB0 : w0.heap.size ≤ g) (i n : Nat) (hi : i < xs.length)
    (h : ∀ W : World, Below w0.heap.size w0 W → (∀ k, k ≠ g → W.heap[k]? = w.heap[k]?) → W.heap.size = w.heap.size → WordsC W g c (xs.set i n) → wpList Try.prog ops Q rest (a.put d undef) W)
    (hx : a.eval x = .pointer (some ⟨g, i, none⟩) := by rfl) (hy : a.eval y = .int .u64 (n : Nat) := by rfl) :
    wpList Try.prog ops Q ({ dst := d, op := .store 59 x y, type := T, pos := pos, after := af, guard := none } :: rest) a w := by
  have h1 := hg.cell i hi
  have h2 := hg.free i
  refine wpList_plain rfl fun K hK => ?_
  have hs : (Instr.storeAt 59 (.pointer (some ⟨g, i, none⟩)) (.int .u64 (n : Nat))).run Try.prog w = .ok () (w.setCell ⟨g, i, none⟩ (.int .u64 (n : Nat))) := by
    go_simp
  unfold Oper.wp execOp
  simp only [hx, hy, Sem.run_bind, hs, Result.andThen_ok]
  refine hK _ _ (h _ (hB.setCell hB0 _) (fun k hk => heap_set_other hk _ _) (size_set _ _ _) ?_)
  obtain ⟨⟨cur, hcu, hcs, hct⟩, hl, hm⟩ := hg
  refine ⟨⟨_, heap_set hcu i (wv n), by simpa using hcs, ?_⟩, by simpa using hl, hm⟩
  rw [List.length_set, Array.toList_setIfInBounds, List.take_set, hct, List.map_set]
end
theorem natRes_mkC {w w' : World} {g c n bd : Nat} {zs : List Nat} (hg : WordsC w' g c zs) (hB : w.heap.size ≤ g) (hw : W64 zs) (hv : val zs = n) (hb : zs.length ≤ bd) (hk : Below w.heap.size w w') :
    NatRes w n bd (.returned (.slice (some ⟨g, 0, none⟩) (sz zs) c)) w' := by
  have hs := sz_le zs
  have e : (zs.take (sz zs)).length = sz zs := by simp; omega
  refine ⟨some ⟨g, 0, none⟩, c, zs.take (sz zs), ?_, ?_, ?_, ?_, ?_, hk⟩
  · rw [e]
  · rw [e]; exact hg.own hB hw hs
  · rw [val_take_sz, hv]
  · rw [sz_take_sz, e]
  · omega
/-- A natural number that the call has made, and a number beside it. -/
def NatRes2 (w : World) (n bd : Nat) (v : Value) (e : Ending) (w' : World) : Prop :=
  ∃ a cap zs, e = .returned (.tuple #[.slice a zs.length cap, v]) ∧ OwnW w.heap.size w' a zs.length cap zs ∧ val zs = n ∧ sz zs = zs.length ∧ zs.length ≤ bd ∧ Below w.heap.size w w'
theorem NatRes.two {w w' : World} {n bd : Nat} {s v : Value} (h : NatRes w n bd (.returned s) w') : NatRes2 w n bd v (.returned (.tuple #[s, v])) w' := by
  obtain ⟨a, c, zs, h1, r⟩ := h
  cases h1
  exact ⟨a, c, zs, rfl, r⟩
theorem ownW_nil (B : Nat) (w : World) : OwnW B w none 0 0 [] := ⟨⟨rfl, .inl ⟨rfl, rfl⟩⟩, rfl, W64.nil⟩
theorem natRes_nil {w w' : World} (bd : Nat) (h : Below w.heap.size w w') : NatRes w 0 bd (.returned (.slice none 0 0)) w' :=
  ⟨none, 0, [], rfl, ownW_nil _ _, rfl, rfl, Nat.zero_le _, h⟩
theorem natRes2_trans {w w1 w2 : World} {n bd : Nat} {v : Value} {e : Ending} (hb : Below w.heap.size w w1) (h : NatRes2 w1 n bd v e w2) : NatRes2 w n bd v e w2 := by
  obtain ⟨a, c, zs, h1, h2, h3, h4, h5, h6⟩ := h
  exact ⟨a, c, zs, h1, h2.mono hb.size, h3, h4, h5, below_then hb h6⟩
theorem NatRes.le {w w' : World} {n bd bd' : Nat} {e : Ending} (h : NatRes w n bd e w') (hb : bd ≤ bd') : NatRes w n bd' e w' := by
  obtain ⟨a, c, zs, h1, h2, h3, h4, h5, h6⟩ := h
  exact ⟨a, c, zs, h1, h2, h3, h4, by omega, h6⟩
end Go.Proofs.Ythaplpenccpkpaa
