/- Rows of bytes of the call's own; the plain laws of Decimal. -/
import Derived.Test.YtoikoeileilegaaDoorRefRead
import Derived.Laws.IdiomStrings
namespace Go.Proofs.YtoikoeileilegaaDoor
open Go.RowKit
def bv (b : UInt8) : Value := .int .u8 (b.toNat : Int)
theorem u8_info : (Tryd.prog.info? 5).map (fun i => (i.zero, i.size, i.bytes)) = some (some (.int .u8 0), 1, 1) := by kernel_rfl
/-- A slice of bytes in memory of the call's own. -/
def OwnY (B : Nat) (w : World) (a : Option Addr) (len cap : Nat) (l : List UInt8) : Prop := w.ownsRow B 5 1 (.slice a len cap) len (l.map bv)
theorem OwnY.keep {B : Nat} {w w' : World} {a : Option Addr} {len cap : Nat} {l : List UInt8} (h : OwnY B w a len cap l) (hb : Below w.heap.size w w') : OwnY B w' a len cap l := by
  obtain ⟨h1, h2⟩ := h
  refine ⟨h1, ?_⟩
  rcases h2 with h2 | ⟨g, c, cur, hv, hB, hg, r⟩
  · exact .inl h2
  · exact .inr ⟨g, c, cur, hv, hB, below_heap hb hg, r⟩
theorem OwnY.len {B : Nat} {w : World} {a : Option Addr} {len cap : Nat} {l : List UInt8} (h : OwnY B w a len cap l) : l.length = len := by simpa using h.1
theorem ownY_nil (B : Nat) (w : World) : OwnY B w none 0 0 [] := ⟨rfl, .inl ⟨rfl, rfl⟩⟩
theorem OwnY.lt {B : Nat} {w : World} {ad : Addr} {len cap : Nat} {l : List UInt8} (h : OwnY B w (some ad) len cap l) : B ≤ ad.block ∧ ad.block < w.heap.size := World.ownsRow.lt h _ rfl
theorem OwnY.grown {B : Nat} {w W : World} {a : Option Addr} {len cap : Nat} {l : List UInt8} (h : OwnY B w a len cap l) {row : Option Nat} (hg : w.grownBy W row) (hne : ∀ ad, a = some ad → some ad.block ≠ row) : OwnY B W a len cap l := by
  obtain ⟨h1, h2⟩ := h
  refine ⟨h1, ?_⟩
  rcases h2 with h2 | ⟨g, c, cur, hv, hB, hg', r⟩
  · exact .inl h2
  · refine .inr ⟨g, c, cur, hv, hB, ?_, r⟩
    simp only [Value.slice.injEq] at hv
    rw [hg.block g (Array.getElem?_eq_some_iff.1 hg').1 (hne ⟨g, 0, none⟩ hv.1)]
    exact hg'
theorem OwnY.cell {B : Nat} {w : World} {a : Option Addr} {len cap : Nat} {l : List UInt8} (h : OwnY B w a len cap l) (i : Nat) (hi : i < l.length) : ∃ g, a = some ⟨g, 0, none⟩ ∧ w.cell? ⟨g, i, none⟩ = some (.int .u8 (l[i].toNat : Int)) := by
  have hl := h.len
  obtain ⟨h1, h2⟩ := h
  rcases h2 with ⟨hv, hn⟩ | ⟨g, c, cur, hv, _, hg, hle, hm, hs, ht⟩
  · omega
  · simp only [Value.slice.injEq] at hv
    obtain ⟨rfl, _, rfl⟩ := hv
    refine ⟨g, rfl, ?_⟩
    rw [cell_of_heap hg]
    have e1 : (cur.toList.take (len * 1))[i]? = some (bv l[i]) := by
      rw [ht, List.getElem?_map, List.getElem?_eq_getElem hi]
      rfl
    rw [List.getElem?_take] at e1
    simp only [Nat.mul_one] at e1
    rw [if_pos (by omega)] at e1
    simpa [bv] using e1
theorem OwnY.bounds {B : Nat} {w : World} {a : Option Addr} {len cap : Nat} {l : List UInt8} (h : OwnY B w a len cap l) : len ≤ cap ∧ cap ≤ 9223372036854775807 := by
  obtain ⟨h1, h2⟩ := h
  rcases h2 with ⟨hv, hn⟩ | ⟨g, c, cur, hv, _, hg, hle, hm, hs, ht⟩
  · simp only [Value.slice.injEq] at hv
    omega
  · simp only [Value.slice.injEq] at hv
    unfold maxLen at hm
    omega
section
variable {ops : Array Oper} {rest : List Oper} {Q : Exit → Act → World → Prop} {a : Act} {w : World} {d : Option Tmp} {x y : Operand} {T : TypeId} {pos : String} {af : Array Edge}
/-- append(out, b). -/
theorem app_byte {w0 : World} (hB : Below w0.heap.size w0 w) {sa : Option Addr} {sl sc g : Nat} {l : List UInt8} (b : UInt8) (hs : OwnY w0.heap.size w sa sl sc l) (hx : w.cell? ⟨g, 0, none⟩ = some (bv b)) (hlen : sl + 1 ≤ 1000000000)
    (h : ∀ (W : World) (a' : Option Addr) (c' : Nat), Below w0.heap.size w0 W → OwnY w0.heap.size W a' (sl + 1) c' (l ++ [b]) → w.grownBy W (sa.map (·.block)) → wpList Tryd.prog ops Q rest (a.put d (.slice a' (sl + 1) c')) W)
    (he : a.eval x = .slice sa sl sc := by rfl) (hf : a.eval y = .slice (some ⟨g, 0, none⟩) 1 1 := by rfl) :
    wpList Tryd.prog ops Q ({ dst := d, op := .call { callee := .builtin .append, args := #[x, y], argTypes := #[78, 78] }, type := T, pos := pos, after := af, guard := none } :: rest) a w := by
  obtain ⟨i0, hi, hz0, hz1, hz2⟩ := info_parts u8_info
  refine wpList_append_own _ rfl x y 78 rfl w0.heap.size 5 i0 (.int .u8 0) 1 1 Tryd.underlying78 hi hz0 hz1 hz2 rfl (by omega) _ sl _ he hs ⟨g, 0, none⟩ 1 1 [bv b] hf rfl ?_ (by simp [Value.oneCell', bv]) (by unfold maxLen; omega) (by omega) hB.size ?_
  · intro j u hu
    cases j with
    | zero =>
      cases hu
      rw [Addr.add_mid]
      exact hx
    | succ j => simp at hu
  · intro v' W ho hg _
    have e : (Value.slice sa sl sc).ownBlock = sa.map (·.block) := by cases sa <;> rfl
    have hbel : Below w0.heap.size w0 W := hB.grown hg hB.size fun k hk => (World.ownsRow.lt hs k hk).1
    obtain ⟨a', c', rfl⟩ : ∃ a' c', v' = .slice a' (sl + 1) c' := by
      rcases ho.2 with ⟨rfl, h0⟩ | ⟨g, c, cur, rfl, _⟩
      · omega
      · exact ⟨_, _, rfl⟩
    rw [e] at hg
    refine h W a' c' hbel ?_ hg
    unfold OwnY
    rw [List.map_append]
    exact ho
end
/-- string(b). -/
theorem run_string_own {B : Nat} {w : World} {a : Option Addr} {len cap : Nat} {l : List UInt8} (h : OwnY B w a len cap l) (h0 : 0 < len) : (convert 78 9 (.slice a len cap)).run Tryd.prog w = .ok (.string ⟨l.toArray⟩) w := by
  have hl := h.len
  obtain ⟨g, rfl, _⟩ := h.cell 0 (by omega)
  rw [← hl]
  refine run_convert_bytes_back w 78 9 5 ⟨g, 0, none⟩ cap l Tryd.underlying78 Tryd.underlying5 Tryd.underlying9 fun j hj => ?_
  obtain ⟨g', e, hc⟩ := h.cell j hj
  cases e
  rw [Addr.add_mid, Nat.zero_add]
  exact hc
/-! ### Decimal -/
/-- The k lowest digits, the lowest first. -/
def lowK (k n : Nat) : List UInt8 := (digK k n).reverse
theorem lowK_length (k n : Nat) : (lowK k n).length = k := by unfold lowK; rw [List.length_reverse, digK_length]
theorem lowK_succ (k : Nat) : ∀ n, lowK (k + 1) n = lowK k n ++ [UInt8.ofNat (48 + n / 10 ^ k % 10)] := by
  induction k with
  | zero => intro n; simp [lowK, digK]
  | succ k ih =>
    intro n
    have h1 : lowK (k + 1 + 1) n = UInt8.ofNat (48 + n % 10) :: lowK (k + 1) (n / 10) := by unfold lowK; rw [digK, List.reverse_append]; rfl
    have h2 : lowK (k + 1) n = UInt8.ofNat (48 + n % 10) :: lowK k (n / 10) := by unfold lowK; rw [digK, List.reverse_append]; rfl
    rw [h1, ih, h2, Nat.div_div_eq_div_mul, ← Nat.pow_succ']
    rfl
theorem digit_mod {x t : Nat} (ht : t < 18) : x % 10 ^ 18 / 10 ^ t % 10 = x / 10 ^ t % 10 := by
  have e : (10 : Nat) ^ 18 = 10 ^ t * (10 * 10 ^ (17 - t)) := by rw [← Nat.pow_succ', ← Nat.pow_add]; congr 1; omega
  rw [e, Nat.mod_mul_right_div_self, Nat.mod_mul_right_mod]
theorem lowK_all {A m : Nat} (h : A < 10 ^ m) (hm : 0 < m) : lowK m A = (Lib.decDigits A).reverse ++ List.replicate (m - Lib.nDigits A) 48 := by
  unfold lowK
  rw [digK_pad m A (nDigits_le h hm), List.reverse_append, List.reverse_replicate]
theorem dec_length (n : Nat) : (Lib.decDigits n).length = Lib.nDigits n := by
  induction n using Nat.strongRecOn with
  | ind n ih =>
    rw [Lib.decDigits, Lib.nDigits]
    split
    · rfl
    · rename_i h
      rw [List.length_append, ih (n / 10) (by omega)]
      rfl
theorem dec_head {n : Nat} (h : 0 < n) : ∃ c t, Lib.decDigits n = c :: t ∧ c ≠ 48 := by
  induction n using Nat.strongRecOn with
  | ind n ih =>
    rw [Lib.decDigits]
    split
    · rename_i h1
      refine ⟨_, [], rfl, fun e => ?_⟩
      have h2 := congrArg UInt8.toNat e
      have : (48 + n) % 256 = 48 + n := Nat.mod_eq_of_lt (by omega)
      simp [this] at h2
      omega
    · rename_i h1
      obtain ⟨c, t, e, hc⟩ := ih (n / 10) (by omega) (by omega)
      exact ⟨c, t ++ [UInt8.ofNat (48 + n % 10)], by rw [e]; rfl, hc⟩
theorem own_ne {B B' : Nat} {w : World} {a a' : Option Addr} {len cap len' cap' : Nat} {xs : List Nat} {l : List UInt8} (h : OwnW B w a len cap xs) (k : OwnY B' w a' len' cap' l) : ∀ ad ad', a = some ad → a' = some ad' → ad.block ≠ ad'.block := by
  rintro ad ad' rfl rfl he
  obtain ⟨⟨_, h2⟩, _, _⟩ := h
  obtain ⟨_, k2⟩ := k
  rcases h2 with ⟨hv, _⟩ | ⟨g, c, cur, hv, _, hg, _⟩
  · simp at hv
  rcases k2 with ⟨kv, _⟩ | ⟨g', c', cur', kv, _, kg, _⟩
  · simp at kv
  simp only [Value.slice.injEq, Option.some.injEq] at hv kv
  obtain ⟨rfl, _, _⟩ := hv
  obtain ⟨rfl, _, _⟩ := kv
  simp only at he
  subst he
  rw [hg] at kg
  simp at kg
theorem OwnY.cellD {B : Nat} {w : World} {a : Option Addr} {len cap : Nat} {l : List UInt8} (h : OwnY B w a len cap l) (i : Nat) (hi : i < len) : ∃ g, a = some ⟨g, 0, none⟩ ∧ w.cell? ⟨g, i, none⟩ = some (.int .u8 ((l.getD i 0).toNat : Int)) := by
  have hl := h.len
  obtain ⟨g, e, hc⟩ := h.cell i (by omega)
  refine ⟨g, e, ?_⟩
  rw [hc, List.getD_eq_getElem?_getD, List.getElem?_eq_getElem (by omega)]
  rfl
theorem byte_of {b : Nat} (h : b < 256) : Value.int .u8 (b : Nat) = bv (UInt8.ofNat b) := by
  unfold bv
  have : (UInt8.ofNat b).toNat = b := Nat.mod_eq_of_lt h
  rw [this]
theorem strip1 {A m i : Nat} (h : A < 10 ^ m) (hi : Lib.nDigits A ≤ i) (hm : i < m) : (lowK m A).getD i 0 = 48 := by
  rw [lowK_all h (by omega), List.getD_eq_getElem?_getD, List.getElem?_append_right (by simp [dec_length]; exact hi)]
  simp only [List.length_reverse, dec_length]
  rw [List.getElem?_replicate, if_pos (by omega)]
  rfl
theorem strip3 {A m j : Nat} (h : A < 10 ^ m) (hj : j < Lib.nDigits A) (hm : 0 < m) : (lowK m A).getD (Lib.nDigits A - 1 - j) 0 = (Lib.decDigits A).getD j 0 := by
  rw [lowK_all h hm, List.getD_eq_getElem?_getD, List.getElem?_append_left (by simp [dec_length]; omega), List.getElem?_reverse (by simp [dec_length]; omega), dec_length, List.getD_eq_getElem?_getD]
  congr 2
  omega
theorem strip2 {A m : Nat} (h : A < 10 ^ m) (h0 : 0 < A) (hm : 0 < m) : (lowK m A).getD (Lib.nDigits A - 1) 0 ≠ 48 := by
  have h1 := strip3 (j := 0) h (Lib.nDigits_pos A) hm
  rw [Nat.sub_zero] at h1
  rw [h1]
  obtain ⟨c, t, e, hc⟩ := dec_head h0
  rw [e]
  exact hc
theorem take_getD {l : List UInt8} {j : Nat} (h : j < l.length) : l.take (j + 1) = l.take j ++ [l.getD j 0] := by
  rw [List.take_succ_eq_append_getElem h, List.getD_eq_getElem?_getD, List.getElem?_eq_getElem h]
  rfl
end Go.Proofs.YtoikoeileilegaaDoor
