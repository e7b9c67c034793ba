/- Laws for the walks over natural numbers: slices of words that the call makes and writes; Add64, Sub64, Mul64 as equations. -/
import Derived.Test.YthaplpenccpkpaaNatCmp
import Derived.Laws.OwnMore
import Derived.Laws.AppendOwnNone
import Derived.Laws.Externs
namespace Go.Proofs.Ythaplpenccpkpaa
open Go.RowKit
/-- The cells that hold some words. -/
def wcells (xs : List Nat) : Array Value := (xs.map wv).toArray
theorem wcells_size (xs : List Nat) : (wcells xs).size = xs.length := by simp [wcells]
theorem wcells_get {xs : List Nat} {i : Nat} (h : i < xs.length) : (wcells xs)[i]? = some (.int .u64 ((xs.getD i 0 : Nat) : Int)) := by
  simp [wcells, wv, List.getD_eq_getElem?_getD, h]
theorem wcells_set (xs : List Nat) (i n : Nat) : (wcells xs).setIfInBounds i (wv n) = wcells (xs.set i n) := by
  simp [wcells, List.map_set]
/-- Block g holds the words xs, and may be written. -/
def WordsAt (w : World) (g : Nat) (xs : List Nat) : Prop := w.heap[g]? = some (.cells (wcells xs) 59 (0, 0))
theorem WordsAt.cell {w : World} {g : Nat} {xs : List Nat} (h : WordsAt w g xs) {i : Nat} (hi : i < xs.length) : w.cell? ⟨g, i, none⟩ = some (.int .u64 ((xs.getD i 0 : Nat) : Int)) := by
  rw [cell_of_heap h, wcells_get hi]
theorem WordsAt.free {w : World} {g : Nat} {xs : List Nat} (h : WordsAt w g xs) (i : Nat) : w.frozen? ⟨g, i, none⟩ = false := free_of_heap h i
theorem WordsAt.lt {w : World} {g : Nat} {xs : List Nat} (h : WordsAt w g xs) : g < w.heap.size := lt_of_heap h
theorem WordsAt.keep {w w' : World} {g : Nat} {xs : List Nat} (h : WordsAt w g xs) (hb : Below w.heap.size w w') : WordsAt w' g xs := below_heap hb h
theorem WordsAt.drewN {w : World} {g : Nat} {xs : List Nat} (h : WordsAt w g xs) (m : Nat) : WordsAt (w.drewN m) g xs := h
/-- A slice from such a block's begin. -/
theorem WordsAt.own {B : Nat} {w : World} {g : Nat} {zs : List Nat} (h : WordsAt w g zs) (hB : B ≤ g) (hw : W64 zs) (hl : zs.length ≤ 17592186044416) {k : Nat} (hk : k ≤ zs.length) :
    OwnW B w (some ⟨g, 0, none⟩) k zs.length (zs.take k) := by
  refine ⟨⟨by simp; omega, .inr ⟨g, zs.length, wcells zs, rfl, hB, h, hk, by unfold maxLen; omega, by simp [wcells], ?_⟩⟩, by simp; omega, hw.take k⟩
  simp [wcells, List.map_take]
theorem WordsAt.sl {w : World} {g : Nat} {zs : List Nat} (h : WordsAt w g zs) (hw : W64 zs) (hl : zs.length ≤ 17592186044416) {k : Nat} (hk : k ≤ zs.length) :
    SlW w (some ⟨g, 0, none⟩) k zs.length (zs.take k) := (h.own (Nat.zero_le _) hw hl hk).sl
section
variable {P : Program} {ops : Array Oper} {rest : List Oper} {Q : Exit → Act → World → Prop} {a : Act} {w : World} {d : Option Tmp} {x y : Operand} {T : TypeId} {pos : String} {af : Array Edge} {gd : Option (Nat × Bool)}
theorem gate_make (ty : Nat) (h : wpList P ops Q ({ dst := d, op := .makeSlice ty x y, type := T, pos := pos, after := af, guard := gd } :: rest) a w) :
    wpList P ops Q ({ dst := d, op := .makeSlice ty x y, type := T, pos := pos, after := af, guard := gd } :: rest) a w := h
theorem made_words (n : Nat) : madeCells (Value.int .u64 0).cells (n * 1) = wcells (List.replicate n 0) := by
  apply Array.ext
  · simp [madeCells, wcells]
  · intro i h1 h2
    have e : (Value.int .u64 0).cells = #[.int .u64 0] := rfl
    simp [madeCells, wcells, wv, e, Nat.mod_one]
end
section
variable {ops : Array Oper} {rest : List Oper} {Q : Exit → Act → World → Prop} {a : Act} {w : World} {d : Option Tmp} {x y : Operand} {T : TypeId} {pos : String} {af : Array Edge}
/-- make([]uint64, n): the new block has a name, and so has the world. -/
theorem mk_words {w0 : World} (hB : Below w0.heap.size w0 w) (n : Nat) (hn : n ≤ 17592186044416)
    (h : ∀ (W : World) (g : Nat), w0.heap.size ≤ g → w.heap.size = g → Below w0.heap.size w0 W → Below w.heap.size w W → WordsAt W g (List.replicate n 0) → wpList Try.prog ops Q rest (a.put d (.slice (some ⟨g, 0, none⟩) n n)) W)
    (hx : a.eval x = .int .i64 (n : Nat) := by rfl) (hy : a.eval y = .int .i64 (n : Nat) := by rfl) :
    wpList Try.prog ops Q ({ dst := d, op := .makeSlice 69 x y, type := T, pos := pos, after := af, guard := none } :: rest) a w := by
  obtain ⟨i0, hi, hz0, hz1, hz2⟩ := info_parts u64_info
  have hr := run_make (P := Try.prog) w 69 59 i0 (.int .u64 0) Try.underlying69 hi hz0 .i64 .i64 (n : Nat) (n : Nat) (by omega) (Int.le_refl _) (by rw [hz2]; omega) (by omega)
  rw [hz1, Int.toNat_natCast, made_words] at hr
  have b2 : Below w.heap.size w (w.alloc (.cells (wcells (List.replicate n 0)) 59)) := (Below.refl _ _).alloc (Nat.le_refl _) _
  refine wpList_plain rfl fun K hK => ?_
  unfold Oper.wp execOp
  simp only [hx, hy, Sem.run_bind, hr, Result.andThen_ok]
  exact hK _ _ (h _ w.heap.size hB.size rfl (below_then hB b2) b2 (heap_new w _))
/-- A store of a word into such a block: it alone is another one. -/
theorem st_word {w0 : World} (hB : Below w0.heap.size w0 w) {g : Nat} {xs : List Nat} (hg : WordsAt w g xs) (hB0 : w0.heap.size ≤ g) (i n : Nat) (hi : i < xs.length)
    (h : ∀ W : World, Below w0.heap.size w0 W → (∀ k, k ≠ g → W.heap[k]? = w.heap[k]?) → W.heap.size = w.heap.size → WordsAt W g (xs.set i n) → wpList Try.prog ops Q rest (a.put d undef) W)
    (hx : a.eval x = .pointer (some ⟨g, i, none⟩) := by rfl) (hy : a.eval y = .int .u64 (n : Nat) := by rfl) :
    wpList Try.prog ops Q ({ dst := d, op := .store 59 x y, type := T, pos := pos, after := af, guard := none } :: rest) a w := by
  have h1 := hg.cell hi
  have h2 := hg.free i
  refine wpList_plain rfl fun K hK => ?_
  have hs : (Instr.storeAt 59 (.pointer (some ⟨g, i, none⟩)) (.int .u64 (n : Nat))).run Try.prog w = .ok () (w.setCell ⟨g, i, none⟩ (.int .u64 (n : Nat))) := by
    go_simp
  unfold Oper.wp execOp
  simp only [hx, hy, Sem.run_bind, hs, Result.andThen_ok]
  refine hK _ _ (h _ (hB.setCell hB0 _) (fun k hk => heap_set_other hk _ _) (size_set _ _ _) ?_)
  have := heap_set hg i (wv n)
  rw [wcells_set] at this
  exact this
end
theorem WordsAt.other {w W : World} {g h : Nat} {xs : List Nat} (hx : WordsAt w g xs) (hk : ∀ k, k ≠ h → W.heap[k]? = w.heap[k]?) (hne : g ≠ h) : WordsAt W g xs := (hk g hne).trans hx
theorem SlW.other {w W : World} {a : Option Addr} {len cap : Nat} {xs : List Nat} (h : SlW w a len cap xs) {g : Nat} (hk : ∀ k, k ≠ g → W.heap[k]? = w.heap[k]?) (hne : ∀ ad, a = some ad → ad.block ≠ g) : SlW W a len cap xs :=
  ⟨h.hlen, h.hle, h.hmax, h.hw, h.hnil, fun i hi => by
    obtain ⟨b, off, e, hc⟩ := h.hcell i hi
    exact ⟨b, off, e, by rw [World.cell?_of_block (w := w) (a := ⟨b, off + i, none⟩) (hk b (hne _ e))]; exact hc⟩⟩
/-- What Add64 and Sub64 tell: behind names, so that no walk opens them. -/
def addLo (x y c : Nat) : Nat := (x + y + c) % B64
def addHi (x y c : Nat) : Nat := (x + y + c) / B64
def subLo (x y c : Nat) : Nat := (x + B64 - y - c) % B64
def subHi (x y c : Nat) : Nat := if x < y + c then 1 else 0
def mulLo (x y : Nat) : Nat := x * y % B64
def mulHi (x y : Nat) : Nat := x * y / B64
theorem addLo_lt (x y c : Nat) : addLo x y c < B64 := Nat.mod_lt _ (by decide)
theorem subLo_lt (x y c : Nat) : subLo x y c < B64 := Nat.mod_lt _ (by decide)
theorem mulLo_lt (x y : Nat) : mulLo x y < B64 := Nat.mod_lt _ (by decide)
theorem add_eq (x y c : Nat) : addLo x y c + B64 * addHi x y c = x + y + c := by unfold addLo addHi; exact Nat.mod_add_div _ _
theorem addHi_le {x y c : Nat} (hx : x < B64) (hy : y < B64) (hc : c ≤ 1) : addHi x y c ≤ 1 := by unfold addHi B64 at *; omega
theorem subHi_le (x y c : Nat) : subHi x y c ≤ 1 := by unfold subHi; split <;> omega
theorem sub_eq {x y c : Nat} (hx : x < B64) (hy : y < B64) (hc : c ≤ 1) : subLo x y c + y + c = x + B64 * subHi x y c := by
  unfold subLo subHi B64 at *
  split <;> omega
theorem mul_eq (x y : Nat) : mulLo x y + B64 * mulHi x y = x * y := by unfold mulLo mulHi; exact Nat.mod_add_div _ _
theorem mulHi_le {x y : Nat} (hx : x < B64) (hy : y < B64) : mulHi x y ≤ B64 - 2 := by
  unfold mulHi
  have : x * y ≤ (B64 - 1) * (B64 - 1) := Nat.mul_le_mul (by omega) (by omega)
  have e : (B64 - 1) * (B64 - 1) < B64 * (B64 - 1) := by decide
  have : x * y / B64 < B64 - 1 := Nat.div_lt_of_lt_mul (by omega)
  omega
theorem run_add64 (x y c : Nat) (hc : c ≤ 1) (w : World) : (callFunc 113 #[.int .u64 (x : Nat), .int .u64 (y : Nat), .int .u64 (c : Nat)]).run Try.prog w =
    .ok (.value (.tuple #[.int .u64 (addLo x y c : Nat), .int .u64 (addHi x y c : Nat)])) w := by
  rw [run_callFunc_extern (e := add64Entry) Try.func113 (by kernel_rfl) (by kernel_rfl) (by kernel_rfl) (by kernel_rfl)]
  rw [Go.run_add64 (P := Try.prog) (x : Nat) (y : Nat) (c : Nat) (by omega) (by omega) (by omega) (by omega) w]
  rfl
theorem run_add64_0 (x c : Nat) (hc : c ≤ 1) (w : World) : (callFunc 113 #[.int .u64 (x : Nat), .int .u64 0, .int .u64 (c : Nat)]).run Try.prog w =
    .ok (.value (.tuple #[.int .u64 (addLo x 0 c : Nat), .int .u64 (addHi x 0 c : Nat)])) w := run_add64 x 0 c hc w
theorem run_add64_c0 (x y : Nat) (w : World) : (callFunc 113 #[.int .u64 (x : Nat), .int .u64 (y : Nat), .int .u64 0]).run Try.prog w =
    .ok (.value (.tuple #[.int .u64 (addLo x y 0 : Nat), .int .u64 (addHi x y 0 : Nat)])) w := run_add64 x y 0 (by omega) w
def sub64Entry : Array Value → Sem Value := fun args => do
  let (x, y, b) ← Extern.MathBitsCarry.three "Sub64" args
  pure (Extern.MathBitsCarry.pair ((x + Extern.MathBitsCarry.m64 - y - b) % Extern.MathBitsCarry.m64) (if x < y + b then 1 else 0))
theorem run_sub64 (x y c : Nat) (hc : c ≤ 1) (w : World) : (callFunc 63 #[.int .u64 (x : Nat), .int .u64 (y : Nat), .int .u64 (c : Nat)]).run Try.prog w =
    .ok (.value (.tuple #[.int .u64 (subLo x y c : Nat), .int .u64 (subHi x y c : Nat)])) w := by
  rw [run_callFunc_extern (e := sub64Entry) Try.func63 (by kernel_rfl) (by kernel_rfl) (by kernel_rfl) (by kernel_rfl)]
  rcases (show c = 0 ∨ c = 1 by omega) with rfl | rfl <;> rfl
theorem mul64_calls (x y : Nat) (hx : x < B64) (hy : y < B64) (w : World) :
    Calls Try.prog 112 #[.int .u64 (x : Nat), .int .u64 (y : Nat)] w fun e w' => e = .returned (.tuple #[.int .u64 (mulHi x y : Nat), .int .u64 (mulLo x y : Nat)]) ∧ w' = w := Try.bits_Mul64 x y hx hy w
/-! ### Sums, word by word -/
theorem val_snoc (l : List Nat) (r : Nat) : val (l ++ [r]) = val l + B64 ^ l.length * r := by rw [val_append]; simp [val]
theorem take_set_succ {zs : List Nat} {k : Nat} (h : k < zs.length) (r : Nat) : (zs.set k r).take (k + 1) = zs.take k ++ [r] := by
  rw [List.take_succ_eq_append_getElem (by simpa using h)]
  congr 1
  · rw [List.take_set_of_le (Nat.le_refl _)]
  · simp
theorem take_succ_getD {xs : List Nat} {k : Nat} (h : k < xs.length) : xs.take (k + 1) = xs.take k ++ [xs.getD k 0] := by
  rw [List.take_succ_eq_append_getElem h, List.getD_eq_getElem?_getD, List.getElem?_eq_getElem h]; rfl
/-- The number of the first k words, whatever the length. -/
def valTo (xs : List Nat) : Nat → Nat
  | 0 => 0
  | k + 1 => valTo xs k + B64 ^ k * xs.getD k 0
theorem valTo_take {xs : List Nat} (k : Nat) (h : k ≤ xs.length) : val (xs.take k) = valTo xs k := by
  induction k with
  | zero => simp [val, valTo]
  | succ k ih =>
    rw [take_succ_getD (by omega), val_snoc, ih (by omega), valTo, List.length_take, Nat.min_eq_left (by omega)]
theorem valTo_all {xs : List Nat} (k : Nat) (h : xs.length ≤ k) : valTo xs k = val xs := by
  induction k with
  | zero => have : xs = [] := List.eq_nil_of_length_eq_zero (by omega)
            subst this; rfl
  | succ k ih =>
    by_cases hk : xs.length = k + 1
    · rw [← valTo_take (k + 1) (by omega), List.take_of_length_le (by omega)]
    · rw [valTo, ih (by omega), List.getD_eq_getElem?_getD, List.getElem?_eq_none (by omega)]; simp
theorem valTo_set (xs : List Nat) (k r : Nat) : ∀ j, j ≤ k → valTo (xs.set k r) j = valTo xs j := by
  intro j
  induction j with
  | zero => intro _; rfl
  | succ j ih =>
    intro h
    rw [valTo, valTo, ih (by omega)]
    congr 2
    simp [List.getD_eq_getElem?_getD, show k ≠ j by omega]
theorem valTo_set_succ {xs : List Nat} {k : Nat} (h : k < xs.length) (r : Nat) : valTo (xs.set k r) (k + 1) = valTo xs k + B64 ^ k * r := by
  rw [valTo, valTo_set xs k r k (Nat.le_refl _)]
  simp [List.getD_eq_getElem?_getD, h]
theorem W64.set {xs : List Nat} (h : W64 xs) (i n : Nat) (hn : n < B64) : W64 (xs.set i n) := by
  intro x hx
  rcases List.mem_or_eq_of_mem_set hx with h1 | rfl
  · exact h x h1
  · exact hn
theorem W64.zeros (n : Nat) : W64 (List.replicate n 0) := by
  intro x hx; rw [List.eq_of_mem_replicate hx]; decide
theorem valTo_ge_sz {xs : List Nat} (k : Nat) (h : sz xs ≤ k) : valTo xs k = val xs := by
  by_cases hk : k ≤ xs.length
  · rw [← valTo_take k hk, val_take_drop xs k, val_zeros (xs := xs.drop k) fun i hi => ?_]
    · simp
    · have := sz_get_beyond (xs := xs) (k + i) (by omega)
      simpa [List.getD_eq_getElem?_getD, List.getElem?_drop] using this
  · exact valTo_all k (by omega)
theorem SlW.drew {w : World} {a : Option Addr} {len cap : Nat} {xs : List Nat} (h : SlW w a len cap xs) : SlW w.drew a len cap xs := ⟨h.hlen, h.hle, h.hmax, h.hw, h.hnil, h.hcell⟩
/-- A natural number that the call has made: its words, none of them a nought at the end. -/
def NatRes (w : World) (n bd : Nat) (e : Ending) (w' : World) : Prop :=
  ∃ a cap zs, e = .returned (.slice a zs.length cap) ∧ OwnW w.heap.size w' a zs.length cap zs ∧ val zs = n ∧ sz zs = zs.length ∧ zs.length ≤ bd ∧ Below w.heap.size w w'
/-- The end of many walks: 'out[:size(out)]'. -/
theorem natRes_mk {w w' : World} {g n bd N : Nat} {zs : List Nat} (hg : WordsAt w' g zs) (hB : w.heap.size ≤ g) (hw : W64 zs) (hN : zs.length = N) (hl : N ≤ 17592186044416) (hv : val zs = n) (hb : N ≤ bd) (hk : Below w.heap.size w w') :
    NatRes w n bd (.returned (.slice (some ⟨g, 0, none⟩) (sz zs) N)) w' := by
  subst hN
  have hs := sz_le zs
  have e : (zs.take (sz zs)).length = sz zs := by simp; omega
  refine ⟨some ⟨g, 0, none⟩, zs.length, zs.take (sz zs), ?_, ?_, ?_, ?_, ?_, hk⟩
  · rw [e]
  · rw [e]; exact hg.own hB hw hl hs
  · rw [val_take_sz, hv]
  · rw [sz_take_sz, e]
  · omega
theorem WordsAt.slAll {w : World} {g N : Nat} {zs : List Nat} (h : WordsAt w g zs) (hw : W64 zs) (hN : zs.length = N) (hl : N ≤ 17592186044416) : SlW w (some ⟨g, 0, none⟩) N N zs := by
  subst hN
  have := h.sl hw hl (Nat.le_refl _)
  rwa [List.take_length] at this
section
variable {ops : Array Oper} {rest : List Oper} {Q : Exit → Act → World → Prop} {a : Act} {w : World} {d : Option Tmp} {x y : Operand} {T : TypeId} {pos : String} {af : Array Edge}
theorem gate_append (ty : Nat) (h : wpList Try.prog ops Q ({ dst := d, op := .call { callee := .builtin .append, args := #[x, y], argTypes := #[ty, ty] }, type := T, pos := pos, after := af, guard := none } :: rest) a w) :
    wpList Try.prog ops Q ({ dst := d, op := .call { callee := .builtin .append, args := #[x, y], argTypes := #[ty, ty] }, type := T, pos := pos, after := af, guard := none } :: rest) a w := h
theorem wv_one (xs : List Nat) : ∀ u ∈ xs.map wv, u.oneCell' = true := by
  intro u hu; obtain ⟨x, _, rfl⟩ := List.mem_map.1 hu; rfl
/-- append(s, x...) onto words of the call's own. -/
theorem app_words {w0 : World} (hB : Below w0.heap.size w0 w) {sa xa : Option Addr} {sl sc xl xc : Nat} {xs ys : List Nat} (hs : OwnW w0.heap.size w sa sl sc xs) (hx : SlW w xa xl xc ys) (hp : Plain xa) (hlen : sl + xl ≤ 17592186044416)
    (h : ∀ (W : World) (a' : Option Addr) (c' : Nat), Below w0.heap.size w0 W → OwnW w0.heap.size W a' (sl + xl) c' (xs ++ ys) → wpList Try.prog ops Q rest (a.put d (.slice a' (sl + xl) c')) W)
    (he : a.eval x = .slice sa sl sc := by rfl) (hf : a.eval y = .slice xa xl xc := by rfl) :
    wpList Try.prog ops Q ({ dst := d, op := .call { callee := .builtin .append, args := #[x, y], argTypes := #[69, 69] }, type := T, pos := pos, after := af, guard := none } :: rest) a w := by
  obtain ⟨i0, hi, hz0, hz1, hz2⟩ := info_parts u64_info
  rcases hp with rfl | ⟨b, off, rfl⟩
  · have hc := hx.hnil rfl
    have hl : xl = 0 := by have := hx.hle; omega
    have hy : ys = [] := List.eq_nil_of_length_eq_zero (by rw [hx.hlen, hl])
    subst hc hl hy
    refine wpList_append_own_none rfl x y 69 rfl w0.heap.size 59 i0 1 Try.underlying69 hi _ sl _ he hs.own hf ?_
    have := h w sa sc hB (by simpa using hs)
    simpa using this
  · refine wpList_append_own _ rfl x y 69 rfl w0.heap.size 59 i0 (.int .u64 0) 1 8 Try.underlying69 hi hz0 hz1 hz2 rfl (by omega) _ sl _ he hs.own ⟨b, off, none⟩ xl xc (ys.map wv) hf (by simp [hx.hlen]) ?_ (wv_one ys) (by unfold maxLen; omega) (by omega) hB.size ?_
    · intro j u hu
      rw [List.getElem?_map] at hu
      cases hq : ys[j]? with
      | none => rw [hq] at hu; cases hu
      | some z =>
        rw [hq] at hu
        have hj := (List.getElem?_eq_some_iff.1 hq).1
        obtain ⟨b', off', e, hc⟩ := hx.hcell j (by rw [← hx.hlen]; exact hj)
        cases e
        rw [Addr.add_mid, hc]
        cases hu
        simp [wv, List.getD_eq_getElem?_getD, hq]
    · intro v' W ho hg _
      have hbel : Below w0.heap.size w0 W := hB.grown hg hB.size fun k hk => (hs.own.lt k hk).1
      have hw : W64 (xs ++ ys) := hs.hw.append hx.hw
      have hl : (xs ++ ys).length = sl + xl := by rw [List.length_append, hs.hlen, hx.hlen]
      rw [← List.map_append] at ho
      obtain ⟨a', c', rfl⟩ : ∃ a' c', v' = .slice a' (sl + xl) c' := by
        rcases ho.2 with ⟨rfl, h0⟩ | ⟨g, c, cur, rfl, _⟩
        · exact ⟨none, 0, by rw [h0]⟩
        · exact ⟨_, _, rfl⟩
      exact h W a' c' hbel ⟨ho, hl, hw⟩
end
end Go.Proofs.Ythaplpenccpkpaa
