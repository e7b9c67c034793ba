/- Plain facts on natural numbers as lists of words of 64 bits, the lowest first. No conditions. -/
import Derived.Test.YtojbdaeidbmjgaaBase
import Derived.Lib.BitFns
namespace Go.Proofs.Ytojbdaeidbmjgaa
abbrev B64 : Nat := 18446744073709551616
def val : List Nat → Nat
  | [] => 0
  | x :: xs => x + B64 * val xs
def W64 (xs : List Nat) : Prop := ∀ x ∈ xs, x < B64
/-- How many words, without noughts at the end. -/
def sz : List Nat → Nat
  | [] => 0
  | x :: xs => if sz xs = 0 then (if x = 0 then 0 else 1) else sz xs + 1
theorem W64.cons {x : Nat} {xs : List Nat} (h : W64 (x :: xs)) : x < B64 ∧ W64 xs := ⟨h x (by simp), fun y hy => h y (by simp [hy])⟩
theorem W64.mk {x : Nat} {xs : List Nat} (h : x < B64) (k : W64 xs) : W64 (x :: xs) := by
  intro y hy
  rcases List.mem_cons.1 hy with e | hy
  · rw [e]; exact h
  · exact k y hy
theorem W64.nil : W64 [] := by intro x hx; cases hx
theorem W64.take {xs : List Nat} (h : W64 xs) (n : Nat) : W64 (xs.take n) := fun x hx => h x (List.mem_of_mem_take hx)
theorem W64.drop {xs : List Nat} (h : W64 xs) (n : Nat) : W64 (xs.drop n) := fun x hx => h x (List.mem_of_mem_drop hx)
theorem W64.append {xs ys : List Nat} (h : W64 xs) (k : W64 ys) : W64 (xs ++ ys) := by
  intro x hx
  rcases List.mem_append.1 hx with hx | hx
  · exact h x hx
  · exact k x hx
theorem W64.get {xs : List Nat} (h : W64 xs) (i : Nat) : xs.getD i 0 < B64 := by
  by_cases hi : i < xs.length
  · rw [List.getD_eq_getElem?_getD, List.getElem?_eq_getElem hi]; exact h _ (List.getElem_mem hi)
  · rw [List.getD_eq_getElem?_getD, List.getElem?_eq_none (by omega)]; decide
theorem val_append (xs ys : List Nat) : val (xs ++ ys) = val xs + B64 ^ xs.length * val ys := by
  induction xs with
  | nil => simp [val]
  | cons x xs ih => simp only [List.cons_append, val, ih, List.length_cons, Nat.pow_succ]; rw [Nat.mul_add, Nat.add_assoc]; congr 1; congr 1; rw [Nat.mul_comm (B64 ^ xs.length) B64, Nat.mul_assoc]
theorem val_lt {xs : List Nat} (h : W64 xs) : val xs < B64 ^ xs.length := by
  induction xs with
  | nil => simp [val]
  | cons x xs ih =>
    have h1 := ih h.cons.2
    have h0 := h.cons.1
    simp only [val, List.length_cons, Nat.pow_succ]
    have : B64 * (val xs + 1) ≤ B64 * B64 ^ xs.length := Nat.mul_le_mul_left _ h1
    rw [Nat.mul_add] at this
    rw [Nat.mul_comm (B64 ^ xs.length)]
    omega
theorem sz_le (xs : List Nat) : sz xs ≤ xs.length := by
  induction xs with
  | nil => simp [sz]
  | cons x xs ih => simp only [sz, List.length_cons]; split <;> (try split) <;> omega
theorem sz_zero {xs : List Nat} : sz xs = 0 ↔ val xs = 0 := by
  induction xs with
  | nil => simp [sz, val]
  | cons x xs ih =>
    simp only [sz, val]
    by_cases h : sz xs = 0
    · have := ih.1 h
      rw [if_pos h, this]
      by_cases hx : x = 0 <;> simp [hx]
    · rw [if_neg h]
      have hv : ¬ val xs = 0 := fun e => h (ih.2 e)
      constructor
      · intro e; omega
      · intro e
        have : B64 * val xs = 0 := by omega
        rcases Nat.mul_eq_zero.1 this with h1 | h1
        · exact absurd h1 (by decide)
        · exact absurd h1 hv
theorem sz_get_last {xs : List Nat} (h : 0 < sz xs) : xs.getD (sz xs - 1) 0 ≠ 0 := by
  induction xs with
  | nil => simp [sz] at h
  | cons x xs ih =>
    by_cases hs : sz xs = 0
    · simp only [sz, if_pos hs] at h ⊢
      by_cases hx : x = 0
      · simp [hx] at h
      · simp [hx]
    · simp only [sz, if_neg hs]
      have := ih (by omega)
      rw [show sz xs + 1 - 1 = (sz xs - 1) + 1 by omega]
      simpa using this
theorem sz_get_beyond {xs : List Nat} (i : Nat) (h : sz xs ≤ i) : xs.getD i 0 = 0 := by
  induction xs generalizing i with
  | nil => simp
  | cons x xs ih =>
    by_cases hs : sz xs = 0
    · simp only [sz, if_pos hs] at h
      cases i with
      | zero => by_cases hx : x = 0 <;> simp_all
      | succ i => simpa using ih i (by omega)
    · simp only [sz, if_neg hs] at h
      cases i with
      | zero => omega
      | succ i => simpa using ih i (by omega)
/-- The size is the number k where the word k - 1 isn't 0, and all from k on are. -/
theorem sz_unique {xs : List Nat} {k : Nat} (h1 : k ≤ xs.length) (h2 : ∀ i, k ≤ i → i < xs.length → xs.getD i 0 = 0) (h3 : k = 0 ∨ xs.getD (k - 1) 0 ≠ 0) : sz xs = k := by
  rcases Nat.lt_trichotomy (sz xs) k with h | h | h
  · rcases h3 with rfl | h3
    · omega
    · exact absurd (sz_get_beyond (k - 1) (by omega)) h3
  · exact h
  · exact absurd (h2 (sz xs - 1) (by omega) (by have := sz_le xs; omega)) (sz_get_last (by omega))
theorem val_zeros {xs : List Nat} (h : ∀ i, i < xs.length → xs.getD i 0 = 0) : val xs = 0 := by
  induction xs with
  | nil => rfl
  | cons x xs ih =>
    have h0 : x = 0 := by simpa using h 0 (by simp)
    rw [val, h0, ih fun i hi => by simpa using h (i + 1) (by simpa using hi)]
    rfl
theorem val_take_drop (xs : List Nat) (k : Nat) : val xs = val (xs.take k) + B64 ^ (min k xs.length) * val (xs.drop k) := by
  conv => lhs; rw [← List.take_append_drop k xs]
  rw [val_append]; simp
theorem val_take_sz (xs : List Nat) : val (xs.take (sz xs)) = val xs := by
  rw [val_take_drop xs (sz xs), val_zeros (xs := xs.drop (sz xs)) fun i hi => ?_]
  · simp
  · have := sz_get_beyond (xs := xs) (sz xs + i) (by omega)
    simpa [List.getD_eq_getElem?_getD, List.getElem?_drop] using this
theorem sz_take_sz (xs : List Nat) : sz (xs.take (sz xs)) = sz xs := by
  refine sz_unique (by simp [sz_le]) (fun i h1 h2 => by simp at h2; omega) ?_
  by_cases h : sz xs = 0
  · exact .inl h
  · right
    have := sz_get_last (xs := xs) (by omega)
    simpa [List.getD_eq_getElem?_getD, List.getElem?_take, show sz xs - 1 < sz xs by omega] using this
/-- Two lists of words without noughts at their ends have one number only if they are one. -/
theorem val_inj {xs ys : List Nat} (hx : W64 xs) (hy : W64 ys) (tx : sz xs = xs.length) (ty : sz ys = ys.length) (h : val xs = val ys) : xs = ys := by
  induction xs generalizing ys with
  | nil =>
    have : val ys = 0 := h.symm
    rw [← sz_zero, ty] at this
    exact (List.eq_nil_of_length_eq_zero this).symm
  | cons x xs ih =>
    cases ys with
    | nil =>
      have : val (x :: xs) = 0 := h
      rw [← sz_zero, tx] at this
      simp at this
    | cons y ys =>
      have h1 := hx.cons.1
      have h2 := hy.cons.1
      simp only [val] at h
      have e : x = y := by
        have a1 : (x + B64 * val xs) % B64 = x := by rw [Nat.add_mul_mod_self_left, Nat.mod_eq_of_lt h1]
        have a2 : (y + B64 * val ys) % B64 = y := by rw [Nat.add_mul_mod_self_left, Nat.mod_eq_of_lt h2]
        rw [h] at a1; omega
      have e2 : val xs = val ys := by
        subst e
        have : B64 * val xs = B64 * val ys := by omega
        exact Nat.eq_of_mul_eq_mul_left (by decide) this
      have trim : ∀ (z : Nat) (zs : List Nat), sz (z :: zs) = (z :: zs).length → sz zs = zs.length := by
        intro z zs h
        simp only [sz, List.length_cons] at h
        have := sz_le zs
        split at h
        · split at h <;> omega
        · omega
      rw [e, ih hx.cons.2 hy.cons.2 (trim _ _ tx) (trim _ _ ty) e2]
theorem val_eq_of_get {xs : List Nat} : ∀ {ys : List Nat}, (∀ i, xs.getD i 0 = ys.getD i 0) → val xs = val ys := by
  induction xs with
  | nil => intro ys h; exact (val_zeros fun i _ => (h i).symm.trans (by simp)).symm
  | cons x xs ih =>
    intro ys h
    cases ys with
    | nil => exact val_zeros (xs := x :: xs) fun i _ => (h i).trans (by simp)
    | cons y ys =>
      have h0 : x = y := by simpa using h 0
      rw [val, val, h0, ih (ys := ys) fun i => by simpa using h (i + 1)]
/-- How many bits a number has. -/
def blen (n : Nat) : Nat := if n = 0 then 0 else Nat.log2 n + 1
theorem blen_zero : blen 0 = 0 := rfl
theorem blen_lt (n : Nat) : n < 2 ^ blen n := by
  unfold blen
  split
  · omega
  · exact Nat.lt_log2_self
theorem blen_le {n : Nat} (h : n ≠ 0) : 2 ^ (blen n - 1) ≤ n := by
  unfold blen
  rw [if_neg h]
  exact Nat.log2_self_le h
theorem blen_unique {n k : Nat} (h1 : n < 2 ^ k) (h2 : k = 0 ∨ 2 ^ (k - 1) ≤ n) : blen n = k := by
  by_cases h0 : n = 0
  · subst h0
    rcases h2 with rfl | h2
    · rfl
    · have := Nat.two_pow_pos (k - 1); omega
  · have a := blen_lt n
    have b := blen_le h0
    have hk : 0 < k := by
      rcases Nat.eq_zero_or_pos k with rfl | h
      · simp at h1; omega
      · exact h
    have c : 2 ^ (k - 1) ≤ n := by rcases h2 with rfl | h2 <;> omega
    have d : blen n - 1 < k := (Nat.pow_lt_pow_iff_right (by omega)).1 (Nat.lt_of_le_of_lt b h1)
    have e : k - 1 < blen n := (Nat.pow_lt_pow_iff_right (by omega)).1 (Nat.lt_of_le_of_lt c a)
    omega
theorem blen_half {n : Nat} (h : n ≠ 0) : blen n = 1 + blen (n / 2) := by
  refine blen_unique ?_ (.inr ?_)
  · rw [Nat.pow_add]; have := blen_lt (n / 2); omega
  · rw [show 1 + blen (n / 2) - 1 = blen (n / 2) by omega]
    by_cases h1 : n / 2 = 0
    · rw [h1]; simp [blen_zero]; omega
    · have := blen_le h1
      have e : 2 ^ blen (n / 2) = 2 * 2 ^ (blen (n / 2) - 1) := by
        rw [← Nat.pow_succ']; congr 1
        have : blen (n / 2) ≠ 0 := by unfold blen; rw [if_neg h1]; omega
        omega
      omega
theorem bitLenAux_eq (f : Nat) : ∀ n, n < 2 ^ f → Lib.bitLenAux f n = blen n := by
  induction f with
  | zero => intro n h; have : n = 0 := by omega
            subst this; rfl
  | succ f ih =>
    intro n h
    unfold Lib.bitLenAux
    by_cases h0 : n = 0
    · rw [if_pos h0, h0]; rfl
    · rw [if_neg h0, ih _ (by rw [Nat.pow_succ] at h; omega), blen_half h0]
theorem bitLen_eq {n : Nat} (h : n < B64) : Lib.bitLen n = blen n := bitLenAux_eq 64 n h
theorem blen_mul_pow {n k : Nat} (h : n ≠ 0) (r : Nat) (hr : r < 2 ^ k) : blen (r + 2 ^ k * n) = k + blen n := by
  have a := blen_lt n
  have b := blen_le h
  have hb : blen n ≠ 0 := by unfold blen; rw [if_neg h]; omega
  refine blen_unique ?_ (.inr ?_)
  · rw [Nat.pow_add]
    calc r + 2 ^ k * n < 2 ^ k + 2 ^ k * n := by omega
      _ = 2 ^ k * (n + 1) := by rw [Nat.mul_add]; omega
      _ ≤ 2 ^ k * 2 ^ blen n := Nat.mul_le_mul_left _ a
  · rw [show k + blen n - 1 = k + (blen n - 1) by omega, Nat.pow_add]
    have := Nat.mul_le_mul_left (2 ^ k) b
    omega
theorem B64_pow (k : Nat) : B64 ^ k = 2 ^ (64 * k) := by rw [Nat.pow_mul]
/-- The bits of a number are those of its highest word, and 64 for each word below. -/
theorem blen_val {xs : List Nat} (hx : W64 xs) (h : 0 < sz xs) : blen (val xs) = 64 * (sz xs - 1) + blen (xs.getD (sz xs - 1) 0) := by
  have hl := sz_le xs
  have e1 : val xs = val (xs.take (sz xs - 1)) + B64 ^ (sz xs - 1) * xs.getD (sz xs - 1) 0 := by
    rw [← val_take_sz xs]
    conv => lhs; rw [show xs.take (sz xs) = xs.take (sz xs - 1) ++ [xs.getD (sz xs - 1) 0] from by
      conv => lhs; rw [show sz xs = (sz xs - 1) + 1 by omega]
      rw [List.take_succ_eq_append_getElem (by omega), List.getD_eq_getElem?_getD, List.getElem?_eq_getElem (by omega)]; rfl]
    rw [val_append]
    simp only [val, List.length_take]
    rw [show min (sz xs - 1) xs.length = sz xs - 1 by omega]; simp
  rw [e1, B64_pow]
  refine blen_mul_pow (sz_get_last h) _ ?_
  have := val_lt (hx.take (sz xs - 1))
  rw [List.length_take, show min (sz xs - 1) xs.length = sz xs - 1 by omega, B64_pow] at this
  exact this
theorem val_pos_of_get {xs : List Nat} : ∀ (i : Nat), 0 < xs.getD i 0 → 0 < val xs := by
  induction xs with
  | nil => intro i h; simp at h
  | cons x xs ih =>
    intro i h
    cases i with
    | zero => have : 0 < x := by simpa using h
              simp only [val]; omega
    | succ i =>
      have := ih i (by simpa using h)
      simp only [val]
      have : 0 < B64 * val xs := Nat.mul_pos (by decide) this
      omega
/-- Of two numbers that are alike above a word the one with the less word is the less. -/
theorem lt_of_top {xs : List Nat} : ∀ {ys : List Nat} (i : Nat), W64 xs → (∀ j, i < j → xs.getD j 0 = ys.getD j 0) → xs.getD i 0 < ys.getD i 0 → val xs < val ys := by
  induction xs with
  | nil => intro ys i _ _ h; exact val_pos_of_get i (by simpa using h)
  | cons x xs ih =>
    intro ys i hx ht h
    cases ys with
    | nil => simp at h
    | cons y ys =>
      cases i with
      | zero =>
        have e : val xs = val ys := val_eq_of_get fun j => by simpa using ht (j + 1) (by omega)
        have : x < y := by simpa using h
        simp only [val, e]; omega
      | succ i =>
        have e := ih (ys := ys) i hx.cons.2 (fun j hj => by simpa using ht (j + 1) (by omega)) (by simpa using h)
        have h0 := hx.cons.1
        simp only [val]
        have : B64 * (val xs + 1) ≤ B64 * val ys := Nat.mul_le_mul_left _ e
        rw [Nat.mul_add] at this
        omega
theorem sz_lt_val {xs ys : List Nat} (hx : W64 xs) (h : sz xs < sz ys) : val xs < val ys := by
  refine lt_of_top (sz ys - 1) hx (fun j hj => ?_) ?_
  · rw [sz_get_beyond j (by omega), sz_get_beyond j (by omega)]
  · rw [sz_get_beyond (sz ys - 1) (by omega)]
    have := sz_get_last (xs := ys) (by omega)
    omega
/-- -1, 0, 1. -/
def cmpI (m n : Nat) : Int := if m < n then -1 else if n < m then 1 else 0
theorem cmpI_lt {m n : Nat} (h : m < n) : cmpI m n = -1 := by unfold cmpI; rw [if_pos h]
theorem cmpI_gt {m n : Nat} (h : n < m) : cmpI m n = 1 := by unfold cmpI; rw [if_neg (by omega), if_pos h]
theorem cmpI_eq {m n : Nat} (h : m = n) : cmpI m n = 0 := by unfold cmpI; rw [if_neg (by omega), if_neg (by omega)]
theorem getD_take_sz (xs : List Nat) (j : Nat) : (xs.take (sz xs)).getD j 0 = xs.getD j 0 := by
  by_cases h : j < sz xs
  · simp [List.getD_eq_getElem?_getD, h]
  · have := sz_get_beyond (xs := xs) j (by omega)
    rw [this, List.getD_eq_getElem?_getD, List.getElem?_eq_none (by rw [List.length_take]; omega)]
    rfl
end Go.Proofs.Ytojbdaeidbmjgaa
