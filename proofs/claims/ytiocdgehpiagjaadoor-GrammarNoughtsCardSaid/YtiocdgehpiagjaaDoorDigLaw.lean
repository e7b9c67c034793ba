/- Plain laws: the number that decimal digits spell. -/
import Derived.Lib.AtoiAll
import Derived.Lib.SlTrimSet
import Derived.Lib.ItoaNum
namespace Go.Proofs.YtiocdgehpiagjaaDoor
def isDig (c : UInt8) : Bool := decide (48 ≤ c.toNat) && decide (c.toNat ≤ 57)
def digs (l : List UInt8) : Bool := l.all isDig
theorem isDig_iff {c : UInt8} : isDig c = true ↔ 48 ≤ c.toNat ∧ c.toNat ≤ 57 := by unfold isDig; simp
theorem digs_cons {c : UInt8} {l : List UInt8} : digs (c :: l) = true ↔ isDig c = true ∧ digs l = true := by unfold digs; simp
theorem digs_mem {l : List UInt8} (h : digs l = true) {c : UInt8} (hc : c ∈ l) : 48 ≤ c.toNat ∧ c.toNat ≤ 57 := isDig_iff.1 (List.all_eq_true.1 h c hc)
theorem digs_append {l m : List UInt8} : digs (l ++ m) = true ↔ digs l = true ∧ digs m = true := by unfold digs; rw [List.all_append, Bool.and_eq_true]
theorem digs_take {l : List UInt8} (h : digs l = true) (n : Nat) : digs (l.take n) = true := List.all_eq_true.2 fun c hc => List.all_eq_true.1 h c (List.mem_of_mem_take hc)
theorem digs_drop {l : List UInt8} (h : digs l = true) (n : Nat) : digs (l.drop n) = true := List.all_eq_true.2 fun c hc => List.all_eq_true.1 h c (List.mem_of_mem_drop hc)
/-- The number, behind what was read before. -/
def dvalFrom (a : Nat) (l : List UInt8) : Nat := l.foldl (fun a c => 10 * a + (c.toNat - 48)) a
def dval (l : List UInt8) : Nat := dvalFrom 0 l
theorem dvalFrom_eq (l : List UInt8) : ∀ a, dvalFrom a l = a * 10 ^ l.length + dval l := by
  induction l with
  | nil => intro a; simp [dval, dvalFrom]
  | cons c l ih =>
    intro a
    have h1 : dvalFrom a (c :: l) = dvalFrom (10 * a + (c.toNat - 48)) l := rfl
    have h2 : dval (c :: l) = dvalFrom (10 * 0 + (c.toNat - 48)) l := rfl
    rw [h1, h2, ih, ih, List.length_cons, Nat.pow_succ, Nat.mul_zero, Nat.zero_add, Nat.add_mul, Nat.mul_comm 10 a, Nat.mul_assoc, Nat.mul_comm 10 (10 ^ l.length)]
    omega
theorem dval_append (l m : List UInt8) : dval (l ++ m) = dval l * 10 ^ m.length + dval m := by
  show dvalFrom 0 (l ++ m) = _
  unfold dvalFrom
  rw [List.foldl_append]
  exact dvalFrom_eq m _
theorem dval_nil : dval [] = 0 := rfl
theorem dval_snoc (l : List UInt8) (c : UInt8) : dval (l ++ [c]) = 10 * dval l + (c.toNat - 48) := by
  rw [dval_append]
  simp [dval, dvalFrom, Nat.mul_comm]
theorem dval_lt {l : List UInt8} (h : digs l = true) : dval l < 10 ^ l.length := by
  induction l with
  | nil => simp [dval, dvalFrom]
  | cons c l ih =>
    obtain ⟨h1, h2⟩ := digs_cons.1 h
    have h3 := isDig_iff.1 h1
    have h4 := ih h2
    have e : dval (c :: l) = dvalFrom (10 * 0 + (c.toNat - 48)) l := rfl
    rw [e, dvalFrom_eq, List.length_cons, Nat.pow_succ]
    have h5 : (10 * 0 + (c.toNat - 48)) * 10 ^ l.length ≤ 9 * 10 ^ l.length := Nat.mul_le_mul_right _ (by omega)
    omega
/-- What ParseUint makes of digits that are few enough. -/
theorem parse_digs : ∀ (l : List UInt8) (a : Nat), digs l = true → dvalFrom a l < 10 ^ 19 → Lib.parseUint10 a l = .ok (dvalFrom a l)
  | [], a, _, _ => rfl
  | c :: l, a, h, hb => by
    obtain ⟨h1, h2⟩ := digs_cons.1 h
    have h3 := isDig_iff.1 h1
    have e : dvalFrom a (c :: l) = dvalFrom (10 * a + (c.toNat - 48)) l := rfl
    have h4 : 10 * a + (c.toNat - 48) ≤ dvalFrom a (c :: l) := by
      rw [e, dvalFrom_eq]
      have := Nat.le_mul_of_pos_right (10 * a + (c.toNat - 48)) (Nat.pow_pos (n := l.length) (show 0 < 10 by decide))
      omega
    have h5 : (10 : Nat) ^ 19 = 10000000000000000000 := by decide
    unfold Lib.parseUint10
    rw [if_pos h3, if_neg (by omega), if_neg (by omega), Nat.mul_comm a 10, parse_digs l _ h2 (by rw [← e]; exact hb), e]
/-- All that trimming the digits off leaves is nothing: they are digits. -/
abbrev tenDigits : List UInt8 := [48, 49, 50, 51, 52, 53, 54, 55, 56, 57]
theorem ten_contains (c : UInt8) : tenDigits.contains c = isDig c := by
  rw [Bool.eq_iff_iff, isDig_iff, List.contains_iff_mem]
  constructor
  · intro h
    simp only [List.mem_cons, List.not_mem_nil, or_false] at h
    rcases h with rfl | rfl | rfl | rfl | rfl | rfl | rfl | rfl | rfl | rfl <;> decide
  · intro h
    have hc : ∀ n : Nat, n < 256 → c.toNat = n → c = UInt8.ofNat n := fun n hn e => UInt8.toNat_inj.1 (by rw [e]; exact (Nat.mod_eq_of_lt hn).symm)
    simp only [List.mem_cons, List.not_mem_nil, or_false]
    rcases (show c.toNat = 48 ∨ c.toNat = 49 ∨ c.toNat = 50 ∨ c.toNat = 51 ∨ c.toNat = 52 ∨ c.toNat = 53 ∨ c.toNat = 54 ∨ c.toNat = 55 ∨ c.toNat = 56 ∨ c.toNat = 57 by omega) with e | e | e | e | e | e | e | e | e | e <;> rw [hc _ (by decide) e] <;> simp
theorem drop_all (p : UInt8 → Bool) : ∀ (l : List UInt8), (l.dropWhile p = [] ↔ ∀ c ∈ l, p c = true) ∧ ((∀ c ∈ l.dropWhile p, p c = true) → l.dropWhile p = [])
  | [] => ⟨by simp, fun _ => rfl⟩
  | a :: l => by
    have ih := drop_all p l
    by_cases h : p a = true
    · rw [List.dropWhile_cons_of_pos h]
      exact ⟨by rw [ih.1]; simp [h], ih.2⟩
    · rw [List.dropWhile_cons_of_neg h]
      exact ⟨by simp [h], fun k => absurd (k a (by simp)) h⟩
theorem trim_digs (l : List UInt8) : Lib.trimS l tenDigits = [] ↔ digs l = true := by
  have e : (tenDigits.contains ·) = isDig := funext ten_contains
  unfold Lib.trimS Lib.trimLeftS Lib.trimRightS
  rw [e, (drop_all isDig _).1]
  constructor
  · intro h
    have h2 := (drop_all isDig l.reverse).2 fun c hc => h c (by simpa using hc)
    have h3 := (drop_all isDig l.reverse).1.1 h2
    exact List.all_eq_true.2 fun c hc => h3 c (by simpa using hc)
  · intro h c hc
    have h2 : c ∈ l.reverse := (List.dropWhile_suffix isDig).subset (by simpa using hc)
    exact List.all_eq_true.1 h c (by simpa using h2)
theorem decDigits_digs (n : Nat) : digs (Lib.decDigits n) = true := by
  induction n using Nat.strongRecOn with
  | ind n ih =>
    rw [Lib.decDigits]
    split
    · rename_i h
      have : (48 + n) % 256 = 48 + n := Nat.mod_eq_of_lt (by omega)
      simp [digs, isDig, this]
      omega
    · rename_i h
      have h1 := ih (n / 10) (by omega)
      have : (48 + n % 10) % 256 = 48 + n % 10 := Nat.mod_eq_of_lt (by omega)
      refine digs_append.2 ⟨h1, ?_⟩
      simp [digs, isDig, this]
      omega
theorem dval_dec (n : Nat) : dval (Lib.decDigits n) = n := by
  induction n using Nat.strongRecOn with
  | ind n ih =>
    rw [Lib.decDigits]
    split
    · rename_i h
      have : (48 + n) % 256 = 48 + n := Nat.mod_eq_of_lt (by omega)
      simp [dval, dvalFrom, this]
    · rename_i h
      have h1 := ih (n / 10) (by omega)
      have : (48 + n % 10) % 256 = 48 + n % 10 := Nat.mod_eq_of_lt (by omega)
      rw [dval_snoc, h1]
      simp [this]
      omega
theorem dval_noughts (k : Nat) (l : List UInt8) : dval (List.replicate k 48 ++ l) = dval l := by
  rw [dval_append]
  have : dval (List.replicate k 48) = 0 := by
    induction k with
    | zero => rfl
    | succ k ih =>
      rw [List.replicate_succ', dval_snoc, ih]
      rfl
  rw [this]
  simp
end Go.Proofs.YtiocdgehpiagjaaDoor
