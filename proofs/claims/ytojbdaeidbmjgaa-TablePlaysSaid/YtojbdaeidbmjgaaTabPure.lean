/- The plain law of the tables: the map of entries beside the reference's list. No program in sight. No conditions. -/
import Derived.Test.YtojbdaeidbmjgaaTabMap
namespace Go.Proofs.Ytojbdaeidbmjgaa
set_option linter.unusedVariables false
set_option linter.unusedSimpArgs false
open Go.RowKit Go.Maps
theorem key_i (x : Int) : WideAt.IsKeyLit (.int .i64 x) := by unfold WideAt.IsKeyLit; trivial
theorem pigeon : ∀ (m : Nat) (D : DataW Unit), Tidy D → (∀ j : Nat, 1 ≤ j → j ≤ m → Maps.has D (.int .i64 j) = true) → m ≤ Maps.size D
  | 0, _, _, _ => Nat.zero_le _
  | m + 1, D, hD, h => by
    have h1 := h (m + 1) (by omega) (Nat.le_refl _)
    have h2 := pigeon m (D.del (.int .i64 (m + 1 : Nat))) (hD.del _) (fun j h1 h2 => by
      rw [has_del_other (by intro e; cases e; omega)]
      exact h j h1 (by omega))
    have h3 := size_del hD (k := .int .i64 (m + 1 : Nat))
    rw [h1, if_pos rfl] at h3
    omega
/-- The least handle that is not taken. -/
structure LeastFree (D : DataW Unit) (h : Nat) : Prop where
  pos : 1 ≤ h
  no : Maps.has D (.int .i64 h) = false
  all : ∀ j : Nat, 1 ≤ j → j < h → Maps.has D (.int .i64 j) = true
theorem LeastFree.unique {D : DataW Unit} {h k : Nat} (a : LeastFree D h) (b : LeastFree D k) : h = k := by
  by_cases e : h < k
  · exact absurd (b.all h a.pos e) (by rw [a.no]; simp)
  · by_cases e2 : k < h
    · exact absurd (a.all k b.pos e2) (by rw [b.no]; simp)
    · omega
/-- An entry of the reference's list. -/
structure RefEnt where
  e : EntL
  taken : Bool
/-- Is the handle x taken? -/
def thereL (L : List RefEnt) (x : Int) : Bool := decide (1 ≤ x) && (decide (x ≤ L.length) && (L[(x - 1).toNat]?.map (·.taken)).getD false)
def freeL (L : List RefEnt) : Nat := L.findIdx (fun e => !e.taken)
def cntL (L : List RefEnt) : Nat := L.countP (·.taken)
theorem there_nat (L : List RefEnt) (i : Nat) (hi : i < L.length) : thereL L ((i + 1 : Nat) : Int) = L[i].taken := by
  unfold thereL
  have e : (((i + 1 : Nat) : Int) - 1).toNat = i := by omega
  rw [e, List.getElem?_eq_getElem hi]
  have h1 : (1 : Int) ≤ ((i + 1 : Nat) : Int) := by omega
  have h2 : ((i + 1 : Nat) : Int) ≤ L.length := by omega
  simp only [h1, h2, decide_true, Bool.true_and, Option.map_some, Option.getD_some]
theorem there_out (L : List RefEnt) (x : Int) (h : x < 1 ∨ (L.length : Int) < x) : thereL L x = false := by
  unfold thereL
  rcases h with h | h
  · rw [decide_eq_false (by omega)]; rfl
  · rw [decide_eq_false (show ¬ x ≤ (L.length : Int) by omega)]; simp
theorem there_cases (L : List RefEnt) (x : Int) : (∃ (i : Nat) (h : i < L.length), x = ((i + 1 : Nat) : Int) ∧ thereL L x = L[i].taken) ∨ (thereL L x = false ∧ (x < 1 ∨ (L.length : Int) < x)) := by
  by_cases h : 1 ≤ x ∧ x ≤ L.length
  · refine .inl ⟨(x - 1).toNat, by omega, by omega, ?_⟩
    have := there_nat L (x - 1).toNat (by omega)
    have e : (((x - 1).toNat + 1 : Nat) : Int) = x := by omega
    rw [e] at this
    exact this
  · exact .inr ⟨there_out L x (by omega), by omega⟩
structure Rel (D : DataW Unit) (L : List RefEnt) : Prop where
  tidy : Tidy D
  has : ∀ x : Int, Maps.has D (.int .i64 x) = thereL L x
  at_ : ∀ (i : Nat) (h : i < L.length), L[i].taken = true → D.atKey (.int .i64 ((i + 1 : Nat) : Int)) (entD zeroE) = entD L[i].e
  size : Maps.size D = cntL L
  len : L.length ≤ 1000
theorem rel_empty : Rel (.map []) [] := ⟨tidy_empty, fun x => by rw [there_out [] x (by simp; omega)]; rfl, fun i h => absurd h (by simp), rfl, by simp⟩
theorem free_le (L : List RefEnt) : freeL L ≤ L.length := List.findIdx_le_length
theorem free_not (L : List RefEnt) (h : freeL L < L.length) : L[freeL L].taken = false := by
  unfold freeL at h ⊢
  have := List.findIdx_getElem (w := h) (p := fun e : RefEnt => !e.taken)
  simpa using this
theorem free_before (L : List RefEnt) (i : Nat) (h : i < freeL L) : (L[i]'(Nat.lt_of_lt_of_le h (free_le L))).taken = true := by
  have := List.not_of_lt_findIdx h
  simpa using this
theorem all_taken (L : List RefEnt) (h : freeL L = L.length) : cntL L = L.length := by
  refine List.countP_eq_length.2 fun e he => ?_
  obtain ⟨i, hi, rfl⟩ := List.getElem_of_mem he
  exact free_before L i (by rw [h]; exact hi)
theorem Rel.least {D : DataW Unit} {L : List RefEnt} (h : Rel D L) : LeastFree D (freeL L + 1) := by
  refine ⟨by omega, ?_, fun j h1 h2 => ?_⟩
  · rw [h.has]
    by_cases e : freeL L < L.length
    · rw [there_nat L _ e, free_not L e]
    · exact there_out L _ (.inr (by have := free_le L; omega))
  · rw [h.has]
    have e : (j : Int) = ((j - 1 + 1 : Nat) : Int) := by omega
    have hl : j - 1 < freeL L := by omega
    rw [e, there_nat L (j - 1) (Nat.lt_of_lt_of_le hl (free_le L)), free_before L _ hl]
theorem Rel.full {D : DataW Unit} {L : List RefEnt} (h : Rel D L) (hf : 1000 ≤ Maps.size D) : freeL L = L.length ∧ L.length = 1000 := by
  have h1 := h.size
  have h2 : cntL L ≤ L.length := List.countP_le_length
  have h3 := h.len
  refine ⟨?_, by omega⟩
  by_cases e : freeL L < L.length
  · exfalso
    have : cntL L = L.length := by omega
    have := (List.countP_eq_length.1 this) L[freeL L] (List.getElem_mem e)
    rw [free_not L e] at this
    cases this
  · have := free_le L; omega
theorem Rel.room {D : DataW Unit} {L : List RefEnt} (h : Rel D L) (hf : Maps.size D < 1000) (e : freeL L = L.length) : L.length < 1000 := by
  have := all_taken L e
  have := h.size
  omega
theorem set_has {D : DataW Unit} {L : List RefEnt} (hD : IsMap D) (hh : ∀ x : Int, Maps.has D (.int .i64 x) = thereL L x) (i : Nat) (hi : i < L.length) (en : EntL) (x : Int) :
    Maps.has (D.put (.int .i64 ((i + 1 : Nat) : Int)) (entD en)) (.int .i64 x) = thereL (L.set i ⟨en, true⟩) x := by
  by_cases e : x = ((i + 1 : Nat) : Int)
  · subst e
    rw [has_put_same hD (key_i _), there_nat _ i (by simpa using hi), List.getElem_set_self]
  · rw [has_put_other (by intro h; cases h; exact e rfl), hh x]
    rcases there_cases L x with ⟨j, hj, rfl, ht⟩ | ⟨ht, ho⟩
    · have hne : i ≠ j := fun h => e (by rw [h])
      rw [ht, there_nat _ j (by simpa using hj), List.getElem_set_ne hne]
    · rw [ht, there_out _ x (by simpa using ho)]
theorem Rel.putAt {D : DataW Unit} {L : List RefEnt} (h : Rel D L) (i : Nat) (hi : i < L.length) (en : EntL) : Rel (D.put (.int .i64 ((i + 1 : Nat) : Int)) (entD en)) (L.set i ⟨en, true⟩) := by
  refine ⟨h.tidy.put (key_i _) _, fun x => set_has h.tidy.isMap h.has i hi en x, fun j hj ht => ?_, ?_, by simpa using h.len⟩
  · by_cases e : i = j
    · subst e
      rw [atKey_put_same h.tidy.isMap (key_i _), List.getElem_set_self]
    · have hj' : j < L.length := by simpa using hj
      rw [List.getElem_set_ne e] at ht ⊢
      rw [atKey_put_other (by intro h; simp at h; omega)]
      exact h.at_ j hj' ht
  · have h1 := h.size
    have h2 := h.has ((i + 1 : Nat) : Int)
    rw [there_nat L i hi] at h2
    have h3 : cntL (L.set i ⟨en, true⟩) = cntL L - (if L[i].taken then 1 else 0) + 1 := by
      unfold cntL
      rw [List.countP_set hi]
      simp
    rw [size_put h.tidy, h2, h3, h1]
    cases ht : L[i].taken
    · simp
    · have : 1 ≤ cntL L := by
        unfold cntL
        exact List.countP_pos_iff.2 ⟨L[i], List.getElem_mem hi, ht⟩
      simp
      omega
theorem Rel.putNew {D : DataW Unit} {L : List RefEnt} (h : Rel D L) (hl : L.length < 1000) (en : EntL) : Rel (D.put (.int .i64 ((L.length + 1 : Nat) : Int)) (entD en)) (L ++ [⟨en, true⟩]) := by
  refine ⟨h.tidy.put (key_i _) _, fun x => ?_, fun j hj ht => ?_, ?_, by simp; omega⟩
  · by_cases e : x = ((L.length + 1 : Nat) : Int)
    · subst e
      rw [has_put_same h.tidy.isMap (key_i _), there_nat _ L.length (by simp)]
      simp
    · rw [has_put_other (by intro h; cases h; exact e rfl), h.has x]
      rcases there_cases L x with ⟨j, hj, rfl, ht⟩ | ⟨ht, ho⟩
      · rw [ht, there_nat _ j (by simp; omega), List.getElem_append_left hj]
      · rw [ht, there_out _ x (by simp; omega)]
  · by_cases e : j < L.length
    · rw [List.getElem_append_left e] at ht ⊢
      rw [atKey_put_other (by intro h; simp at h; omega)]
      exact h.at_ j e ht
    · have hj' : j = L.length := by simp at hj; omega
      subst hj'
      rw [atKey_put_same h.tidy.isMap (key_i _)]
      simp
  · rw [size_put h.tidy, h.has, there_out L _ (.inr (by omega)), h.size]
    simp [cntL]
theorem Rel.del {D : DataW Unit} {L : List RefEnt} (h : Rel D L) (i : Nat) (hi : i < L.length) (ht0 : L[i].taken = true) (en : EntL) : Rel (D.del (.int .i64 ((i + 1 : Nat) : Int))) (L.set i ⟨en, false⟩) := by
  refine ⟨h.tidy.del _, fun x => ?_, fun j hj ht => ?_, ?_, by simpa using h.len⟩
  · by_cases e : x = ((i + 1 : Nat) : Int)
    · subst e
      rw [has_del_same, there_nat _ i (by simpa using hi), List.getElem_set_self]
    · rw [has_del_other (by intro h; cases h; exact e rfl), h.has x]
      rcases there_cases L x with ⟨j, hj, rfl, ht⟩ | ⟨ht, ho⟩
      · have hne : i ≠ j := fun h => e (by rw [h])
        rw [ht, there_nat _ j (by simpa using hj), List.getElem_set_ne hne]
      · rw [ht, there_out _ x (by simpa using ho)]
  · by_cases e : i = j
    · subst e
      rw [List.getElem_set_self] at ht
      cases ht
    · have hj' : j < L.length := by simpa using hj
      rw [List.getElem_set_ne e] at ht ⊢
      rw [atKey_del_other (by intro h; simp at h; omega)]
      exact h.at_ j hj' ht
  · have h1 := h.size
    have h2 := h.has ((i + 1 : Nat) : Int)
    rw [there_nat L i hi, ht0] at h2
    have h3 : cntL (L.set i ⟨en, false⟩) = cntL L - 1 := by
      unfold cntL
      rw [List.countP_set hi]
      simp [ht0]
    have h4 := size_del h.tidy (k := .int .i64 ((i + 1 : Nat) : Int))
    rw [h2, if_pos rfl] at h4
    omega
/-- The handles that are taken, ascending. -/
def SortedKeys (D : DataW Unit) (xs : List Int) : Prop := xs.Pairwise (· < ·) ∧ ∀ x, x ∈ xs ↔ Maps.has D (.int .i64 x) = true
theorem SortedKeys.unique {D : DataW Unit} {xs ys : List Int} (a : SortedKeys D xs) (b : SortedKeys D ys) : xs = ys := by
  refine List.Perm.eq_of_pairwise (le := fun a b : Int => a < b) (fun a b _ _ h1 h2 => by omega) a.1 b.1 ?_
  refine (List.perm_ext_iff_of_nodup (a.1.imp (fun h => by omega)) (b.1.imp (fun h => by omega))).2 fun x => ?_
  rw [a.2, b.2]
/-- The reference's list of handles. -/
def hdlsFrom : Nat → List RefEnt → List Int
  | _, [] => []
  | i, e :: r => (if e.taken then [((i + 1 : Nat) : Int)] else []) ++ hdlsFrom (i + 1) r
theorem hdls_mem : ∀ (L : List RefEnt) (i : Nat) (x : Int), x ∈ hdlsFrom i L ↔ ∃ (j : Nat) (h : j < L.length), L[j].taken = true ∧ x = ((i + j + 1 : Nat) : Int)
  | [], i, x => by simp [hdlsFrom]
  | e :: r, i, x => by
    rw [hdlsFrom, List.mem_append, hdls_mem r (i + 1) x]
    constructor
    · rintro (h | ⟨j, h, ht, rfl⟩)
      · split at h
        · rename_i ht
          exact ⟨0, by simp, by simpa using ht, by simpa using h⟩
        · cases h
      · exact ⟨j + 1, by simp; omega, by simpa using ht, by omega⟩
    · rintro ⟨j, h, ht, rfl⟩
      cases j with
      | zero =>
        left
        have ht' : e.taken = true := by simpa using ht
        rw [if_pos ht']
        simp
      | succ j => exact .inr ⟨j, by simp at h; omega, by simpa using ht, by omega⟩
theorem hdls_sorted : ∀ (L : List RefEnt) (i : Nat), (hdlsFrom i L).Pairwise (· < ·)
  | [], i => by simp [hdlsFrom]
  | e :: r, i => by
    rw [hdlsFrom]
    refine List.pairwise_append.2 ⟨by split <;> simp, hdls_sorted r (i + 1), fun a ha b hb => ?_⟩
    obtain ⟨j, h, ht, rfl⟩ := (hdls_mem r (i + 1) b).1 hb
    split at ha
    · simp at ha; omega
    · cases ha
theorem hdls_snoc : ∀ (L : List RefEnt) (i : Nat) (e : RefEnt), hdlsFrom i (L ++ [e]) = hdlsFrom i L ++ (if e.taken then [((i + L.length + 1 : Nat) : Int)] else [])
  | [], i, e => by simp [hdlsFrom]
  | a :: r, i, e => by
    rw [List.cons_append, hdlsFrom, hdlsFrom, hdls_snoc r (i + 1) e, List.append_assoc]
    have h : i + 1 + r.length + 1 = i + (a :: r).length + 1 := by simp; omega
    rw [h]
theorem Rel.sorted {D : DataW Unit} {L : List RefEnt} (h : Rel D L) : SortedKeys D (hdlsFrom 0 L) := by
  refine ⟨hdls_sorted L 0, fun x => ?_⟩
  rw [hdls_mem, h.has]
  constructor
  · rintro ⟨j, hj, ht, rfl⟩
    have e : 0 + j + 1 = j + 1 := by omega
    rw [e, there_nat L j hj, ht]
  · intro ht
    rcases there_cases L x with ⟨j, hj, rfl, h2⟩ | ⟨h2, _⟩
    · exact ⟨j, hj, by rw [← h2]; exact ht, by congr 1; omega⟩
    · rw [h2] at ht; cases ht
theorem hdls_len (L : List RefEnt) (i : Nat) : (hdlsFrom i L).length ≤ L.length := by
  induction L generalizing i with
  | nil => simp [hdlsFrom]
  | cons a r ih =>
    have := ih (i + 1)
    rw [hdlsFrom, List.length_append, List.length_cons]
    split <;> simp <;> omega
theorem hdls_cnt (L : List RefEnt) (i : Nat) : (hdlsFrom i L).length = cntL L := by
  induction L generalizing i with
  | nil => rfl
  | cons a r ih =>
    rw [hdlsFrom, List.length_append, ih (i + 1)]
    unfold cntL
    rw [List.countP_cons]
    cases a.taken <;> simp
    omega
end Go.Proofs.Ytojbdaeidbmjgaa
