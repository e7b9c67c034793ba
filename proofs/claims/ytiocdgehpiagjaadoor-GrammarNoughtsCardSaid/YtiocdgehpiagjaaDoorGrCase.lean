/- Great and small letters, a plus, and noughts do not matter (plain law). -/
import Derived.Test.YtiocdgehpiagjaaDoorGrBack
namespace Go.Proofs.YtiocdgehpiagjaaDoor
theorem low_toNat (c : UInt8) : (lowC c).toNat = if 65 ≤ c.toNat ∧ c.toNat ≤ 90 then c.toNat + 32 else c.toNat := by
  unfold lowC
  split
  · rename_i h
    have : (c.toNat + 32) % 256 = c.toNat + 32 := Nat.mod_eq_of_lt (by omega)
    simp [this]
  · rfl
theorem low_idem (c : UInt8) : lowC (lowC c) = lowC c := by
  apply UInt8.toNat_inj.1
  have h := low_toNat c
  rw [low_toNat (lowC c), h]
  by_cases hc : 65 ≤ c.toNat ∧ c.toNat ≤ 90
  · rw [if_pos hc, if_neg (by omega)]
  · rw [if_neg hc, if_neg hc]
theorem dig_low (c : UInt8) : isDig (lowC c) = isDig c := by
  rw [Bool.eq_iff_iff, isDig_iff, isDig_iff, low_toNat]
  split <;> omega
theorem low_eq {c k : UInt8} (hk : k.toNat < 65) : lowC c = k ↔ c = k := by
  rw [← UInt8.toNat_inj, ← UInt8.toNat_inj, low_toNat]
  split <;> omega
theorem map_low (l : List UInt8) : (l.map lowC).map lowC = l.map lowC := by
  rw [List.map_map]
  exact List.map_congr_left fun c _ => low_idem c
theorem word_low (l : List UInt8) : wordL (l.map lowC) = wordL l := by
  unfold wordL
  rw [map_low]
theorem sign_low (l : List UInt8) : signL (l.map lowC) = ((signL l).1, (signL l).2.map lowC) := by
  cases l with
  | nil => rfl
  | cons c t =>
    have e1 : lowC c = 45 ↔ c = 45 := low_eq (by decide)
    have e2 : lowC c = 43 ↔ c = 43 := low_eq (by decide)
    unfold signL
    rw [List.map_cons]
    simp only [e1, e2]
    split
    · rfl
    · split <;> rfl
theorem digs_low (l : List UInt8) : digs (l.map lowC) = digs l := by
  unfold digs
  rw [List.all_map]
  congr 1
  funext c
  exact dig_low c
theorem run_low (l : List UInt8) : runL (l.map lowC) = ((runL l).1, (runL l).2.map lowC) := by
  unfold runL
  induction l with
  | nil => rfl
  | cons c t ih =>
    simp only [Prod.mk.injEq] at ih ⊢
    rw [List.map_cons, List.takeWhile_cons, List.dropWhile_cons, dig_low, List.takeWhile_cons, List.dropWhile_cons]
    by_cases h : isDig c = true
    · rw [if_pos h, if_pos h, if_pos h, if_pos h, ih.1, ih.2, low_dig h]
      exact ⟨rfl, rfl⟩
    · rw [if_neg h, if_neg h, if_neg h, if_neg h]
      exact ⟨rfl, rfl⟩
theorem dot_low (l : List UInt8) : dotL (l.map lowC) = ((dotL l).1, (dotL l).2.map lowC) := by
  cases l with
  | nil => rfl
  | cons c t =>
    have e1 : lowC c = 46 ↔ c = 46 := low_eq (by decide)
    unfold dotL
    rw [List.map_cons]
    simp only [e1]
    split
    · exact run_low t
    · rfl
theorem exp_low (l : List UInt8) : expL (l.map lowC) = expL l := by
  unfold expL
  rw [sign_low, digs_low]
  simp only [List.map_eq_nil_iff]
  by_cases hd : digs (signL l).2 = true
  · rw [low_digs hd]
  · have : digs (signL l).2 = false := by simpa using hd
    rw [if_pos (.inr this), if_pos (.inr this)]
theorem tail_low (l : List UInt8) : tailL (l.map lowC) = tailL l := by
  cases l with
  | nil => rfl
  | cons c t =>
    have e1 : (lowC c = 101 ∨ lowC c = 69) ↔ (c = 101 ∨ c = 69) := by
      rw [← UInt8.toNat_inj, ← UInt8.toNat_inj, ← UInt8.toNat_inj, ← UInt8.toNat_inj, low_toNat]
      have h1 : (101 : UInt8).toNat = 101 := rfl
      have h2 : (69 : UInt8).toNat = 69 := rfl
      rw [h1, h2]
      split <;> omega
    unfold tailL
    rw [List.map_cons]
    simp only [e1, exp_low]
theorem body_low (b : Bool) (l : List UInt8) : bodyL b (l.map lowC) = bodyL b l := by
  unfold bodyL
  rw [word_low, run_low]
  simp only [dot_low]
  unfold finL
  rw [tail_low]
theorem cut_low (l : List UInt8) : cutL (l.map lowC) = cutL l := by
  unfold cutL
  rw [List.length_map, sign_low, body_low]
/-- Two texts that differ in great and small letters alone. -/
theorem cut_cases {l m : List UInt8} (h : l.map lowC = m.map lowC) : cutL l = cutL m := by
  rw [← cut_low l, h, cut_low m]
def signed (l : List UInt8) : Bool := match l with
  | [] => false
  | c :: _ => decide (c = 43) || decide (c = 45)
theorem body_signed {l : List UInt8} (h : signed l = true) (b : Bool) : bodyL b l = (noParts, 2) := by
  cases l with
  | nil => cases h
  | cons c t =>
    have hc : c = 43 ∨ c = 45 := by simpa [signed] using h
    have hd : isDig c = false := by rcases hc with rfl | rfl <;> decide
    have h46 : c ≠ 46 := by rcases hc with rfl | rfl <;> decide
    have hw : wordL (c :: t) = none := by
      have e : lowC c = c := by rcases hc with rfl | rfl <;> decide
      have n1 : c ≠ 105 := by rcases hc with rfl | rfl <;> decide
      have n2 : c ≠ 115 := by rcases hc with rfl | rfl <;> decide
      have n3 : c ≠ 110 := by rcases hc with rfl | rfl <;> decide
      unfold wordL lowWordL
      rw [List.map_cons, e, if_neg (by simp [infS, infinityS, n1])]
      simp only [if_neg n2]
      unfold nanL
      rw [if_neg]
      intro hh
      have : ((c :: t.map lowC).take 3).head? = some 110 := by rw [hh]; rfl
      simp at this
      exact n3 this
    have hr : runL (c :: t) = ([], c :: t) := by
      unfold runL
      rw [List.takeWhile_cons, List.dropWhile_cons, if_neg (by simp [hd]), if_neg (by simp [hd])]
    have hdot : dotL (c :: t) = ([], c :: t) := by
      unfold dotL
      simp only [if_neg h46]
    unfold bodyL
    rw [hw]
    simp only [hr, hdot]
    rfl
theorem cut_plus (l : List UInt8) (hl : l.length ≤ 3000) : cutL (43 :: l) = if signed l = true then (noParts, 2) else cutL l := by
  have e1 : cutL (43 :: l) = bodyL false l := by
    unfold cutL
    rw [if_neg (by simp only [List.length_cons]; omega), show signL (43 :: l) = (false, l) by rfl]
  have e2 : cutL l = bodyL (signL l).1 (signL l).2 := by
    unfold cutL
    rw [if_neg (by omega)]
  rw [e1]
  by_cases h : signed l = true
  · rw [if_pos h, body_signed h]
  · rw [if_neg h, e2]
    have : signL l = (false, l) := by
      cases l with
      | nil => rfl
      | cons c t =>
        have hc : ¬ (c = 43 ∨ c = 45) := by simpa [signed] using h
        exact sign_other (fun e => hc (.inr e)) (fun e => hc (.inl e))
    rw [this]
theorem bare_noughts (k : Nat) (l : List UInt8) : bareL (List.replicate k 48 ++ l) = bareL l := by
  unfold bareL
  induction k with
  | zero => rfl
  | succ k ih => rw [List.replicate_succ, List.cons_append, List.dropWhile_cons, if_pos (by rfl), ih]
theorem digs_noughts (k : Nat) : digs (List.replicate k 48) = true := List.all_eq_true.2 fun c hc => by
  rw [List.eq_of_mem_replicate hc]; rfl
theorem cut_fin {A B X : List UInt8} (hA : digs A = true) (hB : digs B = true) (hX : digs X = true) (a0 : A ≠ []) (x0 : X ≠ []) (hx : dval X ≤ 2000000000) (hl : A.length + B.length + X.length ≤ 3900) :
    cutL (A ++ 46 :: (B ++ 101 :: X)) = (⟨1, false, false, bareL (A ++ B), clampE ((dval X : Int) - (B.length : Int))⟩, 0) := by
  have hlen : ¬ 4000 < (A ++ 46 :: (B ++ 101 :: X)).length := by simp only [List.length_append, List.length_cons]; omega
  cases A with
  | nil => exact absurd rfl a0
  | cons c t =>
    have hc := (digs_cons.1 hA).1
    have hs : signL (c :: t ++ 46 :: (B ++ 101 :: X)) = (false, c :: t ++ 46 :: (B ++ 101 :: X)) := sign_other (dig_ne hc 45 (by decide)) (dig_ne hc 43 (by decide))
    have hr : runL (c :: t ++ 46 :: (B ++ 101 :: X)) = (c :: t, 46 :: (B ++ 101 :: X)) := run_split hA fun d u e => by cases e; decide
    have hd : dotL (46 :: (B ++ 101 :: X)) = (B, 101 :: X) := by
      unfold dotL
      simp only [if_true]
      exact run_split hB fun d u e => by cases e; decide
    have he : tailL (101 :: X) = some (dval X : Int) := by
      unfold tailL
      simp only [true_or, if_true]
      unfold expL
      rw [sign_digs hX]
      simp only []
      rw [if_neg (by rw [hX]; simp [x0]), clip_small hx]
      rfl
    unfold cutL
    rw [if_neg hlen, hs]
    simp only []
    unfold bodyL
    rw [show wordL (c :: t ++ 46 :: (B ++ 101 :: X)) = none from word_digit hc]
    simp only [hr, hd]
    unfold finL
    rw [if_neg (by simp), he]
end Go.Proofs.YtiocdgehpiagjaaDoor
