/- The grammar of numbers' texts, in plain Lean: a text cut up, and put together. · What was joined is cut up into the same parts (plain law). · What is written differs from the value by less than one unit of its last digit; its text, cut up again. Plain laws. No conditions. -/
import Derived.Test.YtpodpdopgdkdkaaGreatDoorMw23
import Derived.Test.YtpodpdopgdkdkaaGreatDoorMw34
set_option linter.unusedVariables false
set_option linter.unusedSimpArgs false
namespace Go.Proofs.YtpodpdopgdkdkaaGreatDoor
/-- A text's parts: class, sign, signal, digits, exponent. -/
structure PartsL where
  cls : Int
  sign : Bool
  sig : Bool
  digits : List UInt8
  exp : Int
def noParts : PartsL := ⟨0, false, false, [], 0⟩
/-- A sign, cut off. -/
def signL (l : List UInt8) : Bool × List UInt8 :=
  match l with
  | [] => (false, [])
  | c :: t => if c = 45 then (true, t) else if c = 43 then (false, t) else (false, c :: t)
def runL (l : List UInt8) : List UInt8 × List UInt8 := (l.takeWhile isDig, l.dropWhile isDig)
def bareL (l : List UInt8) : List UInt8 := l.dropWhile (· == 48)
/-- The value of an exponent's digits, as far as twice the greatest. -/
def clipE (l : List UInt8) : Int := if dval l ≤ 2000000000 then (dval l : Int) else 2000000000
def expL (l : List UInt8) : Option Int :=
  if (signL l).2 = [] ∨ digs (signL l).2 = false then none else some (if (signL l).1 then - clipE (signL l).2 else clipE (signL l).2)
def lowC (c : UInt8) : UInt8 := if 65 ≤ c.toNat ∧ c.toNat ≤ 90 then UInt8.ofNat (c.toNat + 32) else c
def infS : List UInt8 := [105, 110, 102]
def infinityS : List UInt8 := [105, 110, 102, 105, 110, 105, 116, 121]
def nanS : List UInt8 := [110, 97, 110]
/-- What stands behind 'nan'. -/
def parenL (q : List UInt8) : Option (List UInt8) :=
  match q with
  | [] => some []
  | c :: t => if c = 40 ∧ t.getLast? = some 41 ∧ t.dropLast ≠ [] ∧ digs t.dropLast = true then some (bareL t.dropLast) else none
def nanL (sig : Bool) (s : List UInt8) : Option PartsL :=
  if s.take 3 = nanS then (match parenL (s.drop 3) with | some d => some ⟨3, false, sig, d, 0⟩ | none => none) else none
/-- inf, nan and the like, in small letters. -/
def lowWordL (s : List UInt8) : Option PartsL :=
  if s = infS ∨ s = infinityS then some ⟨2, false, false, [], 0⟩
  else match s with
    | [] => none
    | c :: t => if c = 115 then nanL true t else nanL false (c :: t)
def wordL (s : List UInt8) : Option PartsL := lowWordL (s.map lowC)
/-- The digits behind a point. -/
def dotL (l : List UInt8) : List UInt8 × List UInt8 :=
  match l with
  | [] => ([], [])
  | c :: t => if c = 46 then runL t else ([], c :: t)
/-- An exponent with its letter. -/
def tailL (l : List UInt8) : Option Int :=
  match l with
  | [] => some 0
  | c :: t => if c = 101 ∨ c = 69 then expL t else none
def clampE (e : Int) : Int := if e < -1000000000 then -1000000000 else if 1000000000 < e then 1000000000 else e
def finL (neg : Bool) (whole part : List UInt8) (rest : List UInt8) : PartsL × Int :=
  if whole ++ part = [] then (noParts, 2)
  else match tailL rest with
    | none => (noParts, 2)
    | some e => (⟨1, neg, false, bareL (whole ++ part), clampE (e - (part.length : Int))⟩, 0)
def bodyL (neg : Bool) (r : List UInt8) : PartsL × Int :=
  match wordL r with
  | some p => ({ p with sign := neg }, 0)
  | none => finL neg (runL r).1 (dotL (runL r).2).1 (dotL (runL r).2).2
/-- A text cut up: its parts and the error's number. -/
def cutL (l : List UInt8) : PartsL × Int := if 4000 < l.length then (noParts, 4) else bodyL (signL l).1 (signL l).2
/-- The text of parts. -/
def textB (p : PartsL) : List UInt8 :=
  if p.cls = 2 then infS
  else if p.cls = 3 then (if p.sig then [115] else []) ++ nanS ++ (if p.digits = [] then [] else 40 :: p.digits ++ [41])
  else (if p.digits = [] then [48] else p.digits) ++ (if p.exp = 0 then [] else 101 :: Lib.itoa p.exp)
def textL (p : PartsL) : List UInt8 := (if p.sign then [45] else []) ++ textB p
/-- What may be joined. -/
def GoodL (p : PartsL) : Prop :=
  (digs p.digits = true ∧ p.digits.head? ≠ some 48) ∧
  ((p.cls = 1 ∧ p.sig = false ∧ -1000000000 ≤ p.exp ∧ p.exp ≤ 1000000000 ∧ (textL p).length ≤ 4000) ∨
   (p.cls = 2 ∧ p.sig = false ∧ p.digits = [] ∧ p.exp = 0) ∨ (p.cls = 3 ∧ p.exp = 0 ∧ (textL p).length ≤ 4000))

/-! ### What comes out of a cut -/
theorem bare_head (l : List UInt8) : (bareL l).head? ≠ some 48 := by
  unfold bareL
  induction l with
  | nil => simp
  | cons c t ih =>
    rw [List.dropWhile_cons]
    split
    · exact ih
    · rename_i h
      simp only [List.head?_cons, ne_eq, Option.some.injEq]
      simpa using h
theorem bare_digs {l : List UInt8} (h : digs l = true) : digs (bareL l) = true :=
  List.all_eq_true.2 fun c hc => List.all_eq_true.1 h c ((List.dropWhile_suffix _).subset hc)
theorem take_digs (l : List UInt8) : digs (l.takeWhile isDig) = true := by
  unfold digs
  induction l with
  | nil => rfl
  | cons c t ih =>
    rw [List.takeWhile_cons]
    split
    · rename_i h; simp [h, ih]
    · rfl
theorem dot_digs (l : List UInt8) : digs (dotL l).1 = true := by
  unfold dotL
  split
  · rfl
  · split
    · exact take_digs _
    · rfl
theorem clamp_in (e : Int) : -1000000000 ≤ clampE e ∧ clampE e ≤ 1000000000 := by
  unfold clampE
  split
  · omega
  · split <;> omega
theorem paren_good {q d : List UInt8} (h : parenL q = some d) : digs d = true ∧ d.head? ≠ some 48 := by
  unfold parenL at h
  split at h
  · cases h
    exact ⟨rfl, by simp⟩
  · split at h
    · rename_i hh
      cases h
      exact ⟨bare_digs hh.2.2.2, bare_head _⟩
    · cases h
theorem nan_good {sig : Bool} {s : List UInt8} {p : PartsL} (h : nanL sig s = some p) : p.cls = 3 ∧ p.exp = 0 ∧ digs p.digits = true ∧ p.digits.head? ≠ some 48 := by
  unfold nanL at h
  split at h
  · split at h
    · rename_i d hd
      cases h
      exact ⟨rfl, rfl, paren_good hd⟩
    · cases h
  · cases h
/-- The parts that a cut gives: what can be said of them without a text. -/
def ShapeL (p : PartsL) : Prop :=
  (digs p.digits = true ∧ p.digits.head? ≠ some 48) ∧
  ((p.cls = 1 ∧ p.sig = false ∧ -1000000000 ≤ p.exp ∧ p.exp ≤ 1000000000) ∨ (p.cls = 2 ∧ p.sig = false ∧ p.digits = [] ∧ p.exp = 0) ∨ (p.cls = 3 ∧ p.exp = 0))
theorem word_shape {s : List UInt8} {p : PartsL} (h : wordL s = some p) : ShapeL p := by
  unfold wordL lowWordL at h
  split at h
  · cases h
    exact ⟨⟨rfl, by simp⟩, .inr (.inl ⟨rfl, rfl, rfl, rfl⟩)⟩
  · split at h
    · cases h
    · split at h
      · obtain ⟨h1, h2, h3, h4⟩ := nan_good h
        exact ⟨⟨h3, h4⟩, .inr (.inr ⟨h1, h2⟩)⟩
      · obtain ⟨h1, h2, h3, h4⟩ := nan_good h
        exact ⟨⟨h3, h4⟩, .inr (.inr ⟨h1, h2⟩)⟩
theorem cut_shape {l : List UInt8} {p : PartsL} (h : cutL l = (p, 0)) : ShapeL p ∧ l.length ≤ 4000 := by
  unfold cutL at h
  split at h
  · simp at h
  · rename_i hl
    refine ⟨?_, by omega⟩
    unfold bodyL at h
    split at h
    · rename_i q hq
      simp only [Prod.mk.injEq, and_true] at h
      subst h
      exact (word_shape hq : ShapeL q)
    · unfold finL at h
      split at h
      · simp at h
      · split at h
        · simp at h
        · simp only [Prod.mk.injEq, and_true] at h
          subst h
          have hd : digs ((runL (signL l).2).1 ++ (dotL (runL (signL l).2).2).1) = true := digs_append.2 ⟨take_digs _, dot_digs _⟩
          exact ⟨⟨bare_digs hd, bare_head _⟩, .inl ⟨rfl, rfl, (clamp_in _).1, (clamp_in _).2⟩⟩
/-- Who comes back out of its own text may be joined. -/
theorem good_of_cut {p : PartsL} (h : cutL (textL p) = (p, 0)) : GoodL p := by
  obtain ⟨⟨h1, h2⟩, h3⟩ := cut_shape h
  refine ⟨h1, ?_⟩
  rcases h2 with ⟨a, b, c, d⟩ | h2 | ⟨a, b⟩
  · exact .inl ⟨a, b, c, d, h3⟩
  · exact .inr (.inl h2)
  · exact .inr (.inr ⟨a, b, h3⟩)
theorem cut_err (l : List UInt8) : (cutL l).2 = 0 ∨ cutL l = (noParts, 2) ∨ cutL l = (noParts, 4) := by
  unfold cutL
  split
  · exact .inr (.inr rfl)
  · unfold bodyL
    split
    · exact .inl rfl
    · unfold finL
      split
      · exact .inr (.inl rfl)
      · split
        · exact .inr (.inl rfl)
        · exact .inl rfl
end Go.Proofs.YtpodpdopgdkdkaaGreatDoor
namespace Go.Proofs.YtpodpdopgdkdkaaGreatDoor
theorem dec_ne (n : Nat) : Lib.decDigits n ≠ [] := by
  rw [Lib.decDigits]
  split
  · simp
  · simp
theorem low_dig {c : UInt8} (h : isDig c = true) : lowC c = c := by
  have := isDig_iff.1 h
  unfold lowC
  rw [if_neg (by omega)]
theorem low_digs {l : List UInt8} (h : digs l = true) : l.map lowC = l := by
  induction l with
  | nil => rfl
  | cons c t ih =>
    obtain ⟨h1, h2⟩ := digs_cons.1 h
    rw [List.map_cons, low_dig h1, ih h2]
theorem sign_other {c : UInt8} {t : List UInt8} (h1 : c ≠ 45) (h2 : c ≠ 43) : signL (c :: t) = (false, c :: t) := by
  unfold signL
  simp only [if_neg h1, if_neg h2]
theorem dig_ne {c : UInt8} (h : isDig c = true) (k : UInt8) (hk : k.toNat < 48 ∨ 57 < k.toNat) : c ≠ k := fun e => by
  subst e
  have := isDig_iff.1 h
  omega
theorem sign_digs {l : List UInt8} (h : digs l = true) : signL l = (false, l) := by
  cases l with
  | nil => rfl
  | cons c t =>
    have h1 := (digs_cons.1 h).1
    exact sign_other (dig_ne h1 45 (by decide)) (dig_ne h1 43 (by decide))
theorem clip_small {l : List UInt8} (h : dval l ≤ 2000000000) : clipE l = (dval l : Int) := by
  unfold clipE
  rw [if_pos h]
theorem exp_itoa (e : Int) (h0 : -1000000000 ≤ e) (h1 : e ≤ 1000000000) : expL (Lib.itoa e) = some e := by
  unfold Lib.itoa
  by_cases hn : e < 0
  · rw [if_pos hn]
    have hs : signL (45 :: Lib.decDigits e.natAbs) = (true, Lib.decDigits e.natAbs) := rfl
    unfold expL
    rw [hs]
    simp only []
    rw [if_neg (by rw [decDigits_digs]; simp [dec_ne]), clip_small (by rw [dval_dec]; omega), dval_dec]
    simp
    omega
  · rw [if_neg hn]
    unfold expL
    rw [sign_digs (decDigits_digs _)]
    simp only []
    rw [if_neg (by rw [decDigits_digs]; simp [dec_ne]), clip_small (by rw [dval_dec]; omega), dval_dec]
    simp
    omega
theorem run_split {d e : List UInt8} (h : digs d = true) (he : ∀ c t, e = c :: t → isDig c = false) : runL (d ++ e) = (d, e) := by
  unfold runL
  induction d with
  | nil =>
    cases e with
    | nil => rfl
    | cons c t =>
      have := he c t rfl
      rw [List.nil_append, List.takeWhile_cons, List.dropWhile_cons, if_neg (by simp [this]), if_neg (by simp [this])]
  | cons c t ih =>
    obtain ⟨h1, h2⟩ := digs_cons.1 h
    have ih' := ih h2
    simp only [Prod.mk.injEq] at ih' ⊢
    rw [List.cons_append, List.takeWhile_cons, List.dropWhile_cons, if_pos h1, if_pos h1, ih'.1, ih'.2]
    exact ⟨rfl, rfl⟩
theorem bare_same {l : List UInt8} (h : l.head? ≠ some 48) : bareL l = l := by
  unfold bareL
  cases l with
  | nil => rfl
  | cons c t =>
    rw [List.dropWhile_cons, if_neg]
    simpa using h
theorem word_digit {c : UInt8} {t : List UInt8} (h : isDig c = true) : wordL (c :: t) = none := by
  have e : lowC c = c := low_dig h
  have n1 := dig_ne h 105 (by decide)
  have n2 := dig_ne h 115 (by decide)
  have n3 := dig_ne h 110 (by decide)
  unfold wordL lowWordL
  rw [List.map_cons, e, if_neg (by simp [infS, infinityS, n1])]
  simp only [if_neg n2]
  unfold nanL
  rw [if_neg]
  intro hh
  have : ((c :: t.map lowC).take 3).head? = some 110 := by rw [hh]; rfl
  simp at this
  exact n3 this
theorem clamp_same {e : Int} (h0 : -1000000000 ≤ e) (h1 : e ≤ 1000000000) : clampE e = e := by
  unfold clampE
  rw [if_neg (by omega), if_neg (by omega)]
theorem paren_of {d : List UInt8} (h : digs d = true) (h0 : d.head? ≠ some 48) : parenL (if d = [] then [] else 40 :: d ++ [41]) = some d := by
  by_cases hd : d = []
  · subst hd; rfl
  · rw [if_neg hd]
    unfold parenL
    simp only [List.cons_append]
    have e1 : (d ++ [41]).getLast? = some (41 : UInt8) := by simp
    have e2 : (d ++ [41]).dropLast = d := by simp
    rw [e1, e2, if_pos (by simp [hd, h]), bare_same h0]
theorem paren_low {d : List UInt8} (h : digs d = true) : (if d = [] then [] else 40 :: d ++ [41]).map lowC = (if d = [] then [] else 40 :: d ++ [41] : List UInt8) := by
  by_cases hd : d = []
  · subst hd; rfl
  · rw [if_neg hd]
    simp only [List.cons_append, List.map_cons, List.map_append, low_digs h]
    rfl
theorem word_nan {d : List UInt8} (sig : Bool) (h : digs d = true) (h0 : d.head? ≠ some 48) : wordL ((if sig then [115] else []) ++ nanS ++ (if d = [] then [] else 40 :: d ++ [41])) = some ⟨3, false, sig, d, 0⟩ := by
  have e : nanS.map lowC = nanS := by decide
  have hp := paren_of h h0
  unfold wordL
  rw [List.map_append, List.map_append, paren_low h, e]
  generalize (if d = [] then [] else 40 :: d ++ [41] : List UInt8) = q at hp ⊢
  have hn : ∀ s, nanL s ([110, 97, 110] ++ q) = some ⟨3, false, s, d, 0⟩ := fun s => by
    unfold nanL
    rw [if_pos (by rfl)]
    have : ([110, 97, 110] ++ q).drop 3 = q := rfl
    rw [this, hp]
  cases sig with
  | true =>
    have e2 : (if true = true then ([115] : List UInt8) else []).map lowC ++ nanS ++ q = 115 :: ([110, 97, 110] ++ q) := rfl
    rw [e2]
    unfold lowWordL
    rw [if_neg (by simp [infS, infinityS])]
    simp only [if_pos]
    exact hn true
  | false =>
    have e2 : (if false = true then ([115] : List UInt8) else []).map lowC ++ nanS ++ q = 110 :: ([97, 110] ++ q) := rfl
    rw [e2]
    unfold lowWordL
    rw [if_neg (by simp [infS, infinityS])]
    simp only [show ¬ ((110 : UInt8) = 115) by decide, if_false]
    exact hn false
theorem textB_head {p : PartsL} (h : GoodL p) : ∃ c t, textB p = c :: t ∧ c ≠ 45 ∧ c ≠ 43 := by
  obtain ⟨⟨hd, _⟩, h2⟩ := h
  unfold textB
  by_cases c2 : p.cls = 2
  · rw [if_pos c2]; exact ⟨105, _, rfl, by decide, by decide⟩
  · rw [if_neg c2]
    by_cases c3 : p.cls = 3
    · rw [if_pos c3]
      cases p.sig
      · exact ⟨110, _, rfl, by decide, by decide⟩
      · exact ⟨115, _, rfl, by decide, by decide⟩
    · rw [if_neg c3]
      cases hq : p.digits with
      | nil => exact ⟨48, _, rfl, by decide, by decide⟩
      | cons c t =>
        rw [hq] at hd
        have h1 := (digs_cons.1 hd).1
        exact ⟨c, _, rfl, dig_ne h1 45 (by decide), dig_ne h1 43 (by decide)⟩
theorem sign_text {p : PartsL} (h : GoodL p) : signL (textL p) = (p.sign, textB p) := by
  obtain ⟨c, t, e, h1, h2⟩ := textB_head h
  unfold textL
  rw [e]
  cases p.sign with
  | true => rfl
  | false => exact sign_other h1 h2
theorem text_len {p : PartsL} (h : GoodL p) : (textL p).length ≤ 4000 := by
  rcases h.2 with ⟨_, _, _, _, h⟩ | ⟨h1, _, _, _⟩ | ⟨_, _, h⟩
  · exact h
  · unfold textL textB
    rw [if_pos h1]
    cases p.sign <;> simp [infS]
  · exact h
theorem fin_body {p : PartsL} (hd : digs p.digits = true) (h0 : p.digits.head? ≠ some 48) (hc : p.cls = 1) (hs : p.sig = false) (e0 : -1000000000 ≤ p.exp) (e1 : p.exp ≤ 1000000000) : bodyL p.sign (textB p) = (p, 0) := by
  obtain ⟨D, hD⟩ : ∃ D, (if p.digits = [] then [48] else p.digits) = D := ⟨_, rfl⟩
  obtain ⟨E, hE⟩ : ∃ E, (if p.exp = 0 then [] else 101 :: Lib.itoa p.exp) = E := ⟨_, rfl⟩
  have ht : textB p = D ++ E := by
    unfold textB
    rw [if_neg (by omega), if_neg (by omega), hD, hE]
  have dD : digs D = true := by
    rw [← hD]
    split
    · rfl
    · exact hd
  have dne : D ≠ [] := by
    rw [← hD]
    split
    · simp
    · assumption
  have bD : bareL D = p.digits := by
    rw [← hD]
    split
    · rename_i h; rw [h]; rfl
    · exact bare_same h0
  have hrun : runL (D ++ E) = (D, E) := run_split dD fun c t e => by
    rw [← hE] at e
    split at e
    · cases e
    · cases e; decide
  have hdot : dotL E = ([], E) := by
    rw [← hE]
    split
    · rfl
    · rfl
  have htail : tailL E = some p.exp := by
    rw [← hE]
    split
    · rename_i h; rw [h]; rfl
    · unfold tailL
      simp only [true_or, if_true]
      exact exp_itoa _ e0 e1
  have hw : wordL (D ++ E) = none := by
    cases D with
    | nil => exact absurd rfl dne
    | cons c t => exact word_digit (digs_cons.1 dD).1
  unfold bodyL
  rw [ht, hw]
  simp only [hrun, hdot]
  unfold finL
  rw [if_neg (by simpa using dne), htail]
  simp only [List.append_nil, List.length_nil]
  rw [bD, show p.exp - ((0 : Nat) : Int) = p.exp by omega, clamp_same e0 e1]
  obtain ⟨a, b, c, d, e⟩ := p
  simp only at hc hs ⊢
  rw [hc, hs]
/-- WHAT MAY BE JOINED COMES BACK. -/
theorem cut_text {p : PartsL} (h : GoodL p) : cutL (textL p) = (p, 0) := by
  have hl := text_len h
  unfold cutL
  rw [if_neg (by omega), sign_text h]
  simp only []
  obtain ⟨⟨hd, h0⟩, h2⟩ := h
  rcases h2 with ⟨c1, s1, e0, e1, _⟩ | ⟨c2, s2, d2, e2⟩ | ⟨c3, e3, _⟩
  · exact fin_body hd h0 c1 s1 e0 e1
  · unfold bodyL textB
    rw [if_pos c2, show wordL infS = some ⟨2, false, false, [], 0⟩ by rfl]
    obtain ⟨a, b, c, d, e⟩ := p
    simp only at c2 s2 d2 e2 ⊢
    rw [c2, s2, d2, e2]
  · unfold bodyL textB
    rw [if_neg (by omega), if_pos c3, word_nan p.sig hd h0]
    obtain ⟨a, b, c, d, e⟩ := p
    simp only at c3 e3 ⊢
    rw [c3, e3]
end Go.Proofs.YtpodpdopgdkdkaaGreatDoor
namespace Go.Proofs.YtpodpdopgdkdkaaGreatDoor
set_option linter.unusedVariables false
set_option linter.unusedSimpArgs false
theorem le10_sc {A D : Nat} {e : Int} (hD : 0 < D) (j : Nat) : le10 A D (e + j) ↔ 10 ^ j * scD D (-e) ≤ scN A (-e) := by
  obtain ⟨K, hK⟩ : ∃ K : Nat, (K : Int) = e.natAbs := ⟨e.natAbs, rfl⟩
  have h2 := sc_big (A := A) (D := D) (K := K) (e := e) (by omega)
  have hz := scD_ne hD (e := -e)
  rw [le10_big (K := K) (by omega), show ((K : Int) + (e + j)).toNat = j + ((K : Int) + e).toNat by omega, Nat.pow_add]
  obtain ⟨q, hq⟩ : ∃ q, 10 ^ ((K : Int) + e).toNat = q := ⟨_, rfl⟩
  have hqp : 0 < q := by rw [← hq]; exact Nat.pow_pos (by decide)
  rw [hq] at h2 ⊢
  obtain ⟨Z, hZ⟩ : ∃ Z, scD D (-e) = Z := ⟨_, rfl⟩
  obtain ⟨N, hN⟩ : ∃ N, scN A (-e) = N := ⟨_, rfl⟩
  rw [hZ] at h2 hz ⊢
  rw [hN] at h2 ⊢
  have e1 : (10 ^ j * Z) * (q * D) = (D * (10 ^ j * q)) * Z := by simp only [Nat.mul_assoc, Nat.mul_left_comm, Nat.mul_comm]
  have e2 : N * (q * D) = (A * 10 ^ K) * Z := by rw [← Nat.mul_assoc]; exact h2
  rw [← Nat.mul_le_mul_right_iff hz, ← e1, ← e2, Nat.mul_le_mul_right_iff (Nat.mul_pos hqp hD)]
theorem nr_head {M : Nat} (h : 0 < M) : (Lib.decDigits M).head? ≠ some 48 := by
  intro h0
  cases hs : Lib.decDigits M with
  | nil => rw [hs] at h0; simp at h0
  | cons c t =>
    rw [hs] at h0
    simp at h0
    subst h0
    have h1 := dval_dec M
    rw [hs] at h1
    have e : dval (48 :: t) = dval t := by
      have := dval_noughts 1 t
      simpa using this
    have h2 := decDigits_digs M
    rw [hs] at h2
    have h3 := dval_lt (digs_cons.1 h2).2
    have h4 := pow_le_digits M M (Nat.le_refl _) h
    have h5 : Lib.nDigits M = t.length + 1 := by rw [← Lib.decDigits_length, hs]; rfl
    rw [h5, Nat.add_sub_cancel] at h4
    omega
theorem dec_len {c m : Nat} (hm : 0 < m) (h1 : 10 ^ (m - 1) ≤ c) (h2 : c < 10 ^ m) : (Lib.decDigits c).length = m := by
  rw [Lib.decDigits_length, Lib.nDigits_unique (m - 1) c h1 (by rw [show m - 1 + 1 = m by omega]; exact h2)]
  omega
theorem dec_pow (m : Nat) : Lib.decDigits (10 ^ m) = 49 :: List.replicate m 48 := by
  have h := dec_tens 1 m (by decide)
  rw [Nat.one_mul] at h
  rw [h, Lib.decDigits_one (by decide)]
  rfl
/-- Near: the number M times 10^e, against A / D: by less than 10^e. -/
def nearV (A D M : Nat) (e : Int) : Prop := scN M e * D < A * scD 1 e + scN D e ∧ A * scD 1 e < scN M e * D + scN D e
theorem quo_near (dir : Int) (sg : Bool) {N Z : Nat} (hZ : 0 < Z) : quoR dir sg N Z * Z < N + Z ∧ N < quoR dir sg N Z * Z + Z ∧ (quoR dir sg N Z * Z = N ↔ N % Z = 0) := by
  have h1 := Nat.div_add_mod N Z
  have h2 := Nat.mod_lt N hZ
  obtain ⟨q, hq⟩ : ∃ q, N / Z = q := ⟨_, rfl⟩
  obtain ⟨r, hr⟩ : ∃ r, N % Z = r := ⟨_, rfl⟩
  have hm : Z * q = q * Z := Nat.mul_comm _ _
  have hm1 : (q + 1) * Z = q * Z + Z := Nat.succ_mul q Z
  unfold quoR
  rw [hq, hr] at h1 ⊢
  rw [hr] at h2
  split
  · omega
  · split
    · rw [hm1]; omega
    · omega
/-- What Write lays out: digits, as many as are asked for, and the last one's exponent. -/
theorem write_near {A D m : Nat} {T : Int} (hT : isTens A D T) (hA : 0 < A) (hD : 0 < D) (hm : 0 < m) (sg : Bool) (dir : Int) :
    ∃ M e, 0 < M ∧ (Lib.decDigits M).length = m ∧ wrText sg A D dir m T = layL sg (Lib.decDigits M) e ∧ (e = T - m + 1 ∨ e = T - m + 2) ∧ nearV A D M e ∧ (scN M e * D = A * scD 1 e ↔ wrMore A D m T = false) := by
  obtain ⟨x, hx⟩ : ∃ x, T - (m : Int) + 1 = x := ⟨_, rfl⟩
  have hz := scD_ne hD (e := -x)
  obtain ⟨Z, hZ⟩ : ∃ Z, scD D (-x) = Z := ⟨_, rfl⟩
  obtain ⟨N, hN⟩ : ∃ N, scN A (-x) = N := ⟨_, rfl⟩
  have l1 : 10 ^ (m - 1) * Z ≤ N := by
    rw [← hZ, ← hN, ← le10_sc hD, show x + ((m - 1 : Nat) : Int) = T by omega]
    exact hT.1
  have l2 : ¬ 10 ^ m * Z ≤ N := by
    rw [← hZ, ← hN, ← le10_sc hD, show x + (m : Int) = T + 1 by omega]
    exact hT.2
  rw [hZ] at hz
  have q1 : 10 ^ (m - 1) ≤ N / Z := (Nat.le_div_iff_mul_le hz).2 l1
  have q2 : N / Z < 10 ^ m := (Nat.div_lt_iff_lt_mul hz).2 (by omega)
  obtain ⟨c, hc⟩ : ∃ c, quoR dir sg N Z = c := ⟨_, rfl⟩
  have c1 := quoR_ge dir sg N Z
  have c2 := quoR_le dir sg N Z
  obtain ⟨n1, n2, n3⟩ := quo_near dir sg (N := N) hz
  rw [hc] at c1 c2 n1 n2 n3
  have hmo : wrMore A D m T = false ↔ N % Z = 0 := by
    unfold wrMore
    rw [hx, hZ, hN]
    simp
  have hp : 0 < 10 ^ (m - 1) := Nat.pow_pos (by decide)
  by_cases hlt : c < 10 ^ m
  · refine ⟨c, x, by omega, dec_len hm (by omega) hlt, ?_, .inl hx.symm, ?_, ?_⟩
    · unfold wrText
      rw [hx, hZ, hN, hc]
      have hl := dec_len hm (show 10 ^ (m - 1) ≤ c by omega) hlt
      exact if_neg (by rw [hl]; omega)
    · have e1 : scN c x * D = c * Z := by rw [← hZ]; unfold scN scD; rw [Int.neg_neg]; simp only [Nat.mul_assoc, Nat.mul_left_comm, Nat.mul_comm]
      have e2 : A * scD 1 x = N := by rw [← hN]; unfold scN scD; rw [Nat.one_mul]
      have e3 : scN D x = Z := by rw [← hZ]; unfold scN scD; rw [Int.neg_neg]
      unfold nearV
      rw [e1, e2, e3]
      exact ⟨n1, n2⟩
    · have e1 : scN c x * D = c * Z := by rw [← hZ]; unfold scN scD; rw [Int.neg_neg]; simp only [Nat.mul_assoc, Nat.mul_left_comm, Nat.mul_comm]
      have e2 : A * scD 1 x = N := by rw [← hN]; unfold scN scD; rw [Nat.one_mul]
      rw [e1, e2, hmo]
      exact n3
  · have hce : c = 10 ^ m := by omega
    have hM : (10 : Nat) ^ m = 10 * 10 ^ (m - 1) := by
      obtain ⟨j, rfl⟩ : ∃ j, m = j + 1 := ⟨m - 1, by omega⟩
      rw [Nat.add_sub_cancel, Nat.pow_succ, Nat.mul_comm]
    obtain ⟨M, hMe⟩ : ∃ M, 10 ^ (m - 1) = M := ⟨_, rfl⟩
    have hcM : c = 10 * M := by rw [hce, hM, hMe]
    have hl : (Lib.decDigits M).length = m := by
      refine dec_len hm (by rw [hMe]; exact Nat.le_refl _) ?_
      rw [hM, hMe]
      rw [hMe] at hp
      omega
    have key : scN M (x + 1) * D * 10 * 10 ^ (-x).toNat = c * Z * 10 ^ (-(x + 1)).toNat * 10 := by
      rw [hcM, ← hZ]
      unfold scN scD
      rw [Int.neg_neg]
      by_cases h0 : 0 ≤ x
      · rw [show (x + 1).toNat = x.toNat + 1 by omega, show (-x).toNat = 0 by omega, show (-(x + 1)).toNat = 0 by omega, Nat.pow_succ, Nat.pow_zero]
        simp only [Nat.mul_assoc, Nat.mul_left_comm, Nat.mul_comm, Nat.mul_one]
      · rw [show (x + 1).toNat = 0 by omega, show x.toNat = 0 by omega, show (-x).toNat = (-(x + 1)).toNat + 1 by omega, Nat.pow_succ, Nat.pow_zero]
        simp only [Nat.mul_assoc, Nat.mul_left_comm, Nat.mul_comm, Nat.mul_one]
    have hcase : (scN M (x + 1) * D = c * Z ∧ A * scD 1 (x + 1) = N ∧ scN D (x + 1) = 10 * Z) ∨ (10 * (scN M (x + 1) * D) = c * Z ∧ 10 * (A * scD 1 (x + 1)) = N ∧ scN D (x + 1) = Z) := by
      rw [hcM, ← hZ, ← hN]
      unfold scN scD
      rw [Int.neg_neg]
      by_cases h0 : 0 ≤ x
      · left
        rw [show (x + 1).toNat = x.toNat + 1 by omega, show (-x).toNat = 0 by omega, show (-(x + 1)).toNat = 0 by omega, Nat.pow_succ, Nat.pow_zero]
        simp only [Nat.mul_assoc, Nat.mul_left_comm, Nat.mul_comm, Nat.mul_one, and_self]
      · right
        rw [show (x + 1).toNat = 0 by omega, show x.toNat = 0 by omega, show (-x).toNat = (-(x + 1)).toNat + 1 by omega, Nat.pow_succ, Nat.pow_zero]
        simp only [Nat.mul_assoc, Nat.mul_left_comm, Nat.mul_comm, Nat.mul_one, Nat.one_mul, and_self]
    refine ⟨M, x + 1, by rw [← hMe]; exact hp, hl, ?_, .inr (by omega), ?_, ?_⟩
    · unfold wrText
      rw [hx, hZ, hN, hc, hce, dec_pow]
      have hlen : m < (49 :: List.replicate m (48 : UInt8)).length := by simp
      refine (if_pos hlen).trans ?_
      congr 1
      rw [← hMe, dec_pow]
      obtain ⟨j, rfl⟩ : ∃ j, m = j + 1 := ⟨m - 1, by omega⟩
      simp [List.take_replicate]
    · unfold nearV
      rcases hcase with ⟨a1, a2, a3⟩ | ⟨a1, a2, a3⟩
      · rw [a1, a2, a3]; omega
      · rw [a3]; omega
    · rw [hmo, ← n3]
      rcases hcase with ⟨a1, a2, a3⟩ | ⟨a1, a2, a3⟩
      · rw [a1, a2]
      · constructor
        · intro h; omega
        · intro h; omega
/-- The text ahead of its exponent's letter. -/
def preL (sg : Bool) (s : List UInt8) : List UInt8 := (if sg then [45] else []) ++ s.take 1 ++ (if 1 < s.length then [46] ++ s.drop 1 else [])
theorem lay_pre (sg : Bool) (s : List UInt8) (e : Int) : layL sg s e = preL sg s ++ 101 :: Lib.itoa (e + s.length - 1) := by
  unfold layL preL
  simp
theorem filter_digs {l : List UInt8} (h : digs l = true) : l.filter isDig = l := by
  rw [List.filter_eq_self]
  exact fun c hc => List.all_eq_true.1 h c hc
theorem pre_filter (sg : Bool) {s : List UInt8} (h : digs s = true) : (preL sg s).filter isDig = s := by
  unfold preL
  rw [List.filter_append, List.filter_append, filter_digs (digs_take h 1)]
  have e1 : (if sg = true then [(45 : UInt8)] else []).filter isDig = [] := by cases sg <;> rfl
  rw [e1]
  by_cases hl : 1 < s.length
  · rw [if_pos hl, List.filter_append, filter_digs (digs_drop h 1)]
    have e2 : [(46 : UInt8)].filter isDig = [] := rfl
    rw [e2, List.nil_append, List.nil_append, List.take_append_drop]
  · rw [if_neg hl]
    simp
    exact List.take_of_length_le (by omega)
theorem pre_not_e (sg : Bool) {s : List UInt8} (h : digs s = true) {c : UInt8} (hc : c ∈ preL sg s) : c ≠ 101 := by
  unfold preL at hc
  simp only [List.mem_append] at hc
  intro e
  subst e
  have hd : ¬ ((101 : UInt8) ∈ s) := fun hm => by have := digs_mem h hm; simp at this
  rcases hc with (hc | hc) | hc
  · cases sg <;> simp at hc
  · exact hd (List.mem_of_mem_take hc)
  · split at hc
    · simp at hc
      exact hd (List.mem_of_mem_tail hc)
    · simp at hc
theorem pre_len (sg : Bool) (s : List UInt8) (hs : 1 ≤ s.length) : 1 ≤ (preL sg s).length ∧ (preL sg s).length ≤ s.length + 2 := by
  unfold preL
  cases sg <;> by_cases hl : 1 < s.length <;> simp [hl] <;> omega
theorem pre_head (sg : Bool) {s : List UInt8} (h : digs s = true) (hs : 1 ≤ s.length) : ∃ c t, preL sg s = c :: t ∧ (c = 45 ↔ sg = true) := by
  cases s with
  | nil => simp at hs
  | cons a r =>
    cases sg
    · refine ⟨a, _, rfl, ?_⟩
      have := isDig_iff.1 (digs_cons.1 h).1
      constructor
      · intro e; subst e; simp at this
      · intro e; cases e
    · exact ⟨45, _, rfl, by simp⟩
/-- The text, cut up. -/
theorem cut_lay (sg : Bool) {s : List UInt8} {e : Int} (h : digs s = true) (h0 : s.head? ≠ some 48) (hs : 1 ≤ s.length) (hs2 : s.length ≤ 3000) (e0 : -1000000 ≤ e) (e1 : e ≤ 1000000) : cutL (layL sg s e) = (⟨1, sg, false, s, e⟩, 0) := by
  cases s with
  | nil => simp at hs
  | cons a r =>
    obtain ⟨ha, hr⟩ := digs_cons.1 h
    have hI := Lib.itoa_length_le (e + ((a :: r).length : Int) - 1) (by simp at hs2 ⊢; omega) (by simp at hs2 ⊢; omega)
    have hlen : (layL sg (a :: r) e).length ≤ 4000 := by
      rw [lay_pre]
      have := (pre_len sg (a :: r) hs).2
      rw [List.length_append, List.length_cons]
      omega
    unfold cutL
    rw [if_neg (by omega)]
    have hx : tailL (101 :: Lib.itoa (e + ((a :: r).length : Int) - 1)) = some (e + ((a :: r).length : Int) - 1) := by
      unfold tailL
      simp only [true_or, if_true]
      exact exp_itoa _ (by simp at hs2 ⊢; omega) (by simp at hs2 ⊢; omega)
    have hb : ∀ neg, bodyL neg (a :: ((if 1 < (a :: r).length then [46] ++ r else []) ++ 101 :: Lib.itoa (e + ((a :: r).length : Int) - 1))) = (⟨1, neg, false, a :: r, e⟩, 0) := fun neg => by
      unfold bodyL
      rw [word_digit ha]
      simp only []
      have e101 : ∀ c t, 101 :: Lib.itoa (e + ((a :: r).length : Int) - 1) = c :: t → isDig c = false := fun c t hh => by cases hh; rfl
      have hd1 : digs [a] = true := digs_cons.2 ⟨ha, rfl⟩
      cases r with
      | nil =>
        have hrun := run_split (d := [a]) (e := 101 :: Lib.itoa (e + (([a] : List UInt8).length : Int) - 1)) hd1 e101
        rw [if_neg (by simp), List.nil_append]
        rw [show a :: 101 :: Lib.itoa (e + (([a] : List UInt8).length : Int) - 1) = [a] ++ 101 :: Lib.itoa (e + (([a] : List UInt8).length : Int) - 1) from rfl, hrun]
        have hdot : dotL (101 :: Lib.itoa (e + (([a] : List UInt8).length : Int) - 1)) = ([], 101 :: Lib.itoa (e + (([a] : List UInt8).length : Int) - 1)) := by unfold dotL; simp
        simp only [hdot]
        unfold finL
        rw [if_neg (by simp), hx]
        simp only [List.append_nil, List.length_nil]
        rw [bare_same h0, clamp_same (by simp; omega) (by simp; omega)]
        simp
      | cons b q =>
        have hrun := run_split (d := [a]) (e := 46 :: ((b :: q) ++ 101 :: Lib.itoa (e + ((a :: b :: q).length : Int) - 1))) hd1 (fun c t hh => by cases hh; rfl)
        have hrun2 := run_split (d := b :: q) (e := 101 :: Lib.itoa (e + ((a :: b :: q).length : Int) - 1)) hr e101
        rw [if_pos (by simp)]
        rw [show a :: (([46] ++ (b :: q)) ++ 101 :: Lib.itoa (e + ((a :: b :: q).length : Int) - 1)) = [a] ++ 46 :: ((b :: q) ++ 101 :: Lib.itoa (e + ((a :: b :: q).length : Int) - 1)) from by simp, hrun]
        have hdot : dotL (46 :: ((b :: q) ++ 101 :: Lib.itoa (e + ((a :: b :: q).length : Int) - 1))) = (b :: q, 101 :: Lib.itoa (e + ((a :: b :: q).length : Int) - 1)) := by
          unfold dotL
          simp only [if_true]
          exact hrun2
        simp only [hdot]
        unfold finL
        rw [if_neg (by simp), hx]
        simp only []
        rw [show [a] ++ (b :: q) = a :: b :: q from rfl, bare_same h0, clamp_same (by simp at hs2 ⊢; omega) (by simp at hs2 ⊢; omega)]
        simp only [List.length_cons]
        congr 2
        omega
    have hsplit : layL sg (a :: r) e = (if sg then [45] else []) ++ a :: ((if 1 < (a :: r).length then [46] ++ r else []) ++ 101 :: Lib.itoa (e + ((a :: r).length : Int) - 1)) := by
      unfold layL
      simp
    rw [hsplit]
    cases sg
    · rw [show ((if false = true then [45] else []) ++ a :: ((if 1 < (a :: r).length then [46] ++ r else []) ++ 101 :: Lib.itoa (e + ((a :: r).length : Int) - 1)) : List UInt8) = a :: ((if 1 < (a :: r).length then [46] ++ r else []) ++ 101 :: Lib.itoa (e + ((a :: r).length : Int) - 1)) from rfl]
      rw [sign_other (dig_ne ha 45 (by decide)) (dig_ne ha 43 (by decide))]
      exact hb false
    · rw [show ((if true = true then [45] else []) ++ a :: ((if 1 < (a :: r).length then [46] ++ r else []) ++ 101 :: Lib.itoa (e + ((a :: r).length : Int) - 1)) : List UInt8) = 45 :: a :: ((if 1 < (a :: r).length then [46] ++ r else []) ++ 101 :: Lib.itoa (e + ((a :: r).length : Int) - 1)) from rfl]
      exact hb true
end Go.Proofs.YtpodpdopgdkdkaaGreatDoor
