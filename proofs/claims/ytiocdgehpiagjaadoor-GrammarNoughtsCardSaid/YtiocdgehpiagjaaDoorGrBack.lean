/- What was joined is cut up into the same parts (plain law). -/
import Derived.Test.YtiocdgehpiagjaaDoorGrMath
namespace Go.Proofs.YtiocdgehpiagjaaDoor
theorem dec_ne (n : Nat) : Lib.decDigits n ≠ [] := by
  rw [Lib.decDigits]
  split
  · simp
  · simp
theorem low_dig {c : UInt8} (h : isDig c = true) : lowC c = c := by
  have := isDig_iff.1 h
  unfold lowC
  rw [if_neg (by omega)]
theorem low_digs {l : List UInt8} (h : digs l = true) : l.map lowC = l := by
  induction l with
  | nil => rfl
  | cons c t ih =>
    obtain ⟨h1, h2⟩ := digs_cons.1 h
    rw [List.map_cons, low_dig h1, ih h2]
theorem sign_other {c : UInt8} {t : List UInt8} (h1 : c ≠ 45) (h2 : c ≠ 43) : signL (c :: t) = (false, c :: t) := by
  unfold signL
  simp only [if_neg h1, if_neg h2]
theorem dig_ne {c : UInt8} (h : isDig c = true) (k : UInt8) (hk : k.toNat < 48 ∨ 57 < k.toNat) : c ≠ k := fun e => by
  subst e
  have := isDig_iff.1 h
  omega
theorem sign_digs {l : List UInt8} (h : digs l = true) : signL l = (false, l) := by
  cases l with
  | nil => rfl
  | cons c t =>
    have h1 := (digs_cons.1 h).1
    exact sign_other (dig_ne h1 45 (by decide)) (dig_ne h1 43 (by decide))
theorem clip_small {l : List UInt8} (h : dval l ≤ 2000000000) : clipE l = (dval l : Int) := by
  unfold clipE
  rw [if_pos h]
theorem exp_itoa (e : Int) (h0 : -1000000000 ≤ e) (h1 : e ≤ 1000000000) : expL (Lib.itoa e) = some e := by
  unfold Lib.itoa
  by_cases hn : e < 0
  · rw [if_pos hn]
    have hs : signL (45 :: Lib.decDigits e.natAbs) = (true, Lib.decDigits e.natAbs) := rfl
    unfold expL
    rw [hs]
    simp only []
    rw [if_neg (by rw [decDigits_digs]; simp [dec_ne]), clip_small (by rw [dval_dec]; omega), dval_dec]
    simp
    omega
  · rw [if_neg hn]
    unfold expL
    rw [sign_digs (decDigits_digs _)]
    simp only []
    rw [if_neg (by rw [decDigits_digs]; simp [dec_ne]), clip_small (by rw [dval_dec]; omega), dval_dec]
    simp
    omega
theorem run_split {d e : List UInt8} (h : digs d = true) (he : ∀ c t, e = c :: t → isDig c = false) : runL (d ++ e) = (d, e) := by
  unfold runL
  induction d with
  | nil =>
    cases e with
    | nil => rfl
    | cons c t =>
      have := he c t rfl
      rw [List.nil_append, List.takeWhile_cons, List.dropWhile_cons, if_neg (by simp [this]), if_neg (by simp [this])]
  | cons c t ih =>
    obtain ⟨h1, h2⟩ := digs_cons.1 h
    have ih' := ih h2
    simp only [Prod.mk.injEq] at ih' ⊢
    rw [List.cons_append, List.takeWhile_cons, List.dropWhile_cons, if_pos h1, if_pos h1, ih'.1, ih'.2]
    exact ⟨rfl, rfl⟩
theorem bare_same {l : List UInt8} (h : l.head? ≠ some 48) : bareL l = l := by
  unfold bareL
  cases l with
  | nil => rfl
  | cons c t =>
    rw [List.dropWhile_cons, if_neg]
    simpa using h
theorem word_digit {c : UInt8} {t : List UInt8} (h : isDig c = true) : wordL (c :: t) = none := by
  have e : lowC c = c := low_dig h
  have n1 := dig_ne h 105 (by decide)
  have n2 := dig_ne h 115 (by decide)
  have n3 := dig_ne h 110 (by decide)
  unfold wordL lowWordL
  rw [List.map_cons, e, if_neg (by simp [infS, infinityS, n1])]
  simp only [if_neg n2]
  unfold nanL
  rw [if_neg]
  intro hh
  have : ((c :: t.map lowC).take 3).head? = some 110 := by rw [hh]; rfl
  simp at this
  exact n3 this
theorem clamp_same {e : Int} (h0 : -1000000000 ≤ e) (h1 : e ≤ 1000000000) : clampE e = e := by
  unfold clampE
  rw [if_neg (by omega), if_neg (by omega)]
theorem paren_of {d : List UInt8} (h : digs d = true) (h0 : d.head? ≠ some 48) : parenL (if d = [] then [] else 40 :: d ++ [41]) = some d := by
  by_cases hd : d = []
  · subst hd; rfl
  · rw [if_neg hd]
    unfold parenL
    simp only [List.cons_append]
    have e1 : (d ++ [41]).getLast? = some (41 : UInt8) := by simp
    have e2 : (d ++ [41]).dropLast = d := by simp
    rw [e1, e2, if_pos (by simp [hd, h]), bare_same h0]
theorem paren_low {d : List UInt8} (h : digs d = true) : (if d = [] then [] else 40 :: d ++ [41]).map lowC = (if d = [] then [] else 40 :: d ++ [41] : List UInt8) := by
  by_cases hd : d = []
  · subst hd; rfl
  · rw [if_neg hd]
    simp only [List.cons_append, List.map_cons, List.map_append, low_digs h]
    rfl
theorem word_nan {d : List UInt8} (sig : Bool) (h : digs d = true) (h0 : d.head? ≠ some 48) : wordL ((if sig then [115] else []) ++ nanS ++ (if d = [] then [] else 40 :: d ++ [41])) = some ⟨3, false, sig, d, 0⟩ := by
  have e : nanS.map lowC = nanS := by decide
  have hp := paren_of h h0
  unfold wordL
  rw [List.map_append, List.map_append, paren_low h, e]
  generalize (if d = [] then [] else 40 :: d ++ [41] : List UInt8) = q at hp ⊢
  have hn : ∀ s, nanL s ([110, 97, 110] ++ q) = some ⟨3, false, s, d, 0⟩ := fun s => by
    unfold nanL
    rw [if_pos (by rfl)]
    have : ([110, 97, 110] ++ q).drop 3 = q := rfl
    rw [this, hp]
  cases sig with
  | true =>
    have e2 : (if true = true then ([115] : List UInt8) else []).map lowC ++ nanS ++ q = 115 :: ([110, 97, 110] ++ q) := rfl
    rw [e2]
    unfold lowWordL
    rw [if_neg (by simp [infS, infinityS])]
    simp only [if_pos]
    exact hn true
  | false =>
    have e2 : (if false = true then ([115] : List UInt8) else []).map lowC ++ nanS ++ q = 110 :: ([97, 110] ++ q) := rfl
    rw [e2]
    unfold lowWordL
    rw [if_neg (by simp [infS, infinityS])]
    simp only [show ¬ ((110 : UInt8) = 115) by decide, if_false]
    exact hn false
theorem textB_head {p : PartsL} (h : GoodL p) : ∃ c t, textB p = c :: t ∧ c ≠ 45 ∧ c ≠ 43 := by
  obtain ⟨⟨hd, _⟩, h2⟩ := h
  unfold textB
  by_cases c2 : p.cls = 2
  · rw [if_pos c2]; exact ⟨105, _, rfl, by decide, by decide⟩
  · rw [if_neg c2]
    by_cases c3 : p.cls = 3
    · rw [if_pos c3]
      cases p.sig
      · exact ⟨110, _, rfl, by decide, by decide⟩
      · exact ⟨115, _, rfl, by decide, by decide⟩
    · rw [if_neg c3]
      cases hq : p.digits with
      | nil => exact ⟨48, _, rfl, by decide, by decide⟩
      | cons c t =>
        rw [hq] at hd
        have h1 := (digs_cons.1 hd).1
        exact ⟨c, _, rfl, dig_ne h1 45 (by decide), dig_ne h1 43 (by decide)⟩
theorem sign_text {p : PartsL} (h : GoodL p) : signL (textL p) = (p.sign, textB p) := by
  obtain ⟨c, t, e, h1, h2⟩ := textB_head h
  unfold textL
  rw [e]
  cases p.sign with
  | true => rfl
  | false => exact sign_other h1 h2
theorem text_len {p : PartsL} (h : GoodL p) : (textL p).length ≤ 4000 := by
  rcases h.2 with ⟨_, _, _, _, h⟩ | ⟨h1, _, _, _⟩ | ⟨_, _, h⟩
  · exact h
  · unfold textL textB
    rw [if_pos h1]
    cases p.sign <;> simp [infS]
  · exact h
theorem fin_body {p : PartsL} (hd : digs p.digits = true) (h0 : p.digits.head? ≠ some 48) (hc : p.cls = 1) (hs : p.sig = false) (e0 : -1000000000 ≤ p.exp) (e1 : p.exp ≤ 1000000000) : bodyL p.sign (textB p) = (p, 0) := by
  obtain ⟨D, hD⟩ : ∃ D, (if p.digits = [] then [48] else p.digits) = D := ⟨_, rfl⟩
  obtain ⟨E, hE⟩ : ∃ E, (if p.exp = 0 then [] else 101 :: Lib.itoa p.exp) = E := ⟨_, rfl⟩
  have ht : textB p = D ++ E := by
    unfold textB
    rw [if_neg (by omega), if_neg (by omega), hD, hE]
  have dD : digs D = true := by
    rw [← hD]
    split
    · rfl
    · exact hd
  have dne : D ≠ [] := by
    rw [← hD]
    split
    · simp
    · assumption
  have bD : bareL D = p.digits := by
    rw [← hD]
    split
    · rename_i h; rw [h]; rfl
    · exact bare_same h0
  have hrun : runL (D ++ E) = (D, E) := run_split dD fun c t e => by
    rw [← hE] at e
    split at e
    · cases e
    · cases e; decide
  have hdot : dotL E = ([], E) := by
    rw [← hE]
    split
    · rfl
    · rfl
  have htail : tailL E = some p.exp := by
    rw [← hE]
    split
    · rename_i h; rw [h]; rfl
    · unfold tailL
      simp only [true_or, if_true]
      exact exp_itoa _ e0 e1
  have hw : wordL (D ++ E) = none := by
    cases D with
    | nil => exact absurd rfl dne
    | cons c t => exact word_digit (digs_cons.1 dD).1
  unfold bodyL
  rw [ht, hw]
  simp only [hrun, hdot]
  unfold finL
  rw [if_neg (by simpa using dne), htail]
  simp only [List.append_nil, List.length_nil]
  rw [bD, show p.exp - ((0 : Nat) : Int) = p.exp by omega, clamp_same e0 e1]
  obtain ⟨a, b, c, d, e⟩ := p
  simp only at hc hs ⊢
  rw [hc, hs]
/-- WHAT MAY BE JOINED COMES BACK. -/
theorem cut_text {p : PartsL} (h : GoodL p) : cutL (textL p) = (p, 0) := by
  have hl := text_len h
  unfold cutL
  rw [if_neg (by omega), sign_text h]
  simp only []
  obtain ⟨⟨hd, h0⟩, h2⟩ := h
  rcases h2 with ⟨c1, s1, e0, e1, _⟩ | ⟨c2, s2, d2, e2⟩ | ⟨c3, e3, _⟩
  · exact fin_body hd h0 c1 s1 e0 e1
  · unfold bodyL textB
    rw [if_pos c2, show wordL infS = some ⟨2, false, false, [], 0⟩ by rfl]
    obtain ⟨a, b, c, d, e⟩ := p
    simp only at c2 s2 d2 e2 ⊢
    rw [c2, s2, d2, e2]
  · unfold bodyL textB
    rw [if_neg (by omega), if_pos c3, word_nan p.sig hd h0]
    obtain ⟨a, b, c, d, e⟩ := p
    simp only at c3 e3 ⊢
    rw [c3, e3]
end Go.Proofs.YtiocdgehpiagjaaDoor
