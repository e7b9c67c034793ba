/- The grammar of numbers' texts, in plain Lean: a text cut up, and put together. -/
import Derived.Test.YtiocdgehpiagjaaDoorDigLaw
namespace Go.Proofs.YtiocdgehpiagjaaDoor
/-- A text's parts: class, sign, signal, digits, exponent. -/
structure PartsL where
  cls : Int
  sign : Bool
  sig : Bool
  digits : List UInt8
  exp : Int
def noParts : PartsL := ⟨0, false, false, [], 0⟩
/-- A sign, cut off. -/
def signL (l : List UInt8) : Bool × List UInt8 :=
  match l with
  | [] => (false, [])
  | c :: t => if c = 45 then (true, t) else if c = 43 then (false, t) else (false, c :: t)
def runL (l : List UInt8) : List UInt8 × List UInt8 := (l.takeWhile isDig, l.dropWhile isDig)
def bareL (l : List UInt8) : List UInt8 := l.dropWhile (· == 48)
/-- The value of an exponent's digits, as far as twice the greatest. -/
def clipE (l : List UInt8) : Int := if dval l ≤ 2000000000 then (dval l : Int) else 2000000000
def expL (l : List UInt8) : Option Int :=
  if (signL l).2 = [] ∨ digs (signL l).2 = false then none else some (if (signL l).1 then - clipE (signL l).2 else clipE (signL l).2)
def lowC (c : UInt8) : UInt8 := if 65 ≤ c.toNat ∧ c.toNat ≤ 90 then UInt8.ofNat (c.toNat + 32) else c
def infS : List UInt8 := [105, 110, 102]
def infinityS : List UInt8 := [105, 110, 102, 105, 110, 105, 116, 121]
def nanS : List UInt8 := [110, 97, 110]
/-- What stands behind 'nan'. -/
def parenL (q : List UInt8) : Option (List UInt8) :=
  match q with
  | [] => some []
  | c :: t => if c = 40 ∧ t.getLast? = some 41 ∧ t.dropLast ≠ [] ∧ digs t.dropLast = true then some (bareL t.dropLast) else none
def nanL (sig : Bool) (s : List UInt8) : Option PartsL :=
  if s.take 3 = nanS then (match parenL (s.drop 3) with | some d => some ⟨3, false, sig, d, 0⟩ | none => none) else none
/-- inf, nan and the like, in small letters. -/
def lowWordL (s : List UInt8) : Option PartsL :=
  if s = infS ∨ s = infinityS then some ⟨2, false, false, [], 0⟩
  else match s with
    | [] => none
    | c :: t => if c = 115 then nanL true t else nanL false (c :: t)
def wordL (s : List UInt8) : Option PartsL := lowWordL (s.map lowC)
/-- The digits behind a point. -/
def dotL (l : List UInt8) : List UInt8 × List UInt8 :=
  match l with
  | [] => ([], [])
  | c :: t => if c = 46 then runL t else ([], c :: t)
/-- An exponent with its letter. -/
def tailL (l : List UInt8) : Option Int :=
  match l with
  | [] => some 0
  | c :: t => if c = 101 ∨ c = 69 then expL t else none
def clampE (e : Int) : Int := if e < -1000000000 then -1000000000 else if 1000000000 < e then 1000000000 else e
def finL (neg : Bool) (whole part : List UInt8) (rest : List UInt8) : PartsL × Int :=
  if whole ++ part = [] then (noParts, 2)
  else match tailL rest with
    | none => (noParts, 2)
    | some e => (⟨1, neg, false, bareL (whole ++ part), clampE (e - (part.length : Int))⟩, 0)
def bodyL (neg : Bool) (r : List UInt8) : PartsL × Int :=
  match wordL r with
  | some p => ({ p with sign := neg }, 0)
  | none => finL neg (runL r).1 (dotL (runL r).2).1 (dotL (runL r).2).2
/-- A text cut up: its parts and the error's number. -/
def cutL (l : List UInt8) : PartsL × Int := if 4000 < l.length then (noParts, 4) else bodyL (signL l).1 (signL l).2
/-- The text of parts. -/
def textB (p : PartsL) : List UInt8 :=
  if p.cls = 2 then infS
  else if p.cls = 3 then (if p.sig then [115] else []) ++ nanS ++ (if p.digits = [] then [] else 40 :: p.digits ++ [41])
  else (if p.digits = [] then [48] else p.digits) ++ (if p.exp = 0 then [] else 101 :: Lib.itoa p.exp)
def textL (p : PartsL) : List UInt8 := (if p.sign then [45] else []) ++ textB p
/-- What may be joined. -/
def GoodL (p : PartsL) : Prop :=
  (digs p.digits = true ∧ p.digits.head? ≠ some 48) ∧
  ((p.cls = 1 ∧ p.sig = false ∧ -1000000000 ≤ p.exp ∧ p.exp ≤ 1000000000 ∧ (textL p).length ≤ 4000) ∨
   (p.cls = 2 ∧ p.sig = false ∧ p.digits = [] ∧ p.exp = 0) ∨ (p.cls = 3 ∧ p.exp = 0 ∧ (textL p).length ≤ 4000))

/-! ### What comes out of a cut -/
theorem bare_head (l : List UInt8) : (bareL l).head? ≠ some 48 := by
  unfold bareL
  induction l with
  | nil => simp
  | cons c t ih =>
    rw [List.dropWhile_cons]
    split
    · exact ih
    · rename_i h
      simp only [List.head?_cons, ne_eq, Option.some.injEq]
      simpa using h
theorem bare_digs {l : List UInt8} (h : digs l = true) : digs (bareL l) = true :=
  List.all_eq_true.2 fun c hc => List.all_eq_true.1 h c ((List.dropWhile_suffix _).subset hc)
theorem take_digs (l : List UInt8) : digs (l.takeWhile isDig) = true := by
  unfold digs
  induction l with
  | nil => rfl
  | cons c t ih =>
    rw [List.takeWhile_cons]
    split
    · rename_i h; simp [h, ih]
    · rfl
theorem dot_digs (l : List UInt8) : digs (dotL l).1 = true := by
  unfold dotL
  split
  · rfl
  · split
    · exact take_digs _
    · rfl
theorem clamp_in (e : Int) : -1000000000 ≤ clampE e ∧ clampE e ≤ 1000000000 := by
  unfold clampE
  split
  · omega
  · split <;> omega
theorem paren_good {q d : List UInt8} (h : parenL q = some d) : digs d = true ∧ d.head? ≠ some 48 := by
  unfold parenL at h
  split at h
  · cases h
    exact ⟨rfl, by simp⟩
  · split at h
    · rename_i hh
      cases h
      exact ⟨bare_digs hh.2.2.2, bare_head _⟩
    · cases h
theorem nan_good {sig : Bool} {s : List UInt8} {p : PartsL} (h : nanL sig s = some p) : p.cls = 3 ∧ p.exp = 0 ∧ digs p.digits = true ∧ p.digits.head? ≠ some 48 := by
  unfold nanL at h
  split at h
  · split at h
    · rename_i d hd
      cases h
      exact ⟨rfl, rfl, paren_good hd⟩
    · cases h
  · cases h
/-- The parts that a cut gives: what can be said of them without a text. -/
def ShapeL (p : PartsL) : Prop :=
  (digs p.digits = true ∧ p.digits.head? ≠ some 48) ∧
  ((p.cls = 1 ∧ p.sig = false ∧ -1000000000 ≤ p.exp ∧ p.exp ≤ 1000000000) ∨ (p.cls = 2 ∧ p.sig = false ∧ p.digits = [] ∧ p.exp = 0) ∨ (p.cls = 3 ∧ p.exp = 0))
theorem word_shape {s : List UInt8} {p : PartsL} (h : wordL s = some p) : ShapeL p := by
  unfold wordL lowWordL at h
  split at h
  · cases h
    exact ⟨⟨rfl, by simp⟩, .inr (.inl ⟨rfl, rfl, rfl, rfl⟩)⟩
  · split at h
    · cases h
    · split at h
      · obtain ⟨h1, h2, h3, h4⟩ := nan_good h
        exact ⟨⟨h3, h4⟩, .inr (.inr ⟨h1, h2⟩)⟩
      · obtain ⟨h1, h2, h3, h4⟩ := nan_good h
        exact ⟨⟨h3, h4⟩, .inr (.inr ⟨h1, h2⟩)⟩
theorem cut_shape {l : List UInt8} {p : PartsL} (h : cutL l = (p, 0)) : ShapeL p ∧ l.length ≤ 4000 := by
  unfold cutL at h
  split at h
  · simp at h
  · rename_i hl
    refine ⟨?_, by omega⟩
    unfold bodyL at h
    split at h
    · rename_i q hq
      simp only [Prod.mk.injEq, and_true] at h
      subst h
      exact (word_shape hq : ShapeL q)
    · unfold finL at h
      split at h
      · simp at h
      · split at h
        · simp at h
        · simp only [Prod.mk.injEq, and_true] at h
          subst h
          have hd : digs ((runL (signL l).2).1 ++ (dotL (runL (signL l).2).2).1) = true := digs_append.2 ⟨take_digs _, dot_digs _⟩
          exact ⟨⟨bare_digs hd, bare_head _⟩, .inl ⟨rfl, rfl, (clamp_in _).1, (clamp_in _).2⟩⟩
/-- Who comes back out of its own text may be joined. -/
theorem good_of_cut {p : PartsL} (h : cutL (textL p) = (p, 0)) : GoodL p := by
  obtain ⟨⟨h1, h2⟩, h3⟩ := cut_shape h
  refine ⟨h1, ?_⟩
  rcases h2 with ⟨a, b, c, d⟩ | h2 | ⟨a, b⟩
  · exact .inl ⟨a, b, c, d, h3⟩
  · exact .inr (.inl h2)
  · exact .inr (.inr ⟨a, b, h3⟩)
theorem cut_err (l : List UInt8) : (cutL l).2 = 0 ∨ cutL l = (noParts, 2) ∨ cutL l = (noParts, 4) := by
  unfold cutL
  split
  · exact .inr (.inr rfl)
  · unfold bodyL
    split
    · exact .inl rfl
    · unfold finL
      split
      · exact .inr (.inl rfl)
      · split
        · exact .inr (.inl rfl)
        · exact .inl rfl
end Go.Proofs.YtiocdgehpiagjaaDoor
