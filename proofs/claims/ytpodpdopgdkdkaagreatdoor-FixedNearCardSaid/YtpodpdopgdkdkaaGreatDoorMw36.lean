/- Great and small letters, a plus, and noughts do not matter (plain law). · strings.Map with the closure that makes letters small: what it tells of a word (plain law). · The contracts of the grammar's small functions: Sign, run, bare. · The contract of grammar.word. · grammar.word behind its first test: nan, snan, and neither. (Printed by gen_word.py.) · The contract of grammar.word, for any text. · The contract of grammar.Exponent. · The contract of grammar.Cut. · The contract of grammar.Cut at a number. · '[]byte(s)' in memory, byte by byte; the reference's IsDigits. -/
import Derived.Test.YtpodpdopgdkdkaaGreatDoorMw35
import Derived.Lib.MapLaws
import Derived.Lib.TrimAscii
import Derived.Test.YtpodpdopgdkdkaaGreatDoorMw02
import Derived.Test.YtpodpdopgdkdkaaGreatDoorMw01
import Derived.Shelf.Strings.SlTrimAscii
import Derived.Lib.AtoiErrMem
import Derived.Deep.DeepCutAuto
import Derived.IntWalk
import Derived.Lib.Atoi
import Derived.Lib.ConvBytes
import Derived.Laws.IdiomStrings
set_option linter.unusedVariables false
set_option linter.unusedSimpArgs false
namespace Go.Proofs.YtpodpdopgdkdkaaGreatDoor
theorem low_toNat (c : UInt8) : (lowC c).toNat = if 65 ≤ c.toNat ∧ c.toNat ≤ 90 then c.toNat + 32 else c.toNat := by
  unfold lowC
  split
  · rename_i h
    have : (c.toNat + 32) % 256 = c.toNat + 32 := Nat.mod_eq_of_lt (by omega)
    simp [this]
  · rfl
theorem low_idem (c : UInt8) : lowC (lowC c) = lowC c := by
  apply UInt8.toNat_inj.1
  have h := low_toNat c
  rw [low_toNat (lowC c), h]
  by_cases hc : 65 ≤ c.toNat ∧ c.toNat ≤ 90
  · rw [if_pos hc, if_neg (by omega)]
  · rw [if_neg hc, if_neg hc]
theorem dig_low (c : UInt8) : isDig (lowC c) = isDig c := by
  rw [Bool.eq_iff_iff, isDig_iff, isDig_iff, low_toNat]
  split <;> omega
theorem low_eq {c k : UInt8} (hk : k.toNat < 65) : lowC c = k ↔ c = k := by
  rw [← UInt8.toNat_inj, ← UInt8.toNat_inj, low_toNat]
  split <;> omega
theorem map_low (l : List UInt8) : (l.map lowC).map lowC = l.map lowC := by
  rw [List.map_map]
  exact List.map_congr_left fun c _ => low_idem c
theorem word_low (l : List UInt8) : wordL (l.map lowC) = wordL l := by
  unfold wordL
  rw [map_low]
theorem sign_low (l : List UInt8) : signL (l.map lowC) = ((signL l).1, (signL l).2.map lowC) := by
  cases l with
  | nil => rfl
  | cons c t =>
    have e1 : lowC c = 45 ↔ c = 45 := low_eq (by decide)
    have e2 : lowC c = 43 ↔ c = 43 := low_eq (by decide)
    unfold signL
    rw [List.map_cons]
    simp only [e1, e2]
    split
    · rfl
    · split <;> rfl
theorem digs_low (l : List UInt8) : digs (l.map lowC) = digs l := by
  unfold digs
  rw [List.all_map]
  congr 1
  funext c
  exact dig_low c
theorem run_low (l : List UInt8) : runL (l.map lowC) = ((runL l).1, (runL l).2.map lowC) := by
  unfold runL
  induction l with
  | nil => rfl
  | cons c t ih =>
    simp only [Prod.mk.injEq] at ih ⊢
    rw [List.map_cons, List.takeWhile_cons, List.dropWhile_cons, dig_low, List.takeWhile_cons, List.dropWhile_cons]
    by_cases h : isDig c = true
    · rw [if_pos h, if_pos h, if_pos h, if_pos h, ih.1, ih.2, low_dig h]
      exact ⟨rfl, rfl⟩
    · rw [if_neg h, if_neg h, if_neg h, if_neg h]
      exact ⟨rfl, rfl⟩
theorem dot_low (l : List UInt8) : dotL (l.map lowC) = ((dotL l).1, (dotL l).2.map lowC) := by
  cases l with
  | nil => rfl
  | cons c t =>
    have e1 : lowC c = 46 ↔ c = 46 := low_eq (by decide)
    unfold dotL
    rw [List.map_cons]
    simp only [e1]
    split
    · exact run_low t
    · rfl
theorem exp_low (l : List UInt8) : expL (l.map lowC) = expL l := by
  unfold expL
  rw [sign_low, digs_low]
  simp only [List.map_eq_nil_iff]
  by_cases hd : digs (signL l).2 = true
  · rw [low_digs hd]
  · have : digs (signL l).2 = false := by simpa using hd
    rw [if_pos (.inr this), if_pos (.inr this)]
theorem tail_low (l : List UInt8) : tailL (l.map lowC) = tailL l := by
  cases l with
  | nil => rfl
  | cons c t =>
    have e1 : (lowC c = 101 ∨ lowC c = 69) ↔ (c = 101 ∨ c = 69) := by
      rw [← UInt8.toNat_inj, ← UInt8.toNat_inj, ← UInt8.toNat_inj, ← UInt8.toNat_inj, low_toNat]
      have h1 : (101 : UInt8).toNat = 101 := rfl
      have h2 : (69 : UInt8).toNat = 69 := rfl
      rw [h1, h2]
      split <;> omega
    unfold tailL
    rw [List.map_cons]
    simp only [e1, exp_low]
theorem body_low (b : Bool) (l : List UInt8) : bodyL b (l.map lowC) = bodyL b l := by
  unfold bodyL
  rw [word_low, run_low]
  simp only [dot_low]
  unfold finL
  rw [tail_low]
theorem cut_low (l : List UInt8) : cutL (l.map lowC) = cutL l := by
  unfold cutL
  rw [List.length_map, sign_low, body_low]
/-- Two texts that differ in great and small letters alone. -/
theorem cut_cases {l m : List UInt8} (h : l.map lowC = m.map lowC) : cutL l = cutL m := by
  rw [← cut_low l, h, cut_low m]
def signed (l : List UInt8) : Bool := match l with
  | [] => false
  | c :: _ => decide (c = 43) || decide (c = 45)
theorem body_signed {l : List UInt8} (h : signed l = true) (b : Bool) : bodyL b l = (noParts, 2) := by
  cases l with
  | nil => cases h
  | cons c t =>
    have hc : c = 43 ∨ c = 45 := by simpa [signed] using h
    have hd : isDig c = false := by rcases hc with rfl | rfl <;> decide
    have h46 : c ≠ 46 := by rcases hc with rfl | rfl <;> decide
    have hw : wordL (c :: t) = none := by
      have e : lowC c = c := by rcases hc with rfl | rfl <;> decide
      have n1 : c ≠ 105 := by rcases hc with rfl | rfl <;> decide
      have n2 : c ≠ 115 := by rcases hc with rfl | rfl <;> decide
      have n3 : c ≠ 110 := by rcases hc with rfl | rfl <;> decide
      unfold wordL lowWordL
      rw [List.map_cons, e, if_neg (by simp [infS, infinityS, n1])]
      simp only [if_neg n2]
      unfold nanL
      rw [if_neg]
      intro hh
      have : ((c :: t.map lowC).take 3).head? = some 110 := by rw [hh]; rfl
      simp at this
      exact n3 this
    have hr : runL (c :: t) = ([], c :: t) := by
      unfold runL
      rw [List.takeWhile_cons, List.dropWhile_cons, if_neg (by simp [hd]), if_neg (by simp [hd])]
    have hdot : dotL (c :: t) = ([], c :: t) := by
      unfold dotL
      simp only [if_neg h46]
    unfold bodyL
    rw [hw]
    simp only [hr, hdot]
    rfl
theorem cut_plus (l : List UInt8) (hl : l.length ≤ 3000) : cutL (43 :: l) = if signed l = true then (noParts, 2) else cutL l := by
  have e1 : cutL (43 :: l) = bodyL false l := by
    unfold cutL
    rw [if_neg (by simp only [List.length_cons]; omega), show signL (43 :: l) = (false, l) by rfl]
  have e2 : cutL l = bodyL (signL l).1 (signL l).2 := by
    unfold cutL
    rw [if_neg (by omega)]
  rw [e1]
  by_cases h : signed l = true
  · rw [if_pos h, body_signed h]
  · rw [if_neg h, e2]
    have : signL l = (false, l) := by
      cases l with
      | nil => rfl
      | cons c t =>
        have hc : ¬ (c = 43 ∨ c = 45) := by simpa [signed] using h
        exact sign_other (fun e => hc (.inr e)) (fun e => hc (.inl e))
    rw [this]
theorem bare_noughts (k : Nat) (l : List UInt8) : bareL (List.replicate k 48 ++ l) = bareL l := by
  unfold bareL
  induction k with
  | zero => rfl
  | succ k ih => rw [List.replicate_succ, List.cons_append, List.dropWhile_cons, if_pos (by rfl), ih]
theorem digs_noughts (k : Nat) : digs (List.replicate k 48) = true := List.all_eq_true.2 fun c hc => by
  rw [List.eq_of_mem_replicate hc]; rfl
theorem cut_fin {A B X : List UInt8} (hA : digs A = true) (hB : digs B = true) (hX : digs X = true) (a0 : A ≠ []) (x0 : X ≠ []) (hx : dval X ≤ 2000000000) (hl : A.length + B.length + X.length ≤ 3900) :
    cutL (A ++ 46 :: (B ++ 101 :: X)) = (⟨1, false, false, bareL (A ++ B), clampE ((dval X : Int) - (B.length : Int))⟩, 0) := by
  have hlen : ¬ 4000 < (A ++ 46 :: (B ++ 101 :: X)).length := by simp only [List.length_append, List.length_cons]; omega
  cases A with
  | nil => exact absurd rfl a0
  | cons c t =>
    have hc := (digs_cons.1 hA).1
    have hs : signL (c :: t ++ 46 :: (B ++ 101 :: X)) = (false, c :: t ++ 46 :: (B ++ 101 :: X)) := sign_other (dig_ne hc 45 (by decide)) (dig_ne hc 43 (by decide))
    have hr : runL (c :: t ++ 46 :: (B ++ 101 :: X)) = (c :: t, 46 :: (B ++ 101 :: X)) := run_split hA fun d u e => by cases e; decide
    have hd : dotL (46 :: (B ++ 101 :: X)) = (B, 101 :: X) := by
      unfold dotL
      simp only [if_true]
      exact run_split hB fun d u e => by cases e; decide
    have he : tailL (101 :: X) = some (dval X : Int) := by
      unfold tailL
      simp only [true_or, if_true]
      unfold expL
      rw [sign_digs hX]
      simp only []
      rw [if_neg (by rw [hX]; simp [x0]), clip_small hx]
      rfl
    unfold cutL
    rw [if_neg hlen, hs]
    simp only []
    unfold bodyL
    rw [show wordL (c :: t ++ 46 :: (B ++ 101 :: X)) = none from word_digit hc]
    simp only [hr, hd]
    unfold finL
    rw [if_neg (by simp), he]
end Go.Proofs.YtpodpdopgdkdkaaGreatDoor
namespace Go.Proofs.YtpodpdopgdkdkaaGreatDoor
open Go.Lib (mapD mapD_step mapD_nil decodeL encodeRune encodeRuneZ decodeN_shape decodeL_N decodeL_ascii decodeL_width)
def lowF (r : Int) : Int := if 65 ≤ r ∧ r ≤ 90 then r + 32 else r
def ascii (l : List UInt8) : Bool := l.all fun c => decide (c.toNat < 128)
theorem enc_low (c : UInt8) (h : c.toNat < 128) : encodeRune (lowF (c.toNat : Int)) = [lowC c] := by
  have e : lowF (c.toNat : Int) = ((lowC c).toNat : Int) := by
    rw [low_toNat]
    unfold lowF
    split <;> split <;> omega
  have hl : (lowC c).toNat < 128 := by
    rw [low_toNat]
    split <;> omega
  rw [e]
  unfold encodeRune
  rw [Go.Lib.encodeRuneZ_one (by omega) (by omega)]
  simp
theorem map_ascii (l : List UInt8) (h : ascii l = true) : mapD lowF l = l.map lowC := by
  induction l with
  | nil => rfl
  | cons c t ih =>
    have h2 : c.toNat < 128 ∧ ascii t = true := by simpa [ascii] using h
    rw [mapD_step _ _ (by simp), decodeL_ascii c t h2.1]
    have h0 : 0 ≤ lowF ((c.toNat : Nat) : Int) := by unfold lowF; split <;> omega
    rw [if_pos h0, enc_low c h2.1]
    simp only [List.drop_succ_cons, List.drop_zero, List.map_cons, List.singleton_append]
    rw [ih h2.2]
theorem decode_wide (c : UInt8) (t : List UInt8) (h : 128 ≤ c.toNat) : 128 ≤ (decodeL (c :: t)).1 := by
  rw [decodeL_N]
  have e : ((c :: t).getD 0 0).toNat = c.toNat := by simp
  rcases decodeN_shape (c :: t).length ((c :: t).getD 0 0).toNat ((c :: t).getD 1 0).toNat ((c :: t).getD 2 0).toNat ((c :: t).getD 3 0).toNat with ⟨a, _⟩ | ⟨_, _, _, a, e2⟩ | ⟨_, _, _, _, a, _, e2⟩ | ⟨_, _, _, _, _, a, _, e2⟩ | e2
  · omega
  · rw [e2]; omega
  · rw [e2]; omega
  · rw [e2]; omega
  · rw [e2]; omega
theorem enc_wide (r : Int) (h0 : 128 ≤ r) (h1 : r ≤ 1114111) : ascii (encodeRune r) = false := by
  unfold encodeRune
  have big : ∀ x : Int, 128 ≤ x → x ≤ 255 → decide (x.toNat.toUInt8.toNat < 128) = false := fun x a b => by
    have : x.toNat % 256 = x.toNat := Nat.mod_eq_of_lt (by omega)
    simp [this]
    omega
  unfold encodeRuneZ
  rw [if_neg (by omega)]
  split
  · simp only [List.map_cons, ascii, List.all_cons, big (192 + r / 64) (by omega) (by omega), Bool.false_and]
  · split
    · simp only [List.map_cons, ascii, List.all_cons, big (224 + r / 4096) (by omega) (by omega), Bool.false_and]
    · split
      · simp only [List.map_cons, ascii, List.all_cons, big (240 + r / 262144) (by omega) (by omega), Bool.false_and]
      · rfl
theorem ascii_app (a b : List UInt8) : ascii (a ++ b) = (ascii a && ascii b) := by unfold ascii; rw [List.all_append]
theorem map_wide (n : Nat) : ∀ l : List UInt8, l.length ≤ n → ascii l = false → ascii (mapD lowF l) = false := by
  induction n with
  | zero =>
    intro l hl h
    cases l with
    | nil => cases h
    | cons c t => simp at hl
  | succ n ih =>
    intro l hl h
    cases l with
    | nil => cases h
    | cons c t =>
      rw [mapD_step _ _ (by simp), ascii_app]
      by_cases hc : c.toNat < 128
      · have ht : ascii t = false := by
          have : (decide (c.toNat < 128) && ascii t) = false := h
          rw [decide_eq_true hc, Bool.true_and] at this
          exact this
        rw [decodeL_ascii c t hc]
        simp only [List.drop_succ_cons, List.drop_zero]
        rw [ih t (by simp at hl; omega) ht, Bool.and_false]
      · have hw := decode_wide c t (by omega)
        have hr := Go.Lib.decodeL_rune (c :: t)
        have e : lowF ((decodeL (c :: t)).1 : Int) = (decodeL (c :: t)).1 := by
          unfold lowF
          rw [if_neg (by omega)]
        rw [e, if_pos (by omega), enc_wide _ (by omega) (by omega), Bool.false_and]
theorem digs_ascii {l : List UInt8} (h : digs l = true) : ascii l = true := List.all_eq_true.2 fun c hc => by
  have := digs_mem h hc
  simp
  omega
theorem paren_ascii {q d : List UInt8} (h : parenL q = some d) : ascii q = true := by
  unfold parenL at h
  split at h
  · rfl
  · rename_i c t
    split at h
    · rename_i hh
      obtain ⟨h1, h2, h3, h4⟩ := hh
      have e : t = t.dropLast ++ [41] := by
        have hne : t ≠ [] := fun e => by subst e; simp at h2
        have := List.dropLast_concat_getLast hne
        rw [List.getLast?_eq_some_getLast hne, Option.some.injEq] at h2
        rw [h2] at this
        exact this.symm
      have : ascii t = true := by rw [e, ascii_app, digs_ascii h4]; rfl
      subst h1
      simp [ascii] at this ⊢
      exact this
    · cases h
theorem nan_ascii {sig : Bool} {s : List UInt8} {p : PartsL} (h : nanL sig s = some p) : ascii s = true := by
  unfold nanL at h
  split at h
  · rename_i h3
    split at h
    · rename_i d hd
      rw [← List.take_append_drop 3 s, h3, ascii_app, paren_ascii hd]
      rfl
    · cases h
  · cases h
theorem lowWord_ascii {s : List UInt8} {p : PartsL} (h : lowWordL s = some p) : ascii s = true := by
  unfold lowWordL at h
  split at h
  · rename_i hh
    rcases hh with rfl | rfl <;> rfl
  · split at h
    · cases h
    · split at h
      · rename_i c t hc
        have := nan_ascii h
        subst hc
        simp [ascii] at this ⊢
        exact this
      · exact nan_ascii h
theorem ascii_low (l : List UInt8) (h : ascii l = false) : ascii (l.map lowC) = false := by
  have : ∀ l : List UInt8, ascii (l.map lowC) = ascii l := fun l => by
    unfold ascii
    rw [List.all_map]
    congr 1
    funext c
    simp only [Function.comp]
    rw [decide_eq_decide, low_toNat]
    split <;> omega
  rw [this, h]
/-- strings.Map's text says the same word. -/
theorem word_map (l : List UInt8) : lowWordL (mapD lowF l) = wordL l := by
  by_cases h : ascii l = true
  · rw [map_ascii l h]; rfl
  · have h' : ascii l = false := by simpa using h
    have e1 : lowWordL (mapD lowF l) = none := by
      cases hh : lowWordL (mapD lowF l) with
      | none => rfl
      | some p =>
        have := lowWord_ascii hh
        rw [map_wide _ l (Nat.le_refl _) h'] at this
        cases this
    have e2 : wordL l = none := by
      cases hh : wordL l with
      | none => rfl
      | some p =>
        have := lowWord_ascii hh
        rw [ascii_low l h'] at this
        cases this
    rw [e1, e2]
end Go.Proofs.YtpodpdopgdkdkaaGreatDoor
namespace Go.Proofs.YtpodpdopgdkdkaaGreatDoor
open Go.RowKit
theorem bytes_of {t : ByteArray} {l : List UInt8} (h : t.data.toList = l) : t = ⟨l.toArray⟩ := by
  subst h
  simp
theorem pre_one (c x : UInt8) (u : List UInt8) : Lib.hasPrefix (c :: u) [x] = (x == c) := by
  unfold Lib.hasPrefix
  simp [List.isPrefixOf]
theorem trim_one (c x : UInt8) (u : List UInt8) : Lib.trimPrefix (c :: u) [x] = if x == c then u else c :: u := by
  unfold Lib.trimPrefix
  rw [pre_one]
  rfl
theorem sign_pure (l : List UInt8) : (Lib.hasPrefix l [45] = true → signL l = (true, Lib.trimPrefix l [45])) ∧ (Lib.hasPrefix l [45] = false → signL l = (false, Lib.trimPrefix l [43])) := by
  cases l with
  | nil => exact ⟨fun h => (by cases h), fun _ => rfl⟩
  | cons c u =>
    rw [pre_one, trim_one, trim_one]
    by_cases hc : c = 45
    · subst hc
      exact ⟨fun _ => rfl, fun h => by cases h⟩
    · refine ⟨fun h => absurd (by simpa using h : 45 = c).symm hc, fun _ => ?_⟩
      unfold signL
      simp only [if_neg hc]
      by_cases h43 : c = 43
      · subst h43; rfl
      · rw [if_neg h43, if_neg (by simp; exact fun e => h43 e.symm)]
theorem lowF_range (x : Nat) (h : x ≤ 1114111) : 0 ≤ lowF (x : Int) ∧ lowF (x : Int) ≤ 2147483647 := by
  unfold lowF
  split <;> omega
end Go.Proofs.YtpodpdopgdkdkaaGreatDoor
namespace Go.Proofs.YtpodpdopgdkdkaaGreatDoor
open Go.RowKit
def sv (l : List UInt8) : Value := .string ⟨l.toArray⟩
/-- A text's parts as the program has them. -/
def partsV (p : PartsL) : Array Value := #[.int .i64 p.cls, .bool p.sign, .bool p.sig, sv p.digits, .int .i64 p.exp]
def wordR (l : List UInt8) : PartsL := (wordL l).getD noParts
theorem row5 {W : World} {b t : Nat} {cs : Array Value} (h : W.heap[b]? = some (.cells cs t (0, 0))) (hs : cs.size = 5) (v0 v1 v2 v3 v4 : Value) :
    (((((W.setCell ⟨b, 0, none⟩ v0).setCell ⟨b, 1, none⟩ v1).setCell ⟨b, 2, none⟩ v2).setCell ⟨b, 3, none⟩ v3).setCell ⟨b, 4, none⟩ v4).heap[b]? = some (.cells #[v0, v1, v2, v3, v4] t (0, 0)) := by
  have h0 := heap_set h 0 v0
  generalize W.setCell ⟨b, 0, none⟩ v0 = W0 at h0 ⊢
  have h1 := heap_set h0 1 v1
  generalize W0.setCell ⟨b, 1, none⟩ v1 = W1 at h1 ⊢
  have h2 := heap_set h1 2 v2
  generalize W1.setCell ⟨b, 2, none⟩ v2 = W2 at h2 ⊢
  have h3 := heap_set h2 3 v3
  generalize W2.setCell ⟨b, 3, none⟩ v3 = W3 at h3 ⊢
  rw [heap_set h3 4 v4]
  obtain ⟨l⟩ := cs
  match l, hs with
  | [a0, a1, a2, a3, a4], _ => simp
theorem below5 {w W : World} (hb : Below w.heap.size w W) {b : Nat} (hB : w.heap.size ≤ b) (v0 v1 v2 v3 v4 : Value) :
    Below w.heap.size w (((((W.setCell ⟨b, 0, none⟩ v0).setCell ⟨b, 1, none⟩ v1).setCell ⟨b, 2, none⟩ v2).setCell ⟨b, 3, none⟩ v3).setCell ⟨b, 4, none⟩ v4) :=
  ((((hb.setCell hB _).setCell hB _).setCell hB _).setCell hB _).setCell hB _
end Go.Proofs.YtpodpdopgdkdkaaGreatDoor
namespace Go.Proofs.YtpodpdopgdkdkaaGreatDoor
open Go.RowKit
def nanP (sig : Bool) (o : Option (List UInt8)) : PartsL := match o with
  | none => noParts
  | some d => ⟨3, false, sig, d, 0⟩
end Go.Proofs.YtpodpdopgdkdkaaGreatDoor
namespace Go.Proofs.YtpodpdopgdkdkaaGreatDoor
open Go.RowKit
theorem pre_take (S p : List UInt8) : Lib.hasPrefix S p = true ↔ S.take p.length = p := by
  unfold Lib.hasPrefix
  rw [List.isPrefixOf_iff_prefix, List.prefix_iff_eq_take]
  exact eq_comm
theorem trim_pre {S p : List UInt8} (h : Lib.hasPrefix S p = true) : Lib.trimPrefix S p = S.drop p.length := by
  unfold Lib.trimPrefix
  rw [if_pos h]
theorem suf_last (u : List UInt8) : Lib.hasSuffix u [41] = true ↔ u.getLast? = some 41 := by
  unfold Lib.hasSuffix
  rw [List.isSuffixOf_iff_suffix]
  constructor
  · rintro ⟨v, rfl⟩
    simp
  · intro h
    have hne : u ≠ [] := fun e => by subst e; cases h
    rw [List.getLast?_eq_some_getLast hne, Option.some.injEq] at h
    exact ⟨u.dropLast, by rw [← h]; exact List.dropLast_concat_getLast hne⟩
theorem digs_run (l : List UInt8) : (runL l).2 = [] ↔ digs l = true := by
  unfold runL digs
  simp only []
  constructor
  · intro h
    refine List.all_eq_true.2 fun c hc => ?_
    have e : l.takeWhile isDig ++ l.dropWhile isDig = l := List.takeWhile_append_dropWhile
    rw [h, List.append_nil] at e
    rw [← e] at hc
    exact List.all_eq_true.1 (take_digs l) c hc
  · intro h
    induction l with
    | nil => rfl
    | cons c t ih =>
      simp only [List.all_cons, Bool.and_eq_true] at h
      rw [List.dropWhile_cons, if_pos h.1, ih h.2]
theorem run_digs {l : List UInt8} (h : digs l = true) : (runL l).1 = l := by
  have e : (runL l).1 ++ (runL l).2 = l := List.takeWhile_append_dropWhile
  rw [(digs_run l).2 h, List.append_nil] at e
  exact e
theorem paren_pure (R : List UInt8) (hR : R ≠ []) :
    parenL R = if (!Lib.hasPrefix R [40] || !Lib.hasSuffix (Lib.trimPrefix R [40]) [41] || (runL (Lib.trimSuffix (Lib.trimPrefix R [40]) [41])).1.isEmpty || !(runL (Lib.trimSuffix (Lib.trimPrefix R [40]) [41])).2.isEmpty) = true
      then none else some (bareL (runL (Lib.trimSuffix (Lib.trimPrefix R [40]) [41])).1) := by
  cases R with
  | nil => exact absurd rfl hR
  | cons c u =>
    rw [pre_one, trim_one]
    unfold parenL
    simp only []
    by_cases hc : c = 40
    · subst hc
      have e1 : ((40 : UInt8) == 40) = true := rfl
      rw [e1]
      simp only [if_true]
      by_cases hs : u.getLast? = some 41
      · have h2 : Lib.hasSuffix u [41] = true := (suf_last u).2 hs
        have e3 : Lib.trimSuffix u [41] = u.dropLast := by
          unfold Lib.trimSuffix
          rw [if_pos h2, List.dropLast_eq_take]
          rfl
        rw [h2, e3]
        by_cases hd : digs u.dropLast = true
        · have e4 := (digs_run u.dropLast).2 hd
          have e5 := run_digs hd
          rw [e4, e5]
          by_cases hn : u.dropLast = []
          · rw [hn]
            simp
          · rw [if_pos ⟨trivial, hs, hn, hd⟩, if_neg]
            simp [hn]
        · have e4 : (runL u.dropLast).2 ≠ [] := fun e => hd ((digs_run _).1 e)
          rw [if_neg (fun h => hd h.2.2.2), if_pos]
          simp [e4]
      · have h2 : Lib.hasSuffix u [41] = false := by
          cases hh : Lib.hasSuffix u [41] with
          | false => rfl
          | true => exact absurd ((suf_last u).1 hh) hs
        rw [h2, if_neg (fun h => hs h.2.1)]
        rfl
    · have e1 : ((40 : UInt8) == c) = false := by simp; exact fun e => hc e.symm
      rw [e1, if_neg (fun h => hc h.1)]
      rfl
theorem isEmpty_of {s : ByteArray} {l : List UInt8} (h : s.data.toList = l) : s.toList.isEmpty = l.isEmpty := by
  rw [Lib.toList_data, h]
theorem enc_len (r : Int) : (Lib.encodeRune r).length ≤ 4 := by
  unfold Lib.encodeRune Lib.encodeRuneZ
  rw [List.length_map]
  split
  · simp
  · split
    · simp
    · split
      · simp
      · split <;> simp
theorem map_len (n : Nat) : ∀ l : List UInt8, l.length ≤ n → (Lib.mapD lowF l).length ≤ 4 * l.length := by
  induction n with
  | zero =>
    intro l hl
    cases l with
    | nil => exact Nat.le_refl _
    | cons c t => simp at hl
  | succ n ih =>
    intro l hl
    cases l with
    | nil => exact Nat.zero_le _
    | cons c t =>
      rw [Lib.mapD_step _ _ (by simp), List.length_append]
      have h1 := Lib.decodeL_width (c :: t)
      have h2 : ((c :: t).drop (Lib.decodeL (c :: t)).2).length ≤ t.length := by simp; omega
      have h3 := ih ((c :: t).drop (Lib.decodeL (c :: t)).2) (by simp at hl; omega)
      have h4 : (if 0 ≤ lowF (Lib.decodeL (c :: t)).1 then Lib.encodeRune (lowF (Lib.decodeL (c :: t)).1) else []).length ≤ 4 := by
        split
        · exact enc_len _
        · simp
      simp only [List.length_cons]
      omega
end Go.Proofs.YtpodpdopgdkdkaaGreatDoor
namespace Go.Proofs.YtpodpdopgdkdkaaGreatDoor
open Go.RowKit
theorem decFrom_digs : ∀ (l : List UInt8) (a : Nat), digs l = true → Lib.decFrom a l = some (dvalFrom a l)
  | [], _, _ => rfl
  | c :: t, a, h => by
    obtain ⟨h1, h2⟩ := digs_cons.1 h
    have hc := isDig_iff.1 h1
    have e : Lib.digitVal c = some (c.toNat - 48) := by unfold Lib.digitVal; rw [if_pos hc]
    unfold Lib.decFrom
    rw [e]
    simp only []
    rw [decFrom_digs t _ h2]
    show some (dvalFrom (a * 10 + (c.toNat - 48)) t) = some (dvalFrom (10 * a + (c.toNat - 48)) t)
    rw [Nat.mul_comm]
theorem atoi_digs {d : List UInt8} (h : digs d = true) : Lib.atoi (48 :: d) = some (dval d : Int) := by
  have h1 : digs (48 :: d) = true := digs_cons.2 ⟨by decide, h⟩
  have e : Lib.atoi (48 :: d) = (Lib.decNat (48 :: d)).map fun (m : Nat) => (m : Int) := rfl
  rw [e]
  unfold Lib.decNat
  rw [if_neg (by simp), decFrom_digs _ _ h1]
  have := dval_noughts 1 d
  simp only [List.replicate_one, List.singleton_append] at this
  rw [← this]
  rfl
theorem bare_split (l : List UInt8) : ∃ k, l = List.replicate k 48 ++ bareL l := by
  induction l with
  | nil => exact ⟨0, rfl⟩
  | cons c t ih =>
    by_cases h : c = 48
    · subst h
      obtain ⟨k, hk⟩ := ih
      refine ⟨k + 1, ?_⟩
      have e : bareL (48 :: t) = bareL t := by unfold bareL; rw [List.dropWhile_cons, if_pos (by rfl)]
      rw [e, List.replicate_succ, List.cons_append, ← hk]
    · refine ⟨0, ?_⟩
      have e : bareL (c :: t) = c :: t := bare_same (by simpa using h)
      rw [e]
      rfl
theorem dval_bare (l : List UInt8) : dval (bareL l) = dval l := by
  obtain ⟨k, hk⟩ := bare_split l
  conv => rhs; rw [hk]
  rw [dval_noughts]
theorem dval_ge {c : UInt8} {t : List UInt8} (h : isDig c = true) (h0 : c ≠ 48) : 10 ^ t.length ≤ dval (c :: t) := by
  have e : dval (c :: t) = dval [c] * 10 ^ t.length + dval t := by
    have := dval_append [c] t
    simpa using this
  have h1 : 1 ≤ dval [c] := by
    have hc := isDig_iff.1 h
    have : c.toNat ≠ 48 := fun e => h0 (UInt8.toNat_inj.1 e)
    show 1 ≤ 10 * 0 + (c.toNat - 48)
    omega
  rw [e]
  have := Nat.mul_le_mul_right (10 ^ t.length) h1
  omega
/-- Twelve digits or more, the first no nought, are too many. -/
theorem clip_long {l : List UInt8} (h : digs l = true) (hl : 12 ≤ (bareL l).length) : clipE l = 2000000000 := by
  have h1 := dval_bare l
  have hd := bare_digs h
  have hh := bare_head l
  cases e : bareL l with
  | nil => rw [e] at hl; simp at hl
  | cons c t =>
    rw [e] at hl h1 hd hh
    have := dval_ge (t := t) (digs_cons.1 hd).1 (by simpa using hh)
    have h2 : 10 ^ 11 ≤ 10 ^ t.length := Nat.pow_le_pow_right (by decide) (by simp at hl; omega)
    have h3 : (10 : Nat) ^ 11 = 100000000000 := by decide
    unfold clipE
    rw [if_neg (by omega)]
theorem below_bytesG (w : World) (e : TypeId) (s : ByteArray) : Below w.heap.size w (Lib.bytesWorld w e s) := Lib.bytesWorld_below w e s
def expV (o : Option Int) : Value := .tuple #[.int .i64 (o.getD 0), .bool o.isSome]
end Go.Proofs.YtpodpdopgdkdkaaGreatDoor
namespace Go.Proofs.YtpodpdopgdkdkaaGreatDoor
open Go.RowKit
theorem str_size {t : ByteArray} {l : List UInt8} (h : t.data.toList = l) : t.size = l.length := by rw [← h]; simp
theorem sign_len (l : List UInt8) : (signL l).2.length ≤ l.length := by
  unfold signL
  split
  · simp
  · split
    · simp
    · split
      · simp
      · exact Nat.le_refl _
theorem partsV_one (p : PartsL) : (partsV p).all (·.oneCell') = true := by simp [partsV, sv, Value.oneCell']
end Go.Proofs.YtpodpdopgdkdkaaGreatDoor
namespace Go.Proofs.YtpodpdopgdkdkaaGreatDoor
open Go.RowKit
theorem dot_pure (r : List UInt8) : (Lib.hasPrefix r [46] = true → dotL r = runL (Lib.trimPrefix r [46])) ∧ (Lib.hasPrefix r [46] = false → dotL r = ([], r)) := by
  cases r with
  | nil => exact ⟨fun h => (by cases h), fun _ => rfl⟩
  | cons c u =>
    rw [pre_one, trim_one]
    by_cases hc : c = 46
    · subst hc
      exact ⟨fun _ => rfl, fun h => by cases h⟩
    · refine ⟨fun h => absurd (by simpa using h : 46 = c).symm hc, fun _ => ?_⟩
      unfold dotL
      simp only [if_neg hc]
theorem clamp_minmax (x : Int) : clampE x = min (max x (-1000000000)) 1000000000 := by
  unfold clampE
  split
  · omega
  · split <;> omega
theorem exp_in {l : List UInt8} {e : Int} (h : expL l = some e) : -2000000000 ≤ e ∧ e ≤ 2000000000 := by
  have hc : ∀ l, 0 ≤ clipE l ∧ clipE l ≤ 2000000000 := fun l => by unfold clipE; split <;> omega
  unfold expL at h
  split at h
  · cases h
  · simp only [Option.some.injEq] at h
    have := hc (signL l).2
    split at h <;> omega
theorem tail_in {l : List UInt8} {e : Int} (h : tailL l = some e) : -2000000000 ≤ e ∧ e ≤ 2000000000 := by
  unfold tailL at h
  split at h
  · cases h; decide
  · split at h
    · exact exp_in h
    · cases h
theorem run_len (l : List UInt8) : (runL l).1.length ≤ l.length ∧ (runL l).2.length ≤ l.length := by
  have : (runL l).1 ++ (runL l).2 = l := List.takeWhile_append_dropWhile
  have := congrArg List.length this
  rw [List.length_append] at this
  omega
def cutV (r : PartsL × Int) : Value := .tuple #[.agg (partsV r.1), .int .i64 r.2]
end Go.Proofs.YtpodpdopgdkdkaaGreatDoor
namespace Go.Proofs.YtpodpdopgdkdkaaGreatDoor
open Go.RowKit
/-- The bytes l lie in block g from its begin. -/
structure BRow (W : World) (g : Nat) (l : List UInt8) : Prop where
  cell : ∀ j (hj : j < l.length), W.cell? ⟨g, j, none⟩ = some (.int .u8 (l[j].toNat : Int))
  free : ∀ j, j < l.length → W.frozen? ⟨g, j, none⟩ = false
theorem brow_new (w : World) (e : TypeId) (s : ByteArray) : BRow (Lib.bytesWorld w e s) w.heap.size s.data.toList := by
  have hs : s.size = s.data.toList.length := by simp
  constructor
  · intro j hj
    rw [Lib.bytesWorld_cell w e s j (by omega)]
    simp [List.getD_eq_getElem?_getD, List.getElem?_eq_getElem hj]
  · intro j hj
    have h1 : s.size ≤ (Lib.bytesCells w e s).size := by unfold Lib.bytesCells; simp
    simp only [World.frozen?, Lib.bytesWorld_at_new]
    simp
    omega
theorem cell_set_other (W : World) (g i j : Nat) (v : Value) (h : j ≠ i) : (W.setCell ⟨g, i, none⟩ v).cell? ⟨g, j, none⟩ = W.cell? ⟨g, j, none⟩ :=
  World.cell?_setCell_other W ⟨g, i, none⟩ ⟨g, j, none⟩ v (by first | (simp; done) | (simp; omega))
theorem BRow.set {W : World} {g : Nat} {l : List UInt8} (h : BRow W g l) (i : Nat) (hi : i < l.length) (c : UInt8) (z : Int) (hz : z = (c.toNat : Int)) : BRow (W.setCell ⟨g, i, none⟩ (.int .u8 z)) g (l.set i c) := by
  subst hz
  constructor
  · intro j hj
    rw [List.length_set] at hj
    by_cases e : i = j
    · subst e
      rw [World.cell?_setCell_same W ⟨g, i, none⟩ _ (h.cell i hi)]
      simp
    · rw [cell_set_other W g i j _ (fun e' => e e'.symm), h.cell j hj, List.getElem_set_ne e]
  · intro j hj
    rw [List.length_set] at hj
    rw [World.frozen?_setCell]
    exact h.free j hj
theorem take_snocG' (s : ByteArray) (k : Nat) (h : k < s.size) : s.data.toList.take (k + 1) = s.data.toList.take k ++ [s[k]] := by
  rw [List.take_succ_eq_append_getElem (by simpa using h)]; rfl
theorem digs_noG {l : List UInt8} {k : Nat} {c : UInt8} (hc : l.take (k + 1) = l.take k ++ [c]) (h : isDig c = false) : digs l = false := by
  rcases hd : digs l with _ | _
  · rfl
  · have h1 := digs_take hd (k + 1)
    rw [hc] at h1
    have h2 := (digs_append.1 h1).2
    have h3 := (digs_cons.1 h2).1
    rw [h] at h3
    cases h3
set_option maxRecDepth 10000 in
set_option maxHeartbeats 1000000 in
theorem isDigitsG_calls (s : ByteArray) (w : World) (hs : s.size ≤ 140737488351232) :
    Calls Tryz.prog 39 #[.string s] w fun e w' => e = .returned (.bool (decide (0 < s.size) && digs s.data.toList)) ∧ w' = w := by
  go_enter Tryz.func39, Tryz.ntmps39
  go_wp2
  go_loop [3] (fun i => ∃ k : Nat, k ≤ s.size ∧ i = .int .i64 k ∧ digs (s.data.toList.take k) = true) (fun i => s.size - (intOf i).toNat)
  case atStart => exact ⟨0, Nat.zero_le _, rfl, rfl⟩
  case round =>
    obtain ⟨k, hk, rfl, hd⟩ := hrel
    have HD := Lib.hid hd
    clear hd
    by_cases hlt : k < s.size
    · have HTS := Lib.hid (take_snocG' s k hlt)
      rcases hc : isDig s[k] with _ | _
      · have HN := Lib.hid (digs_noG HTS.out hc)
        have hc2 : ¬ (48 ≤ s[k].toNat ∧ s[k].toNat ≤ 57) := fun h => by rw [isDig_iff.2 h] at hc; cases hc
        have HF : Hid ((decide (0 < s.size) && digs s.data.toList) = false) := Lib.hid (by rw [HN.out, Bool.and_false])
        by_cases h1 : s[k].toNat < 48
        · clear hc hc2
          have h1i : (s[k].toNat : Int) < 48 := by omega
          go_wp2
          go_ret
          exact ⟨by rw [HF.out]; rfl, rfl⟩
        · have h2i : (57 : Int) < (s[k].toNat : Int) := by omega
          have h1i : ¬ (s[k].toNat : Int) < 48 := by omega
          clear hc hc2 h1
          go_wp2
          go_ret
          exact ⟨by rw [HF.out]; rfl, rfl⟩
      · obtain ⟨h1, h2⟩ := isDig_iff.1 hc
        have HC := Lib.hid hc
        clear hc
        go_wp2
        go_round
        case rel => exact ⟨k + 1, by omega, by go_num, by rw [HTS.out]; exact digs_append.2 ⟨HD.out, digs_cons.2 ⟨HC.out, rfl⟩⟩⟩
        case measure => simp [intOf]; omega
    · have hke : s.size = k := by omega
      have HF : Hid (digs s.data.toList = true) := Lib.hid (by have := HD.out; rw [← hke, List.take_of_length_le (by simp)] at this; exact this)
      clear hke
      go_wp2
      go_ret
      exact ⟨by rw [HF.out, Bool.and_true]; congr 2, rfl⟩
end Go.Proofs.YtpodpdopgdkdkaaGreatDoor
