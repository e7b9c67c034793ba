/- strings.Map with the closure that makes letters small: what it tells of a word (plain law). -/
import Derived.Test.YtiocdgehpiagjaaDoorGrCase
import Derived.Lib.MapLaws
import Derived.Lib.TrimAscii
namespace Go.Proofs.YtiocdgehpiagjaaDoor
open Go.Lib (mapD mapD_step mapD_nil decodeL encodeRune encodeRuneZ decodeN_shape decodeL_N decodeL_ascii decodeL_width)
def lowF (r : Int) : Int := if 65 ≤ r ∧ r ≤ 90 then r + 32 else r
def ascii (l : List UInt8) : Bool := l.all fun c => decide (c.toNat < 128)
theorem enc_low (c : UInt8) (h : c.toNat < 128) : encodeRune (lowF (c.toNat : Int)) = [lowC c] := by
  have e : lowF (c.toNat : Int) = ((lowC c).toNat : Int) := by
    rw [low_toNat]
    unfold lowF
    split <;> split <;> omega
  have hl : (lowC c).toNat < 128 := by
    rw [low_toNat]
    split <;> omega
  rw [e]
  unfold encodeRune
  rw [Go.Lib.encodeRuneZ_one (by omega) (by omega)]
  simp
theorem map_ascii (l : List UInt8) (h : ascii l = true) : mapD lowF l = l.map lowC := by
  induction l with
  | nil => rfl
  | cons c t ih =>
    have h2 : c.toNat < 128 ∧ ascii t = true := by simpa [ascii] using h
    rw [mapD_step _ _ (by simp), decodeL_ascii c t h2.1]
    have h0 : 0 ≤ lowF ((c.toNat : Nat) : Int) := by unfold lowF; split <;> omega
    rw [if_pos h0, enc_low c h2.1]
    simp only [List.drop_succ_cons, List.drop_zero, List.map_cons, List.singleton_append]
    rw [ih h2.2]
theorem decode_wide (c : UInt8) (t : List UInt8) (h : 128 ≤ c.toNat) : 128 ≤ (decodeL (c :: t)).1 := by
  rw [decodeL_N]
  have e : ((c :: t).getD 0 0).toNat = c.toNat := by simp
  rcases decodeN_shape (c :: t).length ((c :: t).getD 0 0).toNat ((c :: t).getD 1 0).toNat ((c :: t).getD 2 0).toNat ((c :: t).getD 3 0).toNat with ⟨a, _⟩ | ⟨_, _, _, a, e2⟩ | ⟨_, _, _, _, a, _, e2⟩ | ⟨_, _, _, _, _, a, _, e2⟩ | e2
  · omega
  · rw [e2]; omega
  · rw [e2]; omega
  · rw [e2]; omega
  · rw [e2]; omega
theorem enc_wide (r : Int) (h0 : 128 ≤ r) (h1 : r ≤ 1114111) : ascii (encodeRune r) = false := by
  unfold encodeRune
  have big : ∀ x : Int, 128 ≤ x → x ≤ 255 → decide (x.toNat.toUInt8.toNat < 128) = false := fun x a b => by
    have : x.toNat % 256 = x.toNat := Nat.mod_eq_of_lt (by omega)
    simp [this]
    omega
  unfold encodeRuneZ
  rw [if_neg (by omega)]
  split
  · simp only [List.map_cons, ascii, List.all_cons, big (192 + r / 64) (by omega) (by omega), Bool.false_and]
  · split
    · simp only [List.map_cons, ascii, List.all_cons, big (224 + r / 4096) (by omega) (by omega), Bool.false_and]
    · split
      · simp only [List.map_cons, ascii, List.all_cons, big (240 + r / 262144) (by omega) (by omega), Bool.false_and]
      · rfl
theorem ascii_app (a b : List UInt8) : ascii (a ++ b) = (ascii a && ascii b) := by unfold ascii; rw [List.all_append]
theorem map_wide (n : Nat) : ∀ l : List UInt8, l.length ≤ n → ascii l = false → ascii (mapD lowF l) = false := by
  induction n with
  | zero =>
    intro l hl h
    cases l with
    | nil => cases h
    | cons c t => simp at hl
  | succ n ih =>
    intro l hl h
    cases l with
    | nil => cases h
    | cons c t =>
      rw [mapD_step _ _ (by simp), ascii_app]
      by_cases hc : c.toNat < 128
      · have ht : ascii t = false := by
          have : (decide (c.toNat < 128) && ascii t) = false := h
          rw [decide_eq_true hc, Bool.true_and] at this
          exact this
        rw [decodeL_ascii c t hc]
        simp only [List.drop_succ_cons, List.drop_zero]
        rw [ih t (by simp at hl; omega) ht, Bool.and_false]
      · have hw := decode_wide c t (by omega)
        have hr := Go.Lib.decodeL_rune (c :: t)
        have e : lowF ((decodeL (c :: t)).1 : Int) = (decodeL (c :: t)).1 := by
          unfold lowF
          rw [if_neg (by omega)]
        rw [e, if_pos (by omega), enc_wide _ (by omega) (by omega), Bool.false_and]
theorem digs_ascii {l : List UInt8} (h : digs l = true) : ascii l = true := List.all_eq_true.2 fun c hc => by
  have := digs_mem h hc
  simp
  omega
theorem paren_ascii {q d : List UInt8} (h : parenL q = some d) : ascii q = true := by
  unfold parenL at h
  split at h
  · rfl
  · rename_i c t
    split at h
    · rename_i hh
      obtain ⟨h1, h2, h3, h4⟩ := hh
      have e : t = t.dropLast ++ [41] := by
        have hne : t ≠ [] := fun e => by subst e; simp at h2
        have := List.dropLast_concat_getLast hne
        rw [List.getLast?_eq_some_getLast hne, Option.some.injEq] at h2
        rw [h2] at this
        exact this.symm
      have : ascii t = true := by rw [e, ascii_app, digs_ascii h4]; rfl
      subst h1
      simp [ascii] at this ⊢
      exact this
    · cases h
theorem nan_ascii {sig : Bool} {s : List UInt8} {p : PartsL} (h : nanL sig s = some p) : ascii s = true := by
  unfold nanL at h
  split at h
  · rename_i h3
    split at h
    · rename_i d hd
      rw [← List.take_append_drop 3 s, h3, ascii_app, paren_ascii hd]
      rfl
    · cases h
  · cases h
theorem lowWord_ascii {s : List UInt8} {p : PartsL} (h : lowWordL s = some p) : ascii s = true := by
  unfold lowWordL at h
  split at h
  · rename_i hh
    rcases hh with rfl | rfl <;> rfl
  · split at h
    · cases h
    · split at h
      · rename_i c t hc
        have := nan_ascii h
        subst hc
        simp [ascii] at this ⊢
        exact this
      · exact nan_ascii h
theorem ascii_low (l : List UInt8) (h : ascii l = false) : ascii (l.map lowC) = false := by
  have : ∀ l : List UInt8, ascii (l.map lowC) = ascii l := fun l => by
    unfold ascii
    rw [List.all_map]
    congr 1
    funext c
    simp only [Function.comp]
    rw [decide_eq_decide, low_toNat]
    split <;> omega
  rw [this, h]
/-- strings.Map's text says the same word. -/
theorem word_map (l : List UInt8) : lowWordL (mapD lowF l) = wordL l := by
  by_cases h : ascii l = true
  · rw [map_ascii l h]; rfl
  · have h' : ascii l = false := by simpa using h
    have e1 : lowWordL (mapD lowF l) = none := by
      cases hh : lowWordL (mapD lowF l) with
      | none => rfl
      | some p =>
        have := lowWord_ascii hh
        rw [map_wide _ l (Nat.le_refl _) h'] at this
        cases this
    have e2 : wordL l = none := by
      cases hh : wordL l with
      | none => rfl
      | some p =>
        have := lowWord_ascii hh
        rw [ascii_low l h'] at this
        cases this
    rw [e1, e2]
end Go.Proofs.YtiocdgehpiagjaaDoor
