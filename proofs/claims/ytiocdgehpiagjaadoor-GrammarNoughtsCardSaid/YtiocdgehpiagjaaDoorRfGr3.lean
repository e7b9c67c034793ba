/- The reference's Exponent. -/
import Derived.Test.YtiocdgehpiagjaaDoorRfGr2
namespace Go.Proofs.YtiocdgehpiagjaaDoor
open Go.RowKit
def ten2 : List UInt8 := [50, 48, 48, 48, 48, 48, 48, 48, 48, 48]
theorem dval_cons (c : UInt8) (t : List UInt8) : dval (c :: t) = (c.toNat - 48) * 10 ^ t.length + dval t := by
  have h := dval_append [c] t
  have e : dval [c] = c.toNat - 48 := by show 10 * 0 + (c.toNat - 48) = _; omega
  rw [e] at h
  exact h
/-- Digits of one length: less as texts, less as numbers. -/
theorem less_digs : ∀ (a b : List UInt8), digs a = true → digs b = true → a.length = b.length → Op.bytesLess a b = decide (dval a < dval b)
  | [], [], _, _, _ => by simp [Op.bytesLess, dval, dvalFrom]
  | [], _ :: _, _, _, h => by simp at h
  | _ :: _, [], _, _, h => by simp at h
  | c :: t, e :: u, ha, hb, h => by
    obtain ⟨h1, h2⟩ := digs_cons.1 ha
    obtain ⟨k1, k2⟩ := digs_cons.1 hb
    have hl : t.length = u.length := by simpa using h
    have ih := less_digs t u h2 k2 hl
    have a1 := isDig_iff.1 h1
    have a2 := isDig_iff.1 k1
    have b1 := dval_lt h2
    have b2 := dval_lt k2
    rw [dval_cons, dval_cons, hl]
    rw [hl] at b1
    unfold Op.bytesLess
    generalize 10 ^ u.length = P at b1 b2 ⊢
    by_cases hlt : c.toNat < e.toNat
    · have e1 : c.toNat - 48 + 1 ≤ e.toNat - 48 := by omega
      have := Nat.mul_le_mul_right P e1
      rw [Nat.add_mul, Nat.one_mul] at this
      have e2 : c < e := hlt
      have e4 : (c.toNat - 48) * P + dval t < (e.toNat - 48) * P + dval u := by omega
      rw [decide_eq_true e4]
      simp [e2]
    · by_cases heq : c = e
      · subst heq
        have e2 : ¬ c < c := fun h => Nat.lt_irrefl _ h
        simp [e2, ih]
      · have hgt : e.toNat < c.toNat := by
          have : c.toNat ≠ e.toNat := fun h => heq (UInt8.toNat_inj.1 h)
          omega
        have e1 : e.toNat - 48 + 1 ≤ c.toNat - 48 := by omega
        have := Nat.mul_le_mul_right P e1
        rw [Nat.add_mul, Nat.one_mul] at this
        have e2 : ¬ c < e := hlt
        have e3 : e < c := hgt
        have e4 : ¬ (c.toNat - 48) * P + dval t < (e.toNat - 48) * P + dval u := by omega
        rw [decide_eq_false e4]
        simp [e2, heq]
/-- Ten digits, the first no nought. -/
theorem less_ten {d : List UInt8} (hd : digs d = true) (h0 : d.head? ≠ some 48) (hl : d.length = 10) :
    (Op.bytesLess d ten2 = true ∧ dval d < 2000000000 ∧ ∃ c u, d = 49 :: c :: u ∧ dval d = 1000000000 + (c.toNat - 48) * 100000000 + dval u ∧ u.length = 8 ∧ digs u = true ∧ 48 ≤ c.toNat ∧ c.toNat ≤ 57) ∨ (Op.bytesLess d ten2 = false ∧ 2000000000 ≤ dval d) := by
  have ht : dval ten2 = 2000000000 := by decide
  have h := less_digs d ten2 hd (by decide) (by rw [hl]; rfl)
  rw [ht] at h
  by_cases hv : dval d < 2000000000
  · left
    rw [decide_eq_true hv] at h
    refine ⟨h, hv, ?_⟩
    match d, hl with
    | a :: c :: u, hl =>
      have hlu : u.length = 8 := by simpa using hl
      obtain ⟨d1, d2⟩ := digs_cons.1 hd
      obtain ⟨d3, d4⟩ := digs_cons.1 d2
      have a1 := isDig_iff.1 d1
      have a3 := isDig_iff.1 d3
      have e1 := dval_cons a (c :: u)
      have e2 := dval_cons c u
      rw [List.length_cons, hlu] at e1
      rw [hlu] at e2
      have hne : a.toNat ≠ 48 := fun e => h0 (by simp; exact UInt8.toNat_inj.1 e)
      have ha : a.toNat = 49 := by
        by_cases hb : 50 ≤ a.toNat
        · have : 2 ≤ a.toNat - 48 := by omega
          have := Nat.mul_le_mul_right (10 ^ (8 + 1)) this
          omega
        · omega
      have : a = 49 := UInt8.toNat_inj.1 ha
      subst this
      refine ⟨c, u, rfl, ?_, hlu, d4, a3.1, a3.2⟩
      rw [e1, e2]
      show (49 - 48) * 10 ^ 9 + _ = _
      omega
  · right
    rw [decide_eq_false hv] at h
    exact ⟨h, by omega⟩
theorem is_digs (t : ByteArray) (l : List UInt8) (h : t.data.toList = l) (hm : l.length ≤ 140737488351232) (w : World) :
    Calls Tryd.prog 37 #[.string t] w fun e w' => e = .returned (.bool (!l.isEmpty && digs l)) ∧ w' = w := by
  have hs := str_size h
  have := isDigits_calls t w (by omega)
  rw [h] at this
  have e : decide (0 < t.size) = !l.isEmpty := by
    rw [hs]
    cases l with
    | nil => rfl
    | cons c u => simp
  rw [e] at this
  exact this
set_option maxRecDepth 10000 in
set_option maxHeartbeats 2000000 in
theorem refExp_bad (t : ByteArray) (l : List UInt8) (h : t.data.toList = l) (hl : l.length ≤ 4000) (w : World) (hb : (signL l).2 = [] ∨ digs (signL l).2 = false) :
    Calls Tryd.prog 25 #[.string t] w fun e w' => e = .returned (.tuple #[.int .i64 0, .bool false]) ∧ Below w.heap.size w w' := by
  have K1 := Lib.hid (refSign_calls t l h (by omega) w)
  have hsl := sign_len l
  generalize (signL l).1 = neg at K1
  generalize (signL l).2 = r at K1 hb hsl
  have K2 := fun w => is_digs (⟨r.toArray⟩ : ByteArray) r rfl (by omega) w
  have e : (!r.isEmpty && digs r) = false := by
    rcases hb with rfl | hb
    · rfl
    · rw [hb, Bool.and_false]
  rw [e] at K2
  have K2' := Lib.hid K2
  clear K2 e hb h hsl hl
  go_enter Tryd.func25, Tryd.ntmps25
  go_wp2_with fail
  refine K1.out.mono ?_
  rintro e w1 ⟨rfl, hb⟩
  have HB := Lib.hid hb
  clear hb
  go_wp2_with fail
  refine (K2'.out _).mono ?_
  rintro e w2 ⟨rfl, rfl⟩
  go_wp2
  go_ret2
  exact ⟨rfl, HB.out⟩
/-- What the exponent's digits come to, in the three ways that the reference goes. -/
theorem exp_ways {r : List UInt8} (hd : digs r = true) {n : Int} (hn : clipE r = n) :
    ((bareL r).length ≤ 9 ∧ n = (dval (bareL r) : Int)) ∨
    ((bareL r).length = 10 ∧ Op.bytesLess (bareL r) ten2 = true ∧ ∃ c u, bareL r = 49 :: c :: u ∧ n = 1000000000 + ((c.toNat : Int) - 48) * 100000000 + (dval u : Int) ∧ u.length = 8 ∧ digs u = true ∧ 48 ≤ c.toNat ∧ c.toNat ≤ 57) ∨
    ((bareL r).length = 10 ∧ Op.bytesLess (bareL r) ten2 = false ∧ n = 2000000000) ∨ (10 < (bareL r).length ∧ n = 2000000000) := by
  have hb := bare_digs hd
  have hv := dval_bare r
  unfold clipE at hn
  by_cases h9 : (bareL r).length ≤ 9
  · left
    have := dval_lt hb
    have h2 : 10 ^ (bareL r).length ≤ 10 ^ 9 := Nat.pow_le_pow_right (by decide) h9
    have h3 : (10 : Nat) ^ 9 = 1000000000 := by decide
    rw [if_pos (by omega)] at hn
    exact ⟨h9, by omega⟩
  · right
    by_cases h10 : (bareL r).length = 10
    · rcases less_ten hb (bare_head r) h10 with ⟨h1, h2, c, u, h3, h4, h5, h6, h7, h8⟩ | ⟨h1, h2⟩
      · left
        rw [if_pos (by omega)] at hn
        exact ⟨h10, h1, c, u, h3, by omega, h5, h6, h7, h8⟩
      · right; left
        refine ⟨h10, h1, ?_⟩
        split at hn <;> omega
    · right; right
      refine ⟨by omega, ?_⟩
      have : 10 ^ 10 ≤ dval (bareL r) := by
        have hh := bare_head r
        cases e : bareL r with
        | nil => rw [e] at h9; simp at h9
        | cons c u =>
          rw [e] at hb hh h9 h10
          have g := dval_ge (t := u) (digs_cons.1 hb).1 (by simpa using hh)
          have g2 : 10 ^ 10 ≤ 10 ^ u.length := Nat.pow_le_pow_right (by decide) (by simp at h9 h10; omega)
          omega
      have h3 : (10 : Nat) ^ 10 = 10000000000 := by decide
      rw [if_neg (by omega)] at hn
      exact hn.symm
end Go.Proofs.YtiocdgehpiagjaaDoor
