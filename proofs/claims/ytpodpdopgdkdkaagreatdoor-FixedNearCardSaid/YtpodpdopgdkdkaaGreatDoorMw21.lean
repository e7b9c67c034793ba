/- caliperref05.Unpack where there is no such pattern. No conditions. · Both Unpacks tell the same. No conditions. · Digits without the noughts at their end: what fixed.Exact and the document's Exact both tell. Plain laws. No conditions. · What fixed.Exact and the document's Exact tell. No conditions. · The contracts of nat.Div and the reference's Div; NatDivs: the walk over the law. · NatDivs: the walk over the law. · The contracts of nat.Power and the reference's Power; NatPowers: the walk over the law. -/
import Derived.Test.YtpodpdopgdkdkaaGreatDoorMw20
import Derived.Test.YtpodpdopgdkdkaaGreatDoorMw18
import Derived.Test.YtpodpdopgdkdkaaGreatDoorMw19
set_option linter.unusedVariables false
set_option linter.unusedSimpArgs false
namespace Go.Proofs.YtpodpdopgdkdkaaGreatDoor
set_option linter.unusedVariables false
set_option linter.unusedSimpArgs false
open Go.RowKit
set_option maxRecDepth 100000 in
set_option maxHeartbeats 2000000 in
theorem runpack_bad (n : Int) (b0 b1 b2 b3 : Nat) (w : World)
    (hgood : ∀ w, Calls Tryz.prog 83 #[.int .i64 n, bitsV b0 b1 b2 b3] w fun e w' => e = .returned (.bool false) ∧ Below w.heap.size w w') :
    Calls Tryz.prog 32 #[.int .i64 n, bitsV b0 b1 b2 b3] w fun e w' => e = .returned (.tuple #[.agg #[.int .i64 0, .bool false, .bool false, .int .i64 0, .int .u64 0, .int .u64 0, .int .u64 0, .int .u64 0], .int .i64 1]) ∧ Below w.heap.size w w' := by
  unfold bitsV at *
  have HO := Lib.hid hgood
  clear hgood
  go_enter Tryz.func32, Tryz.ntmps32
  go_wp2_with fail
  have HB0 := Lib.hid (below_alloc (below_alloc (Below.refl w.heap.size w) (.cells #[.int .u64 (b0 : Nat), .int .u64 (b1 : Nat), .int .u64 (b2 : Nat), .int .u64 (b3 : Nat)] 24)) (.cells #[.int .i64 0, .bool false, .bool false, .int .i64 0, .int .u64 0, .int .u64 0, .int .u64 0, .int .u64 0] 31))
  have HP0 : Hid ((w.alloc (.cells #[.int .u64 (b0 : Nat), .int .u64 (b1 : Nat), .int .u64 (b2 : Nat), .int .u64 (b3 : Nat)] 24)).heap[w.heap.size]? = _) := Lib.hid (heap_new w (.cells #[.int .u64 (b0 : Nat), .int .u64 (b1 : Nat), .int .u64 (b2 : Nat), .int .u64 (b3 : Nat)] 24))
  have HS0 : (w.alloc (.cells #[.int .u64 (b0 : Nat), .int .u64 (b1 : Nat), .int .u64 (b2 : Nat), .int .u64 (b3 : Nat)] 24)).heap.size = w.heap.size + 1 := by simp
  generalize (w.alloc (.cells #[.int .u64 (b0 : Nat), .int .u64 (b1 : Nat), .int .u64 (b2 : Nat), .int .u64 (b3 : Nat)] 24)) = v0 at HB0 HP0 HS0 ⊢
  have HR0 := heap_new v0 (.cells #[.int .i64 0, .bool false, .bool false, .int .i64 0, .int .u64 0, .int .u64 0, .int .u64 0, .int .u64 0] 31)
  have HP1 := Lib.hid ((heap_keep v0 (.cells #[.int .i64 0, .bool false, .bool false, .int .i64 0, .int .u64 0, .int .u64 0, .int .u64 0, .int .u64 0] 31) (lt_of_heap HP0.out)).trans HP0.out)
  rw [HS0] at HR0
  generalize (v0.alloc (.cells #[.int .i64 0, .bool false, .bool false, .int .i64 0, .int .u64 0, .int .u64 0, .int .u64 0, .int .u64 0] 31)) = v1 at HB0 HR0 HP1 ⊢
  refine (HO.out _).mono ?_
  rintro e w1 ⟨rfl, hb1⟩
  have HB1 := Lib.hid (below_then HB0.out hb1)
  have HR2 := Lib.hid (below_heap hb1 HR0)
  clear hb1 HB0 HP1 HR0 HP0 HS0 HO
  go_wp2_with (first | ((with_reducible refine gate_store 31 ?_); go_must (refine st_row 31 (w.heap.size + 1) 31 HR2.out (n := 8) (by kernel_rfl) ?_ (hn := rfl) (h1 := by simp [Value.oneCell']))) | fail)
  exact bodyPost_ret (results_ct rfl _ _ (w.heap.size + 1) 31 _ _ _ rfl (setRow_heap _ _ _ _ _ _ HR2.out) Tryz.underlying31 rfl (by kernel_rfl)) rfl ⟨rfl, below_setRow HB1.out (by omega) _⟩
end Go.Proofs.YtpodpdopgdkdkaaGreatDoor
namespace Go.Proofs.YtpodpdopgdkdkaaGreatDoor
set_option linter.unusedVariables false
set_option linter.unusedSimpArgs false
open Go.RowKit
/-- A format of base 2. -/
structure Inf6 (n : Int) (P X : Nat) (L : Int) : Prop where
  hL : -20000 ≤ L ∧ L ≤ 0
  hP : 2 ≤ P ∧ P ≤ 241
  hX : 1 ≤ X ∧ X ≤ 15
  hw : wdF n = ((P + X : Nat) : Int)
  hi : ∃ c s m y d, infF n = infV c s 2 ((P + X : Nat) : Int) (P : Nat) (X : Nat) L m y d
theorem inf6 (n : Int) (h1 : 1 ≤ n) (h2 : n ≤ 6) : ∃ P X L, Inf6 n P X L := by
  rcases (show n = 1 ∨ n = 2 ∨ n = 3 ∨ n = 4 ∨ n = 5 ∨ n = 6 by omega) with rfl | rfl | rfl | rfl | rfl | rfl
  · exact ⟨11, 5, -24, by decide, by decide, by decide, rfl, _, _, _, _, _, inf_lit1⟩
  · exact ⟨8, 8, -133, by decide, by decide, by decide, rfl, _, _, _, _, _, inf_lit2⟩
  · exact ⟨24, 8, -149, by decide, by decide, by decide, rfl, _, _, _, _, _, inf_lit3⟩
  · exact ⟨53, 11, -1074, by decide, by decide, by decide, rfl, _, _, _, _, _, inf_lit4⟩
  · exact ⟨113, 15, -16494, by decide, by decide, by decide, rfl, _, _, _, _, _, inf_lit5⟩
  · exact ⟨241, 15, -16622, by decide, by decide, by decide, rfl, _, _, _, _, _, inf_lit6⟩
def datum0 : Value := .agg #[.int .i64 0, .bool false, .bool false, .int .i64 0, .int .u64 0, .int .u64 0, .int .u64 0, .int .u64 0]
/-- What both Unpacks tell. -/
def UnpIs (n : Int) (b0 b1 b2 b3 : Nat) (w : World) (e : Ending) (w' : World) : Prop :=
  (∃ P X L, Inf6 n P X L ∧ (blen (val [b0, b1, b2, b3]) : Int) ≤ wdF n ∧ UnpRes (val [b0, b1, b2, b3]) P X L w e w') ∨
  (¬ (1 ≤ n ∧ n ≤ 6 ∧ (blen (val [b0, b1, b2, b3]) : Int) ≤ wdF n) ∧ e = .returned (.tuple #[datum0, .int .i64 1]) ∧ Below w.heap.size w w')
theorem fits6 {n : Int} (h1 : 1 ≤ n) (h2 : n ≤ 6) (b0 b1 b2 b3 : Nat) : fitsF n b0 b1 b2 b3 = decide ((blen (val [b0, b1, b2, b3]) : Int) ≤ wdF n) := by
  have : isF n = true := by simp [isF]; omega
  unfold fitsF
  rw [this, Bool.true_and]
theorem runpack_calls (n : Int) (b0 b1 b2 b3 : Nat) (hb : W64 [b0, b1, b2, b3]) (w : World) :
    Calls Tryz.prog 32 #[.int .i64 n, bitsV b0 b1 b2 b3] w (UnpIs n b0 b1 b2 b3 w) := by
  by_cases h : 1 ≤ n ∧ n ≤ 6 ∧ (blen (val [b0, b1, b2, b3]) : Int) ≤ wdF n
  · obtain ⟨h1, h2, h3⟩ := h
    obtain ⟨P, X, L, H⟩ := inf6 n h1 h2
    obtain ⟨c, s, m, y, d, hi⟩ := H.hi
    refine (runpack_fin n c L m y P X H.hL H.hP.1 H.hP.2 H.hX.1 H.hX.2 s d b0 b1 b2 b3 hb w (fun w => ?_) (fun w => ?_)).mono (fun e w' hr => .inl ⟨P, X, L, H, h3, hr⟩)
    · refine (good_calls5 n b0 b1 b2 b3 hb w).mono (fun e w' hr => ?_)
      rw [fits6 h1 h2, decide_eq_true h3, decide_eq_true (show 1 ≤ n ∧ n ≤ 6 from ⟨h1, h2⟩)] at hr
      exact hr
    · rw [← hi]; exact dOf_calls n w h1 (by omega)
  · refine (runpack_bad n b0 b1 b2 b3 w (fun w => ?_)).mono (fun e w' hr => .inr ⟨h, hr.1, hr.2⟩)
    refine (good_calls5 n b0 b1 b2 b3 hb w).mono (fun e w' hr => ?_)
    have hf : (decide (1 ≤ n ∧ n ≤ 6) && fitsF n b0 b1 b2 b3) = false := by
      by_cases h6 : 1 ≤ n ∧ n ≤ 6
      · rw [fits6 h6.1 h6.2, decide_eq_false (fun h3 => h ⟨h6.1, h6.2, h3⟩), Bool.and_false]
      · rw [decide_eq_false h6, Bool.false_and]
    rw [hf] at hr
    exact hr
theorem unpack_calls (n : Int) (b0 b1 b2 b3 : Nat) (hb : W64 [b0, b1, b2, b3]) (w : World) :
    Calls Tryz.prog 23 #[.int .i64 n, bitsV b0 b1 b2 b3] w (UnpIs n b0 b1 b2 b3 w) := by
  by_cases h6 : 1 ≤ n ∧ n ≤ 6
  · obtain ⟨h1, h2⟩ := h6
    obtain ⟨P, X, L, H⟩ := inf6 n h1 h2
    obtain ⟨c, s, m, y, d, hi⟩ := H.hi
    have hof : ∀ w, Calls Tryz.prog 104 #[.int .i64 n] w fun e w' => e = .returned (.tuple #[.agg (infV c s 2 ((P + X : Nat) : Int) (P : Nat) (X : Nat) L m y d), .int .i64 0]) ∧ Below w.heap.size w w' := fun w => by
      rw [← hi]; exact of_calls n w h1 (by omega)
    by_cases h3 : (blen (val [b0, b1, b2, b3]) : Int) ≤ wdF n
    · refine (unpack_fin n c L m y P X H.hL H.hP.1 H.hP.2 H.hX.1 H.hX.2 s d b0 b1 b2 b3 hb w (fun w => ?_)).mono (fun e w' hr => .inl ⟨P, X, L, H, h3, hr⟩)
      have hr := binary_base n c ((P + X : Nat) : Int) (P : Nat) (X : Nat) L m y s d b0 b1 b2 b3 hb w hof
      rw [decide_eq_true (by rw [← H.hw]; exact h3)] at hr
      exact hr
    · refine (unpack_bad n c L m y 2 ((P + X : Nat) : Int) (P : Nat) (X : Nat) s d b0 b1 b2 b3 w (fun w => ?_)).mono (fun e w' hr => .inr ⟨fun hh => h3 hh.2.2, hr.1, hr.2⟩)
      have hr := binary_base n c ((P + X : Nat) : Int) (P : Nat) (X : Nat) L m y s d b0 b1 b2 b3 hb w hof
      rw [decide_eq_false (by rw [← H.hw]; exact h3)] at hr
      exact hr
  · by_cases h12 : 1 ≤ n ∧ n ≤ 12
    · have hbs : bsF n = 10 := by unfold bsF; rw [if_neg (by omega)]
      refine (unpack_bad n n (loF n) (hiF n) (plF n) 10 (wdF n) (prF n) (exF n) (nmF n) (decide (10 ≤ n)) b0 b1 b2 b3 w (fun w => ?_)).mono (fun e w' hr => .inr ⟨fun hh => h6 ⟨hh.1, hh.2.1⟩, hr.1, hr.2⟩)
      refine binary_ten n n (wdF n) (prF n) (exF n) (loF n) (hiF n) (plF n) (nmF n) (decide (10 ≤ n)) b0 b1 b2 b3 hb w (fun w => ?_)
      have hr := of_calls n w h12.1 h12.2
      unfold infF at hr
      rw [hbs] at hr
      exact hr
    · refine (unpack_bad n 0 0 0 0 0 0 0 0 ⟨#[]⟩ false b0 b1 b2 b3 w (fun w => ?_)).mono (fun e w' hr => .inr ⟨fun hh => h6 ⟨hh.1, hh.2.1⟩, hr.1, hr.2⟩)
      exact binary_none n 0 0 0 0 0 0 0 0 ⟨#[]⟩ false b0 b1 b2 b3 hb w (fun w => of_none n w (by omega))
end Go.Proofs.YtpodpdopgdkdkaaGreatDoor
namespace Go.Proofs.YtpodpdopgdkdkaaGreatDoor
theorem dec_tens (N j : Nat) (h : 0 < N) : Lib.decDigits (N * 10 ^ j) = Lib.decDigits N ++ List.replicate j 48 := by
  rcases Nat.eq_zero_or_pos j with rfl | hj
  · simp
  · have h1 := dec_add N j 0 h (Nat.pow_pos (by decide))
    rw [Nat.add_zero] at h1
    have n0 : Lib.nDigits 0 = 1 := by rw [← Lib.decDigits_length, Lib.decDigits_one (by decide)]; rfl
    have h2 := digK_pad j 0 (by rw [n0]; exact hj)
    rw [n0, Lib.decDigits_one (by decide)] at h2
    rw [h1, h2]
    have e : [UInt8.ofNat (48 + 0)] = List.replicate 1 (48 : UInt8) := rfl
    rw [e, List.replicate_append_replicate, Nat.sub_add_cancel hj]
/-- A text without the noughts at its end. -/
def stripZ (l : List UInt8) : List UInt8 := (l.reverse.dropWhile (· == 48)).reverse
/-- The noughts at its end. -/
def endZ (l : List UInt8) : Nat := (l.reverse.takeWhile (· == 48)).length
theorem strip_more (l : List UInt8) (j : Nat) : stripZ (l ++ List.replicate j 48) = stripZ l := by
  induction j with
  | zero => simp
  | succ j ih =>
    have e : List.replicate (j + 1) (48 : UInt8) = List.replicate j 48 ++ [48] := List.replicate_succ'
    rw [e, ← List.append_assoc]
    unfold stripZ at ih ⊢
    rw [List.reverse_append]
    simp only [List.reverse_cons, List.reverse_nil, List.nil_append, List.cons_append, List.dropWhile_cons, beq_self_eq_true, if_true]
    exact ih
theorem endZ_more (l : List UInt8) (j : Nat) : endZ (l ++ List.replicate j 48) = endZ l + j := by
  induction j with
  | zero => simp
  | succ j ih =>
    have e : List.replicate (j + 1) (48 : UInt8) = List.replicate j 48 ++ [48] := List.replicate_succ'
    rw [e, ← List.append_assoc]
    unfold endZ at ih ⊢
    rw [List.reverse_append]
    simp only [List.reverse_cons, List.reverse_nil, List.nil_append, List.cons_append, List.takeWhile_cons, beq_self_eq_true, if_true, List.length_cons]
    rw [ih]; omega
theorem strip_split (l : List UInt8) : l = stripZ l ++ List.replicate (endZ l) 48 := by
  unfold stripZ endZ
  have h := List.takeWhile_append_dropWhile (p := (· == (48 : UInt8))) (l := l.reverse)
  have h2 : l.reverse.takeWhile (· == (48 : UInt8)) = List.replicate (l.reverse.takeWhile (· == (48 : UInt8))).length 48 := by
    rw [List.eq_replicate_iff]
    refine ⟨rfl, fun b hb => ?_⟩
    have := List.all_takeWhile (p := (· == (48 : UInt8))) (l := l.reverse)
    rw [List.all_eq_true] at this
    simpa using this b hb
  generalize (l.reverse.takeWhile (· == (48 : UInt8))).length = k at h2 ⊢
  rw [h2] at h
  have h3 := congrArg List.reverse h
  rw [List.reverse_append, List.reverse_reverse, List.reverse_replicate] at h3
  exact h3.symm
theorem strip_len (l : List UInt8) : (stripZ l).length + endZ l = l.length := by
  have h := congrArg List.length (strip_split l)
  rw [List.length_append, List.length_replicate] at h
  exact h.symm
/-- The digits of N * 10^j are those of N, and its noughts j more. -/
theorem strip_tens (N j : Nat) (h : 0 < N) : stripZ (Lib.decDigits (N * 10 ^ j)) = stripZ (Lib.decDigits N) ∧ endZ (Lib.decDigits (N * 10 ^ j)) = endZ (Lib.decDigits N) + j := by
  rw [dec_tens N j h]
  exact ⟨strip_more _ _, endZ_more _ _⟩
/-- Halving while there are tens to come changes nothing. -/
theorem half_tens (c j k : Nat) (h : j ≤ k) : (c * 2 ^ j) * 5 ^ k = (c * 5 ^ (k - j)) * 10 ^ j := by
  have e : 5 ^ k = 5 ^ (k - j) * 5 ^ j := by rw [← Nat.pow_add]; congr 1; omega
  rw [e, show (10 : Nat) = 2 * 5 from rfl, Nat.mul_pow]
  simp only [Nat.mul_assoc, Nat.mul_left_comm, Nat.mul_comm]
end Go.Proofs.YtpodpdopgdkdkaaGreatDoor
namespace Go.Proofs.YtpodpdopgdkdkaaGreatDoor
set_option linter.unusedVariables false
set_option linter.unusedSimpArgs false
open Go.RowKit
/-- The whole number whose digits are those of F * 2^x. -/
def exN (F : Nat) (x : Int) : Nat := if 0 ≤ x then F * 2 ^ x.toNat else F * 5 ^ (-x).toNat
def exAt (x : Int) : Int := if 0 ≤ x then 0 else x
def exOut (F : Nat) (x : Int) : Value := .tuple #[.string ⟨(stripZ (Lib.decDigits (exN F x))).toArray⟩, .int .i64 (exAt x + (endZ (Lib.decDigits (exN F x)) : Nat)), .int .i64 0]
def noOut (er : Int) : Value := .tuple #[.string ⟨#[]⟩, .int .i64 0, .int .i64 er]
/-- The coefficient, the exponent. -/
def coefF (V P X : Nat) : Nat := if V / 2 ^ (P - 1) % 2 ^ X = 0 then V % 2 ^ (P - 1) else V % 2 ^ (P - 1) ||| 2 ^ (P - 1)
def expF (V P X : Nat) (L : Int) : Int := L + max (((V / 2 ^ (P - 1) % 2 ^ X : Nat) : Int) - 1) 0
def exV (V P X : Nat) (L : Int) : Value := if V / 2 ^ (P - 1) % 2 ^ X < 2 ^ X - 1 then (if coefF V P X = 0 then noOut 6 else exOut (coefF V P X) (expF V P X L)) else noOut 6
def ExIs (n : Int) (b0 b1 b2 b3 : Nat) (w : World) (e : Ending) (w' : World) : Prop := Below w.heap.size w w' ∧
  ((∃ P X L, Inf6 n P X L ∧ (blen (val [b0, b1, b2, b3]) : Int) ≤ wdF n ∧ e = .returned (exV (val [b0, b1, b2, b3]) P X L)) ∨
   (¬ (1 ≤ n ∧ n ≤ 6 ∧ (blen (val [b0, b1, b2, b3]) : Int) ≤ wdF n) ∧ e = .returned (noOut 1)))
theorem Inf6.uniq {n : Int} {P X P' X' : Nat} {L L' : Int} (h : Inf6 n P X L) (h' : Inf6 n P' X' L') : P = P' ∧ X = X' ∧ L = L' := by
  obtain ⟨c, s, m, y, d, e⟩ := h.hi
  obtain ⟨c', s', m', y', d', e'⟩ := h'.hi
  rw [e] at e'
  unfold infV at e'
  simp at e'
  omega
theorem Inf6.rng {n : Int} {P X : Nat} {L : Int} (h : Inf6 n P X L) : 1 ≤ n ∧ n ≤ 6 := by
  by_cases h1 : 1 ≤ n ∧ n ≤ 6
  · exact h1
  · obtain ⟨c, s, m, y, d, e⟩ := h.hi
    have hb : bsF n = 10 ∨ n < 1 := by unfold bsF; by_cases h2 : n ≤ 6 <;> simp [h2]; omega
    unfold infF infV at e
    simp at e
    rcases hb with hb | hb
    · omega
    · exfalso
      have := h.hP
      have hp : prF n = 0 := by
        unfold prF
        split <;> first | omega | rfl
      omega
theorem coefF_zero {V P X : Nat} {zs : List Nat} (h : val zs = coefF V P X) : val zs = 0 ↔ coefF V P X = 0 := by rw [h]
end Go.Proofs.YtpodpdopgdkdkaaGreatDoor
namespace Go.Proofs.YtpodpdopgdkdkaaGreatDoor
open Go.RowKit
/-- Two natural numbers that the call has made, and a number beside them. -/
def NatTrip (w : World) (n m bd bd' : Nat) (v : Value) (e : Ending) (w' : World) : Prop :=
  ∃ s1 s2, e = .returned (.tuple #[s1, s2, v]) ∧ NatRes w n bd (.returned s1) w' ∧ NatRes w m bd' (.returned s2) w'
theorem NatPair.trip {w w' : World} {n m bd bd' : Nat} {s1 s2 v : Value} (h : NatPair w n m bd bd' (.returned (.tuple #[s1, s2])) w') : NatTrip w n m bd bd' v (.returned (.tuple #[s1, s2, v])) w' := by
  obtain ⟨a, c, zs, a', c', ys, he, r, t, hb⟩ := h
  cases he
  exact ⟨_, _, rfl, ⟨a, c, zs, rfl, r.1, r.2.1, r.2.2.1, r.2.2.2, hb⟩, ⟨a', c', ys, rfl, t.1, t.2.1, t.2.2.1, t.2.2.2, hb⟩⟩
set_option maxRecDepth 10000 in
set_option maxHeartbeats 2000000 in
theorem divNo_calls (w : World) (a b : Option Addr) (la ca lb cb : Nat) (xs ys : List Nat) (ha : SlW w a la ca xs) (hb : SlW w b lb cb ys) (h0 : sz ys = 0) :
    Calls Tryz.prog 74 #[.slice a la ca, .slice b lb cb] w (NatTrip w 0 0 0 0 (.int .i64 1)) := by
  have m1 := ha.hle
  have m2 := ha.hmax
  have m3 := hb.hle
  have m4 := hb.hmax
  have z1 := ha.sz_le
  have HSA : SzOf w a la ca (sz xs) := ⟨xs, ha, rfl⟩
  have HSB : SzOf w b lb cb 0 := ⟨ys, hb, h0⟩
  clear ha hb h0
  generalize sz xs = k at z1 HSA
  go_enter Tryz.func74, Tryz.ntmps74
  go_wp2_with fail
  go_quiet ((go_at_call 96; exact Calls.quiet_of_same (size_of (by assumption) _)))
  go_wp2
  go_ret3
  exact ⟨_, _, rfl, natRes_nil 0 (below_drewN' (Below.refl _ _) _), natRes_nil 0 (below_drewN' (Below.refl _ _) _)⟩
set_option maxRecDepth 10000 in
set_option maxHeartbeats 2000000 in
theorem divOk_calls (w : World) (a b : Option Addr) (la ca lb cb : Nat) (xs ys : List Nat) (ha : SlW w a la ca xs) (hb : SlW w b lb cb ys) (pa : Plain a) (sa : la ≤ 2000) (sb : lb ≤ 2000) (h0 : 0 < sz ys) :
    Calls Tryz.prog 74 #[.slice a la ca, .slice b lb cb] w (NatTrip w (val xs / val ys) (val xs % val ys) (la + 2) (la + lb + 2) (.int .i64 0)) := by
  have m1 := ha.hle
  have m2 := ha.hmax
  have m3 := hb.hle
  have m4 := hb.hmax
  have z1 := ha.sz_le
  have z2 := hb.sz_le
  have HSA : SzOf w a la ca (sz xs) := ⟨xs, ha, rfl⟩
  have HSB : SzOf w b lb cb (sz ys) := ⟨ys, hb, rfl⟩
  have HQ := Lib.hid (fun m => quotient_calls (w.drewN m) a b _ ca _ cb _ _ ((ha.take z1).drewN m) ((hb.take z2).drewN m) pa (by omega) (by omega) (sz_take_sz xs) (sz_take_sz ys) h0)
  rw [val_take_sz, val_take_sz] at HQ
  clear ha hb
  generalize sz xs = k at z1 HSA HQ
  generalize sz ys = l at z2 HSB HQ h0
  have hl0 : ((l : Int) == 0) = false := by simp; omega
  go_enter Tryz.func74, Tryz.ntmps74
  go_wp2_with fail
  go_quiet ((go_at_call 96; exact Calls.quiet_of_same (size_of (by assumption) _)))
  go_wp2_with fail
  refine (HQ.out nq).mono ?_
  rintro e w2 hp
  have hp2 := natPair_trans (below_drewN' (Below.refl w.heap.size w) nq) (hp.le (c1 := la + 2) (c2 := la + lb + 2) (by omega) (by omega))
  obtain ⟨a1, c1, z1, a2, c2, z2, rfl, q, t, hb2⟩ := hp2
  have R := Lib.hid (And.intro q (And.intro t hb2))
  clear q t hb2 hp
  go_wp2
  go_ret3
  exact NatPair.trip ⟨a1, c1, z1, a2, c2, z2, rfl, R.out.1, R.out.2.1, R.out.2.2⟩
end Go.Proofs.YtpodpdopgdkdkaaGreatDoor
namespace Go.Proofs.YtpodpdopgdkdkaaGreatDoor
open Go.RowKit
theorem NatRes.slw {w w' : World} {n bd : Nat} {s : Value} (h : NatRes w n bd (.returned s) w') : ∃ a c zs, s = .slice a zs.length c ∧ SlW w' a zs.length c zs ∧ val zs = n ∧ sz zs = zs.length ∧ zs.length ≤ bd ∧ Plain a ∧ Below w.heap.size w w' := by
  obtain ⟨a, c, zs, rfl, r1, r2, r3, r4, r5⟩ := h.sides
  exact ⟨a, c, zs, rfl, r1.sl, r2, r3, r4, r1.plain, r5⟩
end Go.Proofs.YtpodpdopgdkdkaaGreatDoor
namespace Go.Proofs.YtpodpdopgdkdkaaGreatDoor
open Go.RowKit
def powOk (b n : Int) : Bool := (b == 2 || b == 5 || b == 10) && decide (0 ≤ n)
def powErr (b n : Int) : Int := if powOk b n = false then 1 else if 12000 < n then 4 else 0
def powVal (b n : Int) : Nat := if powOk b n = false then 0 else if 12000 < n then 0 else b.toNat ^ n.toNat
/-- The three ways that Power goes: refused; too far; a power. -/
theorem pow_ways (b n : Int) : (powOk b n = false ∧ (n < 0 ∨ (b ≠ 2 ∧ b ≠ 5 ∧ b ≠ 10))) ∨ ((powOk b n = true ∧ 0 ≤ n) ∧ (b = 2 ∨ b = 5 ∨ b = 10)) := by
  unfold powOk
  by_cases h0 : 0 ≤ n <;> by_cases h1 : b = 2 <;> by_cases h2 : b = 5 <;> by_cases h3 : b = 10 <;> simp [*] <;> omega
theorem natRes2_nil (w : World) (bd : Nat) (v : Value) {w' : World} (h : Below w.heap.size w w') : NatRes2 w 0 bd v (.returned (.tuple #[.slice none 0 0, v])) w' := (natRes_nil bd h).two
theorem NatRes2.small {w w' : World} {n bd m : Nat} {v : Value} {e : Ending} (h : NatRes2 w n bd v e w') (hm : n < B64 ^ m) : NatRes2 w n m v e w' := by
  obtain ⟨a', c', zs, rfl, r1, r2, r3, r4, r5⟩ := h
  exact ⟨a', c', zs, rfl, r1, r2, r3, len_of_val r3 (by rw [r2]; exact hm), r5⟩
theorem five_words (n : Nat) : 5 ^ n < B64 ^ (n / 27 + 1) := by
  have h1 : (5 : Nat) ^ n ≤ 5 ^ (27 * (n / 27 + 1)) := Nat.pow_le_pow_right (by decide) (by omega)
  rw [Nat.pow_mul] at h1
  have h2 : ((5 : Nat) ^ 27) ^ (n / 27 + 1) < B64 ^ (n / 27 + 1) := Nat.pow_lt_pow_left (by decide) (by omega)
  exact Nat.lt_of_le_of_lt h1 h2
set_option maxRecDepth 10000 in
set_option maxHeartbeats 2000000 in
theorem powerNo_calls (w : World) (b n : Int) (h0 : -9223372036854775808 ≤ n) (h1 : n ≤ 9223372036854775807) (h : n < 0 ∨ (b ≠ 2 ∧ b ≠ 5 ∧ b ≠ 10)) :
    Calls Tryz.prog 53 #[.int .i64 b, .int .i64 n] w fun e w' => e = .returned (.tuple #[.slice none 0 0, .int .i64 1]) ∧ w' = w := by
  by_cases hb : b ≠ 2 ∧ b ≠ 5 ∧ b ≠ 10
  · obtain ⟨b2, b5, b10⟩ := hb
    have e2 : (b == 2) = false := by simp; exact b2
    have e5 : (b == 5) = false := by simp; exact b5
    have e10 : (b == 10) = false := by simp; exact b10
    have f2 : (b != 2) = true := by simp; exact b2
    have f5 : (b != 5) = true := by simp; exact b5
    have f10 : (b != 10) = true := by simp; exact b10
    clear h b2 b5 b10
    go_enter Tryz.func53, Tryz.ntmps53
    go_wp2
    go_ret2
    exact ⟨rfl, rfl⟩
  · have hn : n < 0 := by omega
    clear h
    by_cases b2 : b = 2
    · subst b2
      go_enter Tryz.func53, Tryz.ntmps53
      go_wp2
      go_ret2
      exact ⟨rfl, rfl⟩
    · by_cases b5 : b = 5
      · subst b5
        go_enter Tryz.func53, Tryz.ntmps53
        go_wp2
        go_ret2
        exact ⟨rfl, rfl⟩
      · obtain rfl : b = 10 := by omega
        go_enter Tryz.func53, Tryz.ntmps53
        go_wp2
        go_ret2
        exact ⟨rfl, rfl⟩
set_option maxRecDepth 10000 in
set_option maxHeartbeats 2000000 in
theorem powerFar_calls (w : World) (b n : Int) (h0 : 12000 < n) (h1 : n ≤ 9223372036854775807) (h : b = 2 ∨ b = 5 ∨ b = 10) :
    Calls Tryz.prog 53 #[.int .i64 b, .int .i64 n] w fun e w' => e = .returned (.tuple #[.slice none 0 0, .int .i64 4]) ∧ w' = w := by
  rcases h with rfl | rfl | rfl
  · go_enter Tryz.func53, Tryz.ntmps53
    go_wp2
    go_ret2
    exact ⟨rfl, rfl⟩
  · go_enter Tryz.func53, Tryz.ntmps53
    go_wp2
    go_ret2
    exact ⟨rfl, rfl⟩
  · go_enter Tryz.func53, Tryz.ntmps53
    go_wp2
    go_ret2
    exact ⟨rfl, rfl⟩
theorem shlOk_err {xs : List Nat} {m : Nat} (h : sz xs + (m + 63) / 64 ≤ 2000) : shlErr (sz xs) (m : Int) = 0 ∧ shlVal xs (m : Int) = val xs * 2 ^ m := by
  unfold shlErr shlVal
  rw [if_neg (by omega), if_neg (by omega), if_neg (by omega), if_neg (by rw [Int.toNat_natCast]; omega), Int.toNat_natCast]
  exact ⟨rfl, rfl⟩
set_option maxRecDepth 10000 in
set_option maxHeartbeats 2000000 in
theorem powerOk_calls (w : World) (b n : Nat) (hn : n ≤ 12000) (h : b = 2 ∨ b = 5 ∨ b = 10) :
    Calls Tryz.prog 53 #[.int .i64 (b : Nat), .int .i64 (n : Nat)] w (NatRes2 w (b ^ n) (n + 1) (.int .i64 0)) := by
  have HC := Lib.hid (pow_lt_words (b := b) (by rcases h with rfl | rfl | rfl <;> decide) n)
  rcases h with rfl | rfl | rfl
  · have H1 := Lib.hid (natOf_calls w 1 (by decide))
    go_enter Tryz.func53, Tryz.ntmps53
    go_wp2_with fail
    refine H1.out.mono ?_
    rintro e w1 ⟨a1, c1, xs, rfl, r1, r2, r3, r4, r5⟩
    have HB1 := Lib.hid r5
    have HS := Lib.hid ((shl_ok w1 a1 _ c1 xs n r1.sl (by rw [r3]; omega)).mono fun e w' hh => by rw [r2, Nat.one_mul] at hh; exact natRes2_trans (w := w) r5 (hh.small HC.out))
    clear r1 r2 r3 r4 r5
    go_wp2_with fail
    refine HS.out.mono ?_
    rintro e w3 ⟨a', c', rs, rfl, r⟩
    have R := Lib.hid r
    clear r
    go_wp2
    go_ret2
    exact ⟨a', c', rs, rfl, R.out⟩
  · have H1 := Lib.hid (power_calls 5 (by decide) n n w (Nat.le_refl _) (by omega))
    go_enter Tryz.func53, Tryz.ntmps53
    go_wp2_with fail
    refine H1.out.mono ?_
    rintro e w1 hr
    obtain ⟨a1, c1, xs, rfl, r⟩ := hr.small HC.out
    have R := Lib.hid r
    clear r hr
    go_wp2
    go_ret2
    exact ⟨a1, c1, xs, rfl, R.out⟩
  · have H1 := Lib.hid (power_calls 5 (by decide) n n w (Nat.le_refl _) (by omega))
    have H5 := Lib.hid (five_words n)
    have HM : Hid (5 ^ n * 2 ^ n = 10 ^ n) := Lib.hid (by rw [← Nat.mul_pow])
    go_enter Tryz.func53, Tryz.ntmps53
    go_wp2_with fail
    refine H1.out.mono ?_
    rintro e w1 hr
    obtain ⟨a1, c1, xs, rfl, r1, r2, r3, r4, r5⟩ := hr.small H5.out
    have HB1 := Lib.hid r5
    have HS := Lib.hid ((shl_ok w1 a1 _ c1 xs n r1.sl (by rw [r3]; omega)).mono fun e w' hh => by rw [r2, HM.out] at hh; exact natRes2_trans (w := w) r5 (hh.small HC.out))
    clear r1 r2 r3 r4 r5 hr
    go_wp2_with fail
    refine HS.out.mono ?_
    rintro e w3 ⟨a', c', rs, rfl, r⟩
    have R := Lib.hid r
    clear r
    go_wp2
    go_ret2
    exact ⟨a', c', rs, rfl, R.out⟩
end Go.Proofs.YtpodpdopgdkdkaaGreatDoor
