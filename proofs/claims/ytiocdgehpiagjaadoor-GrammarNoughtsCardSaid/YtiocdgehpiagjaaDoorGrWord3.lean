/- The contract of grammar.word, for any text. -/
import Derived.Test.YtiocdgehpiagjaaDoorGrWord2
namespace Go.Proofs.YtiocdgehpiagjaaDoor
open Go.RowKit
theorem pre_take (S p : List UInt8) : Lib.hasPrefix S p = true ↔ S.take p.length = p := by
  unfold Lib.hasPrefix
  rw [List.isPrefixOf_iff_prefix, List.prefix_iff_eq_take]
  exact eq_comm
theorem trim_pre {S p : List UInt8} (h : Lib.hasPrefix S p = true) : Lib.trimPrefix S p = S.drop p.length := by
  unfold Lib.trimPrefix
  rw [if_pos h]
theorem suf_last (u : List UInt8) : Lib.hasSuffix u [41] = true ↔ u.getLast? = some 41 := by
  unfold Lib.hasSuffix
  rw [List.isSuffixOf_iff_suffix]
  constructor
  · rintro ⟨v, rfl⟩
    simp
  · intro h
    have hne : u ≠ [] := fun e => by subst e; cases h
    rw [List.getLast?_eq_some_getLast hne, Option.some.injEq] at h
    exact ⟨u.dropLast, by rw [← h]; exact List.dropLast_concat_getLast hne⟩
theorem digs_run (l : List UInt8) : (runL l).2 = [] ↔ digs l = true := by
  unfold runL digs
  simp only []
  constructor
  · intro h
    refine List.all_eq_true.2 fun c hc => ?_
    have e : l.takeWhile isDig ++ l.dropWhile isDig = l := List.takeWhile_append_dropWhile
    rw [h, List.append_nil] at e
    rw [← e] at hc
    exact List.all_eq_true.1 (take_digs l) c hc
  · intro h
    induction l with
    | nil => rfl
    | cons c t ih =>
      simp only [List.all_cons, Bool.and_eq_true] at h
      rw [List.dropWhile_cons, if_pos h.1, ih h.2]
theorem run_digs {l : List UInt8} (h : digs l = true) : (runL l).1 = l := by
  have e : (runL l).1 ++ (runL l).2 = l := List.takeWhile_append_dropWhile
  rw [(digs_run l).2 h, List.append_nil] at e
  exact e
theorem paren_pure (R : List UInt8) (hR : R ≠ []) :
    parenL R = if (!Lib.hasPrefix R [40] || !Lib.hasSuffix (Lib.trimPrefix R [40]) [41] || (runL (Lib.trimSuffix (Lib.trimPrefix R [40]) [41])).1.isEmpty || !(runL (Lib.trimSuffix (Lib.trimPrefix R [40]) [41])).2.isEmpty) = true
      then none else some (bareL (runL (Lib.trimSuffix (Lib.trimPrefix R [40]) [41])).1) := by
  cases R with
  | nil => exact absurd rfl hR
  | cons c u =>
    rw [pre_one, trim_one]
    unfold parenL
    simp only []
    by_cases hc : c = 40
    · subst hc
      have e1 : ((40 : UInt8) == 40) = true := rfl
      rw [e1]
      simp only [if_true]
      by_cases hs : u.getLast? = some 41
      · have h2 : Lib.hasSuffix u [41] = true := (suf_last u).2 hs
        have e3 : Lib.trimSuffix u [41] = u.dropLast := by
          unfold Lib.trimSuffix
          rw [if_pos h2, List.dropLast_eq_take]
          rfl
        rw [h2, e3]
        by_cases hd : digs u.dropLast = true
        · have e4 := (digs_run u.dropLast).2 hd
          have e5 := run_digs hd
          rw [e4, e5]
          by_cases hn : u.dropLast = []
          · rw [hn]
            simp
          · rw [if_pos ⟨trivial, hs, hn, hd⟩, if_neg]
            simp [hn]
        · have e4 : (runL u.dropLast).2 ≠ [] := fun e => hd ((digs_run _).1 e)
          rw [if_neg (fun h => hd h.2.2.2), if_pos]
          simp [e4]
      · have h2 : Lib.hasSuffix u [41] = false := by
          cases hh : Lib.hasSuffix u [41] with
          | false => rfl
          | true => exact absurd ((suf_last u).1 hh) hs
        rw [h2, if_neg (fun h => hs h.2.1)]
        rfl
    · have e1 : ((40 : UInt8) == c) = false := by simp; exact fun e => hc e.symm
      rw [e1, if_neg (fun h => hc h.1)]
      rfl
theorem isEmpty_of {s : ByteArray} {l : List UInt8} (h : s.data.toList = l) : s.toList.isEmpty = l.isEmpty := by
  rw [Lib.toList_data, h]
theorem parIs (R : ByteArray) (hs2 : R.data.toList.length ≤ 100000) :
    ∃ I1 I2 D M op sh, ParIs R I1 I2 D M op sh (parenL R.data.toList) := by
  obtain ⟨r, hr⟩ : ∃ r, R.data.toList = r := ⟨_, rfl⟩
  have l1 : (Lib.trimPrefix r [40]).length ≤ r.length := by unfold Lib.trimPrefix; split <;> simp
  have l2 : (Lib.trimSuffix (Lib.trimPrefix r [40]) [41]).length ≤ (Lib.trimPrefix r [40]).length := by unfold Lib.trimSuffix; split <;> simp
  have l3 : r.length ≤ 100000 := by rw [← hr]; exact hs2
  refine ⟨⟨(Lib.trimPrefix r [40]).toArray⟩, ⟨(Lib.trimSuffix (Lib.trimPrefix r [40]) [41]).toArray⟩, ⟨(runL (Lib.trimSuffix (Lib.trimPrefix r [40]) [41])).1.toArray⟩, ⟨(runL (Lib.trimSuffix (Lib.trimPrefix r [40]) [41])).2.toArray⟩,
    Lib.hasPrefix r [40], Lib.hasSuffix (Lib.trimPrefix r [40]) [41], ?_, ?_, ?_, ?_⟩
  · intro w
    have := Tryd.strings_CutPrefix R ⟨#[40]⟩ w
    rw [hr] at this
    exact this
  · intro w
    exact Tryd.strings_CutSuffix ⟨(Lib.trimPrefix r [40]).toArray⟩ ⟨#[41]⟩ w (by show (Lib.trimPrefix r [40]).toArray.size ≤ _; simp; omega)
  · intro w
    exact run_calls _ _ rfl (by show (Lib.trimSuffix (Lib.trimPrefix r [40]) [41]).length ≤ _; omega) w
  · rw [isEmpty_of hr, hr]
    by_cases hn : r = []
    · left
      rw [hn]
      exact ⟨rfl, rfl⟩
    · right
      refine ⟨by simp [hn], ?_⟩
      rw [paren_pure r hn, isEmpty_of (s := ⟨(runL (Lib.trimSuffix (Lib.trimPrefix r [40]) [41])).1.toArray⟩) rfl, isEmpty_of (s := ⟨(runL (Lib.trimSuffix (Lib.trimPrefix r [40]) [41])).2.toArray⟩) rfl]
theorem enc_len (r : Int) : (Lib.encodeRune r).length ≤ 4 := by
  unfold Lib.encodeRune Lib.encodeRuneZ
  rw [List.length_map]
  split
  · simp
  · split
    · simp
    · split
      · simp
      · split <;> simp
theorem map_len (n : Nat) : ∀ l : List UInt8, l.length ≤ n → (Lib.mapD lowF l).length ≤ 4 * l.length := by
  induction n with
  | zero =>
    intro l hl
    cases l with
    | nil => exact Nat.le_refl _
    | cons c t => simp at hl
  | succ n ih =>
    intro l hl
    cases l with
    | nil => exact Nat.zero_le _
    | cons c t =>
      rw [Lib.mapD_step _ _ (by simp), List.length_append]
      have h1 := Lib.decodeL_width (c :: t)
      have h2 : ((c :: t).drop (Lib.decodeL (c :: t)).2).length ≤ t.length := by simp; omega
      have h3 := ih ((c :: t).drop (Lib.decodeL (c :: t)).2) (by simp at hl; omega)
      have h4 : (if 0 ≤ lowF (Lib.decodeL (c :: t)).1 then Lib.encodeRune (lowF (Lib.decodeL (c :: t)).1) else []).length ≤ 4 := by
        split
        · exact enc_len _
        · simp
      simp only [List.length_cons]
      omega
theorem word_calls (t : ByteArray) (l : List UInt8) (h : t.data.toList = l) (hs : l.length ≤ 4000) (w : World) (hT : ∀ W, Below w.heap.size w W → Lib.Utf8Tabs 2 3 W) :
    Calls Tryd.prog 17 #[.string t] w fun e w' => e = .returned (.tuple #[.agg (partsV (wordR l)), .bool (wordL l).isSome]) ∧ Below w.heap.size w w' := by
  have hts : t.size ≤ 4000 := by
    have : t.size = t.data.toList.length := by simp
    rw [this, h]; exact hs
  obtain ⟨S, hS⟩ : ∃ S, Lib.mapD lowF t.data.toList = S := ⟨_, rfl⟩
  have hw : wordL l = lowWordL S := by rw [← hS, h, word_map]
  have hSl : S.length ≤ 16000 := by
    have := map_len _ l (Nat.le_refl _)
    rw [← hS, h]
    omega
  obtain ⟨T, hT0⟩ : ∃ T : ByteArray, T = ⟨S.toArray⟩ := ⟨_, rfl⟩
  have hTS : (⟨(Lib.mapD lowF t.data.toList).toArray⟩ : ByteArray) = T := by rw [hS, hT0]
  have hTL : T.data.toList = S := by rw [hT0]
  have hT2 : T.toList = S := by rw [Lib.toList_data, hTL]
  unfold wordR
  rw [hw]
  by_cases hI : S = infS ∨ S = infinityS
  · have e : lowWordL S = some ⟨2, false, false, [], 0⟩ := by unfold lowWordL; rw [if_pos hI]
    rw [e]
    exact wordInf t hts w hT S hS hI
  · have q1 : (T.toList == [105, 110, 102]) = false := by rw [hT2]; exact beq_eq_false_iff_ne.2 fun e => hI (.inl e)
    have q2 : (T.toList == [105, 110, 102, 105, 110, 105, 116, 121]) = false := by rw [hT2]; exact beq_eq_false_iff_ne.2 fun e => hI (.inr e)
    have hn := fun w => Tryd.strings_CutPrefix T ⟨#[110, 97, 110]⟩ w
    have hn2 := fun w => Tryd.strings_CutPrefix T ⟨#[115, 110, 97, 110]⟩ w
    have e5 : (⟨#[110, 97, 110]⟩ : ByteArray).data.toList = nanS := rfl
    have e6 : (⟨#[115, 110, 97, 110]⟩ : ByteArray).data.toList = 115 :: nanS := rfl
    rw [hTL, e5] at hn
    rw [hTL, e6] at hn2
    by_cases hp : Lib.hasPrefix S nanS = true
    · rw [hp, trim_pre hp] at hn
      have h3 : S.take 3 = nanS := (pre_take S nanS).1 hp
      have e : lowWordL S = (match parenL (S.drop 3) with | some d => some ⟨3, false, false, d, 0⟩ | none => none) := by
        unfold lowWordL
        rw [if_neg hI]
        cases S with
        | nil => cases h3
        | cons c u =>
          have hc : c = 110 := by
            have := congrArg List.head? h3
            simpa [nanS] using this
          subst hc
          simp only [show ¬ ((110 : UInt8) = 115) by decide, if_false]
          unfold nanL
          rw [if_pos h3]
          rfl
      have hz : (⟨(S.drop 3).toArray⟩ : ByteArray).data.toList.length ≤ 100000 := by show (S.drop 3).length ≤ _; simp; omega
      obtain ⟨I1, I2, D, M, op, sh, hpar⟩ := parIs ⟨(S.drop 3).toArray⟩ hz
      refine (wordNan t hts w hT T hTS q1 q2 _ _ _ _ _ _ _ _ hpar hn).mono ?_
      rintro e' w' ⟨rfl, hb⟩
      refine ⟨?_, hb⟩
      rw [e]
      show Ending.returned (.tuple #[.agg (partsV (nanP false (parenL (S.drop 3)))), .bool (parenL (S.drop 3)).isSome]) = _
      cases parenL (S.drop 3) <;> rfl
    · have hp' : Lib.hasPrefix S nanS = false := by simpa using hp
      rw [hp'] at hn
      by_cases hq : Lib.hasPrefix S (115 :: nanS) = true
      · rw [hq, trim_pre hq] at hn2
        have h4 : S.take 4 = 115 :: nanS := (pre_take S (115 :: nanS)).1 hq
        have e : lowWordL S = (match parenL (S.drop 4) with | some d => some ⟨3, false, true, d, 0⟩ | none => none) := by
          unfold lowWordL
          rw [if_neg hI]
          cases S with
          | nil => cases h4
          | cons c u =>
            have hc : c = 115 := by
              have := congrArg List.head? h4
              simpa using this
            subst hc
            have h3 : u.take 3 = nanS := by simpa using h4
            simp only [if_true]
            unfold nanL
            rw [if_pos h3]
            rfl
        have hz : (⟨(S.drop 4).toArray⟩ : ByteArray).data.toList.length ≤ 100000 := by show (S.drop 4).length ≤ _; simp; omega
        obtain ⟨I1, I2, D, M, op, sh, hpar⟩ := parIs ⟨(S.drop 4).toArray⟩ hz
        refine (wordSnan t hts w hT T hTS q1 q2 _ _ _ _ _ _ _ _ hpar _ hn hn2).mono ?_
        rintro e' w' ⟨rfl, hb⟩
        refine ⟨?_, hb⟩
        rw [e]
        show Ending.returned (.tuple #[.agg (partsV (nanP true (parenL (S.drop 4)))), .bool (parenL (S.drop 4)).isSome]) = _
        cases parenL (S.drop 4) <;> rfl
      · have hq' : Lib.hasPrefix S (115 :: nanS) = false := by simpa using hq
        rw [hq'] at hn2
        have e : lowWordL S = none := by
          unfold lowWordL
          rw [if_neg hI]
          cases S with
          | nil => rfl
          | cons c u =>
            simp only []
            split
            · rename_i hc
              unfold nanL
              rw [if_neg]
              intro h3
              refine hq ((pre_take _ _).2 ?_)
              subst hc
              simp [nanS] at h3 ⊢
              exact h3
            · unfold nanL
              rw [if_neg]
              intro h3
              exact hp ((pre_take _ _).2 h3)
        rw [e]
        exact wordNone t hts w hT T hTS q1 q2 _ _ hn hn2
end Go.Proofs.YtiocdgehpiagjaaDoor
