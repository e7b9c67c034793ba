/- grammar.word behind its first test: nan, snan, and neither. (Printed by gen_word.py.) -/
import Derived.Test.YtiocdgehpiagjaaDoorGrWord
import Derived.Deep.DeepCutAuto
namespace Go.Proofs.YtiocdgehpiagjaaDoor
open Go.RowKit
def nanP (sig : Bool) (o : Option (List UInt8)) : PartsL := match o with
  | none => noParts
  | some d => ⟨3, false, sig, d, 0⟩
/-- What stands behind nan, as the program takes it apart. -/
structure ParIs (R I1 I2 D M : ByteArray) (op sh : Bool) (o : Option (List UInt8)) : Prop where
  ho : ∀ w, Calls Tryd.prog 19 #[.string R, .string ⟨#[40]⟩] w fun e w' => e = .returned (.tuple #[.string I1, .bool op]) ∧ w' = w
  hc : ∀ w, Calls Tryd.prog 32 #[.string I1, .string ⟨#[41]⟩] w fun e w' => e = .returned (.tuple #[.string I2, .bool sh]) ∧ w' = w
  hr : ∀ w, Calls Tryd.prog 18 #[.string I2] w fun e w' => e = .returned (.tuple #[.string D, .string M]) ∧ Below w.heap.size w w'
  is : (R.toList.isEmpty = true ∧ o = some []) ∨ (R.toList.isEmpty = false ∧ o = if (!op || !sh || D.toList.isEmpty || !M.toList.isEmpty) = true then none else some (bareL D.data.toList))

set_option maxRecDepth 10000 in
set_option maxHeartbeats 2000000 in
theorem wordNan (t : ByteArray) (hs : t.size ≤ 4000) (w : World) (hT : ∀ W, Below w.heap.size w W → Lib.Utf8Tabs 2 3 W) (T : ByteArray) (hS : (⟨(Lib.mapD lowF t.data.toList).toArray⟩ : ByteArray) = T)
    (q1 : (T.toList == [105, 110, 102]) = false) (q2 : (T.toList == [105, 110, 102, 105, 110, 105, 116, 121]) = false)
    (R I1 I2 D M : ByteArray) (op sh : Bool) (o : Option (List UInt8)) (hpar : ParIs R I1 I2 D M op sh o)
    (hn : (∀ w, Calls Tryd.prog 19 #[.string T, .string ⟨#[110, 97, 110]⟩] w fun e w' => e = .returned (.tuple #[.string R, .bool true]) ∧ w' = w)) :
    Calls Tryd.prog 17 #[.string t] w fun e w' => e = .returned (.tuple #[.agg (partsV (nanP false o)), .bool o.isSome]) ∧ Below w.heap.size w w' := by
  have K1 := Lib.hid (lower_calls t (w.alloc (.cells #[.int .i64 0, .bool false, .bool false, .string ⟨#[]⟩, .int .i64 0] 24)) (by omega) (hT _ (below_alloc (Below.refl _ _) _)))
  rw [hS] at K1
  have HN := Lib.hid hn
  clear hS hT hn
  obtain ⟨b, hbb⟩ : ∃ b, w.heap.size = b := ⟨_, rfl⟩
  have HBB : Hid (w.heap.size ≤ b) := Lib.hid (by rw [hbb]; exact Nat.le_refl _)
  go_enter Tryd.func17, Tryd.ntmps17
  go_wp2_with fail
  refine K1.out.mono ?_
  rintro e w1 ⟨rfl, hb⟩
  have HP : Box5 w1 b 0 false false ⟨#[]⟩ 0 := below_heap hb (by rw [← hbb]; exact heap_new _ _)
  have c0 : w1.cell? ⟨b, 0, none⟩ = some (.int .i64 0) := HP.cell 0
  have z0 := free_of_heap HP 0
  have HB : Hid (Below w.heap.size w w1) := Lib.hid (below_then (below_alloc (Below.refl _ _) _) hb)
  clear hb K1 hbb
  go_wp2_with fail
  refine (HN.out _).mono ?_
  rintro e w2 ⟨rfl, rfl⟩
  have HP1 : Box5 (w1.setCell ⟨b, 0, none⟩ (.int .i64 3)) b 3 false false ⟨#[]⟩ 0 := heap_set HP 0 _
  have HB1 : Hid (Below w.heap.size w (w1.setCell ⟨b, 0, none⟩ (.int .i64 3))) := Lib.hid (HB.out.setCell HBB.out _)
  clear c0 z0 HP HB
  generalize w1.setCell ⟨b, 0, none⟩ (.int .i64 3) = w2 at *
  rcases hpar.is with ⟨hne, rfl⟩ | ⟨hne, ho⟩
  · clear hpar
    have c0 : w2.cell? ⟨b, 0, none⟩ = some (.int .i64 3) := HP1.cell 0
    have c1 : w2.cell? ⟨b, 1, none⟩ = some (.bool false) := HP1.cell 1
    have c2 : w2.cell? ⟨b, 2, none⟩ = some (.bool false) := HP1.cell 2
    have c3 : w2.cell? ⟨b, 3, none⟩ = some (.string ⟨#[]⟩) := HP1.cell 3
    have c4 : w2.cell? ⟨b, 4, none⟩ = some (.int .i64 0) := HP1.cell 4
    have z0 := free_of_heap HP1 0
    have z1 := free_of_heap HP1 1
    have z2 := free_of_heap HP1 2
    have z3 := free_of_heap HP1 3
    have z4 := free_of_heap HP1 4
    have HH := Lib.hid HP1
    clear HP1
    go_wp2
    exact bodyPost_ret (results_ct rfl _ _ b 24 _ _ _ rfl (row5 HH.out rfl _ _ _ _ _) Tryd.underlying24 rfl parts_info) rfl
      ⟨rfl, below5 HB1.out HBB.out _ _ _ _ _⟩
  · have HO := Lib.hid hpar.ho
    have HC := Lib.hid hpar.hc
    have HR := Lib.hid hpar.hr
    have HQ := Lib.hid ho
    have HP2 := Lib.hid HP1
    clear hpar ho HP1
    go_wp2_with fail
    refine (HO.out _).mono ?_
    rintro e w3 ⟨rfl, rfl⟩
    go_wp2_with fail
    refine (HC.out _).mono ?_
    rintro e w3 ⟨rfl, rfl⟩
    go_wp2_with fail
    refine (HR.out _).mono ?_
    rintro e w3 ⟨rfl, hb3⟩
    have HP3 : Hid (Box5 w3 b 3 false false ⟨#[]⟩ 0) := Lib.hid (below_heap hb3 HP2.out)
    have HB3 := Lib.hid (below_then HB1.out hb3)
    obtain ⟨dE, hdE⟩ : ∃ q, D.toList.isEmpty = q := ⟨_, rfl⟩
    obtain ⟨mE, hmE⟩ : ∃ q, M.toList.isEmpty = q := ⟨_, rfl⟩
    have HDE := Lib.hid hdE
    have HME := Lib.hid hmE
    clear hb3 HO HC HR HP2 HB1 hdE hmE
    obtain ⟨bad, hbad⟩ : ∃ q, (!op || !sh || dE || !mE) = q := ⟨_, rfl⟩
    have HBAD := Lib.hid hbad
    clear hbad
    go_upto_region 18 with fail
    go_cut [71] (fun s71 wx => s71 = .bool bad ∧ wx = w3)
    case first =>
      have hdE := HDE.out
      have hmE := HME.out
      cases op
      · go_wp2
        go_meet
        exact ⟨by rw [← HBAD.out]; rfl, rfl⟩
      · cases sh
        · go_wp2
          go_meet
          exact ⟨by rw [← HBAD.out]; rfl, rfl⟩
        · cases dE
          · cases mE
            · go_wp2
              go_meet
              exact ⟨by rw [← HBAD.out]; rfl, rfl⟩
            · go_wp2
              go_meet
              exact ⟨by rw [← HBAD.out]; rfl, rfl⟩
          · go_wp2
            go_meet
            exact ⟨by rw [← HBAD.out]; rfl, rfl⟩
    case rest =>
    obtain ⟨rfl, rfl⟩ := hcut
    have HBe : Hid ((!op || !sh || D.toList.isEmpty || !M.toList.isEmpty) = bad) := Lib.hid (by rw [HDE.out, HME.out]; exact HBAD.out)
    have HH := HP3.out
    have c0 : wc.cell? ⟨b, 0, none⟩ = some (.int .i64 3) := HH.cell 0
    have c1 : wc.cell? ⟨b, 1, none⟩ = some (.bool false) := HH.cell 1
    have c2 : wc.cell? ⟨b, 2, none⟩ = some (.bool false) := HH.cell 2
    have c3 : wc.cell? ⟨b, 3, none⟩ = some (.string ⟨#[]⟩) := HH.cell 3
    have c4 : wc.cell? ⟨b, 4, none⟩ = some (.int .i64 0) := HH.cell 4
    have z0 := free_of_heap HH 0
    have z1 := free_of_heap HH 1
    have z2 := free_of_heap HH 2
    have z3 := free_of_heap HH 3
    have z4 := free_of_heap HH 4
    clear HH
    cases bad
    · have KB := Lib.hid (bare_calls D D.data.toList rfl wc)
      have HO2 : Hid (o = some (bareL D.data.toList)) := Lib.hid (by rw [HQ.out, HBe.out]; rfl)
      clear HQ HBe HBAD HDE HME hne
      go_wp2_with fail
      refine KB.out.mono ?_
      rintro e w4 ⟨rfl, rfl⟩
      go_wp2
      exact bodyPost_ret (results_ct rfl _ _ b 24 _ _ _ rfl (row5 (heap_set HP3.out 3 _) rfl _ _ _ _ _) Tryd.underlying24 rfl parts_info) rfl
        ⟨by rw [HO2.out]; rfl, below5 (HB3.out.setCell HBB.out _) HBB.out _ _ _ _ _⟩
    · have HO2 : Hid (o = none) := Lib.hid (by rw [HQ.out, HBe.out]; rfl)
      clear HQ HBe HBAD HDE HME hne
      go_wp2
      exact bodyPost_ret (results_ct rfl _ _ b 24 _ _ _ rfl (row5 HP3.out rfl _ _ _ _ _) Tryd.underlying24 rfl parts_info) rfl
        ⟨by rw [HO2.out]; rfl, below5 HB3.out HBB.out _ _ _ _ _⟩

set_option maxRecDepth 10000 in
set_option maxHeartbeats 2000000 in
theorem wordSnan (t : ByteArray) (hs : t.size ≤ 4000) (w : World) (hT : ∀ W, Below w.heap.size w W → Lib.Utf8Tabs 2 3 W) (T : ByteArray) (hS : (⟨(Lib.mapD lowF t.data.toList).toArray⟩ : ByteArray) = T)
    (q1 : (T.toList == [105, 110, 102]) = false) (q2 : (T.toList == [105, 110, 102, 105, 110, 105, 116, 121]) = false)
    (R I1 I2 D M : ByteArray) (op sh : Bool) (o : Option (List UInt8)) (hpar : ParIs R I1 I2 D M op sh o) (X : ByteArray)
    (hn : (∀ w, Calls Tryd.prog 19 #[.string T, .string ⟨#[110, 97, 110]⟩] w fun e w' => e = .returned (.tuple #[.string X, .bool false]) ∧ w' = w)) (hn2 : (∀ w, Calls Tryd.prog 19 #[.string T, .string ⟨#[115, 110, 97, 110]⟩] w fun e w' => e = .returned (.tuple #[.string R, .bool true]) ∧ w' = w)) :
    Calls Tryd.prog 17 #[.string t] w fun e w' => e = .returned (.tuple #[.agg (partsV (nanP true o)), .bool o.isSome]) ∧ Below w.heap.size w w' := by
  have K1 := Lib.hid (lower_calls t (w.alloc (.cells #[.int .i64 0, .bool false, .bool false, .string ⟨#[]⟩, .int .i64 0] 24)) (by omega) (hT _ (below_alloc (Below.refl _ _) _)))
  rw [hS] at K1
  have HN := Lib.hid hn
  have HN2 := Lib.hid hn2
  clear hS hT hn hn2
  obtain ⟨b, hbb⟩ : ∃ b, w.heap.size = b := ⟨_, rfl⟩
  have HBB : Hid (w.heap.size ≤ b) := Lib.hid (by rw [hbb]; exact Nat.le_refl _)
  go_enter Tryd.func17, Tryd.ntmps17
  go_wp2_with fail
  refine K1.out.mono ?_
  rintro e w1 ⟨rfl, hb⟩
  have HP : Box5 w1 b 0 false false ⟨#[]⟩ 0 := below_heap hb (by rw [← hbb]; exact heap_new _ _)
  have c0 : w1.cell? ⟨b, 0, none⟩ = some (.int .i64 0) := HP.cell 0
  have z0 := free_of_heap HP 0
  have HB : Hid (Below w.heap.size w w1) := Lib.hid (below_then (below_alloc (Below.refl _ _) _) hb)
  clear hb K1 hbb
  go_wp2_with fail
  refine (HN.out _).mono ?_
  rintro e w2 ⟨rfl, rfl⟩
  have HP1 : Box5 (w1.setCell ⟨b, 0, none⟩ (.int .i64 3)) b 3 false false ⟨#[]⟩ 0 := heap_set HP 0 _
  have HB1 : Hid (Below w.heap.size w (w1.setCell ⟨b, 0, none⟩ (.int .i64 3))) := Lib.hid (HB.out.setCell HBB.out _)
  clear c0 z0 HP HB
  generalize w1.setCell ⟨b, 0, none⟩ (.int .i64 3) = w2 at *
  have c2 : w2.cell? ⟨b, 2, none⟩ = some (.bool false) := HP1.cell 2
  have z2 := free_of_heap HP1 2
  have HPa : Hid (Box5 (w2.setCell ⟨b, 2, none⟩ (.bool true)) b 3 false true ⟨#[]⟩ 0) := Lib.hid (heap_set HP1 2 _)
  have HBa : Hid (Below w.heap.size w (w2.setCell ⟨b, 2, none⟩ (.bool true))) := Lib.hid (HB1.out.setCell HBB.out _)
  clear HP1
  go_wp2_with fail
  refine (HN2.out _).mono ?_
  rintro e w3 ⟨rfl, rfl⟩
  clear c2 z2 HB1
  have HB1 := HBa
  have HP1 := HPa.out
  clear HBa HPa
  generalize w2.setCell ⟨b, 2, none⟩ (.bool true) = w2 at *
  rcases hpar.is with ⟨hne, rfl⟩ | ⟨hne, ho⟩
  · clear hpar
    have c0 : w2.cell? ⟨b, 0, none⟩ = some (.int .i64 3) := HP1.cell 0
    have c1 : w2.cell? ⟨b, 1, none⟩ = some (.bool false) := HP1.cell 1
    have c2 : w2.cell? ⟨b, 2, none⟩ = some (.bool true) := HP1.cell 2
    have c3 : w2.cell? ⟨b, 3, none⟩ = some (.string ⟨#[]⟩) := HP1.cell 3
    have c4 : w2.cell? ⟨b, 4, none⟩ = some (.int .i64 0) := HP1.cell 4
    have z0 := free_of_heap HP1 0
    have z1 := free_of_heap HP1 1
    have z2 := free_of_heap HP1 2
    have z3 := free_of_heap HP1 3
    have z4 := free_of_heap HP1 4
    have HH := Lib.hid HP1
    clear HP1
    go_wp2
    exact bodyPost_ret (results_ct rfl _ _ b 24 _ _ _ rfl (row5 HH.out rfl _ _ _ _ _) Tryd.underlying24 rfl parts_info) rfl
      ⟨rfl, below5 HB1.out HBB.out _ _ _ _ _⟩
  · have HO := Lib.hid hpar.ho
    have HC := Lib.hid hpar.hc
    have HR := Lib.hid hpar.hr
    have HQ := Lib.hid ho
    have HP2 := Lib.hid HP1
    clear hpar ho HP1
    go_wp2_with fail
    refine (HO.out _).mono ?_
    rintro e w3 ⟨rfl, rfl⟩
    go_wp2_with fail
    refine (HC.out _).mono ?_
    rintro e w3 ⟨rfl, rfl⟩
    go_wp2_with fail
    refine (HR.out _).mono ?_
    rintro e w3 ⟨rfl, hb3⟩
    have HP3 : Hid (Box5 w3 b 3 false true ⟨#[]⟩ 0) := Lib.hid (below_heap hb3 HP2.out)
    have HB3 := Lib.hid (below_then HB1.out hb3)
    obtain ⟨dE, hdE⟩ : ∃ q, D.toList.isEmpty = q := ⟨_, rfl⟩
    obtain ⟨mE, hmE⟩ : ∃ q, M.toList.isEmpty = q := ⟨_, rfl⟩
    have HDE := Lib.hid hdE
    have HME := Lib.hid hmE
    clear hb3 HO HC HR HP2 HB1 hdE hmE
    obtain ⟨bad, hbad⟩ : ∃ q, (!op || !sh || dE || !mE) = q := ⟨_, rfl⟩
    have HBAD := Lib.hid hbad
    clear hbad
    go_upto_region 18 with fail
    go_cut [71] (fun s71 wx => s71 = .bool bad ∧ wx = w3)
    case first =>
      have hdE := HDE.out
      have hmE := HME.out
      cases op
      · go_wp2
        go_meet
        exact ⟨by rw [← HBAD.out]; rfl, rfl⟩
      · cases sh
        · go_wp2
          go_meet
          exact ⟨by rw [← HBAD.out]; rfl, rfl⟩
        · cases dE
          · cases mE
            · go_wp2
              go_meet
              exact ⟨by rw [← HBAD.out]; rfl, rfl⟩
            · go_wp2
              go_meet
              exact ⟨by rw [← HBAD.out]; rfl, rfl⟩
          · go_wp2
            go_meet
            exact ⟨by rw [← HBAD.out]; rfl, rfl⟩
    case rest =>
    obtain ⟨rfl, rfl⟩ := hcut
    have HBe : Hid ((!op || !sh || D.toList.isEmpty || !M.toList.isEmpty) = bad) := Lib.hid (by rw [HDE.out, HME.out]; exact HBAD.out)
    have HH := HP3.out
    have c0 : wc.cell? ⟨b, 0, none⟩ = some (.int .i64 3) := HH.cell 0
    have c1 : wc.cell? ⟨b, 1, none⟩ = some (.bool false) := HH.cell 1
    have c2 : wc.cell? ⟨b, 2, none⟩ = some (.bool true) := HH.cell 2
    have c3 : wc.cell? ⟨b, 3, none⟩ = some (.string ⟨#[]⟩) := HH.cell 3
    have c4 : wc.cell? ⟨b, 4, none⟩ = some (.int .i64 0) := HH.cell 4
    have z0 := free_of_heap HH 0
    have z1 := free_of_heap HH 1
    have z2 := free_of_heap HH 2
    have z3 := free_of_heap HH 3
    have z4 := free_of_heap HH 4
    clear HH
    cases bad
    · have KB := Lib.hid (bare_calls D D.data.toList rfl wc)
      have HO2 : Hid (o = some (bareL D.data.toList)) := Lib.hid (by rw [HQ.out, HBe.out]; rfl)
      clear HQ HBe HBAD HDE HME hne
      go_wp2_with fail
      refine KB.out.mono ?_
      rintro e w4 ⟨rfl, rfl⟩
      go_wp2
      exact bodyPost_ret (results_ct rfl _ _ b 24 _ _ _ rfl (row5 (heap_set HP3.out 3 _) rfl _ _ _ _ _) Tryd.underlying24 rfl parts_info) rfl
        ⟨by rw [HO2.out]; rfl, below5 (HB3.out.setCell HBB.out _) HBB.out _ _ _ _ _⟩
    · have HO2 : Hid (o = none) := Lib.hid (by rw [HQ.out, HBe.out]; rfl)
      clear HQ HBe HBAD HDE HME hne
      go_wp2
      exact bodyPost_ret (results_ct rfl _ _ b 24 _ _ _ rfl (row5 HP3.out rfl _ _ _ _ _) Tryd.underlying24 rfl parts_info) rfl
        ⟨by rw [HO2.out]; rfl, below5 HB3.out HBB.out _ _ _ _ _⟩

set_option maxRecDepth 10000 in
set_option maxHeartbeats 2000000 in
theorem wordNone (t : ByteArray) (hs : t.size ≤ 4000) (w : World) (hT : ∀ W, Below w.heap.size w W → Lib.Utf8Tabs 2 3 W) (T : ByteArray) (hS : (⟨(Lib.mapD lowF t.data.toList).toArray⟩ : ByteArray) = T)
    (q1 : (T.toList == [105, 110, 102]) = false) (q2 : (T.toList == [105, 110, 102, 105, 110, 105, 116, 121]) = false) (X R : ByteArray)
    (hn : (∀ w, Calls Tryd.prog 19 #[.string T, .string ⟨#[110, 97, 110]⟩] w fun e w' => e = .returned (.tuple #[.string X, .bool false]) ∧ w' = w)) (hn2 : (∀ w, Calls Tryd.prog 19 #[.string T, .string ⟨#[115, 110, 97, 110]⟩] w fun e w' => e = .returned (.tuple #[.string R, .bool false]) ∧ w' = w)) :
    Calls Tryd.prog 17 #[.string t] w fun e w' => e = .returned (.tuple #[.agg (partsV noParts), .bool false]) ∧ Below w.heap.size w w' := by
  have K1 := Lib.hid (lower_calls t (w.alloc (.cells #[.int .i64 0, .bool false, .bool false, .string ⟨#[]⟩, .int .i64 0] 24)) (by omega) (hT _ (below_alloc (Below.refl _ _) _)))
  rw [hS] at K1
  have HN := Lib.hid hn
  have HN2 := Lib.hid hn2
  clear hS hT hn hn2
  obtain ⟨b, hbb⟩ : ∃ b, w.heap.size = b := ⟨_, rfl⟩
  have HBB : Hid (w.heap.size ≤ b) := Lib.hid (by rw [hbb]; exact Nat.le_refl _)
  go_enter Tryd.func17, Tryd.ntmps17
  go_wp2_with fail
  refine K1.out.mono ?_
  rintro e w1 ⟨rfl, hb⟩
  have HP : Box5 w1 b 0 false false ⟨#[]⟩ 0 := below_heap hb (by rw [← hbb]; exact heap_new _ _)
  have c0 : w1.cell? ⟨b, 0, none⟩ = some (.int .i64 0) := HP.cell 0
  have z0 := free_of_heap HP 0
  have HB : Hid (Below w.heap.size w w1) := Lib.hid (below_then (below_alloc (Below.refl _ _) _) hb)
  clear hb K1 hbb
  go_wp2_with fail
  refine (HN.out _).mono ?_
  rintro e w2 ⟨rfl, rfl⟩
  have HP1 : Box5 (w1.setCell ⟨b, 0, none⟩ (.int .i64 3)) b 3 false false ⟨#[]⟩ 0 := heap_set HP 0 _
  have HB1 : Hid (Below w.heap.size w (w1.setCell ⟨b, 0, none⟩ (.int .i64 3))) := Lib.hid (HB.out.setCell HBB.out _)
  clear c0 z0 HP HB
  generalize w1.setCell ⟨b, 0, none⟩ (.int .i64 3) = w2 at *
  have c2 : w2.cell? ⟨b, 2, none⟩ = some (.bool false) := HP1.cell 2
  have z2 := free_of_heap HP1 2
  have HPa : Hid (Box5 (w2.setCell ⟨b, 2, none⟩ (.bool true)) b 3 false true ⟨#[]⟩ 0) := Lib.hid (heap_set HP1 2 _)
  have HBa : Hid (Below w.heap.size w (w2.setCell ⟨b, 2, none⟩ (.bool true))) := Lib.hid (HB1.out.setCell HBB.out _)
  clear HP1
  go_wp2_with fail
  refine (HN2.out _).mono ?_
  rintro e w3 ⟨rfl, rfl⟩
  clear c2 z2 HB1
  have HB1 := HBa
  have HP1 := HPa.out
  clear HBa HPa
  generalize w2.setCell ⟨b, 2, none⟩ (.bool true) = w2 at *
  have HH := Lib.hid HP1
  have c0 : w2.cell? ⟨b, 0, none⟩ = some (.int .i64 3) := HP1.cell 0
  have c1 : w2.cell? ⟨b, 1, none⟩ = some (.bool false) := HP1.cell 1
  have c2 : w2.cell? ⟨b, 2, none⟩ = some (.bool true) := HP1.cell 2
  have c3 : w2.cell? ⟨b, 3, none⟩ = some (.string ⟨#[]⟩) := HP1.cell 3
  have c4 : w2.cell? ⟨b, 4, none⟩ = some (.int .i64 0) := HP1.cell 4
  have z0 := free_of_heap HP1 0
  have z1 := free_of_heap HP1 1
  have z2 := free_of_heap HP1 2
  have z3 := free_of_heap HP1 3
  have z4 := free_of_heap HP1 4
  clear HP1
  go_wp2
  exact bodyPost_ret (results_ct rfl _ _ b 24 _ _ _ rfl (row5 HH.out rfl _ _ _ _ _) Tryd.underlying24 rfl parts_info) rfl
    ⟨rfl, below5 HB1.out HBB.out _ _ _ _ _⟩

end Go.Proofs.YtiocdgehpiagjaaDoor
