/- The reference's word. · The contract of the reference's Cut. · The contract of the reference's Cut at a number. -/
import Derived.Test.YtpodpdopgdkdkaaGreatDoorMw37
import Derived.RegionTactic
import Derived.Maps.RangeWalk
import Derived.Deep.DeepCutAuto
import Derived.ChangeAlike
set_option linter.unusedVariables false
set_option linter.unusedSimpArgs false
namespace Go.Proofs.YtpodpdopgdkdkaaGreatDoor
open Go.RowKit
theorem rparts_info : (Tryz.prog.info? 69).map (·.size) = some 5 := by kernel_rfl
/-- The reference's parts in block b. -/
def RBox (w : World) (b : Nat) (c : Int) (s g : Bool) (d : ByteArray) (x : Int) : Prop := w.heap[b]? = some (.cells #[.int .i64 c, .bool s, .bool g, .string d, .int .i64 x] 69 (0, 0))
theorem RBox.cell {w : World} {b : Nat} {c : Int} {s g : Bool} {d : ByteArray} {x : Int} (h : RBox w b c s g d x) (i : Nat) : w.cell? ⟨b, i, none⟩ = (#[.int .i64 c, .bool s, .bool g, .string d, .int .i64 x] : Array Value)[i]? := cell_of_heap h i
/-- What stands behind nan, in the five ways that the reference goes. -/
theorem par_ways (c : UInt8) (t : List UInt8) :
    (t.length < 2 ∧ parenL (c :: t) = none) ∨ (2 ≤ t.length ∧ c ≠ 40 ∧ parenL (c :: t) = none) ∨
    (2 ≤ t.length ∧ c = 40 ∧ ∃ d, t = t.dropLast ++ [d] ∧ ((d ≠ 41 ∧ parenL (c :: t) = none) ∨ (d = 41 ∧ digs t.dropLast = false ∧ parenL (c :: t) = none) ∨ (d = 41 ∧ digs t.dropLast = true ∧ parenL (c :: t) = some (bareL t.dropLast)))) := by
  unfold parenL
  simp only []
  by_cases hl : t.length < 2
  · left
    refine ⟨hl, if_neg fun h => h.2.2.1 (List.eq_nil_of_length_eq_zero (by simp; omega))⟩
  · right
    by_cases hc : c = 40
    · right
      refine ⟨by omega, hc, ?_⟩
      have hne : t ≠ [] := fun e => by subst e; simp at hl
      have hdl : t.dropLast ≠ [] := fun e => by
        have := congrArg List.length e
        simp at this
        omega
      refine ⟨t.getLast hne, (List.dropLast_concat_getLast hne).symm, ?_⟩
      rw [List.getLast?_eq_some_getLast hne]
      by_cases hd : t.getLast hne = 41
      · right
        by_cases hg : digs t.dropLast = true
        · right
          exact ⟨hd, hg, if_pos ⟨hc, by rw [hd], hdl, hg⟩⟩
        · left
          exact ⟨hd, by simpa using hg, if_neg fun h => hg h.2.2.2⟩
      · left
        exact ⟨hd, if_neg fun h => hd (by simpa using h.2.1)⟩
    · left
      exact ⟨by omega, hc, if_neg fun h => hc h.1⟩
/-- Which way the letters go. -/
def sigOf (S : List UInt8) : Bool := decide (S.head? = some 115)
def offS (S : List UInt8) : List UInt8 := if sigOf S = true then S.tail else S
theorem low_off {S : List UInt8} (hI : ¬ (S = infS ∨ S = infinityS)) : lowWordL S = nanL (sigOf S) (offS S) := by
  unfold lowWordL
  rw [if_neg hI]
  cases S with
  | nil => rfl
  | cons c u =>
    unfold offS sigOf
    by_cases hc : c = 115
    · subst hc; simp
    · simp [hc]
set_option maxRecDepth 10000 in
set_option maxHeartbeats 2000000 in
theorem refInf (t : ByteArray) (l : List UInt8) (h : t.data.toList = l) (hm : l.length ≤ 4000) (w : World) (S : List UInt8) (hS : l.map lowC = S) (hI : S = infS ∨ S = infinityS) :
    Calls Tryz.prog 93 #[.string t] w fun e w' => e = .returned (.tuple #[.agg (partsV ⟨2, false, false, [], 0⟩), .bool true]) ∧ Below w.heap.size w w' := by
  have K1 := Lib.hid (fun w => small_calls t l h (by omega) w)
  have e1 : (⟨S.toArray⟩ : ByteArray).toList = S := Lib.toList_data _
  rw [hS] at K1
  generalize (⟨S.toArray⟩ : ByteArray) = T at K1 e1
  obtain ⟨q, hq⟩ : ∃ q, (T.toList == [105, 110, 102]) = q := ⟨_, rfl⟩
  have hq2 : q = false → (T.toList == [105, 110, 102, 105, 110, 105, 116, 121]) = true := fun h => by
    rw [e1] at hq ⊢
    rcases hI with rfl | rfl
    · rw [← hq] at h; cases h
    · rfl
  have HQ2 := Lib.hid hq2
  clear hS hI e1 hq2 h hm
  obtain ⟨b, hbb⟩ : ∃ b, w.heap.size = b := ⟨_, rfl⟩
  have HBB : Hid (w.heap.size ≤ b) := Lib.hid (Nat.le_of_eq hbb)
  cases q
  · have e2 := HQ2.out rfl
    clear HQ2
    go_enter Tryz.func93, Tryz.ntmps93
    go_wp2_with fail
    refine (K1.out _).mono ?_
    rintro e w1 ⟨rfl, hb⟩
    have HP : Hid (RBox w1 b 0 false false ⟨#[]⟩ 0) := Lib.hid (below_heap hb (by rw [← hbb]; exact heap_new _ _))
    have HB : Hid (Below w.heap.size w w1) := Lib.hid (below_then (below_alloc (Below.refl _ _) _) hb)
    clear hb hbb K1
    go_wp2_with ((with_reducible refine gate_store 69 ?_); refine st_row 69 b 69 HP.out rparts_info ?_)
    exact bodyPost_ret (results_ct rfl _ _ b 69 _ _ _ rfl (setRow_heap _ _ _ _ _ _ HP.out) Tryz.underlying69 rfl rparts_info) rfl
      ⟨rfl, below_setRow HB.out HBB.out _⟩
  · clear HQ2
    go_enter Tryz.func93, Tryz.ntmps93
    go_wp2_with fail
    refine (K1.out _).mono ?_
    rintro e w1 ⟨rfl, hb⟩
    have HP : Hid (RBox w1 b 0 false false ⟨#[]⟩ 0) := Lib.hid (below_heap hb (by rw [← hbb]; exact heap_new _ _))
    have HB : Hid (Below w.heap.size w w1) := Lib.hid (below_then (below_alloc (Below.refl _ _) _) hb)
    clear hb hbb K1
    go_wp2_with ((with_reducible refine gate_store 69 ?_); refine st_row 69 b 69 HP.out rparts_info ?_)
    exact bodyPost_ret (results_ct rfl _ _ b 69 _ _ _ rfl (setRow_heap _ _ _ _ _ _ HP.out) Tryz.underlying69 rfl rparts_info) rfl
      ⟨rfl, below_setRow HB.out HBB.out _⟩
set_option maxRecDepth 10000 in
set_option maxHeartbeats 4000000 in
theorem refNan (t : ByteArray) (l : List UInt8) (h : t.data.toList = l) (hm : l.length ≤ 4000) (w : World) (S : List UInt8) (hS : l.map lowC = S) (hI : ¬ (S = infS ∨ S = infinityS)) (sg : Bool) (O : List UInt8) (hsg : sigOf S = sg) (hO : offS S = O) :
    Calls Tryz.prog 93 #[.string t] w fun e w' => e = .returned (.tuple #[.agg (partsV ((nanL sg O).getD noParts)), .bool (nanL sg O).isSome]) ∧ Below w.heap.size w w' := by
  have HSG := Lib.hid hsg
  have HO := Lib.hid hO
  clear hsg hO
  have K1 := Lib.hid (fun w => small_calls t l h (by omega) w)
  have hSl : S.length ≤ 4000 := by rw [← hS, List.length_map]; exact hm
  rw [hS] at K1
  obtain ⟨T, hT⟩ : ∃ q : ByteArray, (⟨S.toArray⟩ : ByteArray) = q := ⟨_, rfl⟩
  have HT : Hid (T.data.toList = S) := Lib.hid (by rw [← hT])
  rw [hT] at K1
  have q1 : (T.toList == [105, 110, 102]) = false := by rw [Lib.toList_data, HT.out]; exact beq_eq_false_iff_ne.2 fun e => hI (.inl e)
  have q2 : (T.toList == [105, 110, 102, 105, 110, 105, 116, 121]) = false := by rw [Lib.toList_data, HT.out]; exact beq_eq_false_iff_ne.2 fun e => hI (.inr e)
  have hsz := str_size HT.out
  obtain ⟨T2, hT2⟩ : ∃ q : ByteArray, (⟨(offS S).toArray⟩ : ByteArray) = q := ⟨_, rfl⟩
  have HT2 : Hid (T2.data.toList = offS S ∧ (⟨(offS S).toArray⟩ : ByteArray) = T2) := Lib.hid ⟨by rw [← hT2], hT2⟩
  obtain ⟨n, hn⟩ : ∃ n, S.length = n := ⟨_, rfl⟩
  rw [hn] at hsz hSl
  have HN := Lib.hid hn
  obtain ⟨b, hbb⟩ : ∃ b, w.heap.size = b := ⟨_, rfl⟩
  have HBB : Hid (w.heap.size ≤ b) := Lib.hid (Nat.le_of_eq hbb)
  clear hS hI h hm hT hT2 hn
  go_enter Tryz.func93, Tryz.ntmps93
  go_wp2_with fail
  refine (K1.out _).mono ?_
  rintro e w1 ⟨rfl, hb⟩
  have HP : Hid (RBox w1 b 0 false false ⟨#[]⟩ 0) := Lib.hid (below_heap hb (by rw [← hbb]; exact heap_new _ _))
  have HB : Hid (Below w.heap.size w w1) := Lib.hid (below_then (below_alloc (Below.refl _ _) _) hb)
  clear hb hbb K1
  go_upto_region 5 with (first
    | ((with_reducible refine gate_store 69 ?_); refine st_box 69 69 (w0 := w) HB.out rparts_info (fun W2 hb2 hk2 hX2 => ?_) (hn := rfl); have HB2 := Lib.hid hb2; have HP2 := Lib.hid (below_heap hk2 HP.out); have HX2 : Hid (RBox W2 w1.heap.size 3 false false ⟨#[]⟩ 0) := Lib.hid hX2; clear hb2 hk2 hX2)
    | fail)
  have HB4 : Hid (w.heap.size ≤ w1.heap.size ∧ b ≠ w1.heap.size) := Lib.hid ⟨HB.out.size, by have := lt_of_heap HP.out; omega⟩
  generalize w1.heap.size = b4 at *
  clear HB HP q1 q2
  go_frame
  go_cut [22] (fun s22 wx => s22 = .bool sg ∧ wx = W2)
  case first =>
    cases hS : S with
    | nil =>
      have hn0 : n = 0 := by rw [← HN.out, hS]; rfl
      have hs : Hid (sg = false) := Lib.hid (by rw [← HSG.out, hS]; rfl)
      subst hn0
      clear hS
      go_wp2
      go_meet
      exact ⟨by rw [hs.out], rfl⟩
    | cons c u =>
      have hn0 : n = u.length + 1 := by rw [← HN.out, hS]; rfl
      have h0 : 0 < T.size := by omega
      have hg : T[0]'h0 = c := get_of (l := c :: u) (by rw [HT.out, hS]) h0 (by simp)
      have hs : Hid (sg = decide (c = 115)) := Lib.hid (by rw [← HSG.out, hS]; unfold sigOf; simp)
      have hni : (0 : Int) < (n : Int) := by omega
      clear hS
      by_cases hc : c = 115
      · subst hc
        go_wp2
        go_meet
        exact ⟨by rw [hs.out]; rfl, rfl⟩
      · have q3 : (((c.toNat : Nat) : Int) == 115) = false := beq_eq_false_iff_ne.2 (fun e => hc (UInt8.toNat_inj.1 (by show c.toNat = 115; omega)))
        have hs2 : Hid (sg = false) := Lib.hid (by rw [hs.out]; simp [hc])
        clear hc
        go_wp2
        go_meet
        exact ⟨by rw [hs2.out], rfl⟩
  case rest =>
  obtain ⟨rfl, rfl⟩ := hcut
  go_upto_if 22 with fail
  go_cut [0] (fun s0 wx => s0 = .string T2 ∧ RBox wx b4 3 false sg ⟨#[]⟩ 0 ∧ RBox wx b 0 false false ⟨#[]⟩ 0 ∧ Below w.heap.size w wx)
  case first =>
    cases sg
    · have hE : Hid (T = T2) := Lib.hid (by rw [← HT2.out.2]; unfold offS; rw [HSG.out, if_neg (by decide)]; exact bytes_of HT.out)
      go_wp2
      go_meet
      exact ⟨by rw [hE.out], HX2.out, HP2.out, HB2.out⟩
    · have hn1 : 1 ≤ n := by
        have := HSG.out
        unfold sigOf at this
        rw [← HN.out]
        cases hS : S with
        | nil => rw [hS] at this; cases this
        | cons c u => simp
      have hE : T.extract 1 n = T2 := by
        rw [← HT2.out.2, ← hsz, ext_drop HT.out 1]
        unfold offS
        rw [HSG.out, if_pos rfl, List.drop_one]
      have hn1i : (1 : Int) ≤ (n : Int) := by omega
      have c2 : wc.cell? ⟨b4, 2, none⟩ = some (.bool false) := HX2.out.cell 2
      have z2 : wc.frozen? ⟨b4, 2, none⟩ = false := free_of_heap HX2.out 2
      go_wp2
      go_region
      all_goals
        go_wp2
        go_meet
        exact ⟨rfl, heap_set HX2.out 2 _, (heap_set_other HB4.out.2 2 _).trans HP2.out, HB2.out.drew.setCell HB4.out.1 _⟩
  case rest =>
  obtain ⟨rfl, hX, hP, hB⟩ := hcut
  have HX3 := Lib.hid hX
  have HP3 := Lib.hid hP
  have HB3 := Lib.hid hB
  clear hX hP hB HX2 HP2 HB2
  have hsz2 := str_size HT2.out.1
  obtain ⟨n2, hn2⟩ : ∃ n2, (offS S).length = n2 := ⟨_, rfl⟩
  rw [hn2] at hsz2
  have hn24 : n2 ≤ 4000 := by
    rw [← hn2]
    unfold offS
    split
    · rw [List.length_tail, HN.out]; omega
    · rw [HN.out]; exact hSl
  rw [HO.out] at hn2 HT2
  have HN2 := Lib.hid hn2
  clear hn2 HO HSG hsz HN hSl
  by_cases ht : O.take 3 = nanS
  · have hn3 : 3 ≤ n2 := by
      have := congrArg List.length ht
      simp [nanS] at this
      rw [← HN2.out]
      omega
    have hn3i : (3 : Int) ≤ (n2 : Int) := by omega
    have q3 : ((T2.extract 0 3).toList == [110, 97, 110]) = true := by
      rw [ext_take HT2.out.1 3, ht]
      exact beq_iff_eq.2 (Lib.toList_data _)
    obtain ⟨T3, hT3⟩ : ∃ q, T2.extract 3 n2 = q := ⟨_, rfl⟩
    have HT3 : Hid (T3.data.toList = O.drop 3) := Lib.hid (by rw [← hT3, ← hsz2, ext_drop HT2.out.1 3])
    have hnl : Hid (nanL sg O = match parenL (O.drop 3) with | some d => some ⟨3, false, sg, d, 0⟩ | none => none) := Lib.hid (by unfold nanL; rw [if_pos ht]; rfl)
    have hs3 := str_size HT3.out
    have c0 : wc.cell? ⟨b4, 0, none⟩ = some (.int .i64 3) := HX3.out.cell 0
    have c1 : wc.cell? ⟨b4, 1, none⟩ = some (.bool false) := HX3.out.cell 1
    have c2 : wc.cell? ⟨b4, 2, none⟩ = some (.bool sg) := HX3.out.cell 2
    have c3 : wc.cell? ⟨b4, 3, none⟩ = some (.string ⟨#[]⟩) := HX3.out.cell 3
    have c4 : wc.cell? ⟨b4, 4, none⟩ = some (.int .i64 0) := HX3.out.cell 4
    have z3 : wc.frozen? ⟨b4, 3, none⟩ = false := free_of_heap HX3.out 3
    clear ht hn3
    cases hQ : O.drop 3 with
    | nil =>
      have hT3e : T3 = ⟨#[]⟩ := bytes_of (by rw [HT3.out, hQ])
      have HN1 : Hid (nanL sg O = some ⟨3, false, sg, [], 0⟩) := Lib.hid (by rw [hnl.out, hQ]; rfl)
      subst hT3e
      clear hQ hs3 hnl
      go_wp2_with ((with_reducible refine gate_store 69 ?_); refine st_row 69 b 69 HP3.out rparts_info ?_)
      exact bodyPost_ret (results_ct rfl _ _ b 69 _ _ _ rfl (setRow_heap _ _ _ _ _ _ HP3.out) Tryz.underlying69 rfl rparts_info) rfl
        ⟨by rw [HN1.out]; rfl, below_setRow HB3.out HBB.out _⟩
    | cons c u =>
      obtain ⟨m, hm⟩ : ∃ m, u.length = m := ⟨_, rfl⟩
      have hs4 : T3.size = m + 1 := by rw [hs3, hQ, ← hm]; rfl
      have hm4 : m ≤ 4000 := by
        have := congrArg List.length hQ
        simp at this
        have := HN2.out
        omega
      have h0 : 0 < T3.size := by omega
      have hg : T3[0]'h0 = c := get_of (l := c :: u) (by rw [HT3.out, hQ]) h0 (by simp)
      have HQ := Lib.hid hQ
      have HM := Lib.hid hm
      have HPW := Lib.hid (par_ways c u)
      have hnl2 : Hid (nanL sg O = match parenL (c :: u) with | some d => some ⟨3, false, sg, d, 0⟩ | none => none) := Lib.hid (by rw [hnl.out, hQ])
      clear hQ hs3 hm hnl
      rcases HPW.out with ⟨p1, p2⟩ | ⟨p1, p2, p3⟩ | ⟨p1, p2, d, p3, p4⟩
      · have hmi : (m : Int) < 2 := by have := HM.out; omega
        have hmj : (m : Int) + 1 < 3 := by omega
        have HN1 : Hid (nanL sg O = none) := Lib.hid (by rw [hnl2.out, p2])
        clear HPW p1 p2
        go_wp2_with ((with_reducible refine gate_store 69 ?_); refine st_row 69 b 69 HP3.out rparts_info ?_)
        exact bodyPost_ret (results_ct rfl _ _ b 69 (partsV noParts) _ _ rfl (setRow_heap _ _ _ _ _ _ HP3.out) Tryz.underlying69 rfl rparts_info) rfl
          ⟨by rw [HN1.out]; rfl, below_setRow HB3.out HBB.out _⟩
      · have hmi : (2 : Int) ≤ (m : Int) := by have := HM.out; omega
        have hmj : ¬ (m : Int) + 1 < 3 := by omega
        have qc : (((c.toNat : Nat) : Int) == 40) = false := beq_eq_false_iff_ne.2 (fun e => p2 (UInt8.toNat_inj.1 (by show c.toNat = 40; omega)))
        have qc' : (((c.toNat : Nat) : Int) != 40) = true := by unfold bne; rw [qc]; rfl
        have HN1 : Hid (nanL sg O = none) := Lib.hid (by rw [hnl2.out, p3])
        clear HPW p1 p2 p3
        go_wp2_with ((with_reducible refine gate_store 69 ?_); refine st_row 69 b 69 HP3.out rparts_info ?_)
        exact bodyPost_ret (results_ct rfl _ _ b 69 (partsV noParts) _ _ rfl (setRow_heap _ _ _ _ _ _ HP3.out) Tryz.underlying69 rfl rparts_info) rfl
          ⟨by rw [HN1.out]; rfl, below_setRow HB3.out HBB.out _⟩
      · have hmi : (2 : Int) ≤ (m : Int) := by have := HM.out; omega
        have hmj : ¬ (m : Int) + 1 < 3 := by omega
        subst p2
        have hml : m < T3.size := by omega
        have hum : 1 ≤ u.length := by omega
        have hgd : T3[m]'hml = d := by
          have e := get_of (l := 40 :: u) (by rw [HT3.out, HQ.out]) hml (by simp [HM.out])
          rw [e]
          have e2 : (40 :: u) = (40 :: u.dropLast) ++ [d] := by rw [List.cons_append, ← p3]
          simp only [e2]
          rw [List.getElem_append_right (by simp; have := HM.out; omega)]
          simp
        have hx : (T3.extract 1 m).data.toList = u.dropLast := by
          rw [ByteArray.data_extract, Array.toList_extract, HT3.out, HQ.out]
          rw [List.dropLast_eq_take, HM.out]
          simp
        have hdl : u.dropLast ≠ [] := fun e => by
          have := congrArg List.length e
          simp at this
          omega
        have hdl2 : u.dropLast.length ≤ 4000 := by simp; have := HM.out; omega
        have KD := fun w => is_digs (T3.extract 1 m) u.dropLast hx (by omega) w
        have KB := Lib.hid (fun w => refBare_calls (T3.extract 1 m) u.dropLast hx (by omega) w)
        have e3 : (!u.dropLast.isEmpty) = true := by simpa using hdl
        rw [e3, Bool.true_and] at KD
        clear hx hdl e3 p1 p3 HPW
        rcases p4 with ⟨p5, p6⟩ | ⟨p5, p6, p7⟩ | ⟨p5, p6, p7⟩
        · have qd : (((d.toNat : Nat) : Int) == 41) = false := beq_eq_false_iff_ne.2 (fun e => p5 (UInt8.toNat_inj.1 (by show d.toNat = 41; omega)))
          have qd' : (((d.toNat : Nat) : Int) != 41) = true := by unfold bne; rw [qd]; rfl
          have HN1 : Hid (nanL sg O = none) := Lib.hid (by rw [hnl2.out, p6])
          clear p5 p6 KD KB
          go_wp2_with ((with_reducible refine gate_store 69 ?_); refine st_row 69 b 69 HP3.out rparts_info ?_)
          exact bodyPost_ret (results_ct rfl _ _ b 69 (partsV noParts) _ _ rfl (setRow_heap _ _ _ _ _ _ HP3.out) Tryz.underlying69 rfl rparts_info) rfl
            ⟨by rw [HN1.out]; rfl, below_setRow HB3.out HBB.out _⟩
        · subst p5
          rw [p6] at KD
          have KD2 := Lib.hid KD
          have HN1 : Hid (nanL sg O = none) := Lib.hid (by rw [hnl2.out, p7])
          clear p6 p7 KD KB
          go_wp2_with fail
          refine (KD2.out _).mono ?_
          rintro e w7 ⟨rfl, rfl⟩
          go_wp2_with ((with_reducible refine gate_store 69 ?_); refine st_row 69 b 69 HP3.out rparts_info ?_)
          exact bodyPost_ret (results_ct rfl _ _ b 69 (partsV noParts) _ _ rfl (setRow_heap _ _ _ _ _ _ HP3.out) Tryz.underlying69 rfl rparts_info) rfl
            ⟨by rw [HN1.out]; rfl, below_setRow HB3.out HBB.out _⟩
        · subst p5
          rw [p6] at KD
          have KD2 := Lib.hid KD
          have HN1 : Hid (nanL sg O = some ⟨3, false, sg, bareL u.dropLast, 0⟩) := Lib.hid (by rw [hnl2.out, p7])
          clear p6 p7 KD
          go_wp2_with fail
          refine (KD2.out _).mono ?_
          rintro e w7 ⟨rfl, rfl⟩
          go_wp2_with fail
          refine (KB.out _).mono ?_
          rintro e w7 ⟨rfl, rfl⟩
          go_wp2_with ((with_reducible refine gate_store 69 ?_); refine st_row 69 b 69 ((heap_set_other HB4.out.2 3 _).trans HP3.out) rparts_info ?_)
          exact bodyPost_ret (results_ct rfl _ _ b 69 _ _ _ rfl (setRow_heap _ _ _ _ _ _ ((heap_set_other HB4.out.2 3 _).trans HP3.out)) Tryz.underlying69 rfl rparts_info) rfl
            ⟨by rw [HN1.out]; rfl, below_setRow (HB3.out.setCell HB4.out.1 _) HBB.out _⟩
  · have HN1 : Hid (nanL sg O = none) := Lib.hid (by unfold nanL; rw [if_neg ht])
    by_cases hn3 : n2 < 3
    · have hn3i : (n2 : Int) < 3 := by omega
      clear ht hn3
      go_wp2_with ((with_reducible refine gate_store 69 ?_); refine st_row 69 b 69 HP3.out rparts_info ?_)
      exact bodyPost_ret (results_ct rfl _ _ b 69 (partsV noParts) _ _ rfl (setRow_heap _ _ _ _ _ _ HP3.out) Tryz.underlying69 rfl rparts_info) rfl
        ⟨by rw [HN1.out]; rfl, below_setRow HB3.out HBB.out _⟩
    · have hn3i : ¬ (n2 : Int) < 3 := by omega
      have hn3j : (3 : Int) ≤ (n2 : Int) := by omega
      have q3 : ((T2.extract 0 3).toList == [110, 97, 110]) = false := by
        rw [ext_take HT2.out.1 3]
        refine beq_eq_false_iff_ne.2 fun e => ht ?_
        rw [Lib.toList_data] at e
        exact e
      clear ht hn3
      go_wp2_with ((with_reducible refine gate_store 69 ?_); refine st_row 69 b 69 HP3.out rparts_info ?_)
      exact bodyPost_ret (results_ct rfl _ _ b 69 (partsV noParts) _ _ rfl (setRow_heap _ _ _ _ _ _ HP3.out) Tryz.underlying69 rfl rparts_info) rfl
        ⟨by rw [HN1.out]; rfl, below_setRow HB3.out HBB.out _⟩
theorem refWord_calls (t : ByteArray) (l : List UInt8) (h : t.data.toList = l) (hm : l.length ≤ 4000) (w : World) :
    Calls Tryz.prog 93 #[.string t] w fun e w' => e = .returned (.tuple #[.agg (partsV (wordR l)), .bool (wordL l).isSome]) ∧ Below w.heap.size w w' := by
  unfold wordR wordL
  by_cases hI : l.map lowC = infS ∨ l.map lowC = infinityS
  · have e : lowWordL (l.map lowC) = some ⟨2, false, false, [], 0⟩ := by unfold lowWordL; rw [if_pos hI]
    rw [e]
    exact refInf t l h hm w _ rfl hI
  · rw [low_off hI]
    exact refNan t l h hm w _ rfl hI _ _ rfl rfl
end Go.Proofs.YtpodpdopgdkdkaaGreatDoor
namespace Go.Proofs.YtpodpdopgdkdkaaGreatDoor
open Go.RowKit
set_option maxRecDepth 10000 in
set_option maxHeartbeats 2000000 in
theorem rcut_long (t : ByteArray) (l : List UInt8) (h : t.data.toList = l) (hl : 4000 < l.length) (hm : l.length ≤ 140737488351232) (w : World) :
    Calls Tryz.prog 42 #[.string t] w fun e w' => e = .returned (.tuple #[.agg (partsV noParts), .int .i64 4]) ∧ Below w.heap.size w w' := by
  have hs := str_size h
  have h1 : 4000 < t.size := by omega
  have h2 : t.size ≤ 140737488351232 := by omega
  obtain ⟨n, hn⟩ : ∃ n, t.size = n := ⟨_, rfl⟩
  rw [hn] at h1 h2
  clear h hl hm hs
  go_enter Tryz.func42, Tryz.ntmps42
  go_wp2_with ((with_reducible refine gate_store 69 ?_); refine st_row 69 w.heap.size 69 (heap_new w (.cells #[.int .i64 0, .bool false, .bool false, .string ⟨#[]⟩, .int .i64 0] 69)) rparts_info ?_)
  exact bodyPost_ret (results_ct rfl _ _ w.heap.size 69 _ _ _ rfl (setRow_heap _ _ _ _ _ _ (heap_new w _)) Tryz.underlying69 rfl rparts_info) rfl
    ⟨rfl, below_setRow (below_alloc (Below.refl _ _) _) (Nat.le_refl _) _⟩
set_option maxRecDepth 10000 in
set_option maxHeartbeats 2000000 in
theorem rcut_word (t : ByteArray) (l : List UInt8) (h : t.data.toList = l) (hl : l.length ≤ 4000) (w : World) (p : PartsL) (hp : wordL (signL l).2 = some p) :
    Calls Tryz.prog 42 #[.string t] w fun e w' => e = .returned (.tuple #[.agg (partsV { p with sign := (signL l).1 }), .int .i64 0]) ∧ Below w.heap.size w w' := by
  have hs := str_size h
  have K1 := Lib.hid (fun w => refSign_calls t l h (by omega) w)
  have K2 := fun W => refWord_calls ⟨(signL l).2.toArray⟩ (signL l).2 rfl (Nat.le_trans (sign_len l) hl) W
  unfold wordR at K2
  rw [hp] at K2
  simp only [Option.getD_some, Option.isSome_some] at K2
  have J2 := Lib.hid K2
  generalize (signL l).1 = neg at K1 ⊢
  generalize (⟨(signL l).2.toArray⟩ : ByteArray) = r at K1 J2
  have h2 : t.size ≤ 4000 := by omega
  obtain ⟨n, hn⟩ : ∃ n, t.size = n := ⟨_, rfl⟩
  rw [hn] at h2
  obtain ⟨b, hb⟩ : ∃ b, w.heap.size = b := ⟨_, rfl⟩
  have HBB : Hid (w.heap.size ≤ b) := Lib.hid (by rw [hb]; exact Nat.le_refl _)
  clear h hl hs hp K2
  go_enter Tryz.func42, Tryz.ntmps42
  go_wp2_with fail
  refine (K1.out _).mono ?_
  rintro e w1 ⟨rfl, hb1⟩
  have HB1 := Lib.hid (below_then (below_alloc (Below.refl w.heap.size w) _) hb1)
  have HX1 : Hid (w1.heap[b]? = some (.cells #[.int .i64 0, .bool false, .bool false, .string ⟨#[]⟩, .int .i64 0] 69 (0, 0))) := Lib.hid (below_heap hb1 (by rw [← hb]; exact heap_new _ _))
  clear hb1 hb K1
  go_wp2_with fail
  refine (J2.out _).mono ?_
  rintro e w2 ⟨rfl, hb2⟩
  have HB2 := Lib.hid (below_then HB1.out hb2)
  have HX2 := Lib.hid (below_heap hb2 HX1.out)
  clear hb2 HB1 HX1 J2
  have HB6 : Hid (w.heap.size ≤ w2.heap.size ∧ b ≠ w2.heap.size) := Lib.hid ⟨HB2.out.size, by have := lt_of_heap HX2.out; omega⟩
  go_wp2_with (first
    | ((with_reducible refine gate_store 69 ?_); refine st_box 69 69 (w0 := w) HB2.out rparts_info (fun W3 hb3 hk3 hX3 => ?_) (hn := rfl) (h1 := partsV_one p); have c1 : W3.cell? ⟨w2.heap.size, 1, none⟩ = some (.bool p.sign) := cell_of_heap hX3 1; have z1 : W3.frozen? ⟨w2.heap.size, 1, none⟩ = false := free_of_heap hX3 1; have HX3 := Lib.hid hX3; have HY3 := Lib.hid (below_heap hk3 HX2.out); have HB3 := Lib.hid hb3; clear hb3 hk3 hX3)
    | ((with_reducible refine gate_load 69 ?_); refine ld_row 69 w2.heap.size 69 (heap_set HX3.out 1 (.bool neg)) Tryz.underlying69 rparts_info ?_)
    | ((with_reducible refine gate_store 69 ?_); refine st_row 69 b 69 ((heap_set_other HB6.out.2 1 (.bool neg)).trans HY3.out) rparts_info ?_ (h1 := partsV_one { p with sign := neg }))
    | fail)
  exact bodyPost_ret (results_ct rfl _ _ b 69 _ _ _ rfl (setRow_heap _ _ _ _ _ _ ((heap_set_other HB6.out.2 1 (.bool neg)).trans HY3.out)) Tryz.underlying69 rfl rparts_info) rfl
    ⟨rfl, below_setRow (HB3.out.setCell HB6.out.1 _) HBB.out _⟩
end Go.Proofs.YtpodpdopgdkdkaaGreatDoor
namespace Go.Proofs.YtpodpdopgdkdkaaGreatDoor
open Go.RowKit
def dotted (r : List UInt8) : Bool := match r with
  | [] => false
  | c :: _ => decide (c = 46)
theorem dotted_pure (r : List UInt8) : (dotted r = true → ∃ u, r = 46 :: u ∧ dotL r = runL u) ∧ (dotted r = false → dotL r = ([], r)) := by
  cases r with
  | nil => exact ⟨fun h => (by cases h), fun _ => rfl⟩
  | cons c u =>
    by_cases hc : c = 46
    · subst hc
      exact ⟨fun _ => ⟨u, rfl, rfl⟩, fun h => by simp [dotted] at h⟩
    · refine ⟨fun h => absurd (by simpa [dotted] using h) hc, fun _ => ?_⟩
      unfold dotL
      simp only [if_neg hc]
set_option maxRecDepth 10000 in
set_option maxHeartbeats 4000000 in
theorem rcut_fin (t : ByteArray) (l : List UInt8) (h : t.data.toList = l) (hl : l.length ≤ 4000) (w : World) (hp : wordL (signL l).2 = none)
    (neg : Bool) (r whole r1 part rest : List UInt8) (e1 : signL l = (neg, r)) (e2 : runL r = (whole, r1)) (e3 : dotL r1 = (part, rest)) :
    Calls Tryz.prog 42 #[.string t] w fun e w' => e = .returned (.tuple #[.agg (partsV (finL neg whole part rest).1), .int .i64 (finL neg whole part rest).2]) ∧ Below w.heap.size w w' := by
  have hs := str_size h
  have lr : r.length ≤ 4000 := by
    have : r.length ≤ l.length := by have := sign_len l; rw [e1] at this; exact this
    omega
  have lr1 : r1.length ≤ 4000 := by
    have : r1.length ≤ r.length := by have := (run_len r).2; rw [e2] at this; exact this
    omega
  have lw : whole.length ≤ 4000 := by
    have : whole.length ≤ r.length := by have := (run_len r).1; rw [e2] at this; exact this
    omega
  have K1 := fun w => refSign_calls t l h (by omega) w
  have K2 := fun W => refWord_calls ⟨r.toArray⟩ r rfl lr W
  have K3 := fun W => refRun_calls ⟨r.toArray⟩ r rfl (by omega) W
  obtain ⟨dp1, dp2⟩ := dotted_pure r1
  rw [e3] at dp1 dp2
  unfold wordR at K2
  rw [e1] at hp K1
  simp only [hp] at K2
  simp only [Option.getD_none, Option.isSome_none] at K2
  rw [e2] at K3
  simp only [] at K1 K3
  have J1 := Lib.hid K1
  have J2 := Lib.hid K2
  have J3 := Lib.hid K3
  have h2 : t.size ≤ 4000 := by omega
  have lrest : rest.length ≤ 4000 ∧ part.length ≤ 4000 := by
    cases ok : dotted r1
    · have := dp2 ok
      simp only [Prod.mk.injEq] at this
      rw [this.1, this.2]
      exact ⟨lr1, by simp⟩
    · obtain ⟨u, hu, hd⟩ := dp1 ok
      have h3 := run_len u
      rw [← hd] at h3
      simp only [] at h3
      rw [hu] at lr1
      simp at lr1
      omega
  have HD := Lib.hid (And.intro dp1 dp2)
  obtain ⟨dt, hdt⟩ : ∃ q, dotted r1 = q := ⟨_, rfl⟩
  have HDT := Lib.hid hdt
  obtain ⟨n, hn⟩ : ∃ n, t.size = n := ⟨_, rfl⟩
  rw [hn] at h2
  obtain ⟨b, hb⟩ : ∃ b, w.heap.size = b := ⟨_, rfl⟩
  have HBB : Hid (w.heap.size ≤ b) := Lib.hid (by rw [hb]; exact Nat.le_refl _)
  obtain ⟨WB, hWB⟩ : ∃ q : ByteArray, (⟨whole.toArray⟩ : ByteArray) = q := ⟨_, rfl⟩
  obtain ⟨PB, hPB⟩ : ∃ q : ByteArray, (⟨part.toArray⟩ : ByteArray) = q := ⟨_, rfl⟩
  obtain ⟨RB, hRB⟩ : ∃ q : ByteArray, (⟨rest.toArray⟩ : ByteArray) = q := ⟨_, rfl⟩
  obtain ⟨R1, hR1⟩ : ∃ q : ByteArray, (⟨r1.toArray⟩ : ByteArray) = q := ⟨_, rfl⟩
  have HW : Hid (WB.data.toList = whole) := Lib.hid (by rw [← hWB])
  have HPB : Hid (PB.data.toList = part ∧ (⟨part.toArray⟩ : ByteArray) = PB) := Lib.hid ⟨by rw [← hPB], hPB⟩
  have HRB : Hid (RB.data.toList = rest ∧ (⟨rest.toArray⟩ : ByteArray) = RB) := Lib.hid ⟨by rw [← hRB], hRB⟩
  have HR1 : Hid (R1.data.toList = r1 ∧ (⟨r1.toArray⟩ : ByteArray) = R1) := Lib.hid ⟨by rw [← hR1], hR1⟩
  rw [hWB, hR1] at J3
  have HLR := Lib.hid lr1
  clear h hl hs hp K1 K2 K3 dp1 dp2 e1 e2 e3 lr lr1 hWB hPB hRB hR1 hdt
  go_enter Tryz.func42, Tryz.ntmps42
  go_wp2_with fail
  refine (J1.out _).mono ?_
  rintro e w1 ⟨rfl, hb1⟩
  have HB1 := Lib.hid (below_then (below_alloc (Below.refl w.heap.size w) _) hb1)
  have HX1 : Hid (w1.heap[b]? = some (.cells #[.int .i64 0, .bool false, .bool false, .string ⟨#[]⟩, .int .i64 0] 69 (0, 0))) := Lib.hid (below_heap hb1 (by rw [← hb]; exact heap_new _ _))
  clear hb hb1 J1
  go_wp2_with fail
  refine (J2.out _).mono ?_
  rintro e w2 ⟨rfl, hb2⟩
  have HB2 := Lib.hid (below_then HB1.out hb2)
  have HX2 := Lib.hid (below_heap hb2 HX1.out)
  clear hb2 HB1 HX1 J2
  go_wp2_with (first
    | ((with_reducible refine gate_store 69 ?_); refine st_box 69 69 (w0 := w) HB2.out rparts_info (fun W3 hb3 hk3 hX3 => ?_) (hn := rfl) (h1 := partsV_one noParts); have HY3 := Lib.hid (below_heap hk3 HX2.out); have HB3 := Lib.hid hb3; clear hb3 hk3 hX3)
    | fail)
  refine (J3.out _).mono ?_
  rintro e w5 ⟨rfl, hb5⟩
  have HB5 := Lib.hid (below_then HB3.out hb5)
  have HY5 := Lib.hid (below_heap hb5 HY3.out)
  clear hb5 HB2 HX2 HY3 HB3 J3
  go_upto_region 10 with fail
  go_cut [43] (fun s43 wx => s43 = .bool dt ∧ wx = w5)
  case first =>
    cases hS : r1 with
    | nil =>
      have h0 : R1 = ⟨#[]⟩ := bytes_of (by rw [HR1.out.1, hS])
      have hs : Hid (dt = false) := Lib.hid (by rw [← HDT.out, hS]; rfl)
      subst h0
      clear hS
      go_wp2
      go_meet
      exact ⟨by rw [hs.out], rfl⟩
    | cons c u =>
      have hsz : R1.size = u.length + 1 := by rw [str_size HR1.out.1, hS]; simp
      have h0 : 0 < R1.size := by omega
      have hg : R1[0]'h0 = c := get_of (l := c :: u) (by rw [HR1.out.1, hS]) h0 (by simp)
      have hs : Hid (dt = decide (c = 46)) := Lib.hid (by rw [← HDT.out, hS]; rfl)
      have hni : (0 : Int) < (R1.size : Int) := by omega
      have hsm : R1.size ≤ 5000 := by have := HLR.out; rw [hS] at this; simp at this; omega
      clear hS hsz
      by_cases hc : c = 46
      · subst hc
        go_wp2
        go_meet
        exact ⟨by rw [hs.out]; rfl, rfl⟩
      · have q3 : (((c.toNat : Nat) : Int) == 46) = false := beq_eq_false_iff_ne.2 (fun e => hc (UInt8.toNat_inj.1 (by show c.toNat = 46; omega)))
        have hs2 : Hid (dt = false) := Lib.hid (by rw [hs.out]; simp [hc])
        clear hc
        go_wp2
        go_meet
        exact ⟨by rw [hs2.out], rfl⟩
  case rest =>
  obtain ⟨rfl, rfl⟩ := hcut
  go_upto_if 43 with fail
  go_cut [9, 8] (fun s9 s8 wx => s9 = .string PB ∧ s8 = .string RB ∧ Below wc.heap.size wc wx)
  case first =>
    cases dt
    · have hd := HD.out.2 HDT.out
      simp only [Prod.mk.injEq] at hd
      have HE : Hid ((⟨#[]⟩ : ByteArray) = PB ∧ R1 = RB) := Lib.hid ⟨by rw [← HPB.out.2, hd.1], by rw [← HRB.out.2, ← HR1.out.2, hd.2]⟩
      clear hd
      go_wp2
      go_meet
      exact ⟨by rw [← HE.out.1], by rw [← HE.out.2], Below.refl _ _⟩
    · obtain ⟨u, hu, hd⟩ := HD.out.1 HDT.out
      have hsz : R1.size = u.length + 1 := by rw [str_size HR1.out.1, hu]; simp
      have hul : u.length ≤ 4000 := by have := HLR.out; rw [hu] at this; simp at this; omega
      have hx : (R1.extract 1 R1.size).data.toList = u := by
        rw [ext_drop HR1.out.1 1, hu]
        rfl
      have K5 := refRun_calls (R1.extract 1 R1.size) u hx (by omega) wc
      rw [← hd] at K5
      simp only [] at K5
      rw [HPB.out.2, HRB.out.2] at K5
      have J5 := Lib.hid K5
      have hni : (1 : Int) ≤ (R1.size : Int) := by omega
      have hsm : R1.size ≤ 5000 := by omega
      clear hd hu hsz hul hx K5
      go_wp2_with fail
      refine J5.out.mono ?_
      rintro e w7 ⟨rfl, hb7⟩
      have HB7 := Lib.hid hb7
      clear hb7
      go_wp2
      go_meet
      exact ⟨rfl, rfl, HB7.out⟩
  case rest =>
  obtain ⟨rfl, rfl, hbc⟩ := hcut
  have HBC := Lib.hid (below_then HB5.out hbc)
  have HYC := Lib.hid (below_heap hbc HY5.out)
  clear hbc HB5 HY5 HD HDT HLR HR1
  obtain ⟨wE, hwE⟩ : ∃ q, WB.toList.isEmpty = q := ⟨_, rfl⟩
  obtain ⟨pE, hpE⟩ : ∃ q, PB.toList.isEmpty = q := ⟨_, rfl⟩
  have hcat : WB.size + PB.size ≤ 8000 := by rw [str_size HW.out, str_size HPB.out.1]; omega
  obtain ⟨e0, he0⟩ : ∃ q, (wE && pE) = q := ⟨_, rfl⟩
  have hE0 : (whole ++ part).isEmpty = e0 := by
    have a1 : whole.isEmpty = wE := by rw [← hwE]; exact (isEmpty_of HW.out).symm
    have a2 : part.isEmpty = pE := by rw [← hpE]; exact (isEmpty_of HPB.out.1).symm
    rw [← he0, ← a1, ← a2]
    cases whole <;> cases part <;> rfl
  have HE0 := Lib.hid hE0
  have HE1 := Lib.hid he0
  clear hE0 he0
  go_upto_region 12 with fail
  go_cut [55] (fun s55 wx => s55 = .bool e0 ∧ wx = wc)
  case first =>
    cases wE
    · go_wp2
      go_meet
      exact ⟨by rw [← HE1.out]; rfl, rfl⟩
    · cases pE
      · go_wp2
        go_meet
        exact ⟨by rw [← HE1.out]; rfl, rfl⟩
      · go_wp2
        go_meet
        exact ⟨by rw [← HE1.out]; rfl, rfl⟩
  case rest =>
  obtain ⟨rfl, rfl⟩ := hcut
  clear hwE hpE HE1
  cases e0
  · have hne : Hid (¬ whole ++ part = []) := Lib.hid (by simpa using HE0.out)
    clear HE0
    have HRL := Lib.hid lrest
    clear lrest
    have hrs := str_size HRB.out.1
    obtain ⟨nr, hnr⟩ : ∃ nr, rest.length = nr := ⟨_, rfl⟩
    rw [hnr] at hrs
    have hnr4 : nr ≤ 4000 := by rw [← hnr]; exact HRL.out.1
    have HNR := Lib.hid hnr
    clear hnr
    obtain ⟨rP, hrP⟩ : ∃ q, decide (0 < nr) = q := ⟨_, rfl⟩
    have HRP := Lib.hid hrP
    go_upto_if 59 with fail
    go_cut [10] (fun s10 wx => ∃ ev : Int, tailL rest = some ev ∧ s10 = .int .i64 ev ∧ wx.heap[b]? = some (.cells #[.int .i64 0, .bool false, .bool false, .string ⟨#[]⟩, .int .i64 0] 69 (0, 0)) ∧ Below w.heap.size w wx)
    case first =>
      clear hrP
      cases hrest : rest with
      | nil =>
        have hz : nr = 0 := by rw [← HNR.out, hrest]; rfl
        obtain rfl : rP = false := by rw [← HRP.out, hz]; rfl
        have HTL : Hid (tailL rest = some 0) := Lib.hid (by rw [hrest]; rfl)
        clear hrest HRP hz
        go_wp2
        go_meet
        exact ⟨0, HTL.out, rfl, HYC.out, HBC.out⟩
      | cons c u =>
        have hz : nr = u.length + 1 := by rw [← HNR.out, hrest]; rfl
        obtain rfl : rP = true := by rw [← HRP.out]; exact decide_eq_true (by omega)
        have h0 : 0 < RB.size := by omega
        have hb0 : RB[0]'h0 = c := get_of (l := c :: u) (by rw [HRB.out.1, hrest]) h0 (by simp)
        have hx : (RB.extract 1 nr).data.toList = u := by
          rw [← hrs, ext_drop HRB.out.1 1, hrest]
          rfl
        have hul : u.length ≤ 4000 := by omega
        have HEX := Lib.hid (refExp_calls (RB.extract 1 nr) u hx hul wc)
        have hsz2 : (1 : Int) ≤ (nr : Int) := by omega
        have hsz0 : (0 : Int) < (nr : Int) := by omega
        have HTL : Hid (tailL rest = if c = 101 ∨ c = 69 then expL u else none) := Lib.hid (by rw [hrest]; rfl)
        clear hx hul hrest HRP hz
        by_cases hc1 : c = 101
        · have HTL2 : Hid (tailL rest = expL u) := Lib.hid (by rw [HTL.out, if_pos (.inl hc1)])
          subst hc1
          cases hexp : expL u with
          | none =>
            have HFI : Hid (finL neg whole part rest = (noParts, 2)) := Lib.hid (by unfold finL; rw [if_neg hne.out, HTL2.out, hexp])
            have HX := HEX.out
            rw [hexp] at HX
            have JX := Lib.hid HX
            clear hexp HEX HTL2 HTL HX
            go_wp2_with fail
            refine JX.out.mono ?_
            rintro e w7 ⟨rfl, hb7⟩
            have HB7 := Lib.hid (below_then HBC.out hb7)
            have HY7 := Lib.hid (below_heap hb7 HYC.out)
            clear hb7 HBC HYC
            have hexv : expV none = .tuple #[.int .i64 0, .bool false] := rfl
            rw [hexv]
            clear hexv
            go_wp2_with ((with_reducible refine gate_store 69 ?_); refine st_row 69 b 69 HY7.out rparts_info ?_)
            exact bodyPost_ret (results_ct rfl _ _ b 69 (partsV noParts) _ _ rfl (setRow_heap _ _ _ _ _ _ HY7.out) Tryz.underlying69 rfl rparts_info) rfl
              ⟨by rw [HFI.out]; rfl, below_setRow HB7.out HBB.out _⟩
          | some v =>
            have HX := HEX.out
            rw [hexp] at HX
            have JX := Lib.hid HX
            have HTV : Hid (tailL rest = some v) := Lib.hid (by rw [HTL2.out, hexp])
            clear hexp HEX HTL2 HTL HX
            go_wp2_with fail
            refine JX.out.mono ?_
            rintro e w7 ⟨rfl, hb7⟩
            have HB7 := Lib.hid (below_then HBC.out hb7)
            have HY7 := Lib.hid (below_heap hb7 HYC.out)
            clear hb7 HBC HYC
            have hexv : expV (some v) = .tuple #[.int .i64 v, .bool true] := rfl
            rw [hexv]
            clear hexv
            go_wp2
            go_meet
            exact ⟨v, HTV.out, rfl, HY7.out, HB7.out⟩
        · by_cases hc2 : c = 69
          · have HTL2 : Hid (tailL rest = expL u) := Lib.hid (by rw [HTL.out, if_pos (.inr hc2)])
            subst hc2
            clear hc1
            cases hexp : expL u with
            | none =>
              have HFI : Hid (finL neg whole part rest = (noParts, 2)) := Lib.hid (by unfold finL; rw [if_neg hne.out, HTL2.out, hexp])
              have HX := HEX.out
              rw [hexp] at HX
              have JX := Lib.hid HX
              clear hexp HEX HTL2 HTL HX
              go_wp2_with fail
              refine JX.out.mono ?_
              rintro e w7 ⟨rfl, hb7⟩
              have HB7 := Lib.hid (below_then HBC.out hb7)
              have HY7 := Lib.hid (below_heap hb7 HYC.out)
              clear hb7 HBC HYC
              have hexv : expV none = .tuple #[.int .i64 0, .bool false] := rfl
              rw [hexv]
              clear hexv
              go_wp2_with ((with_reducible refine gate_store 69 ?_); refine st_row 69 b 69 HY7.out rparts_info ?_)
              exact bodyPost_ret (results_ct rfl _ _ b 69 (partsV noParts) _ _ rfl (setRow_heap _ _ _ _ _ _ HY7.out) Tryz.underlying69 rfl rparts_info) rfl
                ⟨by rw [HFI.out]; rfl, below_setRow HB7.out HBB.out _⟩
            | some v =>
              have HX := HEX.out
              rw [hexp] at HX
              have JX := Lib.hid HX
              have HTV : Hid (tailL rest = some v) := Lib.hid (by rw [HTL2.out, hexp])
              clear hexp HEX HTL2 HTL HX
              go_wp2_with fail
              refine JX.out.mono ?_
              rintro e w7 ⟨rfl, hb7⟩
              have HB7 := Lib.hid (below_then HBC.out hb7)
              have HY7 := Lib.hid (below_heap hb7 HYC.out)
              clear hb7 HBC HYC
              have hexv : expV (some v) = .tuple #[.int .i64 v, .bool true] := rfl
              rw [hexv]
              clear hexv
              go_wp2
              go_meet
              exact ⟨v, HTV.out, rfl, HY7.out, HB7.out⟩
          · have HFI : Hid (finL neg whole part rest = (noParts, 2)) := Lib.hid (by unfold finL; rw [if_neg hne.out, HTL.out, if_neg (by rintro (h | h); exact hc1 h; exact hc2 h)])
            have q1 : (((c.toNat : Nat) : Int) == 101) = false := beq_eq_false_iff_ne.2 (fun e => hc1 (UInt8.toNat_inj.1 (by show c.toNat = 101; omega)))
            have q2 : (((c.toNat : Nat) : Int) == 69) = false := beq_eq_false_iff_ne.2 (fun e => hc2 (UInt8.toNat_inj.1 (by show c.toNat = 69; omega)))
            have q1' : (((c.toNat : Nat) : Int) != 101) = true := by unfold bne; rw [q1]; rfl
            have q2' : (((c.toNat : Nat) : Int) != 69) = true := by unfold bne; rw [q2]; rfl
            clear HTL HEX hc1 hc2
            go_wp2_with ((with_reducible refine gate_store 69 ?_); refine st_row 69 b 69 HYC.out rparts_info ?_)
            exact bodyPost_ret (results_ct rfl _ _ b 69 (partsV noParts) _ _ rfl (setRow_heap _ _ _ _ _ _ HYC.out) Tryz.underlying69 rfl rparts_info) rfl
              ⟨by rw [HFI.out]; rfl, below_setRow HBC.out HBB.out _⟩
    case rest =>
    obtain ⟨ev, hte, rfl, hY, hB⟩ := hcut
    have HYD := Lib.hid hY
    have HBD := Lib.hid hB
    have hev := tail_in hte
    have HTE := Lib.hid hte
    have hpl : PB.size = part.length := str_size HPB.out.1
    have HFI : Hid (finL neg whole part rest = (⟨1, neg, false, bareL (whole ++ part), clampE (ev - (part.length : Int))⟩, 0)) := Lib.hid (by unfold finL; rw [if_neg hne.out, HTE.out])
    have hpl4 := HRL.out.2
    have KB := Lib.hid (fun w => refBare_calls (WB ++ PB) (whole ++ part) (by rw [ByteArray.data_append, Array.toList_append, HW.out, HPB.out.1]) (by simp; omega) w)
    generalize part.length = pl at *
    clear hY hB hte HYC HBC hrP HRP
    go_wp2_with fail
    refine (KB.out _).mono ?_
    rintro e w8 ⟨rfl, rfl⟩
    go_wp2_with ((with_reducible refine gate_store 69 ?_); refine st_row 69 b 69 HYD.out rparts_info ?_)
    exact bodyPost_ret (results_ct rfl _ _ b 69 _ _ _ rfl (setRow_heap _ _ _ _ _ _ HYD.out) Tryz.underlying69 rfl rparts_info) rfl
      ⟨by rw [HFI.out, clamp_minmax]; rfl, below_setRow HBD.out HBB.out _⟩
  · have HFI : Hid (finL neg whole part rest = (noParts, 2)) := Lib.hid (by unfold finL; rw [if_pos (by simpa using HE0.out)])
    clear HE0
    go_wp2_with ((with_reducible refine gate_store 69 ?_); refine st_row 69 b 69 HYC.out rparts_info ?_)
    exact bodyPost_ret (results_ct rfl _ _ b 69 (partsV noParts) _ _ rfl (setRow_heap _ _ _ _ _ _ HYC.out) Tryz.underlying69 rfl rparts_info) rfl
      ⟨by rw [HFI.out]; rfl, below_setRow HBC.out HBB.out _⟩
theorem refCut_calls (t : ByteArray) (l : List UInt8) (h : t.data.toList = l) (hm : l.length ≤ 140737488351232) (w : World) :
    Calls Tryz.prog 42 #[.string t] w fun e w' => e = .returned (cutV (cutL l)) ∧ Below w.heap.size w w' := by
  unfold cutL
  by_cases hl : 4000 < l.length
  · rw [if_pos hl]
    exact rcut_long t l h hl hm w
  · rw [if_neg hl]
    unfold bodyL
    cases hp : wordL (signL l).2 with
    | some p => exact rcut_word t l h (by omega) w p hp
    | none => exact rcut_fin t l h (by omega) w hp (signL l).1 (signL l).2 _ _ _ _ rfl rfl rfl
end Go.Proofs.YtpodpdopgdkdkaaGreatDoor
