/- The reference's word. -/
import Derived.Test.YtiocdgehpiagjaaDoorRfGr4
import Derived.RegionTactic
import Derived.Maps.RangeWalk
import Derived.Deep.DeepCutAuto
import Derived.ChangeAlike
namespace Go.Proofs.YtiocdgehpiagjaaDoor
open Go.RowKit
theorem rparts_info : (Tryd.prog.info? 28).map (·.size) = some 5 := by kernel_rfl
/-- The reference's parts in block b. -/
def RBox (w : World) (b : Nat) (c : Int) (s g : Bool) (d : ByteArray) (x : Int) : Prop := w.heap[b]? = some (.cells #[.int .i64 c, .bool s, .bool g, .string d, .int .i64 x] 28 (0, 0))
theorem RBox.cell {w : World} {b : Nat} {c : Int} {s g : Bool} {d : ByteArray} {x : Int} (h : RBox w b c s g d x) (i : Nat) : w.cell? ⟨b, i, none⟩ = (#[.int .i64 c, .bool s, .bool g, .string d, .int .i64 x] : Array Value)[i]? := cell_of_heap h i
/-- What stands behind nan, in the five ways that the reference goes. -/
theorem par_ways (c : UInt8) (t : List UInt8) :
    (t.length < 2 ∧ parenL (c :: t) = none) ∨ (2 ≤ t.length ∧ c ≠ 40 ∧ parenL (c :: t) = none) ∨
    (2 ≤ t.length ∧ c = 40 ∧ ∃ d, t = t.dropLast ++ [d] ∧ ((d ≠ 41 ∧ parenL (c :: t) = none) ∨ (d = 41 ∧ digs t.dropLast = false ∧ parenL (c :: t) = none) ∨ (d = 41 ∧ digs t.dropLast = true ∧ parenL (c :: t) = some (bareL t.dropLast)))) := by
  unfold parenL
  simp only []
  by_cases hl : t.length < 2
  · left
    refine ⟨hl, if_neg fun h => h.2.2.1 (List.eq_nil_of_length_eq_zero (by simp; omega))⟩
  · right
    by_cases hc : c = 40
    · right
      refine ⟨by omega, hc, ?_⟩
      have hne : t ≠ [] := fun e => by subst e; simp at hl
      have hdl : t.dropLast ≠ [] := fun e => by
        have := congrArg List.length e
        simp at this
        omega
      refine ⟨t.getLast hne, (List.dropLast_concat_getLast hne).symm, ?_⟩
      rw [List.getLast?_eq_some_getLast hne]
      by_cases hd : t.getLast hne = 41
      · right
        by_cases hg : digs t.dropLast = true
        · right
          exact ⟨hd, hg, if_pos ⟨hc, by rw [hd], hdl, hg⟩⟩
        · left
          exact ⟨hd, by simpa using hg, if_neg fun h => hg h.2.2.2⟩
      · left
        exact ⟨hd, if_neg fun h => hd (by simpa using h.2.1)⟩
    · left
      exact ⟨by omega, hc, if_neg fun h => hc h.1⟩
/-- Which way the letters go. -/
def sigOf (S : List UInt8) : Bool := decide (S.head? = some 115)
def offS (S : List UInt8) : List UInt8 := if sigOf S = true then S.tail else S
theorem low_off {S : List UInt8} (hI : ¬ (S = infS ∨ S = infinityS)) : lowWordL S = nanL (sigOf S) (offS S) := by
  unfold lowWordL
  rw [if_neg hI]
  cases S with
  | nil => rfl
  | cons c u =>
    unfold offS sigOf
    by_cases hc : c = 115
    · subst hc; simp
    · simp [hc]
set_option maxRecDepth 10000 in
set_option maxHeartbeats 2000000 in
theorem refInf (t : ByteArray) (l : List UInt8) (h : t.data.toList = l) (hm : l.length ≤ 4000) (w : World) (S : List UInt8) (hS : l.map lowC = S) (hI : S = infS ∨ S = infinityS) :
    Calls Tryd.prog 23 #[.string t] w fun e w' => e = .returned (.tuple #[.agg (partsV ⟨2, false, false, [], 0⟩), .bool true]) ∧ Below w.heap.size w w' := by
  have K1 := Lib.hid (fun w => small_calls t l h (by omega) w)
  have e1 : (⟨S.toArray⟩ : ByteArray).toList = S := Lib.toList_data _
  rw [hS] at K1
  generalize (⟨S.toArray⟩ : ByteArray) = T at K1 e1
  obtain ⟨q, hq⟩ : ∃ q, (T.toList == [105, 110, 102]) = q := ⟨_, rfl⟩
  have hq2 : q = false → (T.toList == [105, 110, 102, 105, 110, 105, 116, 121]) = true := fun h => by
    rw [e1] at hq ⊢
    rcases hI with rfl | rfl
    · rw [← hq] at h; cases h
    · rfl
  have HQ2 := Lib.hid hq2
  clear hS hI e1 hq2 h hm
  obtain ⟨b, hbb⟩ : ∃ b, w.heap.size = b := ⟨_, rfl⟩
  have HBB : Hid (w.heap.size ≤ b) := Lib.hid (Nat.le_of_eq hbb)
  cases q
  · have e2 := HQ2.out rfl
    clear HQ2
    go_enter Tryd.func23, Tryd.ntmps23
    go_wp2_with fail
    refine (K1.out _).mono ?_
    rintro e w1 ⟨rfl, hb⟩
    have HP : Hid (RBox w1 b 0 false false ⟨#[]⟩ 0) := Lib.hid (below_heap hb (by rw [← hbb]; exact heap_new _ _))
    have HB : Hid (Below w.heap.size w w1) := Lib.hid (below_then (below_alloc (Below.refl _ _) _) hb)
    clear hb hbb K1
    go_wp2_with ((with_reducible refine gate_store 28 ?_); refine st_row 28 b 28 HP.out rparts_info ?_)
    exact bodyPost_ret (results_ct rfl _ _ b 28 _ _ _ rfl (setRow_heap _ _ _ _ _ _ HP.out) Tryd.underlying28 rfl rparts_info) rfl
      ⟨rfl, below_setRow HB.out HBB.out _⟩
  · clear HQ2
    go_enter Tryd.func23, Tryd.ntmps23
    go_wp2_with fail
    refine (K1.out _).mono ?_
    rintro e w1 ⟨rfl, hb⟩
    have HP : Hid (RBox w1 b 0 false false ⟨#[]⟩ 0) := Lib.hid (below_heap hb (by rw [← hbb]; exact heap_new _ _))
    have HB : Hid (Below w.heap.size w w1) := Lib.hid (below_then (below_alloc (Below.refl _ _) _) hb)
    clear hb hbb K1
    go_wp2_with ((with_reducible refine gate_store 28 ?_); refine st_row 28 b 28 HP.out rparts_info ?_)
    exact bodyPost_ret (results_ct rfl _ _ b 28 _ _ _ rfl (setRow_heap _ _ _ _ _ _ HP.out) Tryd.underlying28 rfl rparts_info) rfl
      ⟨rfl, below_setRow HB.out HBB.out _⟩
set_option maxRecDepth 10000 in
set_option maxHeartbeats 4000000 in
theorem refNan (t : ByteArray) (l : List UInt8) (h : t.data.toList = l) (hm : l.length ≤ 4000) (w : World) (S : List UInt8) (hS : l.map lowC = S) (hI : ¬ (S = infS ∨ S = infinityS)) (sg : Bool) (O : List UInt8) (hsg : sigOf S = sg) (hO : offS S = O) :
    Calls Tryd.prog 23 #[.string t] w fun e w' => e = .returned (.tuple #[.agg (partsV ((nanL sg O).getD noParts)), .bool (nanL sg O).isSome]) ∧ Below w.heap.size w w' := by
  have HSG := Lib.hid hsg
  have HO := Lib.hid hO
  clear hsg hO
  have K1 := Lib.hid (fun w => small_calls t l h (by omega) w)
  have hSl : S.length ≤ 4000 := by rw [← hS, List.length_map]; exact hm
  rw [hS] at K1
  obtain ⟨T, hT⟩ : ∃ q : ByteArray, (⟨S.toArray⟩ : ByteArray) = q := ⟨_, rfl⟩
  have HT : Hid (T.data.toList = S) := Lib.hid (by rw [← hT])
  rw [hT] at K1
  have q1 : (T.toList == [105, 110, 102]) = false := by rw [Lib.toList_data, HT.out]; exact beq_eq_false_iff_ne.2 fun e => hI (.inl e)
  have q2 : (T.toList == [105, 110, 102, 105, 110, 105, 116, 121]) = false := by rw [Lib.toList_data, HT.out]; exact beq_eq_false_iff_ne.2 fun e => hI (.inr e)
  have hsz := str_size HT.out
  obtain ⟨T2, hT2⟩ : ∃ q : ByteArray, (⟨(offS S).toArray⟩ : ByteArray) = q := ⟨_, rfl⟩
  have HT2 : Hid (T2.data.toList = offS S ∧ (⟨(offS S).toArray⟩ : ByteArray) = T2) := Lib.hid ⟨by rw [← hT2], hT2⟩
  obtain ⟨n, hn⟩ : ∃ n, S.length = n := ⟨_, rfl⟩
  rw [hn] at hsz hSl
  have HN := Lib.hid hn
  obtain ⟨b, hbb⟩ : ∃ b, w.heap.size = b := ⟨_, rfl⟩
  have HBB : Hid (w.heap.size ≤ b) := Lib.hid (Nat.le_of_eq hbb)
  clear hS hI h hm hT hT2 hn
  go_enter Tryd.func23, Tryd.ntmps23
  go_wp2_with fail
  refine (K1.out _).mono ?_
  rintro e w1 ⟨rfl, hb⟩
  have HP : Hid (RBox w1 b 0 false false ⟨#[]⟩ 0) := Lib.hid (below_heap hb (by rw [← hbb]; exact heap_new _ _))
  have HB : Hid (Below w.heap.size w w1) := Lib.hid (below_then (below_alloc (Below.refl _ _) _) hb)
  clear hb hbb K1
  go_upto_region 5 with (first
    | ((with_reducible refine gate_store 28 ?_); refine st_box 28 28 (w0 := w) HB.out rparts_info (fun W2 hb2 hk2 hX2 => ?_) (hn := rfl); have HB2 := Lib.hid hb2; have HP2 := Lib.hid (below_heap hk2 HP.out); have HX2 : Hid (RBox W2 w1.heap.size 3 false false ⟨#[]⟩ 0) := Lib.hid hX2; clear hb2 hk2 hX2)
    | fail)
  have HB4 : Hid (w.heap.size ≤ w1.heap.size ∧ b ≠ w1.heap.size) := Lib.hid ⟨HB.out.size, by have := lt_of_heap HP.out; omega⟩
  generalize w1.heap.size = b4 at *
  clear HB HP q1 q2
  go_frame
  go_cut [22] (fun s22 wx => s22 = .bool sg ∧ wx = W2)
  case first =>
    cases hS : S with
    | nil =>
      have hn0 : n = 0 := by rw [← HN.out, hS]; rfl
      have hs : Hid (sg = false) := Lib.hid (by rw [← HSG.out, hS]; rfl)
      subst hn0
      clear hS
      go_wp2
      go_meet
      exact ⟨by rw [hs.out], rfl⟩
    | cons c u =>
      have hn0 : n = u.length + 1 := by rw [← HN.out, hS]; rfl
      have h0 : 0 < T.size := by omega
      have hg : T[0]'h0 = c := get_of (l := c :: u) (by rw [HT.out, hS]) h0 (by simp)
      have hs : Hid (sg = decide (c = 115)) := Lib.hid (by rw [← HSG.out, hS]; unfold sigOf; simp)
      have hni : (0 : Int) < (n : Int) := by omega
      clear hS
      by_cases hc : c = 115
      · subst hc
        go_wp2
        go_meet
        exact ⟨by rw [hs.out]; rfl, rfl⟩
      · have q3 : (((c.toNat : Nat) : Int) == 115) = false := beq_eq_false_iff_ne.2 (fun e => hc (UInt8.toNat_inj.1 (by show c.toNat = 115; omega)))
        have hs2 : Hid (sg = false) := Lib.hid (by rw [hs.out]; simp [hc])
        clear hc
        go_wp2
        go_meet
        exact ⟨by rw [hs2.out], rfl⟩
  case rest =>
  obtain ⟨rfl, rfl⟩ := hcut
  go_upto_if 22 with fail
  go_cut [0] (fun s0 wx => s0 = .string T2 ∧ RBox wx b4 3 false sg ⟨#[]⟩ 0 ∧ RBox wx b 0 false false ⟨#[]⟩ 0 ∧ Below w.heap.size w wx)
  case first =>
    cases sg
    · have hE : Hid (T = T2) := Lib.hid (by rw [← HT2.out.2]; unfold offS; rw [HSG.out, if_neg (by decide)]; exact bytes_of HT.out)
      go_wp2
      go_meet
      exact ⟨by rw [hE.out], HX2.out, HP2.out, HB2.out⟩
    · have hn1 : 1 ≤ n := by
        have := HSG.out
        unfold sigOf at this
        rw [← HN.out]
        cases hS : S with
        | nil => rw [hS] at this; cases this
        | cons c u => simp
      have hE : T.extract 1 n = T2 := by
        rw [← HT2.out.2, ← hsz, ext_drop HT.out 1]
        unfold offS
        rw [HSG.out, if_pos rfl, List.drop_one]
      have hn1i : (1 : Int) ≤ (n : Int) := by omega
      have c2 : wc.cell? ⟨b4, 2, none⟩ = some (.bool false) := HX2.out.cell 2
      have z2 : wc.frozen? ⟨b4, 2, none⟩ = false := free_of_heap HX2.out 2
      go_wp2
      go_region
      all_goals
        go_wp2
        go_meet
        exact ⟨rfl, heap_set HX2.out 2 _, (heap_set_other HB4.out.2 2 _).trans HP2.out, HB2.out.drew.setCell HB4.out.1 _⟩
  case rest =>
  obtain ⟨rfl, hX, hP, hB⟩ := hcut
  have HX3 := Lib.hid hX
  have HP3 := Lib.hid hP
  have HB3 := Lib.hid hB
  clear hX hP hB HX2 HP2 HB2
  have hsz2 := str_size HT2.out.1
  obtain ⟨n2, hn2⟩ : ∃ n2, (offS S).length = n2 := ⟨_, rfl⟩
  rw [hn2] at hsz2
  have hn24 : n2 ≤ 4000 := by
    rw [← hn2]
    unfold offS
    split
    · rw [List.length_tail, HN.out]; omega
    · rw [HN.out]; exact hSl
  rw [HO.out] at hn2 HT2
  have HN2 := Lib.hid hn2
  clear hn2 HO HSG hsz HN hSl
  by_cases ht : O.take 3 = nanS
  · have hn3 : 3 ≤ n2 := by
      have := congrArg List.length ht
      simp [nanS] at this
      rw [← HN2.out]
      omega
    have hn3i : (3 : Int) ≤ (n2 : Int) := by omega
    have q3 : ((T2.extract 0 3).toList == [110, 97, 110]) = true := by
      rw [ext_take HT2.out.1 3, ht]
      exact beq_iff_eq.2 (Lib.toList_data _)
    obtain ⟨T3, hT3⟩ : ∃ q, T2.extract 3 n2 = q := ⟨_, rfl⟩
    have HT3 : Hid (T3.data.toList = O.drop 3) := Lib.hid (by rw [← hT3, ← hsz2, ext_drop HT2.out.1 3])
    have hnl : Hid (nanL sg O = match parenL (O.drop 3) with | some d => some ⟨3, false, sg, d, 0⟩ | none => none) := Lib.hid (by unfold nanL; rw [if_pos ht]; rfl)
    have hs3 := str_size HT3.out
    have c0 : wc.cell? ⟨b4, 0, none⟩ = some (.int .i64 3) := HX3.out.cell 0
    have c1 : wc.cell? ⟨b4, 1, none⟩ = some (.bool false) := HX3.out.cell 1
    have c2 : wc.cell? ⟨b4, 2, none⟩ = some (.bool sg) := HX3.out.cell 2
    have c3 : wc.cell? ⟨b4, 3, none⟩ = some (.string ⟨#[]⟩) := HX3.out.cell 3
    have c4 : wc.cell? ⟨b4, 4, none⟩ = some (.int .i64 0) := HX3.out.cell 4
    have z3 : wc.frozen? ⟨b4, 3, none⟩ = false := free_of_heap HX3.out 3
    clear ht hn3
    cases hQ : O.drop 3 with
    | nil =>
      have hT3e : T3 = ⟨#[]⟩ := bytes_of (by rw [HT3.out, hQ])
      have HN1 : Hid (nanL sg O = some ⟨3, false, sg, [], 0⟩) := Lib.hid (by rw [hnl.out, hQ]; rfl)
      subst hT3e
      clear hQ hs3 hnl
      go_wp2_with ((with_reducible refine gate_store 28 ?_); refine st_row 28 b 28 HP3.out rparts_info ?_)
      exact bodyPost_ret (results_ct rfl _ _ b 28 _ _ _ rfl (setRow_heap _ _ _ _ _ _ HP3.out) Tryd.underlying28 rfl rparts_info) rfl
        ⟨by rw [HN1.out]; rfl, below_setRow HB3.out HBB.out _⟩
    | cons c u =>
      obtain ⟨m, hm⟩ : ∃ m, u.length = m := ⟨_, rfl⟩
      have hs4 : T3.size = m + 1 := by rw [hs3, hQ, ← hm]; rfl
      have hm4 : m ≤ 4000 := by
        have := congrArg List.length hQ
        simp at this
        have := HN2.out
        omega
      have h0 : 0 < T3.size := by omega
      have hg : T3[0]'h0 = c := get_of (l := c :: u) (by rw [HT3.out, hQ]) h0 (by simp)
      have HQ := Lib.hid hQ
      have HM := Lib.hid hm
      have HPW := Lib.hid (par_ways c u)
      have hnl2 : Hid (nanL sg O = match parenL (c :: u) with | some d => some ⟨3, false, sg, d, 0⟩ | none => none) := Lib.hid (by rw [hnl.out, hQ])
      clear hQ hs3 hm hnl
      rcases HPW.out with ⟨p1, p2⟩ | ⟨p1, p2, p3⟩ | ⟨p1, p2, d, p3, p4⟩
      · have hmi : (m : Int) < 2 := by have := HM.out; omega
        have hmj : (m : Int) + 1 < 3 := by omega
        have HN1 : Hid (nanL sg O = none) := Lib.hid (by rw [hnl2.out, p2])
        clear HPW p1 p2
        go_wp2_with ((with_reducible refine gate_store 28 ?_); refine st_row 28 b 28 HP3.out rparts_info ?_)
        exact bodyPost_ret (results_ct rfl _ _ b 28 (partsV noParts) _ _ rfl (setRow_heap _ _ _ _ _ _ HP3.out) Tryd.underlying28 rfl rparts_info) rfl
          ⟨by rw [HN1.out]; rfl, below_setRow HB3.out HBB.out _⟩
      · have hmi : (2 : Int) ≤ (m : Int) := by have := HM.out; omega
        have hmj : ¬ (m : Int) + 1 < 3 := by omega
        have qc : (((c.toNat : Nat) : Int) == 40) = false := beq_eq_false_iff_ne.2 (fun e => p2 (UInt8.toNat_inj.1 (by show c.toNat = 40; omega)))
        have qc' : (((c.toNat : Nat) : Int) != 40) = true := by unfold bne; rw [qc]; rfl
        have HN1 : Hid (nanL sg O = none) := Lib.hid (by rw [hnl2.out, p3])
        clear HPW p1 p2 p3
        go_wp2_with ((with_reducible refine gate_store 28 ?_); refine st_row 28 b 28 HP3.out rparts_info ?_)
        exact bodyPost_ret (results_ct rfl _ _ b 28 (partsV noParts) _ _ rfl (setRow_heap _ _ _ _ _ _ HP3.out) Tryd.underlying28 rfl rparts_info) rfl
          ⟨by rw [HN1.out]; rfl, below_setRow HB3.out HBB.out _⟩
      · have hmi : (2 : Int) ≤ (m : Int) := by have := HM.out; omega
        have hmj : ¬ (m : Int) + 1 < 3 := by omega
        subst p2
        have hml : m < T3.size := by omega
        have hum : 1 ≤ u.length := by omega
        have hgd : T3[m]'hml = d := by
          have e := get_of (l := 40 :: u) (by rw [HT3.out, HQ.out]) hml (by simp [HM.out])
          rw [e]
          have e2 : (40 :: u) = (40 :: u.dropLast) ++ [d] := by rw [List.cons_append, ← p3]
          simp only [e2]
          rw [List.getElem_append_right (by simp; have := HM.out; omega)]
          simp
        have hx : (T3.extract 1 m).data.toList = u.dropLast := by
          rw [ByteArray.data_extract, Array.toList_extract, HT3.out, HQ.out]
          rw [List.dropLast_eq_take, HM.out]
          simp
        have hdl : u.dropLast ≠ [] := fun e => by
          have := congrArg List.length e
          simp at this
          omega
        have hdl2 : u.dropLast.length ≤ 4000 := by simp; have := HM.out; omega
        have KD := fun w => is_digs (T3.extract 1 m) u.dropLast hx (by omega) w
        have KB := Lib.hid (fun w => refBare_calls (T3.extract 1 m) u.dropLast hx (by omega) w)
        have e3 : (!u.dropLast.isEmpty) = true := by simpa using hdl
        rw [e3, Bool.true_and] at KD
        clear hx hdl e3 p1 p3 HPW
        rcases p4 with ⟨p5, p6⟩ | ⟨p5, p6, p7⟩ | ⟨p5, p6, p7⟩
        · have qd : (((d.toNat : Nat) : Int) == 41) = false := beq_eq_false_iff_ne.2 (fun e => p5 (UInt8.toNat_inj.1 (by show d.toNat = 41; omega)))
          have qd' : (((d.toNat : Nat) : Int) != 41) = true := by unfold bne; rw [qd]; rfl
          have HN1 : Hid (nanL sg O = none) := Lib.hid (by rw [hnl2.out, p6])
          clear p5 p6 KD KB
          go_wp2_with ((with_reducible refine gate_store 28 ?_); refine st_row 28 b 28 HP3.out rparts_info ?_)
          exact bodyPost_ret (results_ct rfl _ _ b 28 (partsV noParts) _ _ rfl (setRow_heap _ _ _ _ _ _ HP3.out) Tryd.underlying28 rfl rparts_info) rfl
            ⟨by rw [HN1.out]; rfl, below_setRow HB3.out HBB.out _⟩
        · subst p5
          rw [p6] at KD
          have KD2 := Lib.hid KD
          have HN1 : Hid (nanL sg O = none) := Lib.hid (by rw [hnl2.out, p7])
          clear p6 p7 KD KB
          go_wp2_with fail
          refine (KD2.out _).mono ?_
          rintro e w7 ⟨rfl, rfl⟩
          go_wp2_with ((with_reducible refine gate_store 28 ?_); refine st_row 28 b 28 HP3.out rparts_info ?_)
          exact bodyPost_ret (results_ct rfl _ _ b 28 (partsV noParts) _ _ rfl (setRow_heap _ _ _ _ _ _ HP3.out) Tryd.underlying28 rfl rparts_info) rfl
            ⟨by rw [HN1.out]; rfl, below_setRow HB3.out HBB.out _⟩
        · subst p5
          rw [p6] at KD
          have KD2 := Lib.hid KD
          have HN1 : Hid (nanL sg O = some ⟨3, false, sg, bareL u.dropLast, 0⟩) := Lib.hid (by rw [hnl2.out, p7])
          clear p6 p7 KD
          go_wp2_with fail
          refine (KD2.out _).mono ?_
          rintro e w7 ⟨rfl, rfl⟩
          go_wp2_with fail
          refine (KB.out _).mono ?_
          rintro e w7 ⟨rfl, rfl⟩
          go_wp2_with ((with_reducible refine gate_store 28 ?_); refine st_row 28 b 28 ((heap_set_other HB4.out.2 3 _).trans HP3.out) rparts_info ?_)
          exact bodyPost_ret (results_ct rfl _ _ b 28 _ _ _ rfl (setRow_heap _ _ _ _ _ _ ((heap_set_other HB4.out.2 3 _).trans HP3.out)) Tryd.underlying28 rfl rparts_info) rfl
            ⟨by rw [HN1.out]; rfl, below_setRow (HB3.out.setCell HB4.out.1 _) HBB.out _⟩
  · have HN1 : Hid (nanL sg O = none) := Lib.hid (by unfold nanL; rw [if_neg ht])
    by_cases hn3 : n2 < 3
    · have hn3i : (n2 : Int) < 3 := by omega
      clear ht hn3
      go_wp2_with ((with_reducible refine gate_store 28 ?_); refine st_row 28 b 28 HP3.out rparts_info ?_)
      exact bodyPost_ret (results_ct rfl _ _ b 28 (partsV noParts) _ _ rfl (setRow_heap _ _ _ _ _ _ HP3.out) Tryd.underlying28 rfl rparts_info) rfl
        ⟨by rw [HN1.out]; rfl, below_setRow HB3.out HBB.out _⟩
    · have hn3i : ¬ (n2 : Int) < 3 := by omega
      have hn3j : (3 : Int) ≤ (n2 : Int) := by omega
      have q3 : ((T2.extract 0 3).toList == [110, 97, 110]) = false := by
        rw [ext_take HT2.out.1 3]
        refine beq_eq_false_iff_ne.2 fun e => ht ?_
        rw [Lib.toList_data] at e
        exact e
      clear ht hn3
      go_wp2_with ((with_reducible refine gate_store 28 ?_); refine st_row 28 b 28 HP3.out rparts_info ?_)
      exact bodyPost_ret (results_ct rfl _ _ b 28 (partsV noParts) _ _ rfl (setRow_heap _ _ _ _ _ _ HP3.out) Tryd.underlying28 rfl rparts_info) rfl
        ⟨by rw [HN1.out]; rfl, below_setRow HB3.out HBB.out _⟩
theorem refWord_calls (t : ByteArray) (l : List UInt8) (h : t.data.toList = l) (hm : l.length ≤ 4000) (w : World) :
    Calls Tryd.prog 23 #[.string t] w fun e w' => e = .returned (.tuple #[.agg (partsV (wordR l)), .bool (wordL l).isSome]) ∧ Below w.heap.size w w' := by
  unfold wordR wordL
  by_cases hI : l.map lowC = infS ∨ l.map lowC = infinityS
  · have e : lowWordL (l.map lowC) = some ⟨2, false, false, [], 0⟩ := by unfold lowWordL; rw [if_pos hI]
    rw [e]
    exact refInf t l h hm w _ rfl hI
  · rw [low_off hI]
    exact refNan t l h hm w _ rfl hI _ _ rfl rfl
end Go.Proofs.YtiocdgehpiagjaaDoor
