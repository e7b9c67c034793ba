/- grammar.Join. -/
import Derived.Test.YtiocdgehpiagjaaDoorGrText
namespace Go.Proofs.YtiocdgehpiagjaaDoor
set_option linter.unusedVariables false
set_option linter.unusedSimpArgs false
open Go.RowKit
open Classical in
/-- A joined text and the error's number. -/
noncomputable def joinL (p : PartsL) : List UInt8 × Int := if GoodL p then (textL p, 0) else ([], 1)
def joinV (r : List UInt8 × Int) : Value := .tuple #[.string ⟨r.1.toArray⟩, .int .i64 r.2]
theorem text_ge {p : PartsL} (h : p.cls ≠ 2) : p.digits.length ≤ (textL p).length := by
  have hB : p.digits.length ≤ (textB p).length := by
    unfold textB
    rw [if_neg h]
    by_cases hd : p.digits = []
    · rw [hd]; exact Nat.zero_le _
    · by_cases h3 : p.cls = 3
      · rw [if_pos h3, if_neg hd]
        simp only [List.length_append, List.length_cons, List.length_nil]
        omega
      · rw [if_neg h3, if_neg hd]
        simp only [List.length_append]
        omega
  unfold textL
  rw [List.length_append]
  omega
theorem long_bad {p : PartsL} (h : 4000 < p.digits.length) : ¬ GoodL p := by
  rintro ⟨_, ⟨c1, _, _, _, hl⟩ | ⟨_, _, hd, _⟩ | ⟨c3, _, hl⟩⟩
  · have := text_ge (p := p) (by omega)
    omega
  · rw [hd] at h; simp at h
  · have := text_ge (p := p) (by omega)
    omega
theorem text_top {p : PartsL} (hx : (Lib.itoa p.exp).length ≤ 21) : (textL p).length ≤ p.digits.length + 40 := by
  have hB : (textB p).length ≤ p.digits.length + 30 := by
    unfold textB
    by_cases h2 : p.cls = 2
    · rw [if_pos h2]; simp [infS]
    · rw [if_neg h2]
      by_cases h3 : p.cls = 3
      · rw [if_pos h3]
        have e1 : (if p.sig = true then [115] else [] : List UInt8).length ≤ 1 := by split <;> simp
        have e2 : (if p.digits = [] then [] else 40 :: p.digits ++ [41] : List UInt8).length ≤ p.digits.length + 2 := by split <;> simp
        simp only [List.length_append, nanS, List.length_cons, List.length_nil] at *
        omega
      · rw [if_neg h3]
        have e1 : (if p.digits = [] then [48] else p.digits : List UInt8).length ≤ p.digits.length + 1 := by split <;> simp
        have e2 : (if p.exp = 0 then [] else 101 :: Lib.itoa p.exp : List UInt8).length ≤ 22 := by split <;> simp; omega
        rw [List.length_append]
        omega
  have e : (if p.sign = true then [45] else [] : List UInt8).length ≤ 1 := by split <;> simp
  unfold textL
  rw [List.length_append]
  omega
set_option maxRecDepth 10000 in
set_option maxHeartbeats 4000000 in
theorem join_calls (c : Int) (s g : Bool) (D : ByteArray) (d : List UInt8) (x : Int) (hD : D.data.toList = d) (hd : d.length ≤ 10000) (w : World) (hT : Lib.Utf8Tabs 2 3 w)
    (hI : ∀ W, Below w.heap.size w W → Calls Tryd.prog 39 #[.int .i64 x] W fun e w' => e = .returned (.string ⟨(Lib.itoa x).toArray⟩) ∧ Below W.heap.size W w') (hx : (Lib.itoa x).length ≤ 21) :
    Calls Tryd.prog 14 #[.agg #[.int .i64 c, .bool s, .bool g, .string D, .int .i64 x]] w fun e w' => e = .returned (joinV (joinL ⟨c, s, g, d, x⟩)) ∧ Below w.heap.size w w' := by
  have hsz := str_size hD
  obtain ⟨n, hn⟩ : ∃ n, D.size = n := ⟨_, rfl⟩
  by_cases hl : 4000 < n
  · have hj : joinL ⟨c, s, g, d, x⟩ = ([], 1) := if_neg (long_bad (by show 4000 < d.length; omega))
    have HJ := Lib.hid hj
    clear hj hsz hd hI hT
    have hli : (4000 : Int) < (n : Int) := by omega
    go_enter Tryd.func14, Tryd.ntmps14
    go_wp2
    go_ret2
    exact ⟨by rw [HJ.out]; rfl, below_alloc (Below.refl _ _) _⟩
  · have htl : (textL ⟨c, s, g, d, x⟩).length ≤ 10040 := by have := text_top (p := ⟨c, s, g, d, x⟩) hx; have e : (PartsL.mk c s g d x).digits = d := rfl; rw [e] at this; omega
    have HTX := Lib.hid (fun W (hb : Below w.heap.size w W) => text_calls c s g D d x hD hd W (fun W' hb' => hI W' (below_then hb hb')) hx)
    have HC := Lib.hid (fun W hb => cut_keep ⟨(textL ⟨c, s, g, d, x⟩).toArray⟩ (textL ⟨c, s, g, d, x⟩) rfl (by omega) w W hT hb)
    generalize hR : cutL (textL ⟨c, s, g, d, x⟩) = R at HC
    generalize hTT : (⟨(textL ⟨c, s, g, d, x⟩).toArray⟩ : ByteArray) = T at HTX HC
    obtain ⟨⟨c2, s2, g2, d2, x2⟩, E⟩ := R
    have ev : cutV (⟨c2, s2, g2, d2, x2⟩, E) = .tuple #[.agg #[.int .i64 c2, .bool s2, .bool g2, .string ⟨d2.toArray⟩, .int .i64 x2], .int .i64 E] := rfl
    rw [ev] at HC
    generalize hD2 : (⟨d2.toArray⟩ : ByteArray) = D2 at HC
    clear hsz hd hI hT
    go_enter Tryd.func14, Tryd.ntmps14
    go_wp2_with fail
    refine (HTX.out _ (below_alloc (Below.refl _ _) _)).mono ?_
    rintro e w1 ⟨rfl, hb1⟩
    have HX1 : Hid (w1.heap[w.heap.size]? = some (.cells #[.int .i64 c, .bool s, .bool g, .string D, .int .i64 x] 24 (0, 0))) := Lib.hid (below_heap hb1 (heap_new _ _))
    have HB1 : Hid (Below w.heap.size w w1) := Lib.hid (below_then (below_alloc (Below.refl _ _) _) hb1)
    clear hb1
    go_wp2_with fail
    refine (HC.out _ HB1.out).mono ?_
    rintro e w2 ⟨rfl, hb2⟩
    have HB2 : Hid (Below w.heap.size w w2) := Lib.hid (below_then HB1.out hb2)
    have HX2 : Hid (w2.heap[w.heap.size]? = some (.cells #[.int .i64 c, .bool s, .bool g, .string D, .int .i64 x] 24 (0, 0))) := Lib.hid (below_heap hb2 HX1.out)
    have HL2 : Hid (w.heap.size < w2.heap.size) := Lib.hid (lt_of_heap HX2.out)
    have HX3 : Hid ((w2.alloc (.cells #[.int .i64 c2, .bool s2, .bool g2, .string D2, .int .i64 x2] 24)).heap[w.heap.size]? = some (.cells #[.int .i64 c, .bool s, .bool g, .string D, .int .i64 x] 24 (0, 0))) := Lib.hid ((heap_keep _ _ HL2.out).trans HX2.out)
    have HY3 : Hid ((w2.alloc (.cells #[.int .i64 c2, .bool s2, .bool g2, .string D2, .int .i64 x2] 24)).heap[w2.heap.size]? = some (.cells #[.int .i64 c2, .bool s2, .bool g2, .string D2, .int .i64 x2] 24 (0, 0))) := Lib.hid (heap_new _ _)
    have px0 : (w2.alloc (.cells #[.int .i64 c2, .bool s2, .bool g2, .string D2, .int .i64 x2] 24)).cell? ⟨w.heap.size, 0, none⟩ = some (.int .i64 c) := cell_of_heap HX3.out 0
    have px1 : (w2.alloc (.cells #[.int .i64 c2, .bool s2, .bool g2, .string D2, .int .i64 x2] 24)).cell? ⟨w.heap.size, 1, none⟩ = some (.bool s) := cell_of_heap HX3.out 1
    have px2 : (w2.alloc (.cells #[.int .i64 c2, .bool s2, .bool g2, .string D2, .int .i64 x2] 24)).cell? ⟨w.heap.size, 2, none⟩ = some (.bool g) := cell_of_heap HX3.out 2
    have px3 : (w2.alloc (.cells #[.int .i64 c2, .bool s2, .bool g2, .string D2, .int .i64 x2] 24)).cell? ⟨w.heap.size, 3, none⟩ = some (.string D) := cell_of_heap HX3.out 3
    have px4 : (w2.alloc (.cells #[.int .i64 c2, .bool s2, .bool g2, .string D2, .int .i64 x2] 24)).cell? ⟨w.heap.size, 4, none⟩ = some (.int .i64 x) := cell_of_heap HX3.out 4
    have py0 : (w2.alloc (.cells #[.int .i64 c2, .bool s2, .bool g2, .string D2, .int .i64 x2] 24)).cell? ⟨w2.heap.size, 0, none⟩ = some (.int .i64 c2) := cell_of_heap HY3.out 0
    have py1 : (w2.alloc (.cells #[.int .i64 c2, .bool s2, .bool g2, .string D2, .int .i64 x2] 24)).cell? ⟨w2.heap.size, 1, none⟩ = some (.bool s2) := cell_of_heap HY3.out 1
    have py2 : (w2.alloc (.cells #[.int .i64 c2, .bool s2, .bool g2, .string D2, .int .i64 x2] 24)).cell? ⟨w2.heap.size, 2, none⟩ = some (.bool g2) := cell_of_heap HY3.out 2
    have py3 : (w2.alloc (.cells #[.int .i64 c2, .bool s2, .bool g2, .string D2, .int .i64 x2] 24)).cell? ⟨w2.heap.size, 3, none⟩ = some (.string D2) := cell_of_heap HY3.out 3
    have py4 : (w2.alloc (.cells #[.int .i64 c2, .bool s2, .bool g2, .string D2, .int .i64 x2] 24)).cell? ⟨w2.heap.size, 4, none⟩ = some (.int .i64 x2) := cell_of_heap HY3.out 4
    clear hb2 HX1 HX2 HL2 HB1 HX3 HY3
    by_cases hE : E = 0
    · subst hE
      by_cases heq : (⟨c2, s2, g2, d2, x2⟩ : PartsL) = ⟨c, s, g, d, x⟩
      · obtain ⟨rfl, rfl, rfl, rfl, rfl⟩ : c2 = c ∧ s2 = s ∧ g2 = g ∧ d2 = d ∧ x2 = x := by simpa using heq
        have hDD : D2 = D := by rw [← hD2]; exact (bytes_of hD).symm
        subst hDD
        have HJ : Hid (joinL ⟨c2, s2, g2, d2, x2⟩ = (textL ⟨c2, s2, g2, d2, x2⟩, 0)) := Lib.hid (if_pos (good_of_cut hR))
        have HTT := Lib.hid hTT
        clear hTT hD2 hR heq HTX HC htl hx hD ev
        go_wp2
        go_ret2
        exact ⟨by rw [HJ.out, ← HTT.out]; rfl, below_alloc HB2.out _⟩
      · have HNE : Hid (¬ (c2 = c ∧ s2 = s ∧ g2 = g ∧ D2.toList = D.toList ∧ x2 = x)) := Lib.hid (by
          rintro ⟨rfl, rfl, rfl, hdd, rfl⟩
          apply heq
          congr 1
          rw [Lib.toList_data, Lib.toList_data, hD, ← hD2] at hdd
          exact hdd)
        have HJ : Hid (joinL ⟨c, s, g, d, x⟩ = ([], 1)) := Lib.hid (if_neg fun hg => by
          rw [cut_text hg] at hR
          injection hR with hR1 hR2
          exact heq hR1.symm)
        clear hTT hD2 hR heq HTX HC htl hx hD ev
        go_wp2
        all_goals
          first
          | exact absurd ⟨by assumption, by assumption, by assumption, by assumption, by assumption⟩ HNE.out
          | (go_ret2
             exact ⟨by rw [HJ.out]; rfl, below_alloc HB2.out _⟩)
    · have HJ : Hid (joinL ⟨c, s, g, d, x⟩ = ([], 1)) := Lib.hid (if_neg fun hg => by
          rw [cut_text hg] at hR
          injection hR with hR1 hR2
          exact hE hR2.symm)
      have qE : (E != 0) = true := bne_iff_ne.2 hE
      have qE2 : (E == 0) = false := beq_eq_false_iff_ne.2 hE
      clear hTT hD2 hR HTX HC htl hx hD ev hE
      go_wp2
      go_ret2
      exact ⟨by rw [HJ.out]; rfl, below_alloc HB2.out _⟩
end Go.Proofs.YtiocdgehpiagjaaDoor
