/- GrammarBack: the walk (printed by wip/tools/gen_back.py). -/
import Derived.Test.YtiocdgehpiagjaaDoorLawJoins
import Derived.Deep.RegionHeld3
namespace Go.Proofs.YtiocdgehpiagjaaDoor
set_option linter.unusedVariables false
set_option linter.unusedSimpArgs false
open Go.RowKit Go.ChangeShapes Go.WideShapes
theorem bare_len (l : List UInt8) : (bareL l).length ≤ l.length := (List.dropWhile_suffix _).length_le
theorem paren_len {q d : List UInt8} (h : parenL q = some d) : d.length ≤ q.length := by
  unfold parenL at h
  split at h
  · cases h; exact Nat.zero_le _
  · split at h
    · cases h
      rename_i t _
      have := bare_len t.dropLast
      rw [List.length_dropLast] at this
      simp only [List.length_cons]
      omega
    · cases h
theorem nan_len {sig : Bool} {s : List UInt8} {p : PartsL} (h : nanL sig s = some p) : p.digits.length ≤ s.length := by
  unfold nanL at h
  split at h
  · split at h
    · rename_i d hd
      cases h
      have := paren_len hd
      rw [List.length_drop] at this
      show d.length ≤ s.length
      omega
    · cases h
  · cases h
theorem word_len {s : List UInt8} {p : PartsL} (h : wordL s = some p) : p.digits.length ≤ s.length := by
  have hl : (s.map lowC).length = s.length := List.length_map _
  unfold wordL lowWordL at h
  split at h
  · cases h; exact Nat.zero_le _
  · split at h
    · cases h
    · rename_i c t he
      rw [he] at hl
      simp only [List.length_cons] at hl
      split at h
      · have := nan_len h
        omega
      · have := nan_len h
        simp only [List.length_cons] at this
        omega
theorem signs_len (l : List UInt8) : (signL l).2.length ≤ l.length := by
  unfold signL
  split
  · exact Nat.le_refl _
  · split
    · simp
    · split <;> simp
theorem runs_len (l : List UInt8) : (runL l).1.length + (runL l).2.length = l.length := by
  unfold runL
  rw [← List.length_append, List.takeWhile_append_dropWhile]
theorem dot_len (l : List UInt8) : (dotL l).1.length ≤ l.length := by
  unfold dotL
  split
  · exact Nat.le_refl _
  · split
    · rename_i t _
      have := runs_len t
      simp only [List.length_cons]
      omega
    · exact Nat.zero_le _
theorem cut_len {l : List UInt8} {p : PartsL} (h : cutL l = (p, 0)) : p.digits.length ≤ 4000 := by
  have h4 := (cut_shape h).2
  have hs := signs_len l
  unfold cutL at h
  split at h
  · simp at h
  · unfold bodyL at h
    split at h
    · rename_i q hq
      simp only [Prod.mk.injEq, and_true] at h
      subst h
      have := word_len hq
      show q.digits.length ≤ 4000
      omega
    · unfold finL at h
      split at h
      · simp at h
      · split at h
        · simp at h
        · simp only [Prod.mk.injEq, and_true] at h
          subst h
          have h1 := runs_len (signL l).2
          have h2 := dot_len (runL (signL l).2).2
          have h3 := bare_len ((runL (signL l).2).1 ++ (dotL (runL (signL l).2).2).1)
          rw [List.length_append] at h3
          exact Nat.le_trans h3 (by omega)
set_option maxRecDepth 10000 in
set_option maxHeartbeats 8000000 in
theorem back_one (c : Int) (s g : Bool) (D : ByteArray) (x : Int) (t : ByteArray) (c2 : Int) (s2 g2 : Bool) (D2 : ByteArray) (x2 : Int) (K : List UInt8 × Int) (TU : List UInt8) (w : World) (hT : Lib.Utf8Tabs 2 3 w) (hn : D.size ≤ 10000) (hm : t.size ≤ 10000) (J : List UInt8 × Int)
    (hJ : ∀ W, Below w.heap.size w W → Calls Tryd.prog 14 #[.agg #[.int .i64 c, .bool s, .bool g, .string D, .int .i64 x]] W fun e w' => e = .returned (joinV J) ∧ Below W.heap.size W w')
    (hJ2 : (J.2 = 0 ∧ ∀ W, Below w.heap.size w W → Calls Tryd.prog 9 #[.string ⟨J.1.toArray⟩] W fun e w' => e = .returned (.tuple #[.agg #[.int .i64 c, .bool s, .bool g, .string D, .int .i64 x], .int .i64 0]) ∧ Below W.heap.size W w') ∨ J = ([], 1))
    (hcs : ∀ W, Below w.heap.size w W → Calls Tryd.prog 9 #[.string t] W fun e w' => e = .returned (.tuple #[.agg #[.int .i64 c2, .bool s2, .bool g2, .string D2, .int .i64 x2], .int .i64 0]) ∧ Below W.heap.size W w')
    (hjx : ∀ W, Below w.heap.size w W → Calls Tryd.prog 14 #[.agg #[.int .i64 c2, .bool s2, .bool g2, .string D2, .int .i64 x2]] W fun e w' => e = .returned (joinV K) ∧ Below W.heap.size W w')
    (hgx : (K = (TU, 0) ∧ ∀ W, Below w.heap.size w W → Calls Tryd.prog 9 #[.string ⟨TU.toArray⟩] W fun e w' => e = .returned (.tuple #[.agg #[.int .i64 c2, .bool s2, .bool g2, .string D2, .int .i64 x2], .int .i64 0]) ∧ Below W.heap.size W w') ∨ K = ([], 1))
    :
    Calls Tryd.prog 7 #[.agg #[.int .i64 c, .bool s, .bool g, .string D, .int .i64 x], .string t] w fun e w' => e = .returned (.bool true) ∧ Below w.heap.size w w' := by
  have HAW := Lib.hid (fun W hT => gawake_calls W hT)
  have HT := Lib.hid hT
  have HO := Lib.hid (fun W => theirs_calls c s g D x W)
  have HU := Lib.hid (fun W => ours_calls c s g D x W)
  have HJ := Lib.hid hJ
  obtain ⟨n, hnn⟩ : ∃ n, D.size = n := ⟨_, rfl⟩
  obtain ⟨m, hmm⟩ : ∃ m, t.size = m := ⟨_, rfl⟩
  rw [hnn] at hn
  rw [hmm] at hm
  have HCS := Lib.hid hcs
  have HJX := Lib.hid hjx
  have HGX := Lib.hid hgx
  clear hT hJ hcs hjx hgx
  rcases hJ2 with ⟨hE, hct⟩ | hE
  · obtain ⟨T, E⟩ := J
    obtain rfl : E = 0 := hE
    have ev : joinV (T, 0) = .tuple #[.string ⟨T.toArray⟩, .int .i64 0] := rfl
    rw [ev] at HJ
    have HCT := Lib.hid hct
    have et : (⟨(T, (0 : Int)).1.toArray⟩ : ByteArray) = ⟨T.toArray⟩ := rfl
    rw [et] at HCT
    generalize (⟨T.toArray⟩ : ByteArray) = T at HJ HCT
    clear ev et hct
    go_enter Tryd.func7, Tryd.ntmps7
    go_wp2_with fail
    refine (HAW.out _ (Utf8Tabs.keep HT.out (below_alloc (Below.refl _ _) _))).mono ?_
    rintro e w1 ⟨rfl, hb1⟩
    have HX1 : Hid (w1.heap[w.heap.size]? = some (.cells #[.int .i64 c, .bool s, .bool g, .string D, .int .i64 x] 28 (0, 0))) := Lib.hid (below_heap hb1 (heap_new _ _))
    have HB1 := Lib.hid (below_then (below_alloc (Below.refl _ _) _) hb1)
    clear hb1
    have px0 : w1.cell? ⟨w.heap.size, 0, none⟩ = some (.int .i64 c) := cell_of_heap HX1.out 0
    have px1 : w1.cell? ⟨w.heap.size, 1, none⟩ = some (.bool s) := cell_of_heap HX1.out 1
    have px2 : w1.cell? ⟨w.heap.size, 2, none⟩ = some (.bool g) := cell_of_heap HX1.out 2
    have px3 : w1.cell? ⟨w.heap.size, 3, none⟩ = some (.string D) := cell_of_heap HX1.out 3
    have px4 : w1.cell? ⟨w.heap.size, 4, none⟩ = some (.int .i64 x) := cell_of_heap HX1.out 4
    go_wp2_with fail
    refine (HO.out _).mono ?_
    rintro e w2 ⟨rfl, hb2⟩
    have HX2 : Hid (w2.heap[w.heap.size]? = some (.cells #[.int .i64 c, .bool s, .bool g, .string D, .int .i64 x] 28 (0, 0))) := Lib.hid (below_heap hb2 HX1.out)
    have HB2 := Lib.hid (below_then HB1.out hb2)
    clear hb2 px0 px1 px2 px3 px4 HX1 HB1
    go_wp2_with fail
    refine (HJ.out _ HB2.out).mono ?_
    rintro e w3 ⟨rfl, hb3⟩
    have HX3 : Hid (w3.heap[w.heap.size]? = some (.cells #[.int .i64 c, .bool s, .bool g, .string D, .int .i64 x] 28 (0, 0))) := Lib.hid (below_heap hb3 HX2.out)
    have HB3 := Lib.hid (below_then HB2.out hb3)
    clear hb3 HX2 HB2
    go_wp2_with fail
    refine (HCT.out _ HB3.out).mono ?_
    rintro e w4 ⟨rfl, hb4⟩
    have HX4 : Hid (w4.heap[w.heap.size]? = some (.cells #[.int .i64 c, .bool s, .bool g, .string D, .int .i64 x] 28 (0, 0))) := Lib.hid (below_heap hb4 HX3.out)
    have HL4 : Hid (w.heap.size < w4.heap.size) := Lib.hid (lt_of_heap HX4.out)
    have HX5 : Hid ((w4.alloc (.cells #[.int .i64 c, .bool s, .bool g, .string D, .int .i64 x] 24)).heap[w.heap.size]? = some (.cells #[.int .i64 c, .bool s, .bool g, .string D, .int .i64 x] 28 (0, 0))) := Lib.hid ((heap_keep _ _ HL4.out).trans HX4.out)
    have HY5 : Hid ((w4.alloc (.cells #[.int .i64 c, .bool s, .bool g, .string D, .int .i64 x] 24)).heap[w4.heap.size]? = some (.cells #[.int .i64 c, .bool s, .bool g, .string D, .int .i64 x] 24 (0, 0))) := Lib.hid (heap_new _ _)
    have HB5 : Hid (Below w.heap.size w (w4.alloc (.cells #[.int .i64 c, .bool s, .bool g, .string D, .int .i64 x] 24))) := Lib.hid (below_alloc (below_then HB3.out hb4) _)
    clear hb4 HX3 HB3 HX4 HL4
    go_wp2_with fail
    generalize (w4.alloc (.cells #[.int .i64 c, .bool s, .bool g, .string D, .int .i64 x] 24)) = W4 at *
    generalize w4.heap.size = bb at *
    have px0 : W4.cell? ⟨w.heap.size, 0, none⟩ = some (.int .i64 c) := cell_of_heap HX5.out 0
    have px1 : W4.cell? ⟨w.heap.size, 1, none⟩ = some (.bool s) := cell_of_heap HX5.out 1
    have px2 : W4.cell? ⟨w.heap.size, 2, none⟩ = some (.bool g) := cell_of_heap HX5.out 2
    have px3 : W4.cell? ⟨w.heap.size, 3, none⟩ = some (.string D) := cell_of_heap HX5.out 3
    have px4 : W4.cell? ⟨w.heap.size, 4, none⟩ = some (.int .i64 x) := cell_of_heap HX5.out 4
    have py0 : W4.cell? ⟨bb, 0, none⟩ = some (.int .i64 c) := cell_of_heap HY5.out 0
    have py1 : W4.cell? ⟨bb, 1, none⟩ = some (.bool s) := cell_of_heap HY5.out 1
    have py2 : W4.cell? ⟨bb, 2, none⟩ = some (.bool g) := cell_of_heap HY5.out 2
    have py3 : W4.cell? ⟨bb, 3, none⟩ = some (.string D) := cell_of_heap HY5.out 3
    have py4 : W4.cell? ⟨bb, 4, none⟩ = some (.int .i64 x) := cell_of_heap HY5.out 4
    have hB5 := HB5.out
    clear HX5 HY5 HB5
    go_region_held3 (fun w' => w'.cell? ⟨w.heap.size, 0, none⟩ = some (.int .i64 c) ∧ w'.cell? ⟨w.heap.size, 1, none⟩ = some (.bool s) ∧ w'.cell? ⟨w.heap.size, 2, none⟩ = some (.bool g) ∧ w'.cell? ⟨w.heap.size, 3, none⟩ = some (.string D) ∧ w'.cell? ⟨w.heap.size, 4, none⟩ = some (.int .i64 x) ∧ w'.cell? ⟨bb, 0, none⟩ = some (.int .i64 c) ∧ w'.cell? ⟨bb, 1, none⟩ = some (.bool s) ∧ w'.cell? ⟨bb, 2, none⟩ = some (.bool g) ∧ w'.cell? ⟨bb, 3, none⟩ = some (.string D) ∧ w'.cell? ⟨bb, 4, none⟩ = some (.int .i64 x) ∧ Below w.heap.size w w')
      (first | exact ⟨px0, px1, px2, px3, px4, py0, py1, py2, py3, py4, hB5.drew⟩ | exact keepB10 (by assumption) hb | assumption)
      (first | (go_at_call 11; refine (HU.out _).mono ?_; rintro e w' ⟨rfl, hb⟩))
    all_goals
      have HB6 := Lib.hid (‹_ ∧ _ ∧ _ ∧ _ ∧ _ ∧ _ ∧ _ ∧ _ ∧ _ ∧ _ ∧ Below w.heap.size w _›).2.2.2.2.2.2.2.2.2.2
      go_wp2_with fail
      refine (HCS.out _ HB6.out).mono ?_
      rintro e v1 ⟨rfl, hv1⟩
      have KB1 : Hid (Below w.heap.size w (v1.alloc (.cells #[.int .i64 c2, .bool s2, .bool g2, .string D2, .int .i64 x2] 24))) := Lib.hid (below_alloc (below_then HB6.out hv1) _)
      have KX1 : Hid ((v1.alloc (.cells #[.int .i64 c2, .bool s2, .bool g2, .string D2, .int .i64 x2] 24)).heap[v1.heap.size]? = some (.cells #[.int .i64 c2, .bool s2, .bool g2, .string D2, .int .i64 x2] 24 (0, 0))) := Lib.hid (heap_new _ _)
      clear hv1
      have px0 : (v1.alloc (.cells #[.int .i64 c2, .bool s2, .bool g2, .string D2, .int .i64 x2] 24)).cell? ⟨v1.heap.size, 0, none⟩ = some (.int .i64 c2) := cell_of_heap KX1.out 0
      have px1 : (v1.alloc (.cells #[.int .i64 c2, .bool s2, .bool g2, .string D2, .int .i64 x2] 24)).cell? ⟨v1.heap.size, 1, none⟩ = some (.bool s2) := cell_of_heap KX1.out 1
      have px2 : (v1.alloc (.cells #[.int .i64 c2, .bool s2, .bool g2, .string D2, .int .i64 x2] 24)).cell? ⟨v1.heap.size, 2, none⟩ = some (.bool g2) := cell_of_heap KX1.out 2
      have px3 : (v1.alloc (.cells #[.int .i64 c2, .bool s2, .bool g2, .string D2, .int .i64 x2] 24)).cell? ⟨v1.heap.size, 3, none⟩ = some (.string D2) := cell_of_heap KX1.out 3
      have px4 : (v1.alloc (.cells #[.int .i64 c2, .bool s2, .bool g2, .string D2, .int .i64 x2] 24)).cell? ⟨v1.heap.size, 4, none⟩ = some (.int .i64 x2) := cell_of_heap KX1.out 4
      go_wp2_with fail
      refine (HJX.out _ KB1.out).mono ?_
      rintro e v2 ⟨rfl, hv2⟩
      have KB2 : Hid (Below w.heap.size w v2) := Lib.hid (below_then KB1.out hv2)
      have KX2 : Hid (v2.heap[v1.heap.size]? = some (.cells #[.int .i64 c2, .bool s2, .bool g2, .string D2, .int .i64 x2] 24 (0, 0))) := Lib.hid (below_heap hv2 KX1.out)
      clear hv2 px0 px1 px2 px3 px4 KB1 KX1
      rcases HGX.out with ⟨hj, hcu⟩ | hj
      · rw [hj]
        have HCU := Lib.hid hcu
        have ej : joinV (TU, 0) = .tuple #[.string ⟨TU.toArray⟩, .int .i64 0] := rfl
        rw [ej]
        clear hj hcu ej
        go_wp2_with fail
        refine (HCU.out _ KB2.out).mono ?_
        rintro e v3 ⟨rfl, hv3⟩
        have KX3 : Hid (v3.heap[v1.heap.size]? = some (.cells #[.int .i64 c2, .bool s2, .bool g2, .string D2, .int .i64 x2] 24 (0, 0))) := Lib.hid (below_heap hv3 KX2.out)
        have KL3 : Hid (v1.heap.size < v3.heap.size) := Lib.hid (lt_of_heap KX3.out)
        have KX4 : Hid ((v3.alloc (.cells #[.int .i64 c2, .bool s2, .bool g2, .string D2, .int .i64 x2] 24)).heap[v1.heap.size]? = some (.cells #[.int .i64 c2, .bool s2, .bool g2, .string D2, .int .i64 x2] 24 (0, 0))) := Lib.hid ((heap_keep _ _ KL3.out).trans KX3.out)
        have KY4 : Hid ((v3.alloc (.cells #[.int .i64 c2, .bool s2, .bool g2, .string D2, .int .i64 x2] 24)).heap[v3.heap.size]? = some (.cells #[.int .i64 c2, .bool s2, .bool g2, .string D2, .int .i64 x2] 24 (0, 0))) := Lib.hid (heap_new _ _)
        have KB4 : Hid (Below w.heap.size w (v3.alloc (.cells #[.int .i64 c2, .bool s2, .bool g2, .string D2, .int .i64 x2] 24))) := Lib.hid (below_alloc (below_then KB2.out hv3) _)
        clear hv3 KB2 KX2 KX3 KL3
        have px0 : (v3.alloc (.cells #[.int .i64 c2, .bool s2, .bool g2, .string D2, .int .i64 x2] 24)).cell? ⟨v1.heap.size, 0, none⟩ = some (.int .i64 c2) := cell_of_heap KX4.out 0
        have px1 : (v3.alloc (.cells #[.int .i64 c2, .bool s2, .bool g2, .string D2, .int .i64 x2] 24)).cell? ⟨v1.heap.size, 1, none⟩ = some (.bool s2) := cell_of_heap KX4.out 1
        have px2 : (v3.alloc (.cells #[.int .i64 c2, .bool s2, .bool g2, .string D2, .int .i64 x2] 24)).cell? ⟨v1.heap.size, 2, none⟩ = some (.bool g2) := cell_of_heap KX4.out 2
        have px3 : (v3.alloc (.cells #[.int .i64 c2, .bool s2, .bool g2, .string D2, .int .i64 x2] 24)).cell? ⟨v1.heap.size, 3, none⟩ = some (.string D2) := cell_of_heap KX4.out 3
        have px4 : (v3.alloc (.cells #[.int .i64 c2, .bool s2, .bool g2, .string D2, .int .i64 x2] 24)).cell? ⟨v1.heap.size, 4, none⟩ = some (.int .i64 x2) := cell_of_heap KX4.out 4
        have py0 : (v3.alloc (.cells #[.int .i64 c2, .bool s2, .bool g2, .string D2, .int .i64 x2] 24)).cell? ⟨v3.heap.size, 0, none⟩ = some (.int .i64 c2) := cell_of_heap KY4.out 0
        have py1 : (v3.alloc (.cells #[.int .i64 c2, .bool s2, .bool g2, .string D2, .int .i64 x2] 24)).cell? ⟨v3.heap.size, 1, none⟩ = some (.bool s2) := cell_of_heap KY4.out 1
        have py2 : (v3.alloc (.cells #[.int .i64 c2, .bool s2, .bool g2, .string D2, .int .i64 x2] 24)).cell? ⟨v3.heap.size, 2, none⟩ = some (.bool g2) := cell_of_heap KY4.out 2
        have py3 : (v3.alloc (.cells #[.int .i64 c2, .bool s2, .bool g2, .string D2, .int .i64 x2] 24)).cell? ⟨v3.heap.size, 3, none⟩ = some (.string D2) := cell_of_heap KY4.out 3
        have py4 : (v3.alloc (.cells #[.int .i64 c2, .bool s2, .bool g2, .string D2, .int .i64 x2] 24)).cell? ⟨v3.heap.size, 4, none⟩ = some (.int .i64 x2) := cell_of_heap KY4.out 4
        go_wp2
        go_ret
        exact ⟨rfl, KB4.out⟩
      · rw [hj]
        have ej : joinV ([], 1) = .tuple #[.string ⟨#[]⟩, .int .i64 1] := rfl
        rw [ej]
        clear hj ej
        go_wp2
        go_ret
        exact ⟨rfl, KB2.out⟩
  · subst hE
    have ev : joinV ([], 1) = .tuple #[.string ⟨#[]⟩, .int .i64 1] := rfl
    rw [ev] at HJ
    clear ev
    go_enter Tryd.func7, Tryd.ntmps7
    go_wp2_with fail
    refine (HAW.out _ (Utf8Tabs.keep HT.out (below_alloc (Below.refl _ _) _))).mono ?_
    rintro e w1 ⟨rfl, hb1⟩
    have HX1 : Hid (w1.heap[w.heap.size]? = some (.cells #[.int .i64 c, .bool s, .bool g, .string D, .int .i64 x] 28 (0, 0))) := Lib.hid (below_heap hb1 (heap_new _ _))
    have HB1 := Lib.hid (below_then (below_alloc (Below.refl _ _) _) hb1)
    clear hb1
    have px0 : w1.cell? ⟨w.heap.size, 0, none⟩ = some (.int .i64 c) := cell_of_heap HX1.out 0
    have px1 : w1.cell? ⟨w.heap.size, 1, none⟩ = some (.bool s) := cell_of_heap HX1.out 1
    have px2 : w1.cell? ⟨w.heap.size, 2, none⟩ = some (.bool g) := cell_of_heap HX1.out 2
    have px3 : w1.cell? ⟨w.heap.size, 3, none⟩ = some (.string D) := cell_of_heap HX1.out 3
    have px4 : w1.cell? ⟨w.heap.size, 4, none⟩ = some (.int .i64 x) := cell_of_heap HX1.out 4
    go_wp2_with fail
    refine (HO.out _).mono ?_
    rintro e w2 ⟨rfl, hb2⟩
    have HX2 : Hid (w2.heap[w.heap.size]? = some (.cells #[.int .i64 c, .bool s, .bool g, .string D, .int .i64 x] 28 (0, 0))) := Lib.hid (below_heap hb2 HX1.out)
    have HB2 := Lib.hid (below_then HB1.out hb2)
    clear hb2 px0 px1 px2 px3 px4 HX1 HB1
    go_wp2_with fail
    refine (HJ.out _ HB2.out).mono ?_
    rintro e w3 ⟨rfl, hb3⟩
    have HX3 : Hid (w3.heap[w.heap.size]? = some (.cells #[.int .i64 c, .bool s, .bool g, .string D, .int .i64 x] 28 (0, 0))) := Lib.hid (below_heap hb3 HX2.out)
    have HB3 := Lib.hid (below_then HB2.out hb3)
    clear hb3 HX2 HB2
    go_wp2_with fail
    refine (HCS.out _ HB3.out).mono ?_
    rintro e v1 ⟨rfl, hv1⟩
    have KB1 : Hid (Below w.heap.size w (v1.alloc (.cells #[.int .i64 c2, .bool s2, .bool g2, .string D2, .int .i64 x2] 24))) := Lib.hid (below_alloc (below_then HB3.out hv1) _)
    have KX1 : Hid ((v1.alloc (.cells #[.int .i64 c2, .bool s2, .bool g2, .string D2, .int .i64 x2] 24)).heap[v1.heap.size]? = some (.cells #[.int .i64 c2, .bool s2, .bool g2, .string D2, .int .i64 x2] 24 (0, 0))) := Lib.hid (heap_new _ _)
    clear hv1
    have px0 : (v1.alloc (.cells #[.int .i64 c2, .bool s2, .bool g2, .string D2, .int .i64 x2] 24)).cell? ⟨v1.heap.size, 0, none⟩ = some (.int .i64 c2) := cell_of_heap KX1.out 0
    have px1 : (v1.alloc (.cells #[.int .i64 c2, .bool s2, .bool g2, .string D2, .int .i64 x2] 24)).cell? ⟨v1.heap.size, 1, none⟩ = some (.bool s2) := cell_of_heap KX1.out 1
    have px2 : (v1.alloc (.cells #[.int .i64 c2, .bool s2, .bool g2, .string D2, .int .i64 x2] 24)).cell? ⟨v1.heap.size, 2, none⟩ = some (.bool g2) := cell_of_heap KX1.out 2
    have px3 : (v1.alloc (.cells #[.int .i64 c2, .bool s2, .bool g2, .string D2, .int .i64 x2] 24)).cell? ⟨v1.heap.size, 3, none⟩ = some (.string D2) := cell_of_heap KX1.out 3
    have px4 : (v1.alloc (.cells #[.int .i64 c2, .bool s2, .bool g2, .string D2, .int .i64 x2] 24)).cell? ⟨v1.heap.size, 4, none⟩ = some (.int .i64 x2) := cell_of_heap KX1.out 4
    go_wp2_with fail
    refine (HJX.out _ KB1.out).mono ?_
    rintro e v2 ⟨rfl, hv2⟩
    have KB2 : Hid (Below w.heap.size w v2) := Lib.hid (below_then KB1.out hv2)
    have KX2 : Hid (v2.heap[v1.heap.size]? = some (.cells #[.int .i64 c2, .bool s2, .bool g2, .string D2, .int .i64 x2] 24 (0, 0))) := Lib.hid (below_heap hv2 KX1.out)
    clear hv2 px0 px1 px2 px3 px4 KB1 KX1
    rcases HGX.out with ⟨hj, hcu⟩ | hj
    · rw [hj]
      have HCU := Lib.hid hcu
      have ej : joinV (TU, 0) = .tuple #[.string ⟨TU.toArray⟩, .int .i64 0] := rfl
      rw [ej]
      clear hj hcu ej
      go_wp2_with fail
      refine (HCU.out _ KB2.out).mono ?_
      rintro e v3 ⟨rfl, hv3⟩
      have KX3 : Hid (v3.heap[v1.heap.size]? = some (.cells #[.int .i64 c2, .bool s2, .bool g2, .string D2, .int .i64 x2] 24 (0, 0))) := Lib.hid (below_heap hv3 KX2.out)
      have KL3 : Hid (v1.heap.size < v3.heap.size) := Lib.hid (lt_of_heap KX3.out)
      have KX4 : Hid ((v3.alloc (.cells #[.int .i64 c2, .bool s2, .bool g2, .string D2, .int .i64 x2] 24)).heap[v1.heap.size]? = some (.cells #[.int .i64 c2, .bool s2, .bool g2, .string D2, .int .i64 x2] 24 (0, 0))) := Lib.hid ((heap_keep _ _ KL3.out).trans KX3.out)
      have KY4 : Hid ((v3.alloc (.cells #[.int .i64 c2, .bool s2, .bool g2, .string D2, .int .i64 x2] 24)).heap[v3.heap.size]? = some (.cells #[.int .i64 c2, .bool s2, .bool g2, .string D2, .int .i64 x2] 24 (0, 0))) := Lib.hid (heap_new _ _)
      have KB4 : Hid (Below w.heap.size w (v3.alloc (.cells #[.int .i64 c2, .bool s2, .bool g2, .string D2, .int .i64 x2] 24))) := Lib.hid (below_alloc (below_then KB2.out hv3) _)
      clear hv3 KB2 KX2 KX3 KL3
      have px0 : (v3.alloc (.cells #[.int .i64 c2, .bool s2, .bool g2, .string D2, .int .i64 x2] 24)).cell? ⟨v1.heap.size, 0, none⟩ = some (.int .i64 c2) := cell_of_heap KX4.out 0
      have px1 : (v3.alloc (.cells #[.int .i64 c2, .bool s2, .bool g2, .string D2, .int .i64 x2] 24)).cell? ⟨v1.heap.size, 1, none⟩ = some (.bool s2) := cell_of_heap KX4.out 1
      have px2 : (v3.alloc (.cells #[.int .i64 c2, .bool s2, .bool g2, .string D2, .int .i64 x2] 24)).cell? ⟨v1.heap.size, 2, none⟩ = some (.bool g2) := cell_of_heap KX4.out 2
      have px3 : (v3.alloc (.cells #[.int .i64 c2, .bool s2, .bool g2, .string D2, .int .i64 x2] 24)).cell? ⟨v1.heap.size, 3, none⟩ = some (.string D2) := cell_of_heap KX4.out 3
      have px4 : (v3.alloc (.cells #[.int .i64 c2, .bool s2, .bool g2, .string D2, .int .i64 x2] 24)).cell? ⟨v1.heap.size, 4, none⟩ = some (.int .i64 x2) := cell_of_heap KX4.out 4
      have py0 : (v3.alloc (.cells #[.int .i64 c2, .bool s2, .bool g2, .string D2, .int .i64 x2] 24)).cell? ⟨v3.heap.size, 0, none⟩ = some (.int .i64 c2) := cell_of_heap KY4.out 0
      have py1 : (v3.alloc (.cells #[.int .i64 c2, .bool s2, .bool g2, .string D2, .int .i64 x2] 24)).cell? ⟨v3.heap.size, 1, none⟩ = some (.bool s2) := cell_of_heap KY4.out 1
      have py2 : (v3.alloc (.cells #[.int .i64 c2, .bool s2, .bool g2, .string D2, .int .i64 x2] 24)).cell? ⟨v3.heap.size, 2, none⟩ = some (.bool g2) := cell_of_heap KY4.out 2
      have py3 : (v3.alloc (.cells #[.int .i64 c2, .bool s2, .bool g2, .string D2, .int .i64 x2] 24)).cell? ⟨v3.heap.size, 3, none⟩ = some (.string D2) := cell_of_heap KY4.out 3
      have py4 : (v3.alloc (.cells #[.int .i64 c2, .bool s2, .bool g2, .string D2, .int .i64 x2] 24)).cell? ⟨v3.heap.size, 4, none⟩ = some (.int .i64 x2) := cell_of_heap KY4.out 4
      go_wp2
      go_ret
      exact ⟨rfl, KB4.out⟩
    · rw [hj]
      have ej : joinV ([], 1) = .tuple #[.string ⟨#[]⟩, .int .i64 1] := rfl
      rw [ej]
      clear hj ej
      go_wp2
      go_ret
      exact ⟨rfl, KB2.out⟩
set_option maxRecDepth 10000 in
set_option maxHeartbeats 8000000 in
theorem back_two (c : Int) (s g : Bool) (D : ByteArray) (x : Int) (t : ByteArray) (w : World) (hT : Lib.Utf8Tabs 2 3 w) (hn : D.size ≤ 10000) (hm : t.size ≤ 10000) (J : List UInt8 × Int)
    (hJ : ∀ W, Below w.heap.size w W → Calls Tryd.prog 14 #[.agg #[.int .i64 c, .bool s, .bool g, .string D, .int .i64 x]] W fun e w' => e = .returned (joinV J) ∧ Below W.heap.size W w')
    (hJ2 : (J.2 = 0 ∧ ∀ W, Below w.heap.size w W → Calls Tryd.prog 9 #[.string ⟨J.1.toArray⟩] W fun e w' => e = .returned (.tuple #[.agg #[.int .i64 c, .bool s, .bool g, .string D, .int .i64 x], .int .i64 0]) ∧ Below W.heap.size W w') ∨ J = ([], 1))
    (hcs : ∀ W, Below w.heap.size w W → Calls Tryd.prog 9 #[.string t] W fun e w' => e = .returned (.tuple #[.agg #[.int .i64 0, .bool false, .bool false, .string ⟨#[]⟩, .int .i64 0], .int .i64 2]) ∧ Below W.heap.size W w')
    :
    Calls Tryd.prog 7 #[.agg #[.int .i64 c, .bool s, .bool g, .string D, .int .i64 x], .string t] w fun e w' => e = .returned (.bool true) ∧ Below w.heap.size w w' := by
  have HAW := Lib.hid (fun W hT => gawake_calls W hT)
  have HT := Lib.hid hT
  have HO := Lib.hid (fun W => theirs_calls c s g D x W)
  have HU := Lib.hid (fun W => ours_calls c s g D x W)
  have HJ := Lib.hid hJ
  obtain ⟨n, hnn⟩ : ∃ n, D.size = n := ⟨_, rfl⟩
  obtain ⟨m, hmm⟩ : ∃ m, t.size = m := ⟨_, rfl⟩
  rw [hnn] at hn
  rw [hmm] at hm
  have HCS := Lib.hid hcs
  clear hT hJ hcs
  rcases hJ2 with ⟨hE, hct⟩ | hE
  · obtain ⟨T, E⟩ := J
    obtain rfl : E = 0 := hE
    have ev : joinV (T, 0) = .tuple #[.string ⟨T.toArray⟩, .int .i64 0] := rfl
    rw [ev] at HJ
    have HCT := Lib.hid hct
    have et : (⟨(T, (0 : Int)).1.toArray⟩ : ByteArray) = ⟨T.toArray⟩ := rfl
    rw [et] at HCT
    generalize (⟨T.toArray⟩ : ByteArray) = T at HJ HCT
    clear ev et hct
    go_enter Tryd.func7, Tryd.ntmps7
    go_wp2_with fail
    refine (HAW.out _ (Utf8Tabs.keep HT.out (below_alloc (Below.refl _ _) _))).mono ?_
    rintro e w1 ⟨rfl, hb1⟩
    have HX1 : Hid (w1.heap[w.heap.size]? = some (.cells #[.int .i64 c, .bool s, .bool g, .string D, .int .i64 x] 28 (0, 0))) := Lib.hid (below_heap hb1 (heap_new _ _))
    have HB1 := Lib.hid (below_then (below_alloc (Below.refl _ _) _) hb1)
    clear hb1
    have px0 : w1.cell? ⟨w.heap.size, 0, none⟩ = some (.int .i64 c) := cell_of_heap HX1.out 0
    have px1 : w1.cell? ⟨w.heap.size, 1, none⟩ = some (.bool s) := cell_of_heap HX1.out 1
    have px2 : w1.cell? ⟨w.heap.size, 2, none⟩ = some (.bool g) := cell_of_heap HX1.out 2
    have px3 : w1.cell? ⟨w.heap.size, 3, none⟩ = some (.string D) := cell_of_heap HX1.out 3
    have px4 : w1.cell? ⟨w.heap.size, 4, none⟩ = some (.int .i64 x) := cell_of_heap HX1.out 4
    go_wp2_with fail
    refine (HO.out _).mono ?_
    rintro e w2 ⟨rfl, hb2⟩
    have HX2 : Hid (w2.heap[w.heap.size]? = some (.cells #[.int .i64 c, .bool s, .bool g, .string D, .int .i64 x] 28 (0, 0))) := Lib.hid (below_heap hb2 HX1.out)
    have HB2 := Lib.hid (below_then HB1.out hb2)
    clear hb2 px0 px1 px2 px3 px4 HX1 HB1
    go_wp2_with fail
    refine (HJ.out _ HB2.out).mono ?_
    rintro e w3 ⟨rfl, hb3⟩
    have HX3 : Hid (w3.heap[w.heap.size]? = some (.cells #[.int .i64 c, .bool s, .bool g, .string D, .int .i64 x] 28 (0, 0))) := Lib.hid (below_heap hb3 HX2.out)
    have HB3 := Lib.hid (below_then HB2.out hb3)
    clear hb3 HX2 HB2
    go_wp2_with fail
    refine (HCT.out _ HB3.out).mono ?_
    rintro e w4 ⟨rfl, hb4⟩
    have HX4 : Hid (w4.heap[w.heap.size]? = some (.cells #[.int .i64 c, .bool s, .bool g, .string D, .int .i64 x] 28 (0, 0))) := Lib.hid (below_heap hb4 HX3.out)
    have HL4 : Hid (w.heap.size < w4.heap.size) := Lib.hid (lt_of_heap HX4.out)
    have HX5 : Hid ((w4.alloc (.cells #[.int .i64 c, .bool s, .bool g, .string D, .int .i64 x] 24)).heap[w.heap.size]? = some (.cells #[.int .i64 c, .bool s, .bool g, .string D, .int .i64 x] 28 (0, 0))) := Lib.hid ((heap_keep _ _ HL4.out).trans HX4.out)
    have HY5 : Hid ((w4.alloc (.cells #[.int .i64 c, .bool s, .bool g, .string D, .int .i64 x] 24)).heap[w4.heap.size]? = some (.cells #[.int .i64 c, .bool s, .bool g, .string D, .int .i64 x] 24 (0, 0))) := Lib.hid (heap_new _ _)
    have HB5 : Hid (Below w.heap.size w (w4.alloc (.cells #[.int .i64 c, .bool s, .bool g, .string D, .int .i64 x] 24))) := Lib.hid (below_alloc (below_then HB3.out hb4) _)
    clear hb4 HX3 HB3 HX4 HL4
    go_wp2_with fail
    generalize (w4.alloc (.cells #[.int .i64 c, .bool s, .bool g, .string D, .int .i64 x] 24)) = W4 at *
    generalize w4.heap.size = bb at *
    have px0 : W4.cell? ⟨w.heap.size, 0, none⟩ = some (.int .i64 c) := cell_of_heap HX5.out 0
    have px1 : W4.cell? ⟨w.heap.size, 1, none⟩ = some (.bool s) := cell_of_heap HX5.out 1
    have px2 : W4.cell? ⟨w.heap.size, 2, none⟩ = some (.bool g) := cell_of_heap HX5.out 2
    have px3 : W4.cell? ⟨w.heap.size, 3, none⟩ = some (.string D) := cell_of_heap HX5.out 3
    have px4 : W4.cell? ⟨w.heap.size, 4, none⟩ = some (.int .i64 x) := cell_of_heap HX5.out 4
    have py0 : W4.cell? ⟨bb, 0, none⟩ = some (.int .i64 c) := cell_of_heap HY5.out 0
    have py1 : W4.cell? ⟨bb, 1, none⟩ = some (.bool s) := cell_of_heap HY5.out 1
    have py2 : W4.cell? ⟨bb, 2, none⟩ = some (.bool g) := cell_of_heap HY5.out 2
    have py3 : W4.cell? ⟨bb, 3, none⟩ = some (.string D) := cell_of_heap HY5.out 3
    have py4 : W4.cell? ⟨bb, 4, none⟩ = some (.int .i64 x) := cell_of_heap HY5.out 4
    have hB5 := HB5.out
    clear HX5 HY5 HB5
    go_region_held3 (fun w' => w'.cell? ⟨w.heap.size, 0, none⟩ = some (.int .i64 c) ∧ w'.cell? ⟨w.heap.size, 1, none⟩ = some (.bool s) ∧ w'.cell? ⟨w.heap.size, 2, none⟩ = some (.bool g) ∧ w'.cell? ⟨w.heap.size, 3, none⟩ = some (.string D) ∧ w'.cell? ⟨w.heap.size, 4, none⟩ = some (.int .i64 x) ∧ w'.cell? ⟨bb, 0, none⟩ = some (.int .i64 c) ∧ w'.cell? ⟨bb, 1, none⟩ = some (.bool s) ∧ w'.cell? ⟨bb, 2, none⟩ = some (.bool g) ∧ w'.cell? ⟨bb, 3, none⟩ = some (.string D) ∧ w'.cell? ⟨bb, 4, none⟩ = some (.int .i64 x) ∧ Below w.heap.size w w')
      (first | exact ⟨px0, px1, px2, px3, px4, py0, py1, py2, py3, py4, hB5.drew⟩ | exact keepB10 (by assumption) hb | assumption)
      (first | (go_at_call 11; refine (HU.out _).mono ?_; rintro e w' ⟨rfl, hb⟩))
    all_goals
      have HB6 := Lib.hid (‹_ ∧ _ ∧ _ ∧ _ ∧ _ ∧ _ ∧ _ ∧ _ ∧ _ ∧ _ ∧ Below w.heap.size w _›).2.2.2.2.2.2.2.2.2.2
      go_wp2_with fail
      refine (HCS.out _ HB6.out).mono ?_
      rintro e v1 ⟨rfl, hv1⟩
      have KB1 : Hid (Below w.heap.size w (v1.alloc (.cells #[.int .i64 0, .bool false, .bool false, .string ⟨#[]⟩, .int .i64 0] 24))) := Lib.hid (below_alloc (below_then HB6.out hv1) _)
      have KX1 : Hid ((v1.alloc (.cells #[.int .i64 0, .bool false, .bool false, .string ⟨#[]⟩, .int .i64 0] 24)).heap[v1.heap.size]? = some (.cells #[.int .i64 0, .bool false, .bool false, .string ⟨#[]⟩, .int .i64 0] 24 (0, 0))) := Lib.hid (heap_new _ _)
      clear hv1
      have px0 : (v1.alloc (.cells #[.int .i64 0, .bool false, .bool false, .string ⟨#[]⟩, .int .i64 0] 24)).cell? ⟨v1.heap.size, 0, none⟩ = some (.int .i64 0) := cell_of_heap KX1.out 0
      have px1 : (v1.alloc (.cells #[.int .i64 0, .bool false, .bool false, .string ⟨#[]⟩, .int .i64 0] 24)).cell? ⟨v1.heap.size, 1, none⟩ = some (.bool false) := cell_of_heap KX1.out 1
      have px2 : (v1.alloc (.cells #[.int .i64 0, .bool false, .bool false, .string ⟨#[]⟩, .int .i64 0] 24)).cell? ⟨v1.heap.size, 2, none⟩ = some (.bool false) := cell_of_heap KX1.out 2
      have px3 : (v1.alloc (.cells #[.int .i64 0, .bool false, .bool false, .string ⟨#[]⟩, .int .i64 0] 24)).cell? ⟨v1.heap.size, 3, none⟩ = some (.string ⟨#[]⟩) := cell_of_heap KX1.out 3
      have px4 : (v1.alloc (.cells #[.int .i64 0, .bool false, .bool false, .string ⟨#[]⟩, .int .i64 0] 24)).cell? ⟨v1.heap.size, 4, none⟩ = some (.int .i64 0) := cell_of_heap KX1.out 4
      go_wp2
      go_ret
      exact ⟨rfl, KB1.out⟩
  · subst hE
    have ev : joinV ([], 1) = .tuple #[.string ⟨#[]⟩, .int .i64 1] := rfl
    rw [ev] at HJ
    clear ev
    go_enter Tryd.func7, Tryd.ntmps7
    go_wp2_with fail
    refine (HAW.out _ (Utf8Tabs.keep HT.out (below_alloc (Below.refl _ _) _))).mono ?_
    rintro e w1 ⟨rfl, hb1⟩
    have HX1 : Hid (w1.heap[w.heap.size]? = some (.cells #[.int .i64 c, .bool s, .bool g, .string D, .int .i64 x] 28 (0, 0))) := Lib.hid (below_heap hb1 (heap_new _ _))
    have HB1 := Lib.hid (below_then (below_alloc (Below.refl _ _) _) hb1)
    clear hb1
    have px0 : w1.cell? ⟨w.heap.size, 0, none⟩ = some (.int .i64 c) := cell_of_heap HX1.out 0
    have px1 : w1.cell? ⟨w.heap.size, 1, none⟩ = some (.bool s) := cell_of_heap HX1.out 1
    have px2 : w1.cell? ⟨w.heap.size, 2, none⟩ = some (.bool g) := cell_of_heap HX1.out 2
    have px3 : w1.cell? ⟨w.heap.size, 3, none⟩ = some (.string D) := cell_of_heap HX1.out 3
    have px4 : w1.cell? ⟨w.heap.size, 4, none⟩ = some (.int .i64 x) := cell_of_heap HX1.out 4
    go_wp2_with fail
    refine (HO.out _).mono ?_
    rintro e w2 ⟨rfl, hb2⟩
    have HX2 : Hid (w2.heap[w.heap.size]? = some (.cells #[.int .i64 c, .bool s, .bool g, .string D, .int .i64 x] 28 (0, 0))) := Lib.hid (below_heap hb2 HX1.out)
    have HB2 := Lib.hid (below_then HB1.out hb2)
    clear hb2 px0 px1 px2 px3 px4 HX1 HB1
    go_wp2_with fail
    refine (HJ.out _ HB2.out).mono ?_
    rintro e w3 ⟨rfl, hb3⟩
    have HX3 : Hid (w3.heap[w.heap.size]? = some (.cells #[.int .i64 c, .bool s, .bool g, .string D, .int .i64 x] 28 (0, 0))) := Lib.hid (below_heap hb3 HX2.out)
    have HB3 := Lib.hid (below_then HB2.out hb3)
    clear hb3 HX2 HB2
    go_wp2_with fail
    refine (HCS.out _ HB3.out).mono ?_
    rintro e v1 ⟨rfl, hv1⟩
    have KB1 : Hid (Below w.heap.size w (v1.alloc (.cells #[.int .i64 0, .bool false, .bool false, .string ⟨#[]⟩, .int .i64 0] 24))) := Lib.hid (below_alloc (below_then HB3.out hv1) _)
    have KX1 : Hid ((v1.alloc (.cells #[.int .i64 0, .bool false, .bool false, .string ⟨#[]⟩, .int .i64 0] 24)).heap[v1.heap.size]? = some (.cells #[.int .i64 0, .bool false, .bool false, .string ⟨#[]⟩, .int .i64 0] 24 (0, 0))) := Lib.hid (heap_new _ _)
    clear hv1
    have px0 : (v1.alloc (.cells #[.int .i64 0, .bool false, .bool false, .string ⟨#[]⟩, .int .i64 0] 24)).cell? ⟨v1.heap.size, 0, none⟩ = some (.int .i64 0) := cell_of_heap KX1.out 0
    have px1 : (v1.alloc (.cells #[.int .i64 0, .bool false, .bool false, .string ⟨#[]⟩, .int .i64 0] 24)).cell? ⟨v1.heap.size, 1, none⟩ = some (.bool false) := cell_of_heap KX1.out 1
    have px2 : (v1.alloc (.cells #[.int .i64 0, .bool false, .bool false, .string ⟨#[]⟩, .int .i64 0] 24)).cell? ⟨v1.heap.size, 2, none⟩ = some (.bool false) := cell_of_heap KX1.out 2
    have px3 : (v1.alloc (.cells #[.int .i64 0, .bool false, .bool false, .string ⟨#[]⟩, .int .i64 0] 24)).cell? ⟨v1.heap.size, 3, none⟩ = some (.string ⟨#[]⟩) := cell_of_heap KX1.out 3
    have px4 : (v1.alloc (.cells #[.int .i64 0, .bool false, .bool false, .string ⟨#[]⟩, .int .i64 0] 24)).cell? ⟨v1.heap.size, 4, none⟩ = some (.int .i64 0) := cell_of_heap KX1.out 4
    go_wp2
    go_ret
    exact ⟨rfl, KB1.out⟩
set_option maxRecDepth 10000 in
set_option maxHeartbeats 8000000 in
theorem back_four (c : Int) (s g : Bool) (D : ByteArray) (x : Int) (t : ByteArray) (w : World) (hT : Lib.Utf8Tabs 2 3 w) (hn : D.size ≤ 10000) (hm : t.size ≤ 10000) (J : List UInt8 × Int)
    (hJ : ∀ W, Below w.heap.size w W → Calls Tryd.prog 14 #[.agg #[.int .i64 c, .bool s, .bool g, .string D, .int .i64 x]] W fun e w' => e = .returned (joinV J) ∧ Below W.heap.size W w')
    (hJ2 : (J.2 = 0 ∧ ∀ W, Below w.heap.size w W → Calls Tryd.prog 9 #[.string ⟨J.1.toArray⟩] W fun e w' => e = .returned (.tuple #[.agg #[.int .i64 c, .bool s, .bool g, .string D, .int .i64 x], .int .i64 0]) ∧ Below W.heap.size W w') ∨ J = ([], 1))
    (hcs : ∀ W, Below w.heap.size w W → Calls Tryd.prog 9 #[.string t] W fun e w' => e = .returned (.tuple #[.agg #[.int .i64 0, .bool false, .bool false, .string ⟨#[]⟩, .int .i64 0], .int .i64 4]) ∧ Below W.heap.size W w')
    :
    Calls Tryd.prog 7 #[.agg #[.int .i64 c, .bool s, .bool g, .string D, .int .i64 x], .string t] w fun e w' => e = .returned (.bool true) ∧ Below w.heap.size w w' := by
  have HAW := Lib.hid (fun W hT => gawake_calls W hT)
  have HT := Lib.hid hT
  have HO := Lib.hid (fun W => theirs_calls c s g D x W)
  have HU := Lib.hid (fun W => ours_calls c s g D x W)
  have HJ := Lib.hid hJ
  obtain ⟨n, hnn⟩ : ∃ n, D.size = n := ⟨_, rfl⟩
  obtain ⟨m, hmm⟩ : ∃ m, t.size = m := ⟨_, rfl⟩
  rw [hnn] at hn
  rw [hmm] at hm
  have HCS := Lib.hid hcs
  clear hT hJ hcs
  rcases hJ2 with ⟨hE, hct⟩ | hE
  · obtain ⟨T, E⟩ := J
    obtain rfl : E = 0 := hE
    have ev : joinV (T, 0) = .tuple #[.string ⟨T.toArray⟩, .int .i64 0] := rfl
    rw [ev] at HJ
    have HCT := Lib.hid hct
    have et : (⟨(T, (0 : Int)).1.toArray⟩ : ByteArray) = ⟨T.toArray⟩ := rfl
    rw [et] at HCT
    generalize (⟨T.toArray⟩ : ByteArray) = T at HJ HCT
    clear ev et hct
    go_enter Tryd.func7, Tryd.ntmps7
    go_wp2_with fail
    refine (HAW.out _ (Utf8Tabs.keep HT.out (below_alloc (Below.refl _ _) _))).mono ?_
    rintro e w1 ⟨rfl, hb1⟩
    have HX1 : Hid (w1.heap[w.heap.size]? = some (.cells #[.int .i64 c, .bool s, .bool g, .string D, .int .i64 x] 28 (0, 0))) := Lib.hid (below_heap hb1 (heap_new _ _))
    have HB1 := Lib.hid (below_then (below_alloc (Below.refl _ _) _) hb1)
    clear hb1
    have px0 : w1.cell? ⟨w.heap.size, 0, none⟩ = some (.int .i64 c) := cell_of_heap HX1.out 0
    have px1 : w1.cell? ⟨w.heap.size, 1, none⟩ = some (.bool s) := cell_of_heap HX1.out 1
    have px2 : w1.cell? ⟨w.heap.size, 2, none⟩ = some (.bool g) := cell_of_heap HX1.out 2
    have px3 : w1.cell? ⟨w.heap.size, 3, none⟩ = some (.string D) := cell_of_heap HX1.out 3
    have px4 : w1.cell? ⟨w.heap.size, 4, none⟩ = some (.int .i64 x) := cell_of_heap HX1.out 4
    go_wp2_with fail
    refine (HO.out _).mono ?_
    rintro e w2 ⟨rfl, hb2⟩
    have HX2 : Hid (w2.heap[w.heap.size]? = some (.cells #[.int .i64 c, .bool s, .bool g, .string D, .int .i64 x] 28 (0, 0))) := Lib.hid (below_heap hb2 HX1.out)
    have HB2 := Lib.hid (below_then HB1.out hb2)
    clear hb2 px0 px1 px2 px3 px4 HX1 HB1
    go_wp2_with fail
    refine (HJ.out _ HB2.out).mono ?_
    rintro e w3 ⟨rfl, hb3⟩
    have HX3 : Hid (w3.heap[w.heap.size]? = some (.cells #[.int .i64 c, .bool s, .bool g, .string D, .int .i64 x] 28 (0, 0))) := Lib.hid (below_heap hb3 HX2.out)
    have HB3 := Lib.hid (below_then HB2.out hb3)
    clear hb3 HX2 HB2
    go_wp2_with fail
    refine (HCT.out _ HB3.out).mono ?_
    rintro e w4 ⟨rfl, hb4⟩
    have HX4 : Hid (w4.heap[w.heap.size]? = some (.cells #[.int .i64 c, .bool s, .bool g, .string D, .int .i64 x] 28 (0, 0))) := Lib.hid (below_heap hb4 HX3.out)
    have HL4 : Hid (w.heap.size < w4.heap.size) := Lib.hid (lt_of_heap HX4.out)
    have HX5 : Hid ((w4.alloc (.cells #[.int .i64 c, .bool s, .bool g, .string D, .int .i64 x] 24)).heap[w.heap.size]? = some (.cells #[.int .i64 c, .bool s, .bool g, .string D, .int .i64 x] 28 (0, 0))) := Lib.hid ((heap_keep _ _ HL4.out).trans HX4.out)
    have HY5 : Hid ((w4.alloc (.cells #[.int .i64 c, .bool s, .bool g, .string D, .int .i64 x] 24)).heap[w4.heap.size]? = some (.cells #[.int .i64 c, .bool s, .bool g, .string D, .int .i64 x] 24 (0, 0))) := Lib.hid (heap_new _ _)
    have HB5 : Hid (Below w.heap.size w (w4.alloc (.cells #[.int .i64 c, .bool s, .bool g, .string D, .int .i64 x] 24))) := Lib.hid (below_alloc (below_then HB3.out hb4) _)
    clear hb4 HX3 HB3 HX4 HL4
    go_wp2_with fail
    generalize (w4.alloc (.cells #[.int .i64 c, .bool s, .bool g, .string D, .int .i64 x] 24)) = W4 at *
    generalize w4.heap.size = bb at *
    have px0 : W4.cell? ⟨w.heap.size, 0, none⟩ = some (.int .i64 c) := cell_of_heap HX5.out 0
    have px1 : W4.cell? ⟨w.heap.size, 1, none⟩ = some (.bool s) := cell_of_heap HX5.out 1
    have px2 : W4.cell? ⟨w.heap.size, 2, none⟩ = some (.bool g) := cell_of_heap HX5.out 2
    have px3 : W4.cell? ⟨w.heap.size, 3, none⟩ = some (.string D) := cell_of_heap HX5.out 3
    have px4 : W4.cell? ⟨w.heap.size, 4, none⟩ = some (.int .i64 x) := cell_of_heap HX5.out 4
    have py0 : W4.cell? ⟨bb, 0, none⟩ = some (.int .i64 c) := cell_of_heap HY5.out 0
    have py1 : W4.cell? ⟨bb, 1, none⟩ = some (.bool s) := cell_of_heap HY5.out 1
    have py2 : W4.cell? ⟨bb, 2, none⟩ = some (.bool g) := cell_of_heap HY5.out 2
    have py3 : W4.cell? ⟨bb, 3, none⟩ = some (.string D) := cell_of_heap HY5.out 3
    have py4 : W4.cell? ⟨bb, 4, none⟩ = some (.int .i64 x) := cell_of_heap HY5.out 4
    have hB5 := HB5.out
    clear HX5 HY5 HB5
    go_region_held3 (fun w' => w'.cell? ⟨w.heap.size, 0, none⟩ = some (.int .i64 c) ∧ w'.cell? ⟨w.heap.size, 1, none⟩ = some (.bool s) ∧ w'.cell? ⟨w.heap.size, 2, none⟩ = some (.bool g) ∧ w'.cell? ⟨w.heap.size, 3, none⟩ = some (.string D) ∧ w'.cell? ⟨w.heap.size, 4, none⟩ = some (.int .i64 x) ∧ w'.cell? ⟨bb, 0, none⟩ = some (.int .i64 c) ∧ w'.cell? ⟨bb, 1, none⟩ = some (.bool s) ∧ w'.cell? ⟨bb, 2, none⟩ = some (.bool g) ∧ w'.cell? ⟨bb, 3, none⟩ = some (.string D) ∧ w'.cell? ⟨bb, 4, none⟩ = some (.int .i64 x) ∧ Below w.heap.size w w')
      (first | exact ⟨px0, px1, px2, px3, px4, py0, py1, py2, py3, py4, hB5.drew⟩ | exact keepB10 (by assumption) hb | assumption)
      (first | (go_at_call 11; refine (HU.out _).mono ?_; rintro e w' ⟨rfl, hb⟩))
    all_goals
      have HB6 := Lib.hid (‹_ ∧ _ ∧ _ ∧ _ ∧ _ ∧ _ ∧ _ ∧ _ ∧ _ ∧ _ ∧ Below w.heap.size w _›).2.2.2.2.2.2.2.2.2.2
      go_wp2_with fail
      refine (HCS.out _ HB6.out).mono ?_
      rintro e v1 ⟨rfl, hv1⟩
      have KB1 : Hid (Below w.heap.size w (v1.alloc (.cells #[.int .i64 0, .bool false, .bool false, .string ⟨#[]⟩, .int .i64 0] 24))) := Lib.hid (below_alloc (below_then HB6.out hv1) _)
      have KX1 : Hid ((v1.alloc (.cells #[.int .i64 0, .bool false, .bool false, .string ⟨#[]⟩, .int .i64 0] 24)).heap[v1.heap.size]? = some (.cells #[.int .i64 0, .bool false, .bool false, .string ⟨#[]⟩, .int .i64 0] 24 (0, 0))) := Lib.hid (heap_new _ _)
      clear hv1
      have px0 : (v1.alloc (.cells #[.int .i64 0, .bool false, .bool false, .string ⟨#[]⟩, .int .i64 0] 24)).cell? ⟨v1.heap.size, 0, none⟩ = some (.int .i64 0) := cell_of_heap KX1.out 0
      have px1 : (v1.alloc (.cells #[.int .i64 0, .bool false, .bool false, .string ⟨#[]⟩, .int .i64 0] 24)).cell? ⟨v1.heap.size, 1, none⟩ = some (.bool false) := cell_of_heap KX1.out 1
      have px2 : (v1.alloc (.cells #[.int .i64 0, .bool false, .bool false, .string ⟨#[]⟩, .int .i64 0] 24)).cell? ⟨v1.heap.size, 2, none⟩ = some (.bool false) := cell_of_heap KX1.out 2
      have px3 : (v1.alloc (.cells #[.int .i64 0, .bool false, .bool false, .string ⟨#[]⟩, .int .i64 0] 24)).cell? ⟨v1.heap.size, 3, none⟩ = some (.string ⟨#[]⟩) := cell_of_heap KX1.out 3
      have px4 : (v1.alloc (.cells #[.int .i64 0, .bool false, .bool false, .string ⟨#[]⟩, .int .i64 0] 24)).cell? ⟨v1.heap.size, 4, none⟩ = some (.int .i64 0) := cell_of_heap KX1.out 4
      go_wp2
      go_ret
      exact ⟨rfl, KB1.out⟩
  · subst hE
    have ev : joinV ([], 1) = .tuple #[.string ⟨#[]⟩, .int .i64 1] := rfl
    rw [ev] at HJ
    clear ev
    go_enter Tryd.func7, Tryd.ntmps7
    go_wp2_with fail
    refine (HAW.out _ (Utf8Tabs.keep HT.out (below_alloc (Below.refl _ _) _))).mono ?_
    rintro e w1 ⟨rfl, hb1⟩
    have HX1 : Hid (w1.heap[w.heap.size]? = some (.cells #[.int .i64 c, .bool s, .bool g, .string D, .int .i64 x] 28 (0, 0))) := Lib.hid (below_heap hb1 (heap_new _ _))
    have HB1 := Lib.hid (below_then (below_alloc (Below.refl _ _) _) hb1)
    clear hb1
    have px0 : w1.cell? ⟨w.heap.size, 0, none⟩ = some (.int .i64 c) := cell_of_heap HX1.out 0
    have px1 : w1.cell? ⟨w.heap.size, 1, none⟩ = some (.bool s) := cell_of_heap HX1.out 1
    have px2 : w1.cell? ⟨w.heap.size, 2, none⟩ = some (.bool g) := cell_of_heap HX1.out 2
    have px3 : w1.cell? ⟨w.heap.size, 3, none⟩ = some (.string D) := cell_of_heap HX1.out 3
    have px4 : w1.cell? ⟨w.heap.size, 4, none⟩ = some (.int .i64 x) := cell_of_heap HX1.out 4
    go_wp2_with fail
    refine (HO.out _).mono ?_
    rintro e w2 ⟨rfl, hb2⟩
    have HX2 : Hid (w2.heap[w.heap.size]? = some (.cells #[.int .i64 c, .bool s, .bool g, .string D, .int .i64 x] 28 (0, 0))) := Lib.hid (below_heap hb2 HX1.out)
    have HB2 := Lib.hid (below_then HB1.out hb2)
    clear hb2 px0 px1 px2 px3 px4 HX1 HB1
    go_wp2_with fail
    refine (HJ.out _ HB2.out).mono ?_
    rintro e w3 ⟨rfl, hb3⟩
    have HX3 : Hid (w3.heap[w.heap.size]? = some (.cells #[.int .i64 c, .bool s, .bool g, .string D, .int .i64 x] 28 (0, 0))) := Lib.hid (below_heap hb3 HX2.out)
    have HB3 := Lib.hid (below_then HB2.out hb3)
    clear hb3 HX2 HB2
    go_wp2_with fail
    refine (HCS.out _ HB3.out).mono ?_
    rintro e v1 ⟨rfl, hv1⟩
    have KB1 : Hid (Below w.heap.size w (v1.alloc (.cells #[.int .i64 0, .bool false, .bool false, .string ⟨#[]⟩, .int .i64 0] 24))) := Lib.hid (below_alloc (below_then HB3.out hv1) _)
    have KX1 : Hid ((v1.alloc (.cells #[.int .i64 0, .bool false, .bool false, .string ⟨#[]⟩, .int .i64 0] 24)).heap[v1.heap.size]? = some (.cells #[.int .i64 0, .bool false, .bool false, .string ⟨#[]⟩, .int .i64 0] 24 (0, 0))) := Lib.hid (heap_new _ _)
    clear hv1
    have px0 : (v1.alloc (.cells #[.int .i64 0, .bool false, .bool false, .string ⟨#[]⟩, .int .i64 0] 24)).cell? ⟨v1.heap.size, 0, none⟩ = some (.int .i64 0) := cell_of_heap KX1.out 0
    have px1 : (v1.alloc (.cells #[.int .i64 0, .bool false, .bool false, .string ⟨#[]⟩, .int .i64 0] 24)).cell? ⟨v1.heap.size, 1, none⟩ = some (.bool false) := cell_of_heap KX1.out 1
    have px2 : (v1.alloc (.cells #[.int .i64 0, .bool false, .bool false, .string ⟨#[]⟩, .int .i64 0] 24)).cell? ⟨v1.heap.size, 2, none⟩ = some (.bool false) := cell_of_heap KX1.out 2
    have px3 : (v1.alloc (.cells #[.int .i64 0, .bool false, .bool false, .string ⟨#[]⟩, .int .i64 0] 24)).cell? ⟨v1.heap.size, 3, none⟩ = some (.string ⟨#[]⟩) := cell_of_heap KX1.out 3
    have px4 : (v1.alloc (.cells #[.int .i64 0, .bool false, .bool false, .string ⟨#[]⟩, .int .i64 0] 24)).cell? ⟨v1.heap.size, 4, none⟩ = some (.int .i64 0) := cell_of_heap KX1.out 4
    go_wp2
    go_ret
    exact ⟨rfl, KB1.out⟩
theorem cut_to (t : ByteArray) (l : List UInt8) (h : t.data.toList = l) (hm : l.length ≤ 140737488351232) (c : Int) (s g : Bool) (D : ByteArray) (x E : Int) (hc : cutL l = (⟨c, s, g, D.data.toList, x⟩, E)) (w : World) (hT : Lib.Utf8Tabs 2 3 w) :
    ∀ W, Below w.heap.size w W → Calls Tryd.prog 9 #[.string t] W fun e w' => e = .returned (.tuple #[.agg #[.int .i64 c, .bool s, .bool g, .string D, .int .i64 x], .int .i64 E]) ∧ Below W.heap.size W w' := by
  intro W hb
  have K := cut_keep t l h hm w W hT hb
  rw [hc] at K
  have e0 : cutV (⟨c, s, g, D.data.toList, x⟩, E) = .tuple #[.agg #[.int .i64 c, .bool s, .bool g, .string D, .int .i64 x], .int .i64 E] := rfl
  rw [e0] at K
  exact K
theorem join_to (c : Int) (s g : Bool) (D : ByteArray) (x : Int) (hd : D.data.toList.length ≤ 10000) (h0 : -9223372036854775808 ≤ x) (h1 : x ≤ 9223372036854775807) (w : World) (hT : Lib.Utf8Tabs 2 3 w) (hT2 : Lib.TabIs Tryd.prog w "internal/strconv.uint64pow10" .u64 Lib.pow10Tab) :
    (∀ W, Below w.heap.size w W → Calls Tryd.prog 14 #[.agg #[.int .i64 c, .bool s, .bool g, .string D, .int .i64 x]] W fun e w' => e = .returned (joinV (joinL ⟨c, s, g, D.data.toList, x⟩)) ∧ Below W.heap.size W w') ∧
    ((joinL ⟨c, s, g, D.data.toList, x⟩ = (textL ⟨c, s, g, D.data.toList, x⟩, 0) ∧ ∀ W, Below w.heap.size w W → Calls Tryd.prog 9 #[.string ⟨(textL ⟨c, s, g, D.data.toList, x⟩).toArray⟩] W fun e w' => e = .returned (.tuple #[.agg #[.int .i64 c, .bool s, .bool g, .string D, .int .i64 x], .int .i64 0]) ∧ Below W.heap.size W w') ∨
     joinL ⟨c, s, g, D.data.toList, x⟩ = ([], 1)) := by
  have hI : ∀ W, Below w.heap.size w W → Calls Tryd.prog 39 #[.int .i64 x] W fun e w' => e = .returned (.string ⟨(Lib.itoa x).toArray⟩) ∧ Below W.heap.size W w' := fun W hb => itoa_keep x h0 h1 W (TabIs.keep hT2 hb)
  have hx := Lib.itoa_length_le x h0 h1
  refine ⟨fun W hb => join_calls c s g D D.data.toList x rfl hd W (Utf8Tabs.keep hT hb) (fun W' hb' => hI W' (below_then hb hb')) hx, ?_⟩
  by_cases hG : GoodL ⟨c, s, g, D.data.toList, x⟩
  · exact .inl ⟨if_pos hG, cut_to _ _ rfl (by have := text_len hG; show (textL _).length ≤ _; omega) c s g D x 0 (cut_text hG) w hT⟩
  · exact .inr (if_neg hG)
set_option maxRecDepth 10000 in
set_option maxHeartbeats 1000000 in
theorem back_far (c : Int) (s g : Bool) (D : ByteArray) (x : Int) (t : ByteArray) (w : World) (hT : Lib.Utf8Tabs 2 3 w) (n m : Nat) (hn : D.size = n) (hm : t.size = m) (hn2 : n ≤ 9223372036854775807) (hm2 : m ≤ 9223372036854775807) (h : (10000 : Int) < (n : Int) ∨ ((n : Int) ≤ 10000 ∧ (10000 : Int) < (m : Int))) :
    Calls Tryd.prog 7 #[.agg #[.int .i64 c, .bool s, .bool g, .string D, .int .i64 x], .string t] w fun e w' => e = .returned (.bool true) ∧ Below w.heap.size w w' := by
  have HAW := Lib.hid (fun W hT => gawake_calls W hT)
  have HT := Lib.hid hT
  clear hT
  rcases h with h | ⟨h, h'⟩
  · go_enter Tryd.func7, Tryd.ntmps7
    go_wp2_with fail
    refine (HAW.out _ (Utf8Tabs.keep HT.out (below_alloc (Below.refl _ _) _))).mono ?_
    rintro e w1 ⟨rfl, hb1⟩
    have HX1 : Hid (w1.heap[w.heap.size]? = some (.cells #[.int .i64 c, .bool s, .bool g, .string D, .int .i64 x] 28 (0, 0))) := Lib.hid (below_heap hb1 (heap_new _ _))
    have HB1 := Lib.hid (below_then (below_alloc (Below.refl _ _) _) hb1)
    clear hb1
    have px0 : w1.cell? ⟨w.heap.size, 0, none⟩ = some (.int .i64 c) := cell_of_heap HX1.out 0
    have px1 : w1.cell? ⟨w.heap.size, 1, none⟩ = some (.bool s) := cell_of_heap HX1.out 1
    have px2 : w1.cell? ⟨w.heap.size, 2, none⟩ = some (.bool g) := cell_of_heap HX1.out 2
    have px3 : w1.cell? ⟨w.heap.size, 3, none⟩ = some (.string D) := cell_of_heap HX1.out 3
    have px4 : w1.cell? ⟨w.heap.size, 4, none⟩ = some (.int .i64 x) := cell_of_heap HX1.out 4
    go_wp2_with fail
    refine (HAW.out _ (Utf8Tabs.keep HT.out HB1.out)).mono ?_
    rintro e w2 ⟨rfl, hb2⟩
    have HB2 := Lib.hid (below_then HB1.out hb2)
    clear hb2
    go_wp2
    go_ret
    exact ⟨rfl, HB2.out⟩
  · go_enter Tryd.func7, Tryd.ntmps7
    go_wp2_with fail
    refine (HAW.out _ (Utf8Tabs.keep HT.out (below_alloc (Below.refl _ _) _))).mono ?_
    rintro e w1 ⟨rfl, hb1⟩
    have HX1 : Hid (w1.heap[w.heap.size]? = some (.cells #[.int .i64 c, .bool s, .bool g, .string D, .int .i64 x] 28 (0, 0))) := Lib.hid (below_heap hb1 (heap_new _ _))
    have HB1 := Lib.hid (below_then (below_alloc (Below.refl _ _) _) hb1)
    clear hb1
    have px0 : w1.cell? ⟨w.heap.size, 0, none⟩ = some (.int .i64 c) := cell_of_heap HX1.out 0
    have px1 : w1.cell? ⟨w.heap.size, 1, none⟩ = some (.bool s) := cell_of_heap HX1.out 1
    have px2 : w1.cell? ⟨w.heap.size, 2, none⟩ = some (.bool g) := cell_of_heap HX1.out 2
    have px3 : w1.cell? ⟨w.heap.size, 3, none⟩ = some (.string D) := cell_of_heap HX1.out 3
    have px4 : w1.cell? ⟨w.heap.size, 4, none⟩ = some (.int .i64 x) := cell_of_heap HX1.out 4
    go_wp2_with fail
    refine (HAW.out _ (Utf8Tabs.keep HT.out HB1.out)).mono ?_
    rintro e w2 ⟨rfl, hb2⟩
    have HB2 := Lib.hid (below_then HB1.out hb2)
    clear hb2
    go_wp2
    go_ret
    exact ⟨rfl, HB2.out⟩
theorem grammarBack_row (v : Value) (t : ByteArray) (w : World) (hv : PartsIs v) (ht : t.size ≤ 140737488351232) (hT : GramT w) :
    Calls Tryd.prog 7 #[v, .string t] w fun e w' => e = .returned (.bool true) ∧ Below w.heap.size w w' := by
  obtain ⟨c, s, g, D, x, rfl, hD, h0, h1⟩ := hv
  by_cases hn : D.size ≤ 10000
  · by_cases hm : t.size ≤ 10000
    · have hdl : D.data.toList.length ≤ 10000 := by have := str_size (t := D) rfl; omega
      have htl : t.data.toList.length ≤ 10000 := by have := str_size (t := t) rfl; omega
      obtain ⟨hJ, hJ2⟩ := join_to c s g D x hdl h0 h1 w hT.u8 hT.t10
      have hJ2' : ((joinL ⟨c, s, g, D.data.toList, x⟩).2 = 0 ∧ ∀ W, Below w.heap.size w W → Calls Tryd.prog 9 #[.string ⟨(joinL ⟨c, s, g, D.data.toList, x⟩).1.toArray⟩] W fun e w' => e = .returned (.tuple #[.agg #[.int .i64 c, .bool s, .bool g, .string D, .int .i64 x], .int .i64 0]) ∧ Below W.heap.size W w') ∨ joinL ⟨c, s, g, D.data.toList, x⟩ = ([], 1) := by
        rcases hJ2 with ⟨hj, hcc⟩ | hj
        · rw [hj]; exact .inl ⟨rfl, hcc⟩
        · exact .inr hj
      rcases cut_err t.data.toList with he | he | he
      · obtain ⟨p2, hp⟩ : ∃ p2, cutL t.data.toList = (p2, 0) := ⟨_, by rw [← he]⟩
        have hs := cut_shape hp
        have hlen := cut_len hp
        obtain ⟨c2, s2, g2, d2, x2⟩ := p2
        have hx : -1000000000 ≤ x2 ∧ x2 ≤ 1000000000 := by
          rcases hs.1.2 with ⟨_, _, a, b⟩ | ⟨_, _, _, a⟩ | ⟨_, a⟩
          · exact ⟨a, b⟩
          · have a' : x2 = 0 := a
            omega
          · have a' : x2 = 0 := a
            omega
        obtain ⟨D2, hD2⟩ : ∃ D2 : ByteArray, D2.data.toList = d2 := ⟨⟨d2.toArray⟩, rfl⟩
        subst hD2
        obtain ⟨hJx, hJx2⟩ := join_to c2 s2 g2 D2 x2 (Nat.le_trans hlen (by decide)) (by omega) (by omega) w hT.u8 hT.t10
        exact back_one c s g D x t c2 s2 g2 D2 x2 _ _ w hT.u8 hn hm _ hJ hJ2' (cut_to t _ rfl (by omega) _ _ _ _ _ _ hp w hT.u8) hJx hJx2
      · exact back_two c s g D x t w hT.u8 hn hm _ hJ hJ2' (cut_to t _ rfl (by omega) 0 false false ⟨#[]⟩ 0 2 he w hT.u8)
      · exact back_four c s g D x t w hT.u8 hn hm _ hJ hJ2' (cut_to t _ rfl (by omega) 0 false false ⟨#[]⟩ 0 4 he w hT.u8)
    · exact back_far c s g D x t w hT.u8 D.size t.size rfl rfl hD (by omega) (.inr ⟨by omega, by omega⟩)
  · exact back_far c s g D x t w hT.u8 D.size t.size rfl rfl hD (by omega) (.inl (by omega))
end Go.Proofs.YtiocdgehpiagjaaDoor
