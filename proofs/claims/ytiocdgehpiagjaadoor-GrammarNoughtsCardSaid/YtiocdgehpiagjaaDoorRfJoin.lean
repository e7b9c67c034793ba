/- The reference's Good and Join. -/
import Derived.Test.YtiocdgehpiagjaaDoorGrJoin
namespace Go.Proofs.YtiocdgehpiagjaaDoor
set_option linter.unusedVariables false
set_option linter.unusedSimpArgs false
open Go.RowKit
theorem good_not {p : PartsL} (h : ¬ ((p.cls = 1 ∧ p.sig = false ∧ -1000000000 ≤ p.exp ∧ p.exp ≤ 1000000000 ∧ (textL p).length ≤ 4000) ∨
   (p.cls = 2 ∧ p.sig = false ∧ p.digits = [] ∧ p.exp = 0) ∨ (p.cls = 3 ∧ p.exp = 0 ∧ (textL p).length ≤ 4000))) : ¬ GoodL p := fun hg => h hg.2
theorem good_one {s : Bool} {d : List UInt8} {x : Int} {m : Nat} (hd : digs d = true ∧ d.head? ≠ some 48) (h0 : -1000000000 ≤ x) (h1 : x ≤ 1000000000) (hm : (textL ⟨1, s, false, d, x⟩).length = m) :
    decide ((m : Int) ≤ 4000) = true ↔ GoodL ⟨1, s, false, d, x⟩ := by
  rw [decide_eq_true_iff]
  constructor
  · intro h
    exact ⟨hd, .inl ⟨rfl, rfl, h0, h1, by omega⟩⟩
  · rintro ⟨_, ⟨_, _, _, _, hl⟩ | ⟨h, _⟩ | ⟨h, _⟩⟩
    · omega
    · cases h
    · cases h
theorem good_two {s : Bool} : GoodL ⟨2, s, false, [], 0⟩ := ⟨⟨rfl, by simp⟩, .inr (.inl ⟨rfl, rfl, rfl, rfl⟩)⟩
theorem good_three {s g : Bool} {d : List UInt8} {m : Nat} (hd : digs d = true ∧ d.head? ≠ some 48) (hm : (textL ⟨3, s, g, d, 0⟩).length = m) :
    decide ((m : Int) ≤ 4000) = true ↔ GoodL ⟨3, s, g, d, 0⟩ := by
  rw [decide_eq_true_iff]
  constructor
  · intro h
    exact ⟨hd, .inr (.inr ⟨rfl, rfl, by omega⟩)⟩
  · rintro ⟨_, ⟨h, _⟩ | ⟨h, _⟩ | ⟨_, _, hl⟩⟩
    · cases h
    · cases h
    · omega
theorem falls {p : PartsL} {w w' : World} {B : Nat} (h : ¬ GoodL p) (hb : Below B w w') : (∃ b : Bool, (b = true ↔ GoodL p) ∧ Ending.returned (.bool false) = .returned (.bool b)) ∧ Below B w w' :=
  ⟨⟨false, ⟨fun e => (by cases e), fun e => absurd e h⟩, rfl⟩, hb⟩
set_option maxRecDepth 10000 in
set_option maxHeartbeats 4000000 in
theorem good_calls (c : Int) (s g : Bool) (D : ByteArray) (d : List UInt8) (x : Int) (hD : D.data.toList = d) (hd : d.length ≤ 10000) (w : World)
    (hI : ∀ W, Below w.heap.size w W → Calls Tryd.prog 39 #[.int .i64 x] W fun e w' => e = .returned (.string ⟨(Lib.itoa x).toArray⟩) ∧ Below W.heap.size W w') (hx : (Lib.itoa x).length ≤ 21) :
    Calls Tryd.prog 27 #[.agg #[.int .i64 c, .bool s, .bool g, .string D, .int .i64 x]] w fun e w' => (∃ b : Bool, (b = true ↔ GoodL ⟨c, s, g, d, x⟩) ∧ e = .returned (.bool b)) ∧ Below w.heap.size w w' := by
  have hsz := str_size hD
  have htl : (textL ⟨c, s, g, d, x⟩).length ≤ 10040 := by have := text_top (p := ⟨c, s, g, d, x⟩) hx; have e : (PartsL.mk c s g d x).digits = d := rfl; rw [e] at this; omega
  have HTX := Lib.hid (fun W (hb : Below w.heap.size w W) => refText_calls c s g D d x hD hd W (fun W' hb' => hI W' (below_then hb hb')) hx)
  obtain ⟨T, hT⟩ : ∃ T : ByteArray, T = ⟨(textL ⟨c, s, g, d, x⟩).toArray⟩ := ⟨_, rfl⟩
  have hTs : T.size = (textL ⟨c, s, g, d, x⟩).length := by rw [hT]; exact str_size rfl
  rw [← hT] at HTX
  obtain ⟨m, hm⟩ : ∃ m, (textL ⟨c, s, g, d, x⟩).length = m := ⟨_, rfl⟩
  rw [hm] at hTs htl
  have HM := Lib.hid hm
  have HD := Lib.hid hD
  have hDs : D.size ≤ 10000 := by omega
  have hE := isEmpty_of hD
  have HG := Lib.hid (fun W => isDigits_calls D W (by omega))
  clear hI hsz hd hT hx hm
  rcases d with _ | ⟨k, u⟩
  · have hE2 : D.toList.isEmpty = true := hE
    have HDD : Hid (digs [] = true ∧ ([] : List UInt8).head? ≠ some 48) := Lib.hid ⟨rfl, by simp⟩
    clear hE
    by_cases c1 : c = 1
    · subst c1
      cases g
      · by_cases x0 : -1000000000 ≤ x
        · by_cases x1 : x ≤ 1000000000
          · have HIF := Lib.hid (good_one HDD.out x0 x1 HM.out)
            go_enter Tryd.func27, Tryd.ntmps27
            go_wp2_with fail
            refine (HTX.out _ (below_alloc (Below.refl _ _) _)).mono ?_
            rintro e w1 ⟨rfl, hb1⟩
            have HB1 := Lib.hid (below_then (below_alloc (Below.refl _ _) _) hb1)
            clear hb1
            go_wp2
            go_ret
            exact ⟨⟨_, HIF.out, rfl⟩, HB1.out⟩
          · have x2 : 1000000000 < x := by omega
            have HNG : Hid (¬ GoodL ⟨1, s, false, [], x⟩) := Lib.hid (good_not (by simp; intro _ h; omega))
            go_enter Tryd.func27, Tryd.ntmps27
            go_wp2
            go_ret
            first | exact falls HNG.out (below_alloc (Below.refl _ _) _) | exact ⟨.inl ⟨HNG.out, rfl⟩, below_alloc (Below.refl _ _) _⟩
        · have x2 : x < -1000000000 := by omega
          have HNG : Hid (¬ GoodL ⟨1, s, false, [], x⟩) := Lib.hid (good_not (by simp; intro h; omega))
          go_enter Tryd.func27, Tryd.ntmps27
          go_wp2
          go_ret
          first | exact falls HNG.out (below_alloc (Below.refl _ _) _) | exact ⟨.inl ⟨HNG.out, rfl⟩, below_alloc (Below.refl _ _) _⟩
      · have HNG : Hid (¬ GoodL ⟨1, s, true, [], x⟩) := Lib.hid (good_not (by simp))
        go_enter Tryd.func27, Tryd.ntmps27
        go_wp2
        go_ret
        first | exact falls HNG.out (below_alloc (Below.refl _ _) _) | exact ⟨.inl ⟨HNG.out, rfl⟩, below_alloc (Below.refl _ _) _⟩
    · by_cases c2 : c = 2
      · subst c2
        cases g
        · by_cases x0 : x = 0
          · subst x0
            go_enter Tryd.func27, Tryd.ntmps27
            go_wp2
            go_ret
            exact ⟨⟨true, ⟨fun _ => good_two, fun _ => rfl⟩, rfl⟩, below_alloc (Below.refl _ _) _⟩
          · have x1 : (x == 0) = false := beq_eq_false_iff_ne.2 x0
            have HNG : Hid (¬ GoodL ⟨2, s, false, [], x⟩) := Lib.hid (good_not (by simp; exact x0))
            go_enter Tryd.func27, Tryd.ntmps27
            go_wp2
            go_ret
            first | exact falls HNG.out (below_alloc (Below.refl _ _) _) | exact ⟨.inl ⟨HNG.out, rfl⟩, below_alloc (Below.refl _ _) _⟩
        · have HNG : Hid (¬ GoodL ⟨2, s, true, [], x⟩) := Lib.hid (good_not (by simp))
          go_enter Tryd.func27, Tryd.ntmps27
          go_wp2
          go_ret
          first | exact falls HNG.out (below_alloc (Below.refl _ _) _) | exact ⟨.inl ⟨HNG.out, rfl⟩, below_alloc (Below.refl _ _) _⟩
      · by_cases c3 : c = 3
        · subst c3
          by_cases x0 : x = 0
          · subst x0
            have HIF := Lib.hid (good_three HDD.out HM.out)
            go_enter Tryd.func27, Tryd.ntmps27
            go_wp2_with fail
            refine (HTX.out _ (below_alloc (Below.refl _ _) _)).mono ?_
            rintro e w1 ⟨rfl, hb1⟩
            have HB1 := Lib.hid (below_then (below_alloc (Below.refl _ _) _) hb1)
            clear hb1
            go_wp2
            go_ret
            exact ⟨⟨_, HIF.out, rfl⟩, HB1.out⟩
          · have x1 : (x == 0) = false := beq_eq_false_iff_ne.2 x0
            have HNG : Hid (¬ GoodL ⟨3, s, g, [], x⟩) := Lib.hid (good_not (by simp; intro h; exact absurd h x0))
            go_enter Tryd.func27, Tryd.ntmps27
            go_wp2
            go_ret
            first | exact falls HNG.out (below_alloc (Below.refl _ _) _) | exact ⟨.inl ⟨HNG.out, rfl⟩, below_alloc (Below.refl _ _) _⟩
        · have q1 : (c == 1) = false := beq_eq_false_iff_ne.2 c1
          have q2 : (c == 2) = false := beq_eq_false_iff_ne.2 c2
          have q3 : (c == 3) = false := beq_eq_false_iff_ne.2 c3
          have HNG : Hid (¬ GoodL ⟨c, s, g, [], x⟩) := Lib.hid (good_not (by simp [c1, c2, c3]))
          go_enter Tryd.func27, Tryd.ntmps27
          go_wp2
          go_ret
          first | exact falls HNG.out (below_alloc (Below.refl _ _) _) | exact ⟨.inl ⟨HNG.out, rfl⟩, below_alloc (Below.refl _ _) _⟩
  · have hE2 : D.toList.isEmpty = false := hE
    clear hE
    have h0 : 0 < D.size := by rw [str_size HD.out]; simp
    have h0i : (0 : Int) < (D.size : Int) := by omega
    have hg : D[0]'h0 = k := get_of HD.out h0 (by simp)
    have hdv : (decide (0 < D.size) && digs D.data.toList) = digs (k :: u) := by rw [decide_eq_true h0, Bool.true_and, HD.out]
    have HDG := Lib.hid hdv
    clear hdv
    rcases hdig : digs (k :: u) with _ | _
    · rw [hdig] at HDG
      have HNG : Hid (¬ GoodL ⟨c, s, g, k :: u, x⟩) := Lib.hid (fun h => by have := h.1.1; rw [show (PartsL.mk c s g (k :: u) x).digits = k :: u from rfl, hdig] at this; cases this)
      go_enter Tryd.func27, Tryd.ntmps27
      go_wp2_with fail
      refine (HG.out _).mono ?_
      rintro e w1 ⟨rfl, rfl⟩
      rw [HDG.out]
      go_wp2
      go_ret
      first | exact falls HNG.out (below_alloc (Below.refl _ _) _) | exact ⟨.inl ⟨HNG.out, rfl⟩, below_alloc (Below.refl _ _) _⟩
    · rw [hdig] at HDG
      by_cases hk : k = 48
      · subst hk
        have HNG : Hid (¬ GoodL ⟨c, s, g, 48 :: u, x⟩) := Lib.hid (fun h => h.1.2 rfl)
        go_enter Tryd.func27, Tryd.ntmps27
        go_wp2_with fail
        refine (HG.out _).mono ?_
        rintro e w1 ⟨rfl, rfl⟩
        rw [HDG.out]
        go_wp2
        go_ret
        first | exact falls HNG.out (below_alloc (Below.refl _ _) _) | exact ⟨.inl ⟨HNG.out, rfl⟩, below_alloc (Below.refl _ _) _⟩
      · have q48 : (((k.toNat : Nat) : Int) == 48) = false := beq_eq_false_iff_ne.2 (fun e => hk (UInt8.toNat_inj.1 (by show k.toNat = 48; omega)))
        have HDD : Hid (digs (k :: u) = true ∧ (k :: u).head? ≠ some 48) := Lib.hid ⟨hdig, by simpa using hk⟩
        clear hdig hk
        by_cases c1 : c = 1
        · subst c1
          cases g
          · by_cases x0 : -1000000000 ≤ x
            · by_cases x1 : x ≤ 1000000000
              · have HIF := Lib.hid (good_one HDD.out x0 x1 HM.out)
                go_enter Tryd.func27, Tryd.ntmps27
                go_wp2_with fail
                refine (HG.out _).mono ?_
                rintro e w1 ⟨rfl, rfl⟩
                rw [HDG.out]
                go_wp2_with fail
                refine (HTX.out _ (below_alloc (Below.refl _ _) _)).mono ?_
                rintro e w1 ⟨rfl, hb1⟩
                have HB1 := Lib.hid (below_then (below_alloc (Below.refl _ _) _) hb1)
                clear hb1
                go_wp2
                go_ret
                exact ⟨⟨_, HIF.out, rfl⟩, HB1.out⟩
              · have x2 : 1000000000 < x := by omega
                have HNG : Hid (¬ GoodL ⟨1, s, false, k :: u, x⟩) := Lib.hid (good_not (by simp; intro _ h; omega))
                go_enter Tryd.func27, Tryd.ntmps27
                go_wp2_with fail
                refine (HG.out _).mono ?_
                rintro e w1 ⟨rfl, rfl⟩
                rw [HDG.out]
                go_wp2
                go_ret
                first | exact falls HNG.out (below_alloc (Below.refl _ _) _) | exact ⟨.inl ⟨HNG.out, rfl⟩, below_alloc (Below.refl _ _) _⟩
            · have x2 : x < -1000000000 := by omega
              have HNG : Hid (¬ GoodL ⟨1, s, false, k :: u, x⟩) := Lib.hid (good_not (by simp; intro h; omega))
              go_enter Tryd.func27, Tryd.ntmps27
              go_wp2_with fail
              refine (HG.out _).mono ?_
              rintro e w1 ⟨rfl, rfl⟩
              rw [HDG.out]
              go_wp2
              go_ret
              first | exact falls HNG.out (below_alloc (Below.refl _ _) _) | exact ⟨.inl ⟨HNG.out, rfl⟩, below_alloc (Below.refl _ _) _⟩
          · have HNG : Hid (¬ GoodL ⟨1, s, true, k :: u, x⟩) := Lib.hid (good_not (by simp))
            go_enter Tryd.func27, Tryd.ntmps27
            go_wp2_with fail
            refine (HG.out _).mono ?_
            rintro e w1 ⟨rfl, rfl⟩
            rw [HDG.out]
            go_wp2
            go_ret
            first | exact falls HNG.out (below_alloc (Below.refl _ _) _) | exact ⟨.inl ⟨HNG.out, rfl⟩, below_alloc (Below.refl _ _) _⟩
        · by_cases c2 : c = 2
          · subst c2
            cases g
            · have HNG : Hid (¬ GoodL ⟨2, s, false, k :: u, x⟩) := Lib.hid (good_not (by simp))
              go_enter Tryd.func27, Tryd.ntmps27
              go_wp2_with fail
              refine (HG.out _).mono ?_
              rintro e w1 ⟨rfl, rfl⟩
              rw [HDG.out]
              go_wp2
              go_ret
              first | exact falls HNG.out (below_alloc (Below.refl _ _) _) | exact ⟨.inl ⟨HNG.out, rfl⟩, below_alloc (Below.refl _ _) _⟩
            · have HNG : Hid (¬ GoodL ⟨2, s, true, k :: u, x⟩) := Lib.hid (good_not (by simp))
              go_enter Tryd.func27, Tryd.ntmps27
              go_wp2_with fail
              refine (HG.out _).mono ?_
              rintro e w1 ⟨rfl, rfl⟩
              rw [HDG.out]
              go_wp2
              go_ret
              first | exact falls HNG.out (below_alloc (Below.refl _ _) _) | exact ⟨.inl ⟨HNG.out, rfl⟩, below_alloc (Below.refl _ _) _⟩
          · by_cases c3 : c = 3
            · subst c3
              by_cases x0 : x = 0
              · subst x0
                have HIF := Lib.hid (good_three HDD.out HM.out)
                go_enter Tryd.func27, Tryd.ntmps27
                go_wp2_with fail
                refine (HG.out _).mono ?_
                rintro e w1 ⟨rfl, rfl⟩
                rw [HDG.out]
                go_wp2_with fail
                refine (HTX.out _ (below_alloc (Below.refl _ _) _)).mono ?_
                rintro e w1 ⟨rfl, hb1⟩
                have HB1 := Lib.hid (below_then (below_alloc (Below.refl _ _) _) hb1)
                clear hb1
                go_wp2
                go_ret
                exact ⟨⟨_, HIF.out, rfl⟩, HB1.out⟩
              · have x1 : (x == 0) = false := beq_eq_false_iff_ne.2 x0
                have HNG : Hid (¬ GoodL ⟨3, s, g, k :: u, x⟩) := Lib.hid (good_not (by simp; intro h; exact absurd h x0))
                go_enter Tryd.func27, Tryd.ntmps27
                go_wp2_with fail
                refine (HG.out _).mono ?_
                rintro e w1 ⟨rfl, rfl⟩
                rw [HDG.out]
                go_wp2
                go_ret
                first | exact falls HNG.out (below_alloc (Below.refl _ _) _) | exact ⟨.inl ⟨HNG.out, rfl⟩, below_alloc (Below.refl _ _) _⟩
            · have q1 : (c == 1) = false := beq_eq_false_iff_ne.2 c1
              have q2 : (c == 2) = false := beq_eq_false_iff_ne.2 c2
              have q3 : (c == 3) = false := beq_eq_false_iff_ne.2 c3
              have HNG : Hid (¬ GoodL ⟨c, s, g, k :: u, x⟩) := Lib.hid (good_not (by simp [c1, c2, c3]))
              go_enter Tryd.func27, Tryd.ntmps27
              go_wp2_with fail
              refine (HG.out _).mono ?_
              rintro e w1 ⟨rfl, rfl⟩
              rw [HDG.out]
              go_wp2
              go_ret
              first | exact falls HNG.out (below_alloc (Below.refl _ _) _) | exact ⟨.inl ⟨HNG.out, rfl⟩, below_alloc (Below.refl _ _) _⟩
set_option maxRecDepth 10000 in
set_option maxHeartbeats 4000000 in
theorem refJoin_calls (c : Int) (s g : Bool) (D : ByteArray) (d : List UInt8) (x : Int) (hD : D.data.toList = d) (hd : d.length ≤ 10000) (w : World)
    (hI : ∀ W, Below w.heap.size w W → Calls Tryd.prog 39 #[.int .i64 x] W fun e w' => e = .returned (.string ⟨(Lib.itoa x).toArray⟩) ∧ Below W.heap.size W w') (hx : (Lib.itoa x).length ≤ 21) :
    Calls Tryd.prog 12 #[.agg #[.int .i64 c, .bool s, .bool g, .string D, .int .i64 x]] w fun e w' => e = .returned (joinV (joinL ⟨c, s, g, d, x⟩)) ∧ Below w.heap.size w w' := by
  have HG := Lib.hid (fun W (hb : Below w.heap.size w W) => good_calls c s g D d x hD hd W (fun W' hb' => hI W' (below_then hb hb')) hx)
  have HTX := Lib.hid (fun W (hb : Below w.heap.size w W) => refText_calls c s g D d x hD hd W (fun W' hb' => hI W' (below_then hb hb')) hx)
  clear hI hD hd hx
  have HPOS : Hid (GoodL ⟨c, s, g, d, x⟩ → joinL ⟨c, s, g, d, x⟩ = (textL ⟨c, s, g, d, x⟩, 0)) := Lib.hid fun h => if_pos h
  have HNEG : Hid (¬ GoodL ⟨c, s, g, d, x⟩ → joinL ⟨c, s, g, d, x⟩ = ([], 1)) := Lib.hid fun h => if_neg h
  generalize joinL ⟨c, s, g, d, x⟩ = J at *
  generalize textL ⟨c, s, g, d, x⟩ = T at *
  generalize hGG : GoodL ⟨c, s, g, d, x⟩ = G at *
  clear hGG
  go_enter Tryd.func12, Tryd.ntmps12
  go_wp2_with fail
  refine (HG.out _ (below_alloc (Below.refl _ _) _)).mono ?_
  rintro e w1 ⟨⟨b, hb, rfl⟩, hb1⟩
  have HB1 := Lib.hid (below_then (below_alloc (Below.refl _ _) _) hb1)
  have HBB := Lib.hid hb
  have HX1 : Hid (w1.heap[w.heap.size]? = some (.cells #[.int .i64 c, .bool s, .bool g, .string D, .int .i64 x] 28 (0, 0))) := Lib.hid (below_heap hb1 (heap_new _ _))
  clear hb1 hb HG
  cases b
  · have hj := HNEG.out (fun h => by have := HBB.out.2 h; cases this)
    subst hj
    go_wp2
    go_ret2
    exact ⟨rfl, HB1.out⟩
  · have hj := HPOS.out (HBB.out.1 rfl)
    subst hj
    have px0 : w1.cell? ⟨w.heap.size, 0, none⟩ = some (.int .i64 c) := cell_of_heap HX1.out 0
    have px1 : w1.cell? ⟨w.heap.size, 1, none⟩ = some (.bool s) := cell_of_heap HX1.out 1
    have px2 : w1.cell? ⟨w.heap.size, 2, none⟩ = some (.bool g) := cell_of_heap HX1.out 2
    have px3 : w1.cell? ⟨w.heap.size, 3, none⟩ = some (.string D) := cell_of_heap HX1.out 3
    have px4 : w1.cell? ⟨w.heap.size, 4, none⟩ = some (.int .i64 x) := cell_of_heap HX1.out 4
    go_wp2_with fail
    refine (HTX.out _ HB1.out).mono ?_
    rintro e w2 ⟨rfl, hb2⟩
    have HB2 := Lib.hid (below_then HB1.out hb2)
    clear hb2
    go_wp2
    go_ret2
    exact ⟨rfl, HB2.out⟩
end Go.Proofs.YtiocdgehpiagjaaDoor
