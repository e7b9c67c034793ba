/- theirs; the text of parts, by the grammar and by the reference. -/
import Derived.Test.YtiocdgehpiagjaaDoorLawGram
import Derived.Test.YtiocdgehpiagjaaDoorShelf
import Derived.Lib.AppendIntMem
namespace Go.Proofs.YtiocdgehpiagjaaDoor
set_option linter.unusedVariables false
set_option linter.unusedSimpArgs false
open Go.RowKit
set_option maxRecDepth 10000 in
set_option maxHeartbeats 1000000 in
theorem theirs_calls (c : Int) (s g : Bool) (d : ByteArray) (x : Int) (w : World) :
    Calls Tryd.prog 15 #[.agg #[.int .i64 c, .bool s, .bool g, .string d, .int .i64 x]] w fun e w' => e = .returned (.agg #[.int .i64 c, .bool s, .bool g, .string d, .int .i64 x]) ∧ Below w.heap.size w w' := by
  go_enter Tryd.func15, Tryd.ntmps15
  go_wp2
  exact bodyPost_ret (results_c rfl _ _ (w.heap.size + 1) 24 _ _ _ rfl (heap_two _ _ _) Tryd.underlying24 rfl parts_info) rfl ⟨rfl, below_alloc (below_alloc (Below.refl _ _) _) _⟩
theorem itoa_keep (x : Int) (h0 : -9223372036854775808 ≤ x) (h1 : x ≤ 9223372036854775807) (w : World) (hT : Lib.TabIs Tryd.prog w "internal/strconv.uint64pow10" .u64 Lib.pow10Tab) :
    Calls Tryd.prog 39 #[.int .i64 x] w fun e w' => e = .returned (.string ⟨(Lib.itoa x).toArray⟩) ∧ Below w.heap.size w w' :=
  (Tryd.strconv_Itoa x h0 h1 w hT).mono fun e w' ⟨he, k, os, hw⟩ => ⟨he, by rw [hw]; exact Lib.below_grow _ w (Nat.le_refl _) k os⟩
theorem txt {a : ByteArray} {l : List UInt8} (h : a.data.toList = l) : Ending.returned (.string a) = .returned (.string ⟨l.toArray⟩) := by rw [bytes_of h]
set_option maxRecDepth 10000 in
set_option maxHeartbeats 4000000 in
theorem text_calls (c : Int) (s g : Bool) (D : ByteArray) (d : List UInt8) (x : Int) (hD : D.data.toList = d) (hd : d.length ≤ 10000) (w : World)
    (hI : ∀ W, Below w.heap.size w W → Calls Tryd.prog 39 #[.int .i64 x] W fun e w' => e = .returned (.string ⟨(Lib.itoa x).toArray⟩) ∧ Below W.heap.size W w') (hx : (Lib.itoa x).length ≤ 21) :
    Calls Tryd.prog 29 #[.agg #[.int .i64 c, .bool s, .bool g, .string D, .int .i64 x]] w fun e w' => e = .returned (.string ⟨(textL ⟨c, s, g, d, x⟩).toArray⟩) ∧ Below w.heap.size w w' := by
  have hsz := str_size hD
  have HI := Lib.hid hI
  have HD := Lib.hid hD
  have hDs : D.size ≤ 10000 := by omega
  have hE := isEmpty_of hD
  obtain ⟨X, hX⟩ : ∃ X : ByteArray, X = ⟨(Lib.itoa x).toArray⟩ := ⟨_, rfl⟩
  have HX : Hid (X.data.toList = Lib.itoa x) := Lib.hid (by rw [hX])
  have hXs : X.size ≤ 21 := by rw [str_size HX.out]; exact hx
  rw [← hX] at HI
  clear hI hD hsz hd hX hx
  by_cases c2 : c = 2
  · subst c2
    cases s <;>
    · go_enter Tryd.func29, Tryd.ntmps29
      go_wp2
      go_ret
      exact ⟨txt (by simp [ByteArray.data_append, textL, textB, infS]), below_alloc (Below.refl _ _) _⟩
  · by_cases c3 : c = 3
    · subst c3
      rcases d with _ | ⟨k, u⟩
      · have hE2 : D.toList.isEmpty = true := hE
        clear hE
        cases s <;> cases g <;>
        · go_enter Tryd.func29, Tryd.ntmps29
          go_wp2
          go_ret
          exact ⟨txt (by simp [ByteArray.data_append, textL, textB, nanS]), below_alloc (Below.refl _ _) _⟩
      · have hE2 : D.toList.isEmpty = false := hE
        clear hE
        cases s <;> cases g <;>
        · go_enter Tryd.func29, Tryd.ntmps29
          go_wp2
          go_ret
          exact ⟨txt (by simp [ByteArray.data_append, textL, textB, nanS, HD.out]), below_alloc (Below.refl _ _) _⟩
    · have q2 : (c == 2) = false := beq_eq_false_iff_ne.2 c2
      have q3 : (c == 3) = false := beq_eq_false_iff_ne.2 c3
      have HC2 := Lib.hid c2
      have HC3 := Lib.hid c3
      clear c2 c3
      rcases d with _ | ⟨k, u⟩
      · have hE2 : D.toList.isEmpty = true := hE
        clear hE
        by_cases hx0 : x = 0
        · subst hx0
          cases s <;>
          · go_enter Tryd.func29, Tryd.ntmps29
            go_wp2
            go_ret
            exact ⟨txt (by simp [ByteArray.data_append, textL, textB, HC2.out, HC3.out, HD.out]), below_alloc (Below.refl _ _) _⟩
        · have qx : (x == 0) = false := beq_eq_false_iff_ne.2 hx0
          have qxn : (x != 0) = true := bne_iff_ne.2 hx0
          have HX0 := Lib.hid hx0
          clear hx0
          cases s <;>
          · go_enter Tryd.func29, Tryd.ntmps29
            go_wp2_with fail
            refine (HI.out _ (below_alloc (Below.refl _ _) _)).mono ?_
            rintro e w1 ⟨rfl, hb1⟩
            have HB1 := Lib.hid (below_then (below_alloc (Below.refl _ _) _) hb1)
            clear hb1
            go_wp2
            go_ret
            exact ⟨txt (by simp [ByteArray.data_append, textL, textB, HC2.out, HC3.out, HD.out, HX.out, HX0.out]), HB1.out⟩
      · have hE2 : D.toList.isEmpty = false := hE
        clear hE
        by_cases hx0 : x = 0
        · subst hx0
          cases s <;>
          · go_enter Tryd.func29, Tryd.ntmps29
            go_wp2
            go_ret
            exact ⟨txt (by simp [ByteArray.data_append, textL, textB, HC2.out, HC3.out, HD.out]), below_alloc (Below.refl _ _) _⟩
        · have qx : (x == 0) = false := beq_eq_false_iff_ne.2 hx0
          have qxn : (x != 0) = true := bne_iff_ne.2 hx0
          have HX0 := Lib.hid hx0
          clear hx0
          cases s <;>
          · go_enter Tryd.func29, Tryd.ntmps29
            go_wp2_with fail
            refine (HI.out _ (below_alloc (Below.refl _ _) _)).mono ?_
            rintro e w1 ⟨rfl, hb1⟩
            have HB1 := Lib.hid (below_then (below_alloc (Below.refl _ _) _) hb1)
            clear hb1
            go_wp2
            go_ret
            exact ⟨txt (by simp [ByteArray.data_append, textL, textB, HC2.out, HC3.out, HD.out, HX.out, HX0.out]), HB1.out⟩
set_option maxRecDepth 10000 in
set_option maxHeartbeats 4000000 in
theorem refText_calls (c : Int) (s g : Bool) (D : ByteArray) (d : List UInt8) (x : Int) (hD : D.data.toList = d) (hd : d.length ≤ 10000) (w : World)
    (hI : ∀ W, Below w.heap.size w W → Calls Tryd.prog 39 #[.int .i64 x] W fun e w' => e = .returned (.string ⟨(Lib.itoa x).toArray⟩) ∧ Below W.heap.size W w') (hx : (Lib.itoa x).length ≤ 21) :
    Calls Tryd.prog 28 #[.agg #[.int .i64 c, .bool s, .bool g, .string D, .int .i64 x]] w fun e w' => e = .returned (.string ⟨(textL ⟨c, s, g, d, x⟩).toArray⟩) ∧ Below w.heap.size w w' := by
  have hsz := str_size hD
  have HI := Lib.hid hI
  have HD := Lib.hid hD
  have hDs : D.size ≤ 10000 := by omega
  have hE := isEmpty_of hD
  obtain ⟨X, hX⟩ : ∃ X : ByteArray, X = ⟨(Lib.itoa x).toArray⟩ := ⟨_, rfl⟩
  have HX : Hid (X.data.toList = Lib.itoa x) := Lib.hid (by rw [hX])
  have hXs : X.size ≤ 21 := by rw [str_size HX.out]; exact hx
  rw [← hX] at HI
  clear hI hD hsz hd hX hx
  by_cases c2 : c = 2
  · subst c2
    cases s <;>
    · go_enter Tryd.func28, Tryd.ntmps28
      go_wp2
      go_ret
      exact ⟨txt (by simp [ByteArray.data_append, textL, textB, infS]), below_alloc (Below.refl _ _) _⟩
  · by_cases c3 : c = 3
    · subst c3
      rcases d with _ | ⟨k, u⟩
      · have hE2 : D.toList.isEmpty = true := hE
        clear hE
        cases s <;> cases g <;>
        · go_enter Tryd.func28, Tryd.ntmps28
          go_wp2
          go_ret
          exact ⟨txt (by simp [ByteArray.data_append, textL, textB, nanS]), below_alloc (Below.refl _ _) _⟩
      · have hE2 : D.toList.isEmpty = false := hE
        clear hE
        cases s <;> cases g <;>
        · go_enter Tryd.func28, Tryd.ntmps28
          go_wp2
          go_ret
          exact ⟨txt (by simp [ByteArray.data_append, textL, textB, nanS, HD.out]), below_alloc (Below.refl _ _) _⟩
    · have q2 : (c == 2) = false := beq_eq_false_iff_ne.2 c2
      have q3 : (c == 3) = false := beq_eq_false_iff_ne.2 c3
      have HC2 := Lib.hid c2
      have HC3 := Lib.hid c3
      clear c2 c3
      rcases d with _ | ⟨k, u⟩
      · have hE2 : D.toList.isEmpty = true := hE
        clear hE
        by_cases hx0 : x = 0
        · subst hx0
          cases s <;>
          · go_enter Tryd.func28, Tryd.ntmps28
            go_wp2
            go_ret
            exact ⟨txt (by simp [ByteArray.data_append, textL, textB, HC2.out, HC3.out, HD.out]), below_alloc (Below.refl _ _) _⟩
        · have qx : (x == 0) = false := beq_eq_false_iff_ne.2 hx0
          have qxn : (x != 0) = true := bne_iff_ne.2 hx0
          have HX0 := Lib.hid hx0
          clear hx0
          cases s <;>
          · go_enter Tryd.func28, Tryd.ntmps28
            go_wp2_with fail
            refine (HI.out _ (below_alloc (Below.refl _ _) _)).mono ?_
            rintro e w1 ⟨rfl, hb1⟩
            have HB1 := Lib.hid (below_then (below_alloc (Below.refl _ _) _) hb1)
            clear hb1
            go_wp2
            go_ret
            exact ⟨txt (by simp [ByteArray.data_append, textL, textB, HC2.out, HC3.out, HD.out, HX.out, HX0.out]), HB1.out⟩
      · have hE2 : D.toList.isEmpty = false := hE
        clear hE
        by_cases hx0 : x = 0
        · subst hx0
          cases s <;>
          · go_enter Tryd.func28, Tryd.ntmps28
            go_wp2
            go_ret
            exact ⟨txt (by simp [ByteArray.data_append, textL, textB, HC2.out, HC3.out, HD.out]), below_alloc (Below.refl _ _) _⟩
        · have qx : (x == 0) = false := beq_eq_false_iff_ne.2 hx0
          have qxn : (x != 0) = true := bne_iff_ne.2 hx0
          have HX0 := Lib.hid hx0
          clear hx0
          cases s <;>
          · go_enter Tryd.func28, Tryd.ntmps28
            go_wp2_with fail
            refine (HI.out _ (below_alloc (Below.refl _ _) _)).mono ?_
            rintro e w1 ⟨rfl, hb1⟩
            have HB1 := Lib.hid (below_then (below_alloc (Below.refl _ _) _) hb1)
            clear hb1
            go_wp2
            go_ret
            exact ⟨txt (by simp [ByteArray.data_append, textL, textB, HC2.out, HC3.out, HD.out, HX.out, HX0.out]), HB1.out⟩
end Go.Proofs.YtiocdgehpiagjaaDoor
