/- What the laws of nat share: awake, few, same. -/
import Derived.Test.YtoikoeileilegaaDoorNatDigits
namespace Go.Proofs.YtoikoeileilegaaDoor
open Go.RowKit
theorem awake_text : Lib.decDigits 18446744073709551616 = [49, 56, 52, 52, 54, 55, 52, 52, 48, 55, 51, 55, 48, 57, 53, 53, 49, 54, 49, 54] := by
  have h := dec_add 1 19 8446744073709551616 (by decide) (by decide)
  rw [show 1 * 10 ^ 19 + 8446744073709551616 = 18446744073709551616 by decide, Lib.decDigits_one (i := 1) (by decide)] at h
  rw [h]
  decide
theorem two_words (w : World) (m n : Nat) : WordsAt (w.alloc (.cells #[.int .u64 (m : Nat), .int .u64 (n : Nat)] 46)) w.heap.size [m, n] := heap_new w _
theorem awake_val : digVal [0, 1] = [49, 56, 52, 52, 54, 55, 52, 52, 48, 55, 51, 55, 48, 57, 53, 53, 49, 54, 49, 54] := by
  unfold digVal
  rw [if_neg (by decide), show val [0, 1] = 18446744073709551616 by decide]
  exact awake_text
set_option maxRecDepth 10000 in
theorem awakeDigits_calls (w : World) (htab : Tab10 w) :
    Calls Tryd.prog 36 #[.slice (some ⟨w.heap.size, 0, none⟩) 2 2] (w.alloc (.cells #[.int .u64 0, .int .u64 1] 46)) fun e w' => e = .returned (.tuple #[.string ⟨#[49, 56, 52, 52, 54, 55, 52, 52, 48, 55, 51, 55, 48, 57, 53, 53, 49, 54, 49, 54]⟩, .int .i64 0]) ∧ Below w.heap.size w w' := by
  have hb : Below w.heap.size w (w.alloc (.cells #[.int .u64 0, .int .u64 1] 46)) := (Below.refl _ _).alloc (Nat.le_refl _) _
  have hw : W64 [0, 1] := by intro x hx; rcases List.mem_cons.1 hx with rfl | hx; decide; rw [List.mem_singleton.1 hx]; decide
  refine (digits_calls _ _ 2 2 [0, 1] ((two_words w 0 1).slAll (N := 2) hw rfl (by omega)) (.inr ⟨_, _, rfl⟩) (by omega) (tabIs_below htab hb)).mono ?_
  rintro e w' ⟨rfl, h⟩
  refine ⟨?_, below_then hb h⟩
  rw [awake_val]
  rfl
set_option maxRecDepth 10000 in
set_option maxHeartbeats 1000000 in
theorem awake_calls (w : World) (htab : Tab10 w) :
    Calls Tryd.prog 11 #[] w fun e w' => e = .returned (.bool true) ∧ Below w.heap.size w w' := by
  have HD := Lib.hid (awakeDigits_calls w htab)
  clear htab
  go_enter Tryd.func11, Tryd.ntmps11
  go_wp2_with fail
  refine HD.out.mono ?_
  rintro e w' ⟨rfl, hb⟩
  have HB := Lib.hid hb
  clear hb
  go_wp2
  go_ret
  exact ⟨rfl, HB.out⟩
set_option maxRecDepth 10000 in
theorem few_calls (w : World) (a : Option Addr) (la ca : Nat) (b : Bool) (hb : decide ((la : Int) ≤ 2500) = b) :
    Calls Tryd.prog 12 #[.slice a la ca] w fun e w' => e = .returned (.bool b) ∧ w = w' := by
  go_enter Tryd.func12, Tryd.ntmps12
  go_wp2
  go_ret
  exact ⟨by rw [← hb]; rfl, rfl⟩
set_option maxRecDepth 10000 in
theorem same_calls (w : World) (a b : Option Addr) (la ca lb cb : Nat) (xs ys : List Nat) (ha : SlW w a la ca xs) (hb : SlW w b lb cb ys) (hv : val xs = val ys) (hz : sz xs = la) :
    Calls Tryd.prog 15 #[.slice a la ca, .slice b lb cb] w fun e w' => e = .returned (.bool true) ∧ w = w' := by
  have h1 := refSame_calls w a b la ca lb cb xs ys ha hb
  have h2 := refTrimmed_calls w a la ca xs ha
  rw [decide_eq_true hv] at h1
  rw [decide_eq_true hz.symm] at h2
  have H1 := Lib.hid h1
  have H2 := Lib.hid h2
  clear h1 h2 ha hb hv hz
  go_enter Tryd.func15, Tryd.ntmps15
  go_wp2_with fail
  refine H1.out.mono ?_
  rintro e w' ⟨rfl, rfl⟩
  go_wp2_with fail
  refine H2.out.mono ?_
  rintro e w' ⟨rfl, rfl⟩
  go_wp2
  go_ret
  exact ⟨rfl, rfl⟩
end Go.Proofs.YtoikoeileilegaaDoor
