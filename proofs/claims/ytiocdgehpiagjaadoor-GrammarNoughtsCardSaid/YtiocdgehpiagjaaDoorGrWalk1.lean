/- The contracts of the grammar's small functions: Sign, run, bare. -/
import Derived.Test.YtiocdgehpiagjaaDoorShelf
import Derived.Test.YtiocdgehpiagjaaDoorBoxes
import Derived.Test.YtiocdgehpiagjaaDoorMapMath
import Derived.Shelf.Strings.SlTrimAscii
import Derived.Lib.AtoiErrMem
namespace Go.Proofs.YtiocdgehpiagjaaDoor
open Go.RowKit
theorem bytes_of {t : ByteArray} {l : List UInt8} (h : t.data.toList = l) : t = ⟨l.toArray⟩ := by
  subst h
  simp
theorem pre_one (c x : UInt8) (u : List UInt8) : Lib.hasPrefix (c :: u) [x] = (x == c) := by
  unfold Lib.hasPrefix
  simp [List.isPrefixOf]
theorem trim_one (c x : UInt8) (u : List UInt8) : Lib.trimPrefix (c :: u) [x] = if x == c then u else c :: u := by
  unfold Lib.trimPrefix
  rw [pre_one]
  rfl
theorem sign_pure (l : List UInt8) : (Lib.hasPrefix l [45] = true → signL l = (true, Lib.trimPrefix l [45])) ∧ (Lib.hasPrefix l [45] = false → signL l = (false, Lib.trimPrefix l [43])) := by
  cases l with
  | nil => exact ⟨fun h => (by cases h), fun _ => rfl⟩
  | cons c u =>
    rw [pre_one, trim_one, trim_one]
    by_cases hc : c = 45
    · subst hc
      exact ⟨fun _ => rfl, fun h => by cases h⟩
    · refine ⟨fun h => absurd (by simpa using h : 45 = c).symm hc, fun _ => ?_⟩
      unfold signL
      simp only [if_neg hc]
      by_cases h43 : c = 43
      · subst h43; rfl
      · rw [if_neg h43, if_neg (by simp; exact fun e => h43 e.symm)]
set_option maxRecDepth 10000 in
set_option maxHeartbeats 1000000 in
theorem sign_calls (t : ByteArray) (l : List UInt8) (h : t.data.toList = l) (w : World) :
    Calls Tryd.prog 16 #[.string t] w fun e w' => e = .returned (.tuple #[.bool (signL l).1, .string ⟨(signL l).2.toArray⟩]) ∧ w' = w := by
  subst h
  have hp := sign_pure t.data.toList
  have H1 := Tryd.strings_CutPrefix t ⟨#[45]⟩ w
  have H2 := Tryd.strings_TrimPrefix t ⟨#[43]⟩ w
  have e2 : (⟨#[45]⟩ : ByteArray).data.toList = [45] := rfl
  have e3 : (⟨#[43]⟩ : ByteArray).data.toList = [43] := rfl
  rw [e2] at H1
  rw [e3] at H2
  generalize Lib.trimPrefix t.data.toList [45] = A at H1 hp
  generalize Lib.trimPrefix t.data.toList [43] = B at H2 hp
  generalize Lib.hasPrefix t.data.toList [45] = b at H1 hp
  obtain ⟨p1, p2⟩ := hp
  generalize signL t.data.toList = S at p1 p2 ⊢
  have K1 := Lib.hid H1
  have K2 := Lib.hid H2
  cases b
  · obtain rfl := p2 rfl
    clear H1 H2 e2 e3 p1 p2
    go_enter Tryd.func16, Tryd.ntmps16
    go_wp2_with fail
    refine K1.out.mono ?_
    rintro e w1 ⟨rfl, rfl⟩
    go_wp2_with fail
    refine K2.out.mono ?_
    rintro e w1 ⟨rfl, rfl⟩
    go_wp2
    go_ret2
    exact ⟨rfl, rfl⟩
  · obtain rfl := p1 rfl
    clear H1 H2 e2 e3 p1 p2
    go_enter Tryd.func16, Tryd.ntmps16
    go_wp2_with fail
    refine K1.out.mono ?_
    rintro e w1 ⟨rfl, rfl⟩
    go_wp2
    go_ret2
    exact ⟨rfl, rfl⟩
set_option maxRecDepth 10000 in
set_option maxHeartbeats 1000000 in
theorem bare_calls (t : ByteArray) (l : List UInt8) (h : t.data.toList = l) (w : World) :
    Calls Tryd.prog 21 #[.string t] w fun e w' => e = .returned (.string ⟨(bareL l).toArray⟩) ∧ w' = w := by
  subst h
  have H1 := Lib.hid (Tryd.strings_TrimLeft_one t 48 (by decide) w)
  go_enter Tryd.func21, Tryd.ntmps21
  go_wp2_with fail
  refine H1.out.mono ?_
  rintro e w1 ⟨rfl, rfl⟩
  go_wp2
  go_ret
  exact ⟨rfl, rfl⟩
theorem trimLeft_calls (s : ByteArray) (w : World) :
    Calls Tryd.prog 33 #[.string s, .string ⟨#[48, 49, 50, 51, 52, 53, 54, 55, 56, 57]⟩] w fun e w' => e = .returned (.string ⟨(runL s.data.toList).2.toArray⟩) ∧ Below w.heap.size w w' := by
  refine (Any.strings_TrimLeft_laid Tryd.lays161 (by kernel_rfl) s ⟨#[48, 49, 50, 51, 52, 53, 54, 55, 56, 57]⟩ w (by decide) (ascii_of_all (by decide))).mono ?_
  rintro e w' ⟨rfl, hb⟩
  refine ⟨?_, hb⟩
  have : (fun x => (⟨#[48, 49, 50, 51, 52, 53, 54, 55, 56, 57]⟩ : ByteArray).data.toList.contains x) = isDig := funext ten_contains
  unfold Lib.trimLeftS runL
  rw [this]
set_option maxRecDepth 10000 in
set_option maxHeartbeats 1000000 in
theorem run_calls (t : ByteArray) (l : List UInt8) (h : t.data.toList = l) (hl : l.length ≤ 1000000) (w : World) :
    Calls Tryd.prog 18 #[.string t] w fun e w' => e = .returned (.tuple #[.string ⟨(runL l).1.toArray⟩, .string ⟨(runL l).2.toArray⟩]) ∧ Below w.heap.size w w' := by
  have hs : t.size = l.length := by rw [← h]; simp
  have H1 := trimLeft_calls t w
  rw [h] at H1
  have hd : (runL l).1 ++ (runL l).2 = l := List.takeWhile_append_dropWhile
  generalize (runL l).1 = A at hd ⊢
  generalize (runL l).2 = B at hd H1 ⊢
  have hz : (⟨B.toArray⟩ : ByteArray).size = B.length := by show B.toArray.size = B.length; simp
  have hlen : A.length + B.length = l.length := by rw [← hd]; simp
  have hx : t.extract 0 A.length = ⟨A.toArray⟩ := by
    apply bytes_of
    rw [ByteArray.data_extract, Array.toList_extract, h, ← hd]
    simp
  have K1 := Lib.hid H1
  have HX := Lib.hid hx
  have hs2 : t.size = A.length + B.length := by omega
  have hm : A.length + B.length ≤ 1000000 := by omega
  clear H1 hx h hd hlen hl hs
  generalize hA : A.length = na at *
  generalize hB : B.length = nb at *
  clear hA hB
  have HS := Lib.hid hs2
  go_enter Tryd.func18, Tryd.ntmps18
  go_wp2_with fail
  refine K1.out.mono ?_
  rintro e w1 ⟨rfl, hb⟩
  have HB := Lib.hid hb
  clear hb
  go_wp2
  go_ret2
  refine ⟨?_, HB.out⟩
  rw [HX.out]
  rfl
set_option maxRecDepth 10000 in
set_option maxHeartbeats 1000000 in
theorem lower1_calls (x : Int) (h0 : 0 ≤ x) (h1 : x ≤ 1114111) (w : World) :
    Calls Tryd.prog 42 #[.int .i32 x] w fun e w' => e = .returned (.int .i32 (lowF x)) ∧ w' = w := by
  obtain ⟨y, hy⟩ : ∃ y, lowF x = y := ⟨_, rfl⟩
  rw [hy]
  unfold lowF at hy
  by_cases ha : 65 ≤ x
  · by_cases hb : x ≤ 90
    · rw [if_pos ⟨ha, hb⟩] at hy
      subst hy
      go_enter Tryd.func42, Tryd.ntmps42
      go_wp2
      go_ret
      exact ⟨congrArg (fun z => Ending.returned (.int .i32 z)) (by omega : x + 97 - 65 = x + 32), rfl⟩
    · rw [if_neg (by omega)] at hy
      subst hy
      go_enter Tryd.func42, Tryd.ntmps42
      go_wp2
      go_ret
      exact ⟨rfl, rfl⟩
  · rw [if_neg (by omega)] at hy
    subst hy
    go_enter Tryd.func42, Tryd.ntmps42
    go_wp2
    go_ret
    exact ⟨rfl, rfl⟩
theorem lowF_range (x : Nat) (h : x ≤ 1114111) : 0 ≤ lowF (x : Int) ∧ lowF (x : Int) ≤ 2147483647 := by
  unfold lowF
  split <;> omega
set_option maxRecDepth 10000 in
set_option maxHeartbeats 1000000 in
theorem lower_calls (t : ByteArray) (w : World) (hs : t.size ≤ 1000000) (hT : Lib.Utf8Tabs 2 3 w) :
    Calls Tryd.prog 31 #[.string t] w fun e w' => e = .returned (.string ⟨(Lib.mapD lowF t.data.toList).toArray⟩) ∧ Below w.heap.size w w' := by
  have K := Lib.hid (Tryd.strings_Map_runes 42 #[] (enters_of Tryd.func42 (by kernel_rfl) rfl) lowF t w (by omega) (fun W x hx _ => (lower1_calls (x : Int) (by omega) (by omega) W).mono fun e w' hh => ⟨hh.1, 0, by rw [hh.2]; rfl⟩) lowF_range hT)
  clear hT
  go_enter Tryd.func31, Tryd.ntmps31
  go_wp2_with fail
  refine K.out.mono ?_
  rintro e w1 ⟨rfl, hb⟩
  have HB := Lib.hid hb
  clear hb
  go_wp2
  go_ret
  exact ⟨rfl, HB.out⟩
end Go.Proofs.YtiocdgehpiagjaaDoor
