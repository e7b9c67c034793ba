/- flags.Right, round.Up, round.Divide: a quotient as a direction takes it. · Plain laws: the number that decimal digits spell. · Plain laws: the number that decimal digits spell: DigLaw and DigMath together. · The contract of nat.Read. · The contracts of the reference's IsDigits, Number, Read. -/
import Derived.Test.YtpodpdopgdkdkaaGreatDoorMw22
import Derived.Test.YtpodpdopgdkdkaaGreatDoorMw09
import Derived.Deep.QuietTactic
import Derived.BigQuiet
import Derived.Lib.AtoiAll
import Derived.Lib.SlTrimSet
import Derived.Lib.ItoaNum
import Derived.Test.YtpodpdopgdkdkaaGreatDoorMw18
import Derived.Test.YtpodpdopgdkdkaaGreatDoorMw19
import Derived.Test.YtpodpdopgdkdkaaGreatDoorMw07
import Derived.Shelf.Strings.SlTrimAscii
import Derived.Lib.AtoiErrMem
set_option linter.unusedVariables false
set_option linter.unusedSimpArgs false
namespace Go.Proofs.YtpodpdopgdkdkaaGreatDoor
set_option linter.unusedVariables false
set_option linter.unusedSimpArgs false
open Go.RowKit
set_option maxRecDepth 100000 in
set_option maxHeartbeats 1000000 in
theorem fRight_calls (w : World) (d : Int) : Calls Tryz.prog 24 #[.int .i64 d] w fun e w' => e = .returned (.bool (decide (0 ≤ d ∧ d ≤ 4))) ∧ w' = w := by
  by_cases h0 : 0 ≤ d
  · by_cases h4 : d ≤ 4
    · rw [decide_eq_true (show 0 ≤ d ∧ d ≤ 4 from ⟨h0, h4⟩)]
      go_enter Tryz.func24, Tryz.ntmps24
      go_wp2
      go_ret
      exact ⟨rfl, rfl⟩
    · have h4' : 4 < d := by omega
      rw [decide_eq_false (show ¬ (0 ≤ d ∧ d ≤ 4) from fun h => h4 h.2)]
      go_enter Tryz.func24, Tryz.ntmps24
      go_wp2
      go_ret
      exact ⟨rfl, rfl⟩
  · have h0' : d < 0 := by omega
    rw [decide_eq_false (show ¬ (0 ≤ d ∧ d ≤ 4) from fun h => h0 h.1)]
    go_enter Tryz.func24, Tryz.ntmps24
    go_wp2
    go_ret
    exact ⟨rfl, rfl⟩
theorem cmpI_ways (m n : Nat) : cmpI m n = -1 ∨ cmpI m n = 0 ∨ cmpI m n = 1 := by unfold cmpI; split <;> (try split) <;> simp
set_option maxRecDepth 100000 in
set_option maxHeartbeats 2000000 in
theorem up_calls (w : World) (d : Int) (sg odd : Bool) (hf : Int) (h0 : 0 ≤ d) (h4 : d ≤ 4) (hh : hf = -1 ∨ hf = 0 ∨ hf = 1) :
    Calls Tryz.prog 76 #[.int .i64 d, .bool sg, .bool odd, .int .i64 hf] w fun e w' => e = .returned (.bool (upB d sg odd hf)) ∧ w' = w := by
  rcases (show d = 0 ∨ d = 1 ∨ d = 2 ∨ d = 3 ∨ d = 4 by omega) with rfl | rfl | rfl | rfl | rfl <;> rcases hh with rfl | rfl | rfl <;>
  · go_enter Tryz.func76, Tryz.ntmps76
    go_wp2
    go_ret
    exact ⟨rfl, rfl⟩
theorem odd_word {zs : List Nat} (h : 0 < zs.length) : zs.getD 0 0 % 2 = val zs % 2 := by
  cases zs with
  | nil => simp at h
  | cons x xs =>
    have : val (x :: xs) = x + B64 * val xs := rfl
    rw [this]
    unfold B64
    simp
    omega
theorem quoR_up {d : Int} {sg o : Bool} {A D : Nat} {hf : Int} (h : A % D ≠ 0) (ho : decide (A / D % 2 = 1) = o) (hh : cmpI (A % D) (D - A % D) = hf) (hu : upB d sg o hf = true) : quoR d sg A D = A / D + 1 := by
  unfold quoR isUp; rw [ho, hh, hu, if_neg h, if_pos rfl]
theorem quoR_down {d : Int} {sg o : Bool} {A D : Nat} {hf : Int} (h : A % D ≠ 0) (ho : decide (A / D % 2 = 1) = o) (hh : cmpI (A % D) (D - A % D) = hf) (hu : upB d sg o hf = false) : quoR d sg A D = A / D := by
  unfold quoR isUp; rw [ho, hh, hu, if_neg h, if_neg (by decide)]
set_option maxRecDepth 100000 in
set_option maxHeartbeats 4000000 in
theorem divide_calls (w : World) {s t : Value} {A D k : Nat} (d : Int) (sg : Bool) (h0 : 0 ≤ d) (h4 : d ≤ 4) (hs : NatAt w A s) (ht : NatAt w D t) (hA : A < B64 ^ k) (hD : D < B64 ^ k) (hk : k ≤ 2000) (hD0 : 0 < D) :
    Calls Tryz.prog 30 #[.int .i64 d, .bool sg, s, t] w (NatOneV w (quoR d sg A D) (.bool (decide (A % D = 0)))) := by
  have HD1 := Lib.hid (div_at w hs ht hA hD hk hk hD0)
  have HT := Lib.hid ht
  have HDk := Lib.hid hD
  have HAk := Lib.hid hA
  have HDp := Lib.hid hD0
  clear hs ht hA hD hD0
  by_cases hr : A % D = 0
  · rw [decide_eq_true hr]
    have HR := Lib.hid hr
    clear hr
    go_enter Tryz.func30, Tryz.ntmps30
    go_wp2_with fail
    refine HD1.out.mono ?_
    rintro e w1 ⟨u, v, rfl, hu, hv, hb1⟩
    obtain ⟨a, c, rfl⟩ := hv.len0 HR.out
    have HU := Lib.hid hu
    have HB1 := Lib.hid hb1
    clear hu hv hb1
    go_wp2
    go_ret2
    refine ⟨_, rfl, ?_, HB1.out⟩
    have := HU.out; unfold quoR; rw [if_pos HR.out]; exact this
  · rw [decide_eq_false hr]
    have HR := Lib.hid hr
    clear hr
    go_enter Tryz.func30, Tryz.ntmps30
    go_wp2_with fail
    refine HD1.out.mono ?_
    rintro e w1 ⟨u, v, rfl, hu, hv, hb1⟩
    obtain ⟨b, off, c, zs, hve, -, -, -, hz0⟩ := hv.lenPos (Nat.pos_of_ne_zero HR.out)
    have HV := Lib.hid hv
    obtain ⟨nz, hnz⟩ : ∃ nz, zs.length = nz := ⟨_, rfl⟩
    rw [hnz] at hz0 hve
    have hz1 : ((nz : Int) == 0) = false := by simp; omega
    have HS := Lib.hid (sub_at w1 (HT.out.below hb1) hv HDk.out (by omega) (Nat.le_of_lt (Nat.mod_lt A HDp.out)))
    have HVE := Lib.hid hve
    have HB1 := Lib.hid hb1
    have HU := Lib.hid hu
    rw [hve] at HS
    subst hve
    clear hu hv hb1 hnz
    go_wp2_with fail
    refine HS.out.mono ?_
    rintro e w2 ⟨x, rfl, hx, hb2⟩
    have HC := Lib.hid (fun m => cmp_at (w2.drewN m) ((HV.out.below hb2).drewN m) (hx.drewN m))
    have HU2 := Lib.hid (HU.out.below hb2)
    have HB2 := Lib.hid (below_then HB1.out hb2)
    obtain ⟨hf, hhf⟩ : ∃ hf, cmpI (A % D) (D - A % D) = hf := ⟨_, rfl⟩
    have hw := cmpI_ways (A % D) (D - A % D)
    rw [hhf] at hw HC
    have HUP := Lib.hid (fun W o => up_calls W d sg o hf h0 h4 hw)
    have HHF := Lib.hid hhf
    have hqk : A / D < B64 ^ k := Nat.lt_of_le_of_lt (Nat.div_le_self _ _) HAk.out
    have HQK := Lib.hid hqk
    have HOF := Lib.hid (fun W => natOf_at W 1 (by decide))
    have HAD := Lib.hid (fun W (hW : Below w1.heap.size w1 W) y (hy : NatAt W 1 y) => add_at W (HU.out.below hW) hy hqk (show 1 < B64 ^ 1 by decide) (by omega) (by omega))
    have HB12 := Lib.hid hb2
    clear hx hb2 hw hhf hqk
    by_cases hq : A / D = 0
    · obtain ⟨a, cc, rfl⟩ := HU2.out.len0 hq
      have HQ := Lib.hid hq
      have ho : decide (A / D % 2 = 1) = false := by rw [hq]; rfl
      have HO := Lib.hid ho
      clear hq ho
      cases hub : upB d sg false hf
      · have HUB := Lib.hid hub
        have HUX := Lib.hid (fun W => by have := HUP.out W false; rw [hub] at this; exact this)
        clear hub
        go_wp2_with fail
        go_quiet ((first | (go_at_call 77; exact Calls.quiet_of (HC.out _)) | (go_at_call 76; exact Calls.quiet_of_same (HUX.out _))))
        go_wp2
        go_ret2
        refine ⟨_, rfl, ?_, below_drewN' HB2.out _⟩
        rw [quoR_down HR.out HO.out HHF.out HUB.out]; exact HU2.out.drewN _
      · have HUB := Lib.hid hub
        have HUX := Lib.hid (fun W => by have := HUP.out W false; rw [hub] at this; exact this)
        clear hub
        go_wp2_with fail
        go_quiet ((first | (go_at_call 77; exact Calls.quiet_of (HC.out _)) | (go_at_call 76; exact Calls.quiet_of_same (HUX.out _))))
        have HB3 := Lib.hid (below_drewN' HB2.out nq)
        have HB13 := Lib.hid (below_drewN' HB12.out nq)
        go_wp2_with fail
        refine (HOF.out _).mono ?_
        rintro e w4 ⟨y, rfl, hy, hb4⟩
        have HY := Lib.hid hy
        have HB4 := Lib.hid (below_then HB3.out hb4)
        have HB14 := Lib.hid (below_then HB13.out hb4)
        clear hy hb4
        go_wp2_with fail
        refine (HAD.out _ HB14.out _ HY.out).mono ?_
        rintro e w5 ⟨z, rfl, hz, hb5⟩
        have HZ := Lib.hid hz
        have HB5 := Lib.hid (below_then HB4.out hb5)
        clear hz hb5
        go_wp2
        go_ret2
        refine ⟨_, rfl, ?_, HB5.out⟩
        rw [quoR_up HR.out HO.out HHF.out HUB.out]; exact HZ.out
    · obtain ⟨b2, off2, c2, ys, hqe, g1, g2, g3, g4⟩ := HU2.out.lenPos (Nat.pos_of_ne_zero hq)
      obtain ⟨x0, hx0⟩ : ∃ x0, ys.getD 0 0 = x0 := ⟨_, rfl⟩
      have hodd := odd_word g4
      rw [hx0, g2] at hodd
      have hxb : x0 < B64 := by rw [← hx0]; exact g1.hw.get 0
      obtain ⟨b3, off3, hae, hcell⟩ := g1.hcell 0 g4
      cases hae
      rw [hx0, Nat.add_zero] at hcell
      obtain ⟨ny, hny⟩ : ∃ ny, ys.length = ny := ⟨_, rfl⟩
      rw [hny] at g4 hqe
      have hmax : ny ≤ 9223372036854775807 := by rw [← hny]; have := g1.hle; have := g1.hmax; omega
      have hand := and_one x0 hxb
      rw [hodd] at hand
      obtain ⟨o, ho⟩ : ∃ o, A / D % 2 = o := ⟨_, rfl⟩
      rw [ho] at hand
      have ho2 : o = 0 ∨ o = 1 := by omega
      have HO := Lib.hid ho
      have HQE := Lib.hid hqe
      rw [hqe] at HAD
      subst hqe
      have hgc : ∀ m, (w2.drewN m).cell? ⟨b2, off2, none⟩ = some (.int .u64 ((x0 : Nat) : Int)) := fun m => hcell
      clear g1 g2 g3 hq hx0 hodd hny ho HQK
      have hpos : (0 : Int) < (ny : Int) := by omega
      have hposn : 0 < ny := g4
      rcases ho2 with rfl | rfl
      · have hand0 : bits .and .u64 (x0 : Int) 1 = 0 := hand
        have HOO : Hid (decide (A / D % 2 = 1) = false) := Lib.hid (by rw [HO.out]; rfl)
        clear hand
        cases hub : upB d sg false hf
        · have HUB := Lib.hid hub
          have HUX := Lib.hid (fun W => by have := HUP.out W false; rw [hub] at this; exact this)
          clear hub
          go_wp2_with fail
          go_quiet ((first | (go_at_call 77; exact Calls.quiet_of (HC.out _)) | (go_at_call 76; exact Calls.quiet_of_same (HUX.out _))))
          go_wp2
          go_ret2
          refine ⟨_, rfl, ?_, below_drewN' HB2.out _⟩
          rw [quoR_down HR.out HOO.out HHF.out HUB.out]; exact HU2.out.drewN _
        · have HUB := Lib.hid hub
          have HUX := Lib.hid (fun W => by have := HUP.out W false; rw [hub] at this; exact this)
          clear hub
          go_wp2_with fail
          go_quiet ((first | (go_at_call 77; exact Calls.quiet_of (HC.out _)) | (go_at_call 76; exact Calls.quiet_of_same (HUX.out _))))
          have HB3 := Lib.hid (below_drewN' HB2.out nq)
          have HB13 := Lib.hid (below_drewN' HB12.out nq)
          go_wp2_with fail
          refine (HOF.out _).mono ?_
          rintro e w4 ⟨y, rfl, hy, hb4⟩
          have HY := Lib.hid hy
          have HB4 := Lib.hid (below_then HB3.out hb4)
          have HB14 := Lib.hid (below_then HB13.out hb4)
          clear hy hb4
          go_wp2_with fail
          refine (HAD.out _ HB14.out _ HY.out).mono ?_
          rintro e w5 ⟨z, rfl, hz, hb5⟩
          have HZ := Lib.hid hz
          have HB5 := Lib.hid (below_then HB4.out hb5)
          clear hz hb5
          go_wp2
          go_ret2
          refine ⟨_, rfl, ?_, HB5.out⟩
          rw [quoR_up HR.out HOO.out HHF.out HUB.out]; exact HZ.out
      · have hand0 : bits .and .u64 (x0 : Int) 1 = 1 := hand
        have HOO : Hid (decide (A / D % 2 = 1) = true) := Lib.hid (by rw [HO.out]; rfl)
        clear hand
        cases hub : upB d sg true hf
        · have HUB := Lib.hid hub
          have HUX := Lib.hid (fun W => by have := HUP.out W true; rw [hub] at this; exact this)
          clear hub
          go_wp2_with fail
          go_quiet ((first | (go_at_call 77; exact Calls.quiet_of (HC.out _)) | (go_at_call 76; exact Calls.quiet_of_same (HUX.out _))))
          go_wp2
          go_ret2
          refine ⟨_, rfl, ?_, below_drewN' HB2.out _⟩
          rw [quoR_down HR.out HOO.out HHF.out HUB.out]; exact HU2.out.drewN _
        · have HUB := Lib.hid hub
          have HUX := Lib.hid (fun W => by have := HUP.out W true; rw [hub] at this; exact this)
          clear hub
          go_wp2_with fail
          go_quiet ((first | (go_at_call 77; exact Calls.quiet_of (HC.out _)) | (go_at_call 76; exact Calls.quiet_of_same (HUX.out _))))
          have HB3 := Lib.hid (below_drewN' HB2.out nq)
          have HB13 := Lib.hid (below_drewN' HB12.out nq)
          go_wp2_with fail
          refine (HOF.out _).mono ?_
          rintro e w4 ⟨y, rfl, hy, hb4⟩
          have HY := Lib.hid hy
          have HB4 := Lib.hid (below_then HB3.out hb4)
          have HB14 := Lib.hid (below_then HB13.out hb4)
          clear hy hb4
          go_wp2_with fail
          refine (HAD.out _ HB14.out _ HY.out).mono ?_
          rintro e w5 ⟨z, rfl, hz, hb5⟩
          have HZ := Lib.hid hz
          have HB5 := Lib.hid (below_then HB4.out hb5)
          clear hz hb5
          go_wp2
          go_ret2
          refine ⟨_, rfl, ?_, HB5.out⟩
          rw [quoR_up HR.out HOO.out HHF.out HUB.out]; exact HZ.out
end Go.Proofs.YtpodpdopgdkdkaaGreatDoor
namespace Go.Proofs.YtpodpdopgdkdkaaGreatDoor
def isDig (c : UInt8) : Bool := decide (48 ≤ c.toNat) && decide (c.toNat ≤ 57)
def digs (l : List UInt8) : Bool := l.all isDig
theorem isDig_iff {c : UInt8} : isDig c = true ↔ 48 ≤ c.toNat ∧ c.toNat ≤ 57 := by unfold isDig; simp
theorem digs_cons {c : UInt8} {l : List UInt8} : digs (c :: l) = true ↔ isDig c = true ∧ digs l = true := by unfold digs; simp
theorem digs_mem {l : List UInt8} (h : digs l = true) {c : UInt8} (hc : c ∈ l) : 48 ≤ c.toNat ∧ c.toNat ≤ 57 := isDig_iff.1 (List.all_eq_true.1 h c hc)
theorem digs_append {l m : List UInt8} : digs (l ++ m) = true ↔ digs l = true ∧ digs m = true := by unfold digs; rw [List.all_append, Bool.and_eq_true]
theorem digs_take {l : List UInt8} (h : digs l = true) (n : Nat) : digs (l.take n) = true := List.all_eq_true.2 fun c hc => List.all_eq_true.1 h c (List.mem_of_mem_take hc)
theorem digs_drop {l : List UInt8} (h : digs l = true) (n : Nat) : digs (l.drop n) = true := List.all_eq_true.2 fun c hc => List.all_eq_true.1 h c (List.mem_of_mem_drop hc)
/-- The number, behind what was read before. -/
def dvalFrom (a : Nat) (l : List UInt8) : Nat := l.foldl (fun a c => 10 * a + (c.toNat - 48)) a
def dval (l : List UInt8) : Nat := dvalFrom 0 l
theorem dvalFrom_eq (l : List UInt8) : ∀ a, dvalFrom a l = a * 10 ^ l.length + dval l := by
  induction l with
  | nil => intro a; simp [dval, dvalFrom]
  | cons c l ih =>
    intro a
    have h1 : dvalFrom a (c :: l) = dvalFrom (10 * a + (c.toNat - 48)) l := rfl
    have h2 : dval (c :: l) = dvalFrom (10 * 0 + (c.toNat - 48)) l := rfl
    rw [h1, h2, ih, ih, List.length_cons, Nat.pow_succ, Nat.mul_zero, Nat.zero_add, Nat.add_mul, Nat.mul_comm 10 a, Nat.mul_assoc, Nat.mul_comm 10 (10 ^ l.length)]
    omega
theorem dval_append (l m : List UInt8) : dval (l ++ m) = dval l * 10 ^ m.length + dval m := by
  show dvalFrom 0 (l ++ m) = _
  unfold dvalFrom
  rw [List.foldl_append]
  exact dvalFrom_eq m _
theorem dval_nil : dval [] = 0 := rfl
theorem dval_snoc (l : List UInt8) (c : UInt8) : dval (l ++ [c]) = 10 * dval l + (c.toNat - 48) := by
  rw [dval_append]
  simp [dval, dvalFrom, Nat.mul_comm]
theorem dval_lt {l : List UInt8} (h : digs l = true) : dval l < 10 ^ l.length := by
  induction l with
  | nil => simp [dval, dvalFrom]
  | cons c l ih =>
    obtain ⟨h1, h2⟩ := digs_cons.1 h
    have h3 := isDig_iff.1 h1
    have h4 := ih h2
    have e : dval (c :: l) = dvalFrom (10 * 0 + (c.toNat - 48)) l := rfl
    rw [e, dvalFrom_eq, List.length_cons, Nat.pow_succ]
    have h5 : (10 * 0 + (c.toNat - 48)) * 10 ^ l.length ≤ 9 * 10 ^ l.length := Nat.mul_le_mul_right _ (by omega)
    omega
/-- What ParseUint makes of digits that are few enough. -/
theorem parse_digs : ∀ (l : List UInt8) (a : Nat), digs l = true → dvalFrom a l < 10 ^ 19 → Lib.parseUint10 a l = .ok (dvalFrom a l)
  | [], a, _, _ => rfl
  | c :: l, a, h, hb => by
    obtain ⟨h1, h2⟩ := digs_cons.1 h
    have h3 := isDig_iff.1 h1
    have e : dvalFrom a (c :: l) = dvalFrom (10 * a + (c.toNat - 48)) l := rfl
    have h4 : 10 * a + (c.toNat - 48) ≤ dvalFrom a (c :: l) := by
      rw [e, dvalFrom_eq]
      have := Nat.le_mul_of_pos_right (10 * a + (c.toNat - 48)) (Nat.pow_pos (n := l.length) (show 0 < 10 by decide))
      omega
    have h5 : (10 : Nat) ^ 19 = 10000000000000000000 := by decide
    unfold Lib.parseUint10
    rw [if_pos h3, if_neg (by omega), if_neg (by omega), Nat.mul_comm a 10, parse_digs l _ h2 (by rw [← e]; exact hb), e]
/-- All that trimming the digits off leaves is nothing: they are digits. -/
abbrev tenDigits : List UInt8 := [48, 49, 50, 51, 52, 53, 54, 55, 56, 57]
theorem ten_contains (c : UInt8) : tenDigits.contains c = isDig c := by
  rw [Bool.eq_iff_iff, isDig_iff, List.contains_iff_mem]
  constructor
  · intro h
    simp only [List.mem_cons, List.not_mem_nil, or_false] at h
    rcases h with rfl | rfl | rfl | rfl | rfl | rfl | rfl | rfl | rfl | rfl <;> decide
  · intro h
    have hc : ∀ n : Nat, n < 256 → c.toNat = n → c = UInt8.ofNat n := fun n hn e => UInt8.toNat_inj.1 (by rw [e]; exact (Nat.mod_eq_of_lt hn).symm)
    simp only [List.mem_cons, List.not_mem_nil, or_false]
    rcases (show c.toNat = 48 ∨ c.toNat = 49 ∨ c.toNat = 50 ∨ c.toNat = 51 ∨ c.toNat = 52 ∨ c.toNat = 53 ∨ c.toNat = 54 ∨ c.toNat = 55 ∨ c.toNat = 56 ∨ c.toNat = 57 by omega) with e | e | e | e | e | e | e | e | e | e <;> rw [hc _ (by decide) e] <;> simp
theorem drop_all (p : UInt8 → Bool) : ∀ (l : List UInt8), (l.dropWhile p = [] ↔ ∀ c ∈ l, p c = true) ∧ ((∀ c ∈ l.dropWhile p, p c = true) → l.dropWhile p = [])
  | [] => ⟨by simp, fun _ => rfl⟩
  | a :: l => by
    have ih := drop_all p l
    by_cases h : p a = true
    · rw [List.dropWhile_cons_of_pos h]
      exact ⟨by rw [ih.1]; simp [h], ih.2⟩
    · rw [List.dropWhile_cons_of_neg h]
      exact ⟨by simp [h], fun k => absurd (k a (by simp)) h⟩
theorem trim_digs (l : List UInt8) : Lib.trimS l tenDigits = [] ↔ digs l = true := by
  have e : (tenDigits.contains ·) = isDig := funext ten_contains
  unfold Lib.trimS Lib.trimLeftS Lib.trimRightS
  rw [e, (drop_all isDig _).1]
  constructor
  · intro h
    have h2 := (drop_all isDig l.reverse).2 fun c hc => h c (by simpa using hc)
    have h3 := (drop_all isDig l.reverse).1.1 h2
    exact List.all_eq_true.2 fun c hc => h3 c (by simpa using hc)
  · intro h c hc
    have h2 : c ∈ l.reverse := (List.dropWhile_suffix isDig).subset (by simpa using hc)
    exact List.all_eq_true.1 h c (by simpa using h2)
theorem decDigits_digs (n : Nat) : digs (Lib.decDigits n) = true := by
  induction n using Nat.strongRecOn with
  | ind n ih =>
    rw [Lib.decDigits]
    split
    · rename_i h
      have : (48 + n) % 256 = 48 + n := Nat.mod_eq_of_lt (by omega)
      simp [digs, isDig, this]
      omega
    · rename_i h
      have h1 := ih (n / 10) (by omega)
      have : (48 + n % 10) % 256 = 48 + n % 10 := Nat.mod_eq_of_lt (by omega)
      refine digs_append.2 ⟨h1, ?_⟩
      simp [digs, isDig, this]
      omega
theorem dval_dec (n : Nat) : dval (Lib.decDigits n) = n := by
  induction n using Nat.strongRecOn with
  | ind n ih =>
    rw [Lib.decDigits]
    split
    · rename_i h
      have : (48 + n) % 256 = 48 + n := Nat.mod_eq_of_lt (by omega)
      simp [dval, dvalFrom, this]
    · rename_i h
      have h1 := ih (n / 10) (by omega)
      have : (48 + n % 10) % 256 = 48 + n % 10 := Nat.mod_eq_of_lt (by omega)
      rw [dval_snoc, h1]
      simp [this]
      omega
theorem dval_noughts (k : Nat) (l : List UInt8) : dval (List.replicate k 48 ++ l) = dval l := by
  rw [dval_append]
  have : dval (List.replicate k 48) = 0 := by
    induction k with
    | zero => rfl
    | succ k ih =>
      rw [List.replicate_succ', dval_snoc, ih]
      rfl
  rw [this]
  simp
end Go.Proofs.YtpodpdopgdkdkaaGreatDoor

namespace Go.Proofs.YtpodpdopgdkdkaaGreatDoor
open Go.RowKit
theorem below_bytes (w : World) (e : TypeId) (s : ByteArray) : Below w.heap.size w (Lib.bytesWorld w e s) := Lib.bytesWorld_below w e s
theorem extract_take (r : List UInt8) (q : Nat) : (⟨r.toArray⟩ : ByteArray).extract 0 q = ⟨(r.take q).toArray⟩ := by
  apply ByteArray.ext
  simp
theorem extract_drop (r : List UInt8) (q : Nat) : (⟨r.toArray⟩ : ByteArray).extract q r.length = ⟨(r.drop q).toArray⟩ := by
  apply ByteArray.ext
  simp [List.take_of_length_le]
theorem product19_calls (w : World) (a : Option Addr) (la ca : Nat) (xs : List Nat) (ha : SlW w a la ca xs) (sa : la ≤ 4398046511104) (g : Nat) (hg : w.heap.size = g) :
    Calls Tryz.prog 98 #[.slice a la ca, .slice (some ⟨g, 0, none⟩) 1 1] (w.alloc (.cells #[.int .u64 10000000000000000000] 22)) (NatRes (w.alloc (.cells #[.int .u64 10000000000000000000] 22)) (val xs * 10 ^ 19) (la + 1)) := by
  subst hg
  have h := product_calls (w.alloc (.cells #[.int .u64 (TEN19 : Nat)] 22)) a (some ⟨w.heap.size, 0, none⟩) la ca 1 1 xs [TEN19] (ha.below ((Below.refl _ _).alloc (Nat.le_refl _) _)) ((one_word w TEN19).slAll (N := 1) (w64_one (by decide)) rfl (by omega)) sa (by omega)
  rw [val_one, ← ten19] at h
  exact h
theorem ten_words (n : Nat) : 10 ^ n < B64 ^ (n / 19 + 1) := by
  have h1 : (10 : Nat) ^ n ≤ 10 ^ (19 * (n / 19 + 1)) := Nat.pow_le_pow_right (by decide) (by omega)
  rw [Nat.pow_mul] at h1
  have h2 : ((10 : Nat) ^ 19) ^ (n / 19 + 1) < B64 ^ (n / 19 + 1) := Nat.pow_lt_pow_left (by decide) (by omega)
  exact Nat.lt_of_le_of_lt h1 h2
theorem dval_words {l : List UInt8} (h : digs l = true) {n : Nat} (hn : l.length ≤ n) : dval l < B64 ^ (n + 1) :=
  Nat.lt_of_lt_of_le (dval_lt h) (Nat.le_trans (Nat.le_of_lt (ten_words l.length)) (Nat.pow_le_pow_right (by decide) (by omega)))
/-- One chunk of digits. -/
theorem read_step {l : List UInt8} {i q n : Nat} (hv : n = dval (l.take i)) (hm : i = 0 ∨ q = 19) (hq : i + q ≤ l.length) : n * 10 ^ 19 + dval ((l.drop i).take q) = dval (l.take (i + q)) := by
  rw [List.take_add, dval_append, ← hv, List.length_take, List.length_drop, Nat.min_eq_left (by omega)]
  rcases hm with rfl | rfl
  · rw [hv]
    simp [dval_nil]
  · rfl
def readErr (l : List UInt8) : Int := if l = [] ∨ digs l = false then 2 else if 12000 < l.length then 4 else 0
def readVal (l : List UInt8) : Nat := if l = [] ∨ digs l = false then 0 else if 12000 < l.length then 0 else dval l
end Go.Proofs.YtpodpdopgdkdkaaGreatDoor
namespace Go.Proofs.YtpodpdopgdkdkaaGreatDoor
open Go.RowKit
theorem take_snoc' (s : ByteArray) (k : Nat) (h : k < s.size) : s.data.toList.take (k + 1) = s.data.toList.take k ++ [s[k]] := by
  rw [List.take_succ_eq_append_getElem (by simpa using h)]; rfl
theorem digs_no {l : List UInt8} {k : Nat} {c : UInt8} (hc : l.take (k + 1) = l.take k ++ [c]) (h : isDig c = false) : digs l = false := by
  rcases hd : digs l with _ | _
  · rfl
  · have h1 := digs_take hd (k + 1)
    rw [hc] at h1
    have h2 := (digs_append.1 h1).2
    have h3 := (digs_cons.1 h2).1
    rw [h] at h3
    cases h3
set_option maxRecDepth 10000 in
set_option maxHeartbeats 1000000 in
theorem isDigits_calls (s : ByteArray) (w : World) (hs : s.size ≤ 140737488351232) :
    Calls Tryz.prog 39 #[.string s] w fun e w' => e = .returned (.bool (decide (0 < s.size) && digs s.data.toList)) ∧ w' = w := by
  go_enter Tryz.func39, Tryz.ntmps39
  go_wp2
  go_loop [3] (fun i => ∃ k : Nat, k ≤ s.size ∧ i = .int .i64 k ∧ digs (s.data.toList.take k) = true) (fun i => s.size - (intOf i).toNat)
  case atStart => exact ⟨0, Nat.zero_le _, rfl, rfl⟩
  case round =>
    obtain ⟨k, hk, rfl, hd⟩ := hrel
    have HD := Lib.hid hd
    clear hd
    by_cases hlt : k < s.size
    · have HTS := Lib.hid (take_snoc' s k hlt)
      rcases hc : isDig s[k] with _ | _
      · have HN := Lib.hid (digs_no HTS.out hc)
        have hc2 : ¬ (48 ≤ s[k].toNat ∧ s[k].toNat ≤ 57) := fun h => by rw [isDig_iff.2 h] at hc; cases hc
        have HF : Hid ((decide (0 < s.size) && digs s.data.toList) = false) := Lib.hid (by rw [HN.out, Bool.and_false])
        by_cases h1 : s[k].toNat < 48
        · clear hc hc2
          have h1i : (s[k].toNat : Int) < 48 := by omega
          go_wp2
          go_ret
          exact ⟨by rw [HF.out]; rfl, rfl⟩
        · have h2i : (57 : Int) < (s[k].toNat : Int) := by omega
          have h1i : ¬ (s[k].toNat : Int) < 48 := by omega
          clear hc hc2 h1
          go_wp2
          go_ret
          exact ⟨by rw [HF.out]; rfl, rfl⟩
      · obtain ⟨h1, h2⟩ := isDig_iff.1 hc
        have HC := Lib.hid hc
        clear hc
        go_wp2
        go_round
        case rel => exact ⟨k + 1, by omega, by go_num, by rw [HTS.out]; exact digs_append.2 ⟨HD.out, digs_cons.2 ⟨HC.out, rfl⟩⟩⟩
        case measure => simp [intOf]; omega
    · have hke : s.size = k := by omega
      have HF : Hid (digs s.data.toList = true) := Lib.hid (by have := HD.out; rw [← hke, List.take_of_length_le (by simp)] at this; exact this)
      clear hke
      go_wp2
      go_ret
      exact ⟨by rw [HF.out, Bool.and_true]; congr 2, rfl⟩
theorem num_step {l : List UInt8} {i k : Nat} (hq : i + k ≤ l.length) : dval (l.take i) * 10 ^ k + dval ((l.drop i).take k) = dval (l.take (i + k)) := by
  rw [List.take_add, dval_append, List.length_take, List.length_drop, Nat.min_eq_left (by omega)]
theorem chunk_snoc (s : ByteArray) (i k : Nat) (h : i + k < s.size) : (s.data.toList.drop i).take (k + 1) = (s.data.toList.drop i).take k ++ [s[i + k]] := by
  rw [List.take_succ_eq_append_getElem (by simp; omega)]
  congr 1
  simp
  rfl
theorem chunk_lt {l : List UInt8} (h : digs l = true) (i k : Nat) (hk : k ≤ 18) : dval ((l.drop i).take k) < 10 ^ 18 := by
  refine Nat.lt_of_lt_of_le (dval_lt (digs_take (digs_drop h i) k)) (Nat.pow_le_pow_right (by decide) ?_)
  rw [List.length_take]
  omega
set_option maxRecDepth 10000 in
set_option maxHeartbeats 1000000 in
theorem number_calls (s : ByteArray) (w : World) (hd : digs s.data.toList = true) (hs : s.size ≤ 1000000) :
    Calls Tryz.prog 43 #[.string s] w (NatRes w (dval s.data.toList) (s.size + 2)) := by
  have HDG := Lib.hid hd
  have hll : s.data.toList.length = s.size := by simp
  have HLL := Lib.hid hll
  clear hll
  have HMEM : Hid (∀ j (h : j < s.size), isDig s[j] = true) := Lib.hid fun j h => by
    have := chunk_snoc s j 0 (by omega)
    have h2 := digs_take (digs_drop hd j) 1
    rw [this] at h2
    simpa [digs] using h2
  clear hd
  go_enter Tryz.func43, Tryz.ntmps43
  obtain ⟨c18, hc18⟩ : ∃ c : Int, c = 1000000000000000000 := ⟨_, rfl⟩
  rw [← hc18]
  have HC18 := Lib.hid hc18
  clear hc18
  go_wp2_with fail
  go_loopw [4, 3] (fun iv ov wr => ∃ (i : Nat) (a : Option Addr) (c : Nat) (zs : List Nat), i ≤ s.size ∧ iv = .int .i64 i ∧ ov = .slice a zs.length c ∧ OwnW w.heap.size wr a zs.length c zs ∧ sz zs = zs.length ∧ val zs = dval (s.data.toList.take i) ∧ Below w.heap.size w wr) (fun iv _ _ => s.size - (intOf iv).toNat)
  case atStart => exact ⟨0, some ⟨w.heap.size, 0, none⟩, 0, [], by omega, rfl, rfl, trim_empty w, rfl, rfl, (Below.refl _ _).alloc (Nat.le_refl _) _⟩
  case round =>
    obtain ⟨i, a, c, zs, hi, rfl, rfl, ho, hz, hv, hb⟩ := hrel
    have HO := Lib.hid ho
    have HZ := Lib.hid hz
    have HV := Lib.hid hv
    have HBR := Lib.hid hb
    have hzl : zs.length ≤ s.size + 1 := len_of_val hz (by rw [hv]; exact dval_words (digs_take HDG.out i) (by rw [List.length_take]; omega))
    clear ho hz hv hb
    by_cases hlt : i < s.size
    · go_wp2_with fail
      go_loop [4, 5, 6] (fun iv nv sv => ∃ (k u n sc : Nat), k ≤ 18 ∧ u ≤ s.size ∧ i + k = u ∧ iv = .int .i64 u ∧ nv = .int .u64 (n : Nat) ∧ sv = .int .u64 (sc : Nat) ∧ n = dval ((s.data.toList.drop i).take k) ∧ sc = 10 ^ k) (fun iv _ _ => s.size - (intOf iv).toNat)
      case atStart => exact ⟨0, i, 0, 1, by omega, by omega, rfl, rfl, rfl, rfl, by simp [dval_nil], rfl⟩
      case round =>
        obtain ⟨k, u, nv, sc, hk, hik, hu, rfl, rfl, rfl, hn, hsc⟩ := hrel
        have HN := Lib.hid hn
        have HSC := Lib.hid hsc
        have HU := Lib.hid hu
        have hnb : nv < 10 ^ 18 := by rw [hn]; exact chunk_lt HDG.out i k hk
        have hsb : sc ≤ 10 ^ 18 := by rw [hsc]; exact Nat.pow_le_pow_right (by decide) hk
        have HSB : Hid (sc < B64) := Lib.hid (by unfold B64; omega)
        have HNB : Hid (nv < B64) := Lib.hid (by unfold B64; omega)
        clear hn hsc hnb hsb
        by_cases hgo : u < s.size ∧ k < 18
        · obtain ⟨hus, hk18⟩ := hgo
          have hsl : (sc : Int) < c18 := by
            have h1 : sc < 10 ^ 18 := by rw [HSC.out]; exact Nat.pow_lt_pow_right (by decide) hk18
            rw [HC18.out]
            omega
          obtain ⟨h1, h2⟩ := isDig_iff.1 (HMEM.out u hus)
          have hcs := chunk_snoc s i k (by omega)
          obtain ⟨d, hd⟩ : ∃ d, s[u].toNat - 48 = d := ⟨_, rfl⟩
          have hdi : (s[u].toNat : Int) - 48 = (d : Nat) := by omega
          have hnb : nv < 10 ^ 17 := by
            rw [HN.out]
            refine Nat.lt_of_lt_of_le (dval_lt (digs_take (digs_drop HDG.out i) k)) (Nat.pow_le_pow_right (by decide) ?_)
            rw [List.length_take]
            omega
          obtain ⟨n1, hn1⟩ : ∃ n, 10 * nv = n := ⟨_, rfl⟩
          obtain ⟨n2, hn2⟩ : ∃ n, n1 + d = n := ⟨_, rfl⟩
          obtain ⟨sc2, hsc2⟩ : ∃ n, 10 * sc = n := ⟨_, rfl⟩
          have hsb : sc ≤ 10 ^ 17 := by rw [HSC.out]; exact Nat.pow_le_pow_right (by decide) (by omega)
          have HN2 : Hid (n2 = dval ((s.data.toList.drop i).take (k + 1))) := Lib.hid (by
            rw [hcs, dval_snoc, ← HN.out, ← hn2, ← hn1, ← hd]
            simp only [HU.out])
          have HS2 : Hid (sc2 = 10 ^ (k + 1)) := Lib.hid (by rw [← hsc2, HSC.out, Nat.pow_succ, Nat.mul_comm])
          have w1 : (10 : Int) * (nv : Int) = (n1 : Nat) := by omega
          have w2 : IntKind.u64.wrap (n1 : Int) = (n1 : Nat) := wrapS (by unfold B64; omega)
          have w3 : (n1 : Int) + (d : Int) = (n2 : Nat) := by omega
          have w4 : IntKind.u64.wrap (n2 : Int) = (n2 : Nat) := wrapS (by unfold B64; omega)
          have w5 : (10 : Int) * (sc : Int) = (sc2 : Nat) := by omega
          have w6 : IntKind.u64.wrap (sc2 : Int) = (sc2 : Nat) := wrapS (by unfold B64; omega)
          have w7 : IntKind.u64.wrap (d : Int) = (d : Nat) := wrapS (by unfold B64; omega)
          have w8 : d ≤ 9 := by omega
          clear hcs hn1 hn2 hsc2 hd hnb hsb
          go_wp2
          go_round
          case rel => exact ⟨k + 1, u + 1, n2, sc2, by omega, by omega, by omega, by go_num, rfl, rfl, HN2.out, HS2.out⟩
          case measure => simp [intOf]; omega
        · have HST := Lib.hid (num_step (l := s.data.toList) (i := i) (k := k) (by rw [HLL.out, HU.out]; exact hik))
          rw [← HN.out, ← HSC.out, HU.out] at HST
          by_cases hus : u < s.size
          · have hk18 : k = 18 := by omega
            have hse : c18 ≤ (sc : Int) := by rw [HC18.out, HSC.out, hk18]; decide
            have hiu : i < u := by omega
            clear hgo hk18 hu
            go_wp2_with fail
            refine (refTimes_calls _ a _ _ c 1 1 zs [sc] (HO.out.keep ((Below.refl _ _).alloc (Nat.le_refl _) _)).sl ((one_word wr sc).slAll (N := 1) (w64_one HSB.out) rfl (by omega)) (by omega) (by omega)).mono ?_
            rintro e w3 hp
            rw [HV.out, val_one] at hp
            have hp2 := natRes_trans (HBR.out.alloc HBR.out.size _) hp
            obtain ⟨a3, c3, us, rfl, r1, r2, r3, hul, r5⟩ := hp2
            have R3 := Lib.hid (And.intro r1 (And.intro r2 (And.intro r3 r5)))
            clear r1 r2 r3 r5 hp
            go_wp2_with fail
            refine (refAdd_calls _ a3 _ _ c3 1 1 us [nv] (R3.out.1.keep ((Below.refl _ _).alloc (Nat.le_refl _) _)).sl ((one_word w3 nv).slAll (N := 1) (w64_one HNB.out) rfl (by omega)) (by omega) (by omega)).mono ?_
            rintro e w4 hp
            rw [R3.out.2.1, val_one, HST.out] at hp
            have hp2 := natRes_trans (R3.out.2.2.2.alloc R3.out.2.2.2.size _) hp
            obtain ⟨a4, c4, vs, rfl, r1, r2, r3, -, r5⟩ := hp2
            have R4 := Lib.hid (And.intro r1 (And.intro r2 (And.intro r3 r5)))
            clear r1 r2 r3 r5 hp
            go_wp2
            go_roundw
            case rel => exact ⟨u, a4, c4, vs, hik, rfl, rfl, R4.out.1, R4.out.2.2.1, R4.out.2.1, R4.out.2.2.2⟩
            case measure => simp [intOf]; omega
          · have hiu : i < u := by omega
            clear hgo hu
            go_wp2_with fail
            refine (refTimes_calls _ a _ _ c 1 1 zs [sc] (HO.out.keep ((Below.refl _ _).alloc (Nat.le_refl _) _)).sl ((one_word wr sc).slAll (N := 1) (w64_one HSB.out) rfl (by omega)) (by omega) (by omega)).mono ?_
            rintro e w3 hp
            rw [HV.out, val_one] at hp
            have hp2 := natRes_trans (HBR.out.alloc HBR.out.size _) hp
            obtain ⟨a3, c3, us, rfl, r1, r2, r3, hul, r5⟩ := hp2
            have R3 := Lib.hid (And.intro r1 (And.intro r2 (And.intro r3 r5)))
            clear r1 r2 r3 r5 hp
            go_wp2_with fail
            refine (refAdd_calls _ a3 _ _ c3 1 1 us [nv] (R3.out.1.keep ((Below.refl _ _).alloc (Nat.le_refl _) _)).sl ((one_word w3 nv).slAll (N := 1) (w64_one HNB.out) rfl (by omega)) (by omega) (by omega)).mono ?_
            rintro e w4 hp
            rw [R3.out.2.1, val_one, HST.out] at hp
            have hp2 := natRes_trans (R3.out.2.2.2.alloc R3.out.2.2.2.size _) hp
            obtain ⟨a4, c4, vs, rfl, r1, r2, r3, -, r5⟩ := hp2
            have R4 := Lib.hid (And.intro r1 (And.intro r2 (And.intro r3 r5)))
            clear r1 r2 r3 r5 hp
            go_wp2
            go_roundw
            case rel => exact ⟨u, a4, c4, vs, hik, rfl, rfl, R4.out.1, R4.out.2.2.1, R4.out.2.1, R4.out.2.2.2⟩
            case measure => simp [intOf]; omega
    · have hie : i = s.size := by omega
      have HE : Hid (val zs = dval s.data.toList) := Lib.hid (by rw [HV.out, hie, List.take_of_length_le (by simp)])
      clear hie
      go_wp2
      go_ret
      exact ⟨a, c, zs, rfl, HO.out, HE.out, HZ.out, by omega, HBR.out⟩
end Go.Proofs.YtpodpdopgdkdkaaGreatDoor
