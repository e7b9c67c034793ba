/- FlagsStay: what is raised stays raised, whatever is raised behind it, and whatever others are cleared. No conditions. -/
import Derived.Test.YthaplpenccpkpaaFlags
import Derived.Test.YthaplpenccpkpaaRowWords
namespace Go.Proofs.Ythaplpenccpkpaa
open Go.RowKit
theorem i64_wrap_small (n : Int) (h0 : -9223372036854775808 ≤ n) (h1 : n ≤ 9223372036854775807) : IntKind.wrap .i64 n = n := by
  have : IntKind.wrap .i64 n = if (true && decide (n % 18446744073709551616 ≥ 9223372036854775808)) = true then n % 18446744073709551616 - 18446744073709551616 else n % 18446744073709551616 := rfl
  rw [this]
  simp only [Bool.true_and, decide_eq_true_eq]
  split <;> omega
set_option maxRecDepth 10000 in
set_option maxHeartbeats 1000000 in
theorem awake03_calls (w : World) : Calls Try.prog 19 #[] w fun e w' => e = .returned (.bool true) ∧ Below w.heap.size w w' := by
  go_enter Try.func19, Try.ntmps19
  go_wp2_with fail
  refine (new_calls _).mono ?_
  rintro e w1 ⟨rfl, hw⟩
  have HC : Hid (CtxAt w1 w.heap.size 0 0) := by rw [hw]; exact ctx_new w
  have HB : Hid (Below w.heap.size w w1) := by rw [hw]; exact below_alloc (Below.refl _ _) _
  clear hw
  go_wp2_with fail
  refine (raise_calls w1 w.heap.size 0 0 9 HC.out).mono ?_
  rintro e w2 ⟨rfl, hw⟩
  have HC2 : Hid (CtxAt w2 w.heap.size (0 ||| fl 9) 0) := by rw [hw]; exact HC.out.set0 _
  have HB2 : Hid (Below w.heap.size w w2) := by rw [hw]; exact HB.out.setCell (Nat.le_refl _) _
  clear hw HC HB
  go_wp2_with fail
  refine (flags_calls w2 w.heap.size _ 0 HC2.out).mono ?_
  rintro e w3 ⟨rfl, rfl⟩
  have e9 : (num (0 ||| fl 9) == 9) = true := by decide
  go_wp2_with fail
  all_goals
    refine (clear_calls w3 w.heap.size _ 0 3 HC2.out).mono ?_
    rintro e w4 ⟨rfl, hw⟩
    have HB4 : Hid (Below w.heap.size w w4) := by rw [hw]; exact HB2.out.setCell (Nat.le_refl _) _
    have e1 : (num ((0 ||| fl 9) &&& fl 3) == 1) = true := by decide
    clear hw HB2 HC2
    go_wp2
    go_ret
    exact ⟨rfl, HB4.out⟩
/-- A slice of ints, as it is read. -/
def IntsAt (w : World) (a : Option Addr) (len : Nat) (z : Nat → Int) : Prop :=
  ∀ i, i < len → ∃ b off, a = some ⟨b, off, none⟩ ∧ w.cell? ⟨b, off + i, none⟩ = some (.int .i64 (z i))
set_option maxRecDepth 10000 in
set_option maxHeartbeats 1000000 in
theorem stay_calls (first : Int) (a : Option Addr) (len cap : Nat) (z : Nat → Int) (w : World) (hl : len ≤ 9223372036854775807) (hz : IntsAt w a len z) :
    Calls Try.prog 4 #[.int .i64 first, .slice a len cap] w fun e w' => e = .returned (.bool true) ∧ Below w.heap.size w w' := by
  have HZ := Lib.hid hz
  clear hz
  go_enter Try.func4, Try.ntmps4
  go_wp2_with fail
  refine (awake03_calls _).mono ?_
  rintro e w0 ⟨rfl, hb0⟩
  have HB0 := Lib.hid hb0
  clear hb0
  go_wp2_with fail
  refine (new_calls _).mono ?_
  rintro e w1 ⟨rfl, hw⟩
  have HC : Hid (CtxAt w1 w0.heap.size 0 0) := by rw [hw]; exact ctx_new w0
  have HB : Hid (Below w.heap.size w w1) := by rw [hw]; exact below_alloc HB0.out _
  clear hw
  go_wp2_with fail
  refine (raise_calls w1 w0.heap.size 0 0 first HC.out).mono ?_
  rintro e w2 ⟨rfl, hw⟩
  have HC2 : Hid (CtxAt w2 w0.heap.size (0 ||| fl first) 0) := by rw [hw]; exact HC.out.set0 _
  have HB2 : Hid (Below w.heap.size w w2) := by rw [hw]; exact HB.out.setCell HB0.out.size _
  have HG : Hid (w.heap.size ≤ w0.heap.size) := HB0.out.size
  clear hw HC HB HB0
  go_wp2_with fail
  go_loopw [15] (fun i wr => ∃ k : Nat, k ≤ len ∧ i = .int .i64 k ∧ (∃ s : B4, CtxAt wr w0.heap.size s 0 ∧ s &&& fl first = fl first) ∧ Below w.heap.size w wr) (fun i _ => len - (intOf i).toNat)
  case atStart => exact ⟨0, by omega, rfl, ⟨_, HC2.out, by simp⟩, HB2.out⟩
  case round =>
    obtain ⟨k, hk, rfl, ⟨s, hc, hs⟩, hB⟩ := hrel
    have HBk := Lib.hid hB
    have HCk := Lib.hid hc
    have HS := Lib.hid hs
    clear hc hs hB HC2 HB2
    by_cases hlt : k < len
    · obtain ⟨b, off, rfl, hcell⟩ := HZ.out k hlt
      have hcr : wr.cell? ⟨b, off + k, none⟩ = some (.int .i64 (z k)) := by
        rw [HBk.out.cell (World.block_lt_of_cell? w _ hcell)]; exact hcell
      clear hcell
      by_cases hp : (k : Int) % 2 = 0
      · have hp1 : ((k : Int) % 2 == 0) = true := by simp [hp]
        clear hp
        go_wp2_with fail
        refine (raise_calls wr w0.heap.size s 0 (z k) HCk.out).mono ?_
        rintro e wn ⟨rfl, hw⟩
        have HCn : Hid (CtxAt wn w0.heap.size (s ||| fl (z k)) 0) := by rw [hw]; exact HCk.out.set0 _
        have HBn : Hid (Below w.heap.size w wn) := by rw [hw]; exact HBk.out.setCell HG.out _
        have HSn : Hid ((s ||| fl (z k)) &&& fl first = fl first) := by
          rw [BitVec.and_comm, ← HS.out]; ext i hi; simp; cases s[i] <;> simp
        clear hw HCk HBk HS hcr
        go_wp2_with fail
        refine (flags_calls wn w0.heap.size _ 0 HCn.out).mono ?_
        rintro e wm ⟨rfl, rfl⟩
        have e1 := and_num (s ||| fl (z k)) first
        rw [HSn.out] at e1
        have e2 := and15 first
        have e3 : (num (fl first) != num (fl first)) = false := by simp
        go_wp2
        go_roundw
        case rel => exact ⟨k + 1, by omega, by go_num, ⟨_, HCn.out, HSn.out⟩, HBn.out⟩
        case measure => simp [intOf]; omega
      · have hp1 : ((k : Int) % 2 == 0) = false := by simp [hp]
        clear hp
        go_wp2_with fail
        refine (clear_calls wr w0.heap.size s 0 _ HCk.out).mono ?_
        rintro e wn ⟨rfl, hw⟩
        have HCn : Hid (CtxAt wn w0.heap.size (s &&& ~~~ fl (bits .andNot .i64 (z k) first)) 0) := by rw [hw]; exact HCk.out.set0 _
        have HBn : Hid (Below w.heap.size w wn) := by rw [hw]; exact HBk.out.setCell HG.out _
        have HSn : Hid ((s &&& ~~~ fl (bits .andNot .i64 (z k) first)) &&& fl first = fl first) := by
          rw [fl_andNot]; have := HS.out; rw [← this]; ext i hi; simp; cases s[i] <;> cases (fl first)[i] <;> simp
        clear hw HCk HBk HS hcr
        go_wp2_with fail
        refine (flags_calls wn w0.heap.size _ 0 HCn.out).mono ?_
        rintro e wm ⟨rfl, rfl⟩
        have e1 := and_num (s &&& ~~~ fl (bits .andNot .i64 (z k) first)) first
        rw [HSn.out] at e1
        have e2 := and15 first
        have e3 : (num (fl first) != num (fl first)) = false := by simp
        go_wp2
        go_roundw
        case rel => exact ⟨k + 1, by omega, by go_num, ⟨_, HCn.out, HSn.out⟩, HBn.out⟩
        case measure => simp [intOf]; omega
    · go_wp2
      go_ret
      exact ⟨rfl, HBk.out⟩
theorem RowAt.ints {w : World} {a : Option Addr} {len cap : Nat} {zs : List Int} (h : RowAt .i64 w a len cap zs) : IntsAt w a len (fun i => zs.getD i 0) := by
  intro i hi
  obtain ⟨b, off, e, hl, _, _, hc⟩ := h.at (by omega)
  exact ⟨b, off, e, hc i (by omega)⟩
theorem stay_row (first : Int) (a : Option Addr) (len cap : Nat) (zs : List Int) (w : World) (_ : (Lit.int .i64 first).wf = true) (h : RowAt .i64 w a len cap zs) (y : len * 8 ≤ 140737488351232) :
    Calls Try.prog 4 #[.int .i64 first, .slice a len cap] w fun e w' => e = .returned (.bool true) ∧ Below w.heap.size w w' :=
  stay_calls first a len cap _ w (by omega) h.ints
end Go.Proofs.Ythaplpenccpkpaa
