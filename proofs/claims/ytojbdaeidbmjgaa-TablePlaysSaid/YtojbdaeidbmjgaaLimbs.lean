/- The contract of limbs.Len at four words: how many bits a pattern has. No conditions. -/
import Derived.Test.YtojbdaeidbmjgaaWordsRef
namespace Go.Proofs.Ytojbdaeidbmjgaa
open Go.RowKit
/-- A pattern's value. -/
def bitsV (b0 b1 b2 b3 : Nat) : Value := .agg #[.int .u64 (b0 : Nat), .int .u64 (b1 : Nat), .int .u64 (b2 : Nat), .int .u64 (b3 : Nat)]
set_option maxRecDepth 10000 in
set_option maxHeartbeats 1000000 in
theorem limbsLen_calls (w : World) (b0 b1 b2 b3 : Nat) (h : W64 [b0, b1, b2, b3]) :
    Calls Try.prog 36 #[bitsV b0 b1 b2 b3] w fun e w' => e = .returned (.int .i64 (blen (val [b0, b1, b2, b3]) : Nat)) ∧ Below w.heap.size w w' := by
  unfold bitsV
  have hcell : ∀ j, j < 4 → (w.alloc (.cells #[.int .u64 (b0 : Nat), .int .u64 (b1 : Nat), .int .u64 (b2 : Nat), .int .u64 (b3 : Nat)] 30)).cell? ⟨w.heap.size, j, none⟩ = some (.int .u64 (([b0, b1, b2, b3].getD j 0 : Nat) : Int)) := by
    intro j hj
    rw [cell_of_heap (heap_new w _)]
    rcases (show j = 0 ∨ j = 1 ∨ j = 2 ∨ j = 3 by omega) with rfl | rfl | rfl | rfl <;> rfl
  have HC := Lib.hid hcell
  have H := Lib.hid h
  clear hcell h
  have HV : Hid (∀ k, 0 < k → k ≤ 4 → (∀ j, k ≤ j → j < 4 → [b0, b1, b2, b3].getD j 0 = 0) → [b0, b1, b2, b3].getD (k - 1) 0 ≠ 0 → blen (val [b0, b1, b2, b3]) = 64 * (k - 1) + blen ([b0, b1, b2, b3].getD (k - 1) 0)) := by
    intro k h1 h2 h3 h4
    have e : sz [b0, b1, b2, b3] = k := sz_unique (by simpa using h2) (fun i a b => h3 i a (by simpa using b)) (.inr h4)
    have := blen_val H.out (by omega)
    rw [e] at this
    exact this
  have HN : Hid ((∀ j, j < 4 → [b0, b1, b2, b3].getD j 0 = 0) → blen (val [b0, b1, b2, b3]) = 0) := by
    intro h3
    rw [val_zeros (fun i hi => h3 i (by simpa using hi))]; rfl
  have HG : Hid (∀ i, [b0, b1, b2, b3].getD i 0 < B64) := fun i => H.out.get i
  generalize [b0, b1, b2, b3] = xs at HC H HV HN HG
  generalize blen (val xs) = R at HV HN ⊢
  clear H
  go_enter Try.func36, Try.ntmps36
  go_wp2_with fail
  generalize hW : w.alloc (.cells #[.int .u64 (b0 : Nat), .int .u64 (b1 : Nat), .int .u64 (b2 : Nat), .int .u64 (b3 : Nat)] 30) = W at HC ⊢
  have HB : Hid (Below w.heap.size w W) := by rw [← hW]; exact below_alloc (Below.refl _ _) _
  clear hW
  go_loop [3] (fun i => ∃ k : Nat, k ≤ 4 ∧ i = .int .i64 ((k : Int) - 1) ∧ ∀ j, k ≤ j → j < 4 → xs.getD j 0 = 0) (fun i => (intOf i + 1).toNat)
  case atStart => exact ⟨4, by omega, rfl, fun j h1 h2 => by omega⟩
  case round =>
    obtain ⟨k, hk, rfl, hz⟩ := hrel
    have HZ := Lib.hid hz
    clear hz
    by_cases hk0 : 0 < k
    · have hc := HC.out (k - 1) (by omega)
      have h0 : (0 : Int) ≤ (k : Int) - 1 := by omega
      have e1 : ((k : Int) - 1).toNat = k - 1 := by omega
      by_cases hx : xs.getD (k - 1) 0 = 0
      · rw [hx] at hc
        have HX := Lib.hid hx
        clear hx
        go_wp2
        go_round
        case rel => exact ⟨k - 1, by omega, by rw [show ((k : Int) - 1 - 1) = ((k - 1 : Nat) : Int) - 1 by omega], fun j h1 h2 => by
          by_cases e : j = k - 1
          · rw [e]; exact HX.out
          · exact HZ.out j (by omega) h2⟩
        case measure => simp [intOf]; omega
      · have hR := HV.out k hk0 hk HZ.out hx
        have hg := HG.out (k - 1)
        generalize xs.getD (k - 1) 0 = X at hc hx hR hg
        have hl := bitsLen_calls X W hg
        have hlX := blen_le64 hg
        generalize blen X = L at hl hlX hR
        have hX0 : (((X : Nat) : Int) == 0) = false := by simp; exact hx
        have hX1 : (((X : Nat) : Int) != 0) = true := by simp; exact hx
        have HL := Lib.hid hl
        have HR := Lib.hid hR
        clear hx hl hR
        go_wp2_with fail
        refine HL.out.mono ?_
        rintro e w' ⟨rfl, rfl⟩
        go_wp2
        go_ret
        refine ⟨congrArg (fun n => Ending.returned (.int .i64 n)) ?_, HB.out⟩
        have := HR.out
        omega
    · have hk1 : k = 0 := by omega
      subst hk1
      go_wp2
      go_ret
      refine ⟨?_, HB.out⟩
      rw [HN.out fun j hj => HZ.out j (by omega) hj]
      rfl
end Go.Proofs.Ytojbdaeidbmjgaa
