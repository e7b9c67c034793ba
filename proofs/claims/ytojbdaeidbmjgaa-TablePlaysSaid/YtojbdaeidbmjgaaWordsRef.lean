/- Slices of words as they are read; the contracts of the reference's Size and Len, and of nat.size. -/
import Derived.Test.YtojbdaeidbmjgaaNatVal
import Derived.Test.YtojbdaeidbmjgaaBoxes
import Derived.Test.YtojbdaeidbmjgaaShelf
namespace Go.Proofs.Ytojbdaeidbmjgaa
open Go.RowKit
/-- A slice of words: what it reads as. -/
structure SlW (w : World) (a : Option Addr) (len cap : Nat) (xs : List Nat) : Prop where
  hlen : xs.length = len
  hle : len ≤ cap
  hmax : cap ≤ 9223372036854775807
  hw : W64 xs
  hnil : a = none → cap = 0
  hcell : ∀ i, i < len → ∃ b off, a = some ⟨b, off, none⟩ ∧ w.cell? ⟨b, off + i, none⟩ = some (.int .u64 ((xs.getD i 0 : Nat) : Int))
theorem SlW.below {w w' : World} {a : Option Addr} {len cap : Nat} {xs : List Nat} (h : SlW w a len cap xs) (hb : Below w.heap.size w w') : SlW w' a len cap xs :=
  ⟨h.hlen, h.hle, h.hmax, h.hw, h.hnil, fun i hi => by
    obtain ⟨b, off, e, hc⟩ := h.hcell i hi
    exact ⟨b, off, e, by rw [hb.cell (World.block_lt_of_cell? w _ hc)]; exact hc⟩⟩
theorem SlW.sz_le {w : World} {a : Option Addr} {len cap : Nat} {xs : List Nat} (h : SlW w a len cap xs) : sz xs ≤ len := by rw [← h.hlen]; exact Go.Proofs.Ytojbdaeidbmjgaa.sz_le xs
set_option maxRecDepth 10000 in
set_option maxHeartbeats 1000000 in
theorem refSize_calls (w : World) (a : Option Addr) (len cap : Nat) (xs : List Nat) (h : SlW w a len cap xs) :
    Calls Try.prog 39 #[.slice a len cap] w fun e w' => e = .returned (.int .i64 (sz xs : Nat)) ∧ w' = w := by
  have hm : len ≤ 9223372036854775807 := by have := h.hle; have := h.hmax; omega
  have H := Lib.hid h
  clear h
  go_enter Try.func39, Try.ntmps39
  go_wp2_with fail
  go_loop [3] (fun i => ∃ k : Nat, k ≤ len ∧ i = .int .i64 k ∧ ∀ j, k ≤ j → j < len → xs.getD j 0 = 0) (fun i => (intOf i).toNat)
  case atStart => exact ⟨len, by omega, rfl, fun j h1 h2 => by omega⟩
  case round =>
    obtain ⟨k, hk, rfl, hz⟩ := hrel
    have HZ := Lib.hid hz
    clear hz
    by_cases hk0 : 0 < k
    · obtain ⟨b, off, rfl, hc⟩ := H.out.hcell (k - 1) (by omega)
      have h0 : (0 : Int) ≤ (k : Int) - 1 := by omega
      have e1 : ((k : Int) - 1).toNat = k - 1 := by omega
      by_cases hx : xs.getD (k - 1) 0 = 0
      · rw [hx] at hc
        have HX := Lib.hid hx
        clear hx
        go_wp2
        go_round
        case rel => exact ⟨k - 1, by omega, by rw [show ((k : Int) - 1) = ((k - 1 : Nat) : Int) by omega], fun j h1 h2 => by
          by_cases e : j = k - 1
          · rw [e]; exact HX.out
          · exact HZ.out j (by omega) h2⟩
        case measure => simp [intOf]; omega
      · obtain ⟨X, hX⟩ : ∃ X, xs.getD (k - 1) 0 = X := ⟨_, rfl⟩
        rw [hX] at hc hx
        have hX0 : (((X : Nat) : Int) == 0) = false := by simp; exact hx
        have HX := Lib.hid hX
        have HXn := Lib.hid hx
        clear hX hx
        go_wp2
        go_ret
        refine ⟨?_, rfl⟩
        rw [sz_unique (k := k) (by rw [H.out.hlen]; omega) (fun i h1 h2 => HZ.out i h1 (by rw [← H.out.hlen]; exact h2)) (.inr (by rw [HX.out]; exact HXn.out))]
        rfl
    · have hk1 : k = 0 := by omega
      subst hk1
      go_wp2
      go_ret
      refine ⟨?_, rfl⟩
      rw [sz_unique (xs := xs) (k := 0) (by omega) (fun i h1 h2 => HZ.out i h1 (by rw [← H.out.hlen]; exact h2)) (.inl rfl)]
      rfl
theorem bitsLen_calls (x : Nat) (w : World) (hx : x < B64) : Calls Try.prog 40 #[.int .u64 (x : Nat)] w fun e w' => e = .returned (.int .i64 (blen x : Nat)) ∧ w' = w := by
  have := Try.bits_Len64 (x : Nat) w (by omega) (by unfold B64 at hx; omega)
  rw [Int.toNat_natCast, bitLen_eq hx] at this
  exact this
theorem blen_le64 {x : Nat} (hx : x < B64) : blen x ≤ 64 := by
  by_cases h : x = 0
  · subst h; simp [blen_zero]
  · have a := blen_le h
    have : blen x - 1 < 64 := (Nat.pow_lt_pow_iff_right (a := 2) (by omega)).1 (Nat.lt_of_le_of_lt a hx)
    omega
set_option maxRecDepth 10000 in
set_option maxHeartbeats 1000000 in
theorem refLen_calls (w : World) (a : Option Addr) (len cap : Nat) (xs : List Nat) (h : SlW w a len cap xs) (hs : len ≤ 140737488355328) :
    Calls Try.prog 27 #[.slice a len cap] w fun e w' => e = .returned (.int .i64 (blen (val xs) : Nat)) ∧ w' = w := by
  have hz := h.sz_le
  by_cases h0 : sz xs = 0
  · have hr := refSize_calls w a len cap xs h
    rw [sz_zero.1 h0]
    rw [h0] at hr
    have HR := Lib.hid hr
    clear hr h h0
    go_enter Try.func27, Try.ntmps27
    go_wp2_with fail
    refine HR.out.mono ?_
    rintro e w' ⟨rfl, rfl⟩
    go_wp2
    go_ret
    exact ⟨rfl, rfl⟩
  · have hp : 0 < sz xs := by omega
    have hb := blen_val h.hw hp
    obtain ⟨b, off, rfl, hc⟩ := h.hcell (sz xs - 1) (by omega)
    have hr := refSize_calls w _ len cap xs h
    have hX := h.hw.get (sz xs - 1)
    generalize xs.getD (sz xs - 1) 0 = X at hc hX hb
    have hl := bitsLen_calls X w hX
    have hlX := blen_le64 hX
    rw [hb]
    generalize sz xs = k at *
    clear hb h
    generalize blen X = L at hl hlX ⊢
    have HR := Lib.hid hr
    have HL := Lib.hid hl
    clear hr hl h0
    have e0 : (((k : Nat) : Int) == 0) = false := by simp; omega
    have e1 : ((k : Int) - 1).toNat = k - 1 := by omega
    have h1 : (0 : Int) ≤ (k : Int) - 1 := by omega
    go_enter Try.func27, Try.ntmps27
    go_wp2_with fail
    refine HR.out.mono ?_
    rintro e w' ⟨rfl, rfl⟩
    go_wp2_with fail
    refine HL.out.mono ?_
    rintro e w' ⟨rfl, rfl⟩
    go_wp2
    go_ret
    exact ⟨congrArg (fun n => Ending.returned (.int .i64 n)) (by omega), rfl⟩
end Go.Proofs.Ytojbdaeidbmjgaa
