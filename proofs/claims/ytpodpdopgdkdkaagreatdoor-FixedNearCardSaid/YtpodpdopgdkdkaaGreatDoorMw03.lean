/- Slices of words as they are read; the contracts of the reference's Size and Len, and of nat.size. · The contracts of nat.size, nat.Trim. · The contract of nat.Cmp. · Laws for the walks over natural numbers: slices of words that the call makes and writes; Add64, Sub64, Mul64 as equations. -/
import Derived.Test.YtpodpdopgdkdkaaGreatDoorMw01
import Derived.Test.YtpodpdopgdkdkaaGreatDoorMw02
import Derived.Deep.QuietTactic
import Derived.BigQuiet
import Derived.StillTailTactics
import Derived.Laws.OwnMore
import Derived.Laws.AppendOwnNone
import Derived.Laws.Externs
set_option linter.unusedVariables false
set_option linter.unusedSimpArgs false
namespace Go.Proofs.YtpodpdopgdkdkaaGreatDoor
open Go.RowKit
/-- A slice of words: what it reads as. -/
structure SlW (w : World) (a : Option Addr) (len cap : Nat) (xs : List Nat) : Prop where
  hlen : xs.length = len
  hle : len ≤ cap
  hmax : cap ≤ 9223372036854775807
  hw : W64 xs
  hnil : a = none → cap = 0
  hcell : ∀ i, i < len → ∃ b off, a = some ⟨b, off, none⟩ ∧ w.cell? ⟨b, off + i, none⟩ = some (.int .u64 ((xs.getD i 0 : Nat) : Int))
theorem SlW.below {w w' : World} {a : Option Addr} {len cap : Nat} {xs : List Nat} (h : SlW w a len cap xs) (hb : Below w.heap.size w w') : SlW w' a len cap xs :=
  ⟨h.hlen, h.hle, h.hmax, h.hw, h.hnil, fun i hi => by
    obtain ⟨b, off, e, hc⟩ := h.hcell i hi
    exact ⟨b, off, e, by rw [hb.cell (World.block_lt_of_cell? w _ hc)]; exact hc⟩⟩
theorem SlW.sz_le {w : World} {a : Option Addr} {len cap : Nat} {xs : List Nat} (h : SlW w a len cap xs) : sz xs ≤ len := by rw [← h.hlen]; exact Go.Proofs.YtpodpdopgdkdkaaGreatDoor.sz_le xs
set_option maxRecDepth 10000 in
set_option maxHeartbeats 1000000 in
theorem refSize_calls (w : World) (a : Option Addr) (len cap : Nat) (xs : List Nat) (h : SlW w a len cap xs) :
    Calls Tryz.prog 121 #[.slice a len cap] w fun e w' => e = .returned (.int .i64 (sz xs : Nat)) ∧ w' = w := by
  have hm : len ≤ 9223372036854775807 := by have := h.hle; have := h.hmax; omega
  have H := Lib.hid h
  clear h
  go_enter Tryz.func121, Tryz.ntmps121
  go_wp2_with fail
  go_loop [3] (fun i => ∃ k : Nat, k ≤ len ∧ i = .int .i64 k ∧ ∀ j, k ≤ j → j < len → xs.getD j 0 = 0) (fun i => (intOf i).toNat)
  case atStart => exact ⟨len, by omega, rfl, fun j h1 h2 => by omega⟩
  case round =>
    obtain ⟨k, hk, rfl, hz⟩ := hrel
    have HZ := Lib.hid hz
    clear hz
    by_cases hk0 : 0 < k
    · obtain ⟨b, off, rfl, hc⟩ := H.out.hcell (k - 1) (by omega)
      have h0 : (0 : Int) ≤ (k : Int) - 1 := by omega
      have e1 : ((k : Int) - 1).toNat = k - 1 := by omega
      by_cases hx : xs.getD (k - 1) 0 = 0
      · rw [hx] at hc
        have HX := Lib.hid hx
        clear hx
        go_wp2
        go_round
        case rel => exact ⟨k - 1, by omega, by rw [show ((k : Int) - 1) = ((k - 1 : Nat) : Int) by omega], fun j h1 h2 => by
          by_cases e : j = k - 1
          · rw [e]; exact HX.out
          · exact HZ.out j (by omega) h2⟩
        case measure => simp [intOf]; omega
      · obtain ⟨X, hX⟩ : ∃ X, xs.getD (k - 1) 0 = X := ⟨_, rfl⟩
        rw [hX] at hc hx
        have hX0 : (((X : Nat) : Int) == 0) = false := by simp; exact hx
        have HX := Lib.hid hX
        have HXn := Lib.hid hx
        clear hX hx
        go_wp2
        go_ret
        refine ⟨?_, rfl⟩
        rw [sz_unique (k := k) (by rw [H.out.hlen]; omega) (fun i h1 h2 => HZ.out i h1 (by rw [← H.out.hlen]; exact h2)) (.inr (by rw [HX.out]; exact HXn.out))]
        rfl
    · have hk1 : k = 0 := by omega
      subst hk1
      go_wp2
      go_ret
      refine ⟨?_, rfl⟩
      rw [sz_unique (xs := xs) (k := 0) (by omega) (fun i h1 h2 => HZ.out i h1 (by rw [← H.out.hlen]; exact h2)) (.inl rfl)]
      rfl
theorem bitsLen_calls (x : Nat) (w : World) (hx : x < B64) : Calls Tryz.prog 115 #[.int .u64 (x : Nat)] w fun e w' => e = .returned (.int .i64 (blen x : Nat)) ∧ w' = w := by
  have := Tryz.bits_Len64 (x : Nat) w (by omega) (by unfold B64 at hx; omega)
  rw [Int.toNat_natCast, bitLen_eq hx] at this
  exact this
theorem blen_le64 {x : Nat} (hx : x < B64) : blen x ≤ 64 := by
  by_cases h : x = 0
  · subst h; simp [blen_zero]
  · have a := blen_le h
    have : blen x - 1 < 64 := (Nat.pow_lt_pow_iff_right (a := 2) (by omega)).1 (Nat.lt_of_le_of_lt a hx)
    omega
set_option maxRecDepth 10000 in
set_option maxHeartbeats 1000000 in
theorem refLen_calls (w : World) (a : Option Addr) (len cap : Nat) (xs : List Nat) (h : SlW w a len cap xs) (hs : len ≤ 140737488355328) :
    Calls Tryz.prog 89 #[.slice a len cap] w fun e w' => e = .returned (.int .i64 (blen (val xs) : Nat)) ∧ w' = w := by
  have hz := h.sz_le
  by_cases h0 : sz xs = 0
  · have hr := refSize_calls w a len cap xs h
    rw [sz_zero.1 h0]
    rw [h0] at hr
    have HR := Lib.hid hr
    clear hr h h0
    go_enter Tryz.func89, Tryz.ntmps89
    go_wp2_with fail
    refine HR.out.mono ?_
    rintro e w' ⟨rfl, rfl⟩
    go_wp2
    go_ret
    exact ⟨rfl, rfl⟩
  · have hp : 0 < sz xs := by omega
    have hb := blen_val h.hw hp
    obtain ⟨b, off, rfl, hc⟩ := h.hcell (sz xs - 1) (by omega)
    have hr := refSize_calls w _ len cap xs h
    have hX := h.hw.get (sz xs - 1)
    generalize xs.getD (sz xs - 1) 0 = X at hc hX hb
    have hl := bitsLen_calls X w hX
    have hlX := blen_le64 hX
    rw [hb]
    generalize sz xs = k at *
    clear hb h
    generalize blen X = L at hl hlX ⊢
    have HR := Lib.hid hr
    have HL := Lib.hid hl
    clear hr hl h0
    have e0 : (((k : Nat) : Int) == 0) = false := by simp; omega
    have e1 : ((k : Int) - 1).toNat = k - 1 := by omega
    have h1 : (0 : Int) ≤ (k : Int) - 1 := by omega
    go_enter Tryz.func89, Tryz.ntmps89
    go_wp2_with fail
    refine HR.out.mono ?_
    rintro e w' ⟨rfl, rfl⟩
    go_wp2_with fail
    refine HL.out.mono ?_
    rintro e w' ⟨rfl, rfl⟩
    go_wp2
    go_ret
    exact ⟨congrArg (fun n => Ending.returned (.int .i64 n)) (by omega), rfl⟩
end Go.Proofs.YtpodpdopgdkdkaaGreatDoor
namespace Go.Proofs.YtpodpdopgdkdkaaGreatDoor
open Go.RowKit
set_option maxRecDepth 10000 in
set_option maxHeartbeats 1000000 in
theorem size_calls (w : World) (a : Option Addr) (len cap : Nat) (xs : List Nat) (h : SlW w a len cap xs) :
    Calls Tryz.prog 96 #[.slice a len cap] w fun e w' => e = .returned (.int .i64 (sz xs : Nat)) ∧ w' = w := by
  have hm : len ≤ 9223372036854775807 := by have := h.hle; have := h.hmax; omega
  have H := Lib.hid h
  clear h
  go_enter Tryz.func96, Tryz.ntmps96
  go_wp2_with fail
  go_loop [3] (fun i => ∃ k : Nat, k ≤ len ∧ i = .int .i64 k ∧ ∀ j, k ≤ j → j < len → xs.getD j 0 = 0) (fun i => (intOf i).toNat)
  case atStart => exact ⟨len, by omega, rfl, fun j h1 h2 => by omega⟩
  case round =>
    obtain ⟨k, hk, rfl, hz⟩ := hrel
    have HZ := Lib.hid hz
    clear hz
    by_cases hk0 : 0 < k
    · obtain ⟨b, off, rfl, hc⟩ := H.out.hcell (k - 1) (by omega)
      have h0 : (0 : Int) ≤ (k : Int) - 1 := by omega
      have e1 : ((k : Int) - 1).toNat = k - 1 := by omega
      by_cases hx : xs.getD (k - 1) 0 = 0
      · rw [hx] at hc
        have HX := Lib.hid hx
        clear hx
        go_wp2
        go_round
        case rel => exact ⟨k - 1, by omega, by rw [show ((k : Int) - 1) = ((k - 1 : Nat) : Int) by omega], fun j h1 h2 => by
          by_cases e : j = k - 1
          · rw [e]; exact HX.out
          · exact HZ.out j (by omega) h2⟩
        case measure => simp [intOf]; omega
      · obtain ⟨X, hX⟩ : ∃ X, xs.getD (k - 1) 0 = X := ⟨_, rfl⟩
        rw [hX] at hc hx
        have hX0 : (((X : Nat) : Int) == 0) = false := by simp; exact hx
        have HX := Lib.hid hX
        have HXn := Lib.hid hx
        clear hX hx
        go_wp2
        go_ret
        refine ⟨?_, rfl⟩
        rw [sz_unique (k := k) (by rw [H.out.hlen]; omega) (fun i h1 h2 => HZ.out i h1 (by rw [← H.out.hlen]; exact h2)) (.inr (by rw [HX.out]; exact HXn.out))]
        rfl
    · have hk1 : k = 0 := by omega
      subst hk1
      go_wp2
      go_ret
      refine ⟨?_, rfl⟩
      rw [sz_unique (xs := xs) (k := 0) (by omega) (fun i h1 h2 => HZ.out i h1 (by rw [← H.out.hlen]; exact h2)) (.inl rfl)]
      rfl

def wv (n : Nat) : Value := .int .u64 (n : Nat)
/-- A slice of words in memory of the call's own: below block B nothing of it lies. -/
structure OwnW (B : Nat) (w : World) (a : Option Addr) (len cap : Nat) (xs : List Nat) : Prop where
  own : w.ownsRow B 22 1 (.slice a len cap) len (xs.map wv)
  hlen : xs.length = len
  hw : W64 xs
theorem OwnW.sl {B : Nat} {w : World} {a : Option Addr} {len cap : Nat} {xs : List Nat} (h : OwnW B w a len cap xs) : SlW w a len cap xs := by
  obtain ⟨⟨h1, h2⟩, hl, hw⟩ := h
  rcases h2 with ⟨hv, hn⟩ | ⟨g, c, cur, hv, _, hg, hle, hm, hs, ht⟩
  · simp only [Value.slice.injEq] at hv
    obtain ⟨rfl, rfl, rfl⟩ := hv
    exact ⟨hl, by omega, by omega, hw, fun _ => rfl, fun i hi => by omega⟩
  · simp only [Value.slice.injEq] at hv
    obtain ⟨rfl, _, rfl⟩ := hv
    refine ⟨hl, hle, by unfold maxLen at hm; omega, hw, (fun e => by cases e), fun i hi => ⟨g, 0, rfl, ?_⟩⟩
    rw [cell_of_heap hg]
    have e1 : (cur.toList.take (len * 1))[i]? = some (wv (xs.getD i 0)) := by
      rw [ht, List.getElem?_map, List.getElem?_eq_getElem (by omega)]
      simp [List.getD_eq_getElem?_getD, List.getElem?_eq_getElem (show i < xs.length by omega)]
    rw [List.getElem?_take] at e1
    simp only [Nat.mul_one, Nat.zero_add] at e1 ⊢
    rw [if_pos hi] at e1
    simpa [wv] using e1
theorem OwnW.mono {B B' : Nat} {w : World} {a : Option Addr} {len cap : Nat} {xs : List Nat} (h : OwnW B w a len cap xs) (hb : B' ≤ B) : OwnW B' w a len cap xs := by
  obtain ⟨⟨h1, h2⟩, hl, hw⟩ := h
  refine ⟨⟨h1, ?_⟩, hl, hw⟩
  rcases h2 with h2 | ⟨g, c, cur, hv, hB, r⟩
  · exact .inl h2
  · exact .inr ⟨g, c, cur, hv, by omega, r⟩
theorem OwnW.keep {B : Nat} {w w' : World} {a : Option Addr} {len cap : Nat} {xs : List Nat} (h : OwnW B w a len cap xs) (hb : Below w.heap.size w w') : OwnW B w' a len cap xs := by
  obtain ⟨⟨h1, h2⟩, hl, hw⟩ := h
  refine ⟨⟨h1, ?_⟩, hl, hw⟩
  rcases h2 with h2 | ⟨g, c, cur, hv, hB, hg, r⟩
  · exact .inl h2
  · exact .inr ⟨g, c, cur, hv, hB, below_heap hb hg, r⟩
theorem SlW.take {w : World} {a : Option Addr} {len cap : Nat} {xs : List Nat} (h : SlW w a len cap xs) {k : Nat} (hk : k ≤ len) : SlW w a k cap (xs.take k) :=
  ⟨by rw [List.length_take, h.hlen]; omega, by have := h.hle; omega, h.hmax, h.hw.take k, h.hnil, fun i hi => by
    obtain ⟨b, off, e, hc⟩ := h.hcell i (by omega)
    exact ⟨b, off, e, by rw [hc]; simp [List.getD_eq_getElem?_getD, hi]⟩⟩
/-- The shape of an address that a slice may bear. -/
def Plain (a : Option Addr) : Prop := a = none ∨ ∃ b off, a = some ⟨b, off, none⟩
theorem u64_info : (Tryz.prog.info? 22).map (fun i => (i.zero, i.size, i.bytes)) = some (some (.int .u64 0), 1, 8) := by kernel_rfl
theorem clone_calls (w : World) (a : Option Addr) (len cap : Nat) (xs : List Nat) (h : SlW w a len cap xs) (hp : Plain a) (hs : len ≤ 17592186044416) :
    Calls Tryz.prog 95 #[.slice a len cap] w fun e w' => ∃ a' cap', e = .returned (.slice a' len cap') ∧ OwnW w.heap.size w' a' len cap' xs ∧ Below w.heap.size w w' := by
  rcases hp with rfl | ⟨b, off, rfl⟩
  · have h0 : len = 0 := by have := h.hnil rfl; have := h.hle; omega
    have hx : xs = [] := List.eq_nil_of_length_eq_zero (by rw [h.hlen, h0])
    subst h0 hx
    refine (Tryz.slices_Clone_nil 0 cap w).mono fun e w' ⟨he, hw⟩ => ⟨none, 0, he, ⟨⟨rfl, .inl ⟨rfl, rfl⟩⟩, rfl, W64.nil⟩, by rw [hw]; exact Below.refl _ _⟩
  · obtain ⟨i0, hi, hz0, hz1, hz2⟩ := info_parts u64_info
    refine (Tryz.slices_Clone i0 (.int .u64 0) 1 8 hi hz0 hz1 hz2 rfl (by omega) (Tryz.sizeOf22) b off len cap (xs.map wv) w (by simp [h.hlen]) (by unfold maxLen; omega) (by omega) ?_ ?_).mono ?_
    · intro j u hu
      rw [List.getElem?_map] at hu
      cases hx : xs[j]? with
      | none => rw [hx] at hu; cases hu
      | some x =>
        rw [hx] at hu
        have hj := (List.getElem?_eq_some_iff.1 hx).1
        obtain ⟨b', off', e, hc⟩ := h.hcell j (by rw [← h.hlen]; exact hj)
        cases e
        rw [hc]
        cases hu
        simp [wv, List.getD_eq_getElem?_getD, hx]
    · intro u hu
      obtain ⟨x, _, rfl⟩ := List.mem_map.1 hu
      rfl
    · rintro e w' ⟨v', rfl, ho, hne, hb⟩
      rcases ho.2 with ⟨rfl, h0⟩ | ⟨g, c, cur, rfl, r⟩
      · exact absurd rfl hne
      · exact ⟨_, _, rfl, ⟨ho, h.hlen, h.hw⟩, hb⟩
set_option maxRecDepth 10000 in
set_option maxHeartbeats 1000000 in
theorem trim_calls (w : World) (a : Option Addr) (len cap : Nat) (xs : List Nat) (h : SlW w a len cap xs) (hp : Plain a) (hs : len ≤ 17592186044416) :
    Calls Tryz.prog 51 #[.slice a len cap] w fun e w' => ∃ a' cap', e = .returned (.slice a' (sz xs) cap') ∧ OwnW w.heap.size w' a' (sz xs) cap' (xs.take (sz xs)) ∧ Below w.heap.size w w' := by
  have hz := h.sz_le
  have hle := h.hle
  have hm := h.hmax
  have H := Lib.hid h
  have HS := Lib.hid (size_calls w a len cap xs h)
  generalize hk : sz xs = k at hz HS ⊢
  have HK := Lib.hid hk
  clear h hk
  go_enter Tryz.func51, Tryz.ntmps51
  go_wp2_with fail
  refine HS.out.mono ?_
  rintro e w' ⟨rfl, rfl⟩
  go_wp2_with fail
  refine (clone_calls _ a k cap _ (H.out.take hz) hp (by omega)).mono ?_
  rintro e w2 ⟨a', cap', rfl, ho, hb⟩
  have HO := Lib.hid ho
  have HB := Lib.hid hb
  clear ho hb
  go_wp2
  go_ret
  exact ⟨a', cap', rfl, HO.out, HB.out⟩
set_option maxRecDepth 10000 in
set_option maxHeartbeats 1000000 in
theorem len_calls (w : World) (a : Option Addr) (len cap : Nat) (xs : List Nat) (h : SlW w a len cap xs) (hs : len ≤ 140737488355328) :
    Calls Tryz.prog 72 #[.slice a len cap] w fun e w' => e = .returned (.int .i64 (blen (val xs) : Nat)) ∧ w' = w := by
  have hz := h.sz_le
  by_cases h0 : sz xs = 0
  · have hr := size_calls w a len cap xs h
    rw [sz_zero.1 h0]
    rw [h0] at hr
    have HR := Lib.hid hr
    clear hr h h0
    go_enter Tryz.func72, Tryz.ntmps72
    go_wp2_with fail
    refine HR.out.mono ?_
    rintro e w' ⟨rfl, rfl⟩
    go_wp2
    go_ret
    exact ⟨rfl, rfl⟩
  · have hp : 0 < sz xs := by omega
    have hb := blen_val h.hw hp
    obtain ⟨b, off, rfl, hc⟩ := h.hcell (sz xs - 1) (by omega)
    have hr := size_calls w _ len cap xs h
    have hX := h.hw.get (sz xs - 1)
    generalize xs.getD (sz xs - 1) 0 = X at hc hX hb
    have hl := bitsLen_calls X w hX
    have hlX := blen_le64 hX
    rw [hb]
    generalize sz xs = k at *
    clear hb h
    generalize blen X = L at hl hlX ⊢
    have HR := Lib.hid hr
    have HL := Lib.hid hl
    clear hr hl h0
    have e0 : (((k : Nat) : Int) == 0) = false := by simp; omega
    have e1 : ((k : Int) - 1).toNat = k - 1 := by omega
    have h1 : (0 : Int) ≤ (k : Int) - 1 := by omega
    go_enter Tryz.func72, Tryz.ntmps72
    go_wp2_with fail
    refine HR.out.mono ?_
    rintro e w' ⟨rfl, rfl⟩
    go_wp2_with fail
    refine HL.out.mono ?_
    rintro e w' ⟨rfl, rfl⟩
    go_wp2
    go_ret
    exact ⟨congrArg (fun n => Ending.returned (.int .i64 n)) (by omega), rfl⟩
end Go.Proofs.YtpodpdopgdkdkaaGreatDoor
namespace Go.Proofs.YtpodpdopgdkdkaaGreatDoor
open Go.RowKit
/-- The same, the draws of an order counted. -/
theorem size_quiet (w : World) (a : Option Addr) (len cap : Nat) (xs : List Nat) (h : SlW w a len cap xs) (m : Nat) :
    Calls Tryz.prog 96 #[.slice a len cap] (w.drewN m) fun e w' => e = .returned (.int .i64 (sz xs : Nat)) ∧ w' = w.drewN m :=
  size_calls _ a len cap xs ⟨h.hlen, h.hle, h.hmax, h.hw, h.hnil, h.hcell⟩
theorem SlW.drewN {w : World} {a : Option Addr} {len cap : Nat} {xs : List Nat} (h : SlW w a len cap xs) (m : Nat) : SlW (w.drewN m) a len cap xs := ⟨h.hlen, h.hle, h.hmax, h.hw, h.hnil, h.hcell⟩
theorem drewN2 (w : World) (m n : Nat) : (w.drewN m).drewN n = w.drewN (m + n) := by simp [World.drewN, Nat.add_assoc]
theorem below_drewN' {B : Nat} {a w : World} (h : Below B a w) (n : Nat) : Below B a (w.drewN n) := ⟨h.os, h.tape, h.output, h.size, h.block⟩
/-- A slice whose size is k. -/
def SzOf (w : World) (a : Option Addr) (len cap k : Nat) : Prop := ∃ xs, SlW w a len cap xs ∧ sz xs = k
theorem size_of {w : World} {a : Option Addr} {len cap k : Nat} (h : SzOf w a len cap k) (m : Nat) :
    Calls Tryz.prog 96 #[.slice a len cap] (w.drewN m) fun e w' => e = .returned (.int .i64 (k : Nat)) ∧ w' = w.drewN m := by
  obtain ⟨xs, h1, rfl⟩ := h
  exact size_quiet w a len cap xs h1 m
set_option maxRecDepth 10000 in
set_option maxHeartbeats 1000000 in
theorem cmp_calls (w : World) (a b : Option Addr) (la ca lb cb : Nat) (xs ys : List Nat) (ha : SlW w a la ca xs) (hb : SlW w b lb cb ys) :
    Calls Tryz.prog 77 #[.slice a la ca, .slice b lb cb] w fun e w' => e = .returned (.int .i64 (cmpI (val xs) (val ys))) ∧ ∃ m, w' = w.drewN m := by
  have s1 : SzOf w a la ca (sz xs) := ⟨xs, ha, rfl⟩
  have s2 : SzOf w b lb cb (sz ys) := ⟨ys, hb, rfl⟩
  have z1 := ha.sz_le
  have z2 := hb.sz_le
  have m1 := ha.hle
  have m2 := ha.hmax
  have m3 := hb.hle
  have m4 := hb.hmax
  have HA := Lib.hid ha
  have HB := Lib.hid hb
  generalize hk : sz xs = k at s1 z1
  generalize hl : sz ys = l at s2 z2
  have HK := Lib.hid hk
  have HL := Lib.hid hl
  clear ha hb hk hl
  go_enter Tryz.func77, Tryz.ntmps77
  go_wp2_with fail
  go_quiet ((go_at_call 96; exact Calls.quiet_of_same (size_of (by assumption) _)))
  have hxw := HA.out.hw
  have hyw := HB.out.hw
  have HX := Lib.hid hxw
  have HY := Lib.hid hyw
  clear hxw hyw s1 s2
  by_cases hkl : k = l
  · subst hkl
    go_wp2_with fail
    go_loopw [5] (fun i wr => ∃ (t m : Nat), t ≤ k ∧ i = .int .i64 ((t : Int) - 1) ∧ wr = w.drewN m ∧ ∀ j, t ≤ j → xs.getD j 0 = ys.getD j 0) (fun i _ => (intOf i + 1).toNat)
    case atStart => exact ⟨k, nq, by omega, rfl, rfl, fun j hj => by rw [sz_get_beyond j (by rw [HK.out]; omega), sz_get_beyond j (by rw [HL.out]; omega)]⟩
    case round =>
      obtain ⟨t, m, ht, rfl, rfl, hq⟩ := hrel
      have HQ := Lib.hid hq
      clear hq
      by_cases h0 : 0 < t
      · obtain ⟨p, o, rfl, hx⟩ := HA.out.hcell (t - 1) (by omega)
        obtain ⟨p', o', rfl, hy⟩ := HB.out.hcell (t - 1) (by omega)
        have h1 : (0 : Int) ≤ (t : Int) - 1 := by omega
        have e1 : ((t : Int) - 1).toNat = t - 1 := by omega
        rcases Nat.lt_trichotomy (xs.getD (t - 1) 0) (ys.getD (t - 1) 0) with hlt | heq | hgt
        · have hfin := cmpI_lt (lt_of_top (t - 1) HX.out (fun j hj => HQ.out j (by omega)) hlt)
          have HF := Lib.hid hfin
          generalize xs.getD (t - 1) 0 = X at hx hlt
          generalize ys.getD (t - 1) 0 = Y at hy hlt
          have t1 : (((X : Nat) : Int) != (Y : Nat)) = true := by simp; omega
          have t2 : decide (X < Y) = true := by simp; exact hlt
          clear hfin hlt
          go_wp2_with fail
          go_quiet (fail)
          go_wp2_with fail
          go_quiet (fail)
          go_wp2
          go_ret
          rw [HF.out, drewN2, drewN2]
          exact ⟨rfl, _, rfl⟩
        · have HE := Lib.hid heq
          rw [heq] at hx
          generalize ys.getD (t - 1) 0 = Y at hx hy
          have t1 : (((Y : Nat) : Int) != (Y : Nat)) = false := by simp
          clear heq
          go_wp2_with fail
          go_quiet (fail)
          go_wp2
          go_roundw
          case rel => exact ⟨t - 1, _, by omega, by rw [show ((t : Int) - 1 - 1) = ((t - 1 : Nat) : Int) - 1 by omega], rfl, fun j hj => by
            by_cases e : j = t - 1
            · rw [e]; exact HE.out
            · exact HQ.out j (by omega)⟩
          case measure => simp [intOf]; omega
        · have hfin := cmpI_gt (lt_of_top (t - 1) HY.out (fun j hj => (HQ.out j (by omega)).symm) hgt)
          have HF := Lib.hid hfin
          generalize xs.getD (t - 1) 0 = X at hx hgt
          generalize ys.getD (t - 1) 0 = Y at hy hgt
          have t1 : (((X : Nat) : Int) != (Y : Nat)) = true := by simp; omega
          have t2 : decide (X < Y) = false := by simp; omega
          clear hfin hgt
          go_wp2_with fail
          go_quiet (fail)
          go_wp2_with fail
          go_quiet (fail)
          go_wp2
          go_ret
          rw [HF.out, drewN2, drewN2]
          exact ⟨rfl, _, rfl⟩
      · have ht0 : t = 0 := by omega
        subst ht0
        have hfin := cmpI_eq (val_eq_of_get fun i => HQ.out i (by omega))
        have HF := Lib.hid hfin
        clear hfin
        go_wp2
        go_ret
        rw [HF.out]
        exact ⟨rfl, _, rfl⟩
  · have t0 : decide (k = l) = false := by simp [hkl]
    by_cases hlt : k < l
    · have hfin := cmpI_lt (sz_lt_val (xs := xs) (ys := ys) HX.out (by rw [HK.out, HL.out]; exact hlt))
      have HF := Lib.hid hfin
      clear hfin
      have t1 : ((k : Int) != (l : Int)) = true := by simp; omega
      go_wp2
      go_ret
      rw [HF.out]
      exact ⟨rfl, _, rfl⟩
    · have hfin := cmpI_gt (sz_lt_val (xs := ys) (ys := xs) HY.out (by rw [HK.out, HL.out]; omega))
      have HF := Lib.hid hfin
      clear hfin
      have t1 : ((k : Int) != (l : Int)) = true := by simp; omega
      go_wp2
      go_ret
      rw [HF.out]
      exact ⟨rfl, _, rfl⟩
end Go.Proofs.YtpodpdopgdkdkaaGreatDoor
namespace Go.Proofs.YtpodpdopgdkdkaaGreatDoor
open Go.RowKit
/-- The cells that hold some words. -/
def wcells (xs : List Nat) : Array Value := (xs.map wv).toArray
theorem wcells_size (xs : List Nat) : (wcells xs).size = xs.length := by simp [wcells]
theorem wcells_get {xs : List Nat} {i : Nat} (h : i < xs.length) : (wcells xs)[i]? = some (.int .u64 ((xs.getD i 0 : Nat) : Int)) := by
  simp [wcells, wv, List.getD_eq_getElem?_getD, h]
theorem wcells_set (xs : List Nat) (i n : Nat) : (wcells xs).setIfInBounds i (wv n) = wcells (xs.set i n) := by
  simp [wcells, List.map_set]
/-- Block g holds the words xs, and may be written. -/
def WordsAt (w : World) (g : Nat) (xs : List Nat) : Prop := w.heap[g]? = some (.cells (wcells xs) 22 (0, 0))
theorem WordsAt.cell {w : World} {g : Nat} {xs : List Nat} (h : WordsAt w g xs) {i : Nat} (hi : i < xs.length) : w.cell? ⟨g, i, none⟩ = some (.int .u64 ((xs.getD i 0 : Nat) : Int)) := by
  rw [cell_of_heap h, wcells_get hi]
theorem WordsAt.free {w : World} {g : Nat} {xs : List Nat} (h : WordsAt w g xs) (i : Nat) : w.frozen? ⟨g, i, none⟩ = false := free_of_heap h i
theorem WordsAt.lt {w : World} {g : Nat} {xs : List Nat} (h : WordsAt w g xs) : g < w.heap.size := lt_of_heap h
theorem WordsAt.keep {w w' : World} {g : Nat} {xs : List Nat} (h : WordsAt w g xs) (hb : Below w.heap.size w w') : WordsAt w' g xs := below_heap hb h
theorem WordsAt.drewN {w : World} {g : Nat} {xs : List Nat} (h : WordsAt w g xs) (m : Nat) : WordsAt (w.drewN m) g xs := h
/-- A slice from such a block's begin. -/
theorem WordsAt.own {B : Nat} {w : World} {g : Nat} {zs : List Nat} (h : WordsAt w g zs) (hB : B ≤ g) (hw : W64 zs) (hl : zs.length ≤ 17592186044416) {k : Nat} (hk : k ≤ zs.length) :
    OwnW B w (some ⟨g, 0, none⟩) k zs.length (zs.take k) := by
  refine ⟨⟨by simp; omega, .inr ⟨g, zs.length, wcells zs, rfl, hB, h, hk, by unfold maxLen; omega, by simp [wcells], ?_⟩⟩, by simp; omega, hw.take k⟩
  simp [wcells, List.map_take]
theorem WordsAt.sl {w : World} {g : Nat} {zs : List Nat} (h : WordsAt w g zs) (hw : W64 zs) (hl : zs.length ≤ 17592186044416) {k : Nat} (hk : k ≤ zs.length) :
    SlW w (some ⟨g, 0, none⟩) k zs.length (zs.take k) := (h.own (Nat.zero_le _) hw hl hk).sl
section
variable {P : Program} {ops : Array Oper} {rest : List Oper} {Q : Exit → Act → World → Prop} {a : Act} {w : World} {d : Option Tmp} {x y : Operand} {T : TypeId} {pos : String} {af : Array Edge} {gd : Option (Nat × Bool)}
theorem gate_make (ty : Nat) (h : wpList P ops Q ({ dst := d, op := .makeSlice ty x y, type := T, pos := pos, after := af, guard := gd } :: rest) a w) :
    wpList P ops Q ({ dst := d, op := .makeSlice ty x y, type := T, pos := pos, after := af, guard := gd } :: rest) a w := h
theorem made_words (n : Nat) : madeCells (Value.int .u64 0).cells (n * 1) = wcells (List.replicate n 0) := by
  apply Array.ext
  · simp [madeCells, wcells]
  · intro i h1 h2
    have e : (Value.int .u64 0).cells = #[.int .u64 0] := rfl
    simp [madeCells, wcells, wv, e, Nat.mod_one]
end
section
variable {ops : Array Oper} {rest : List Oper} {Q : Exit → Act → World → Prop} {a : Act} {w : World} {d : Option Tmp} {x y : Operand} {T : TypeId} {pos : String} {af : Array Edge}
/-- make([]uint64, n): the new block has a name, and so has the world. -/
theorem mk_words {w0 : World} (hB : Below w0.heap.size w0 w) (n : Nat) (hn : n ≤ 17592186044416)
    (h : ∀ (W : World) (g : Nat), w0.heap.size ≤ g → w.heap.size = g → Below w0.heap.size w0 W → Below w.heap.size w W → WordsAt W g (List.replicate n 0) → wpList Tryz.prog ops Q rest (a.put d (.slice (some ⟨g, 0, none⟩) n n)) W)
    (hx : a.eval x = .int .i64 (n : Nat) := by rfl) (hy : a.eval y = .int .i64 (n : Nat) := by rfl) :
    wpList Tryz.prog ops Q ({ dst := d, op := .makeSlice 36 x y, type := T, pos := pos, after := af, guard := none } :: rest) a w := by
  obtain ⟨i0, hi, hz0, hz1, hz2⟩ := info_parts u64_info
  have hr := run_make (P := Tryz.prog) w 36 22 i0 (.int .u64 0) Tryz.underlying36 hi hz0 .i64 .i64 (n : Nat) (n : Nat) (by omega) (Int.le_refl _) (by rw [hz2]; omega) (by omega)
  rw [hz1, Int.toNat_natCast, made_words] at hr
  have b2 : Below w.heap.size w (w.alloc (.cells (wcells (List.replicate n 0)) 22)) := (Below.refl _ _).alloc (Nat.le_refl _) _
  refine wpList_plain rfl fun K hK => ?_
  unfold Oper.wp execOp
  simp only [hx, hy, Sem.run_bind, hr, Result.andThen_ok]
  exact hK _ _ (h _ w.heap.size hB.size rfl (below_then hB b2) b2 (heap_new w _))
/-- A store of a word into such a block: it alone is another one. -/
theorem st_word {w0 : World} (hB : Below w0.heap.size w0 w) {g : Nat} {xs : List Nat} (hg : WordsAt w g xs) (hB0 : w0.heap.size ≤ g) (i n : Nat) (hi : i < xs.length)
    (h : ∀ W : World, Below w0.heap.size w0 W → (∀ k, k ≠ g → W.heap[k]? = w.heap[k]?) → W.heap.size = w.heap.size → WordsAt W g (xs.set i n) → wpList Tryz.prog ops Q rest (a.put d undef) W)
    (hx : a.eval x = .pointer (some ⟨g, i, none⟩) := by rfl) (hy : a.eval y = .int .u64 (n : Nat) := by rfl) :
    wpList Tryz.prog ops Q ({ dst := d, op := .store 22 x y, type := T, pos := pos, after := af, guard := none } :: rest) a w := by
  have h1 := hg.cell hi
  have h2 := hg.free i
  refine wpList_plain rfl fun K hK => ?_
  have hs : (Instr.storeAt 22 (.pointer (some ⟨g, i, none⟩)) (.int .u64 (n : Nat))).run Tryz.prog w = .ok () (w.setCell ⟨g, i, none⟩ (.int .u64 (n : Nat))) := by
    go_simp
  unfold Oper.wp execOp
  simp only [hx, hy, Sem.run_bind, hs, Result.andThen_ok]
  refine hK _ _ (h _ (hB.setCell hB0 _) (fun k hk => heap_set_other hk _ _) (size_set _ _ _) ?_)
  have := heap_set hg i (wv n)
  rw [wcells_set] at this
  exact this
end
theorem WordsAt.other {w W : World} {g h : Nat} {xs : List Nat} (hx : WordsAt w g xs) (hk : ∀ k, k ≠ h → W.heap[k]? = w.heap[k]?) (hne : g ≠ h) : WordsAt W g xs := (hk g hne).trans hx
theorem SlW.other {w W : World} {a : Option Addr} {len cap : Nat} {xs : List Nat} (h : SlW w a len cap xs) {g : Nat} (hk : ∀ k, k ≠ g → W.heap[k]? = w.heap[k]?) (hne : ∀ ad, a = some ad → ad.block ≠ g) : SlW W a len cap xs :=
  ⟨h.hlen, h.hle, h.hmax, h.hw, h.hnil, fun i hi => by
    obtain ⟨b, off, e, hc⟩ := h.hcell i hi
    exact ⟨b, off, e, by rw [World.cell?_of_block (w := w) (a := ⟨b, off + i, none⟩) (hk b (hne _ e))]; exact hc⟩⟩
/-- What Add64 and Sub64 tell: behind names, so that no walk opens them. -/
def addLo (x y c : Nat) : Nat := (x + y + c) % B64
def addHi (x y c : Nat) : Nat := (x + y + c) / B64
def subLo (x y c : Nat) : Nat := (x + B64 - y - c) % B64
def subHi (x y c : Nat) : Nat := if x < y + c then 1 else 0
def mulLo (x y : Nat) : Nat := x * y % B64
def mulHi (x y : Nat) : Nat := x * y / B64
theorem addLo_lt (x y c : Nat) : addLo x y c < B64 := Nat.mod_lt _ (by decide)
theorem subLo_lt (x y c : Nat) : subLo x y c < B64 := Nat.mod_lt _ (by decide)
theorem mulLo_lt (x y : Nat) : mulLo x y < B64 := Nat.mod_lt _ (by decide)
theorem add_eq (x y c : Nat) : addLo x y c + B64 * addHi x y c = x + y + c := by unfold addLo addHi; exact Nat.mod_add_div _ _
theorem addHi_le {x y c : Nat} (hx : x < B64) (hy : y < B64) (hc : c ≤ 1) : addHi x y c ≤ 1 := by unfold addHi B64 at *; omega
theorem subHi_le (x y c : Nat) : subHi x y c ≤ 1 := by unfold subHi; split <;> omega
theorem sub_eq {x y c : Nat} (hx : x < B64) (hy : y < B64) (hc : c ≤ 1) : subLo x y c + y + c = x + B64 * subHi x y c := by
  unfold subLo subHi B64 at *
  split <;> omega
theorem mul_eq (x y : Nat) : mulLo x y + B64 * mulHi x y = x * y := by unfold mulLo mulHi; exact Nat.mod_add_div _ _
theorem mulHi_le {x y : Nat} (hx : x < B64) (hy : y < B64) : mulHi x y ≤ B64 - 2 := by
  unfold mulHi
  have : x * y ≤ (B64 - 1) * (B64 - 1) := Nat.mul_le_mul (by omega) (by omega)
  have e : (B64 - 1) * (B64 - 1) < B64 * (B64 - 1) := by decide
  have : x * y / B64 < B64 - 1 := Nat.div_lt_of_lt_mul (by omega)
  omega
theorem run_add64 (x y c : Nat) (hc : c ≤ 1) (w : World) : (callFunc 46 #[.int .u64 (x : Nat), .int .u64 (y : Nat), .int .u64 (c : Nat)]).run Tryz.prog w =
    .ok (.value (.tuple #[.int .u64 (addLo x y c : Nat), .int .u64 (addHi x y c : Nat)])) w := by
  rw [run_callFunc_extern (e := add64Entry) Tryz.func46 (by kernel_rfl) (by kernel_rfl) (by kernel_rfl) (by kernel_rfl)]
  rw [Go.run_add64 (P := Tryz.prog) (x : Nat) (y : Nat) (c : Nat) (by omega) (by omega) (by omega) (by omega) w]
  rfl
theorem run_add64_0 (x c : Nat) (hc : c ≤ 1) (w : World) : (callFunc 46 #[.int .u64 (x : Nat), .int .u64 0, .int .u64 (c : Nat)]).run Tryz.prog w =
    .ok (.value (.tuple #[.int .u64 (addLo x 0 c : Nat), .int .u64 (addHi x 0 c : Nat)])) w := run_add64 x 0 c hc w
theorem run_add64_c0 (x y : Nat) (w : World) : (callFunc 46 #[.int .u64 (x : Nat), .int .u64 (y : Nat), .int .u64 0]).run Tryz.prog w =
    .ok (.value (.tuple #[.int .u64 (addLo x y 0 : Nat), .int .u64 (addHi x y 0 : Nat)])) w := run_add64 x y 0 (by omega) w
def sub64Entry : Array Value → Sem Value := fun args => do
  let (x, y, b) ← Extern.MathBitsCarry.three "Sub64" args
  pure (Extern.MathBitsCarry.pair ((x + Extern.MathBitsCarry.m64 - y - b) % Extern.MathBitsCarry.m64) (if x < y + b then 1 else 0))
theorem run_sub64 (x y c : Nat) (hc : c ≤ 1) (w : World) : (callFunc 49 #[.int .u64 (x : Nat), .int .u64 (y : Nat), .int .u64 (c : Nat)]).run Tryz.prog w =
    .ok (.value (.tuple #[.int .u64 (subLo x y c : Nat), .int .u64 (subHi x y c : Nat)])) w := by
  rw [run_callFunc_extern (e := sub64Entry) Tryz.func49 (by kernel_rfl) (by kernel_rfl) (by kernel_rfl) (by kernel_rfl)]
  rcases (show c = 0 ∨ c = 1 by omega) with rfl | rfl <;> rfl
theorem mul64_calls (x y : Nat) (hx : x < B64) (hy : y < B64) (w : World) :
    Calls Tryz.prog 45 #[.int .u64 (x : Nat), .int .u64 (y : Nat)] w fun e w' => e = .returned (.tuple #[.int .u64 (mulHi x y : Nat), .int .u64 (mulLo x y : Nat)]) ∧ w' = w := Tryz.bits_Mul64 x y hx hy w
/-! ### Sums, word by word -/
theorem val_snoc (l : List Nat) (r : Nat) : val (l ++ [r]) = val l + B64 ^ l.length * r := by rw [val_append]; simp [val]
theorem take_set_succ {zs : List Nat} {k : Nat} (h : k < zs.length) (r : Nat) : (zs.set k r).take (k + 1) = zs.take k ++ [r] := by
  rw [List.take_succ_eq_append_getElem (by simpa using h)]
  congr 1
  · rw [List.take_set_of_le (Nat.le_refl _)]
  · simp
theorem take_succ_getD {xs : List Nat} {k : Nat} (h : k < xs.length) : xs.take (k + 1) = xs.take k ++ [xs.getD k 0] := by
  rw [List.take_succ_eq_append_getElem h, List.getD_eq_getElem?_getD, List.getElem?_eq_getElem h]; rfl
/-- The number of the first k words, whatever the length. -/
def valTo (xs : List Nat) : Nat → Nat
  | 0 => 0
  | k + 1 => valTo xs k + B64 ^ k * xs.getD k 0
theorem valTo_take {xs : List Nat} (k : Nat) (h : k ≤ xs.length) : val (xs.take k) = valTo xs k := by
  induction k with
  | zero => simp [val, valTo]
  | succ k ih =>
    rw [take_succ_getD (by omega), val_snoc, ih (by omega), valTo, List.length_take, Nat.min_eq_left (by omega)]
theorem valTo_all {xs : List Nat} (k : Nat) (h : xs.length ≤ k) : valTo xs k = val xs := by
  induction k with
  | zero => have : xs = [] := List.eq_nil_of_length_eq_zero (by omega)
            subst this; rfl
  | succ k ih =>
    by_cases hk : xs.length = k + 1
    · rw [← valTo_take (k + 1) (by omega), List.take_of_length_le (by omega)]
    · rw [valTo, ih (by omega), List.getD_eq_getElem?_getD, List.getElem?_eq_none (by omega)]; simp
theorem valTo_set (xs : List Nat) (k r : Nat) : ∀ j, j ≤ k → valTo (xs.set k r) j = valTo xs j := by
  intro j
  induction j with
  | zero => intro _; rfl
  | succ j ih =>
    intro h
    rw [valTo, valTo, ih (by omega)]
    congr 2
    simp [List.getD_eq_getElem?_getD, show k ≠ j by omega]
theorem valTo_set_succ {xs : List Nat} {k : Nat} (h : k < xs.length) (r : Nat) : valTo (xs.set k r) (k + 1) = valTo xs k + B64 ^ k * r := by
  rw [valTo, valTo_set xs k r k (Nat.le_refl _)]
  simp [List.getD_eq_getElem?_getD, h]
theorem W64.set {xs : List Nat} (h : W64 xs) (i n : Nat) (hn : n < B64) : W64 (xs.set i n) := by
  intro x hx
  rcases List.mem_or_eq_of_mem_set hx with h1 | rfl
  · exact h x h1
  · exact hn
theorem W64.zeros (n : Nat) : W64 (List.replicate n 0) := by
  intro x hx; rw [List.eq_of_mem_replicate hx]; decide
theorem valTo_ge_sz {xs : List Nat} (k : Nat) (h : sz xs ≤ k) : valTo xs k = val xs := by
  by_cases hk : k ≤ xs.length
  · rw [← valTo_take k hk, val_take_drop xs k, val_zeros (xs := xs.drop k) fun i hi => ?_]
    · simp
    · have := sz_get_beyond (xs := xs) (k + i) (by omega)
      simpa [List.getD_eq_getElem?_getD, List.getElem?_drop] using this
  · exact valTo_all k (by omega)
theorem SlW.drew {w : World} {a : Option Addr} {len cap : Nat} {xs : List Nat} (h : SlW w a len cap xs) : SlW w.drew a len cap xs := ⟨h.hlen, h.hle, h.hmax, h.hw, h.hnil, h.hcell⟩
/-- A natural number that the call has made: its words, none of them a nought at the end. -/
def NatRes (w : World) (n bd : Nat) (e : Ending) (w' : World) : Prop :=
  ∃ a cap zs, e = .returned (.slice a zs.length cap) ∧ OwnW w.heap.size w' a zs.length cap zs ∧ val zs = n ∧ sz zs = zs.length ∧ zs.length ≤ bd ∧ Below w.heap.size w w'
/-- The end of many walks: 'out[:size(out)]'. -/
theorem natRes_mk {w w' : World} {g n bd N : Nat} {zs : List Nat} (hg : WordsAt w' g zs) (hB : w.heap.size ≤ g) (hw : W64 zs) (hN : zs.length = N) (hl : N ≤ 17592186044416) (hv : val zs = n) (hb : N ≤ bd) (hk : Below w.heap.size w w') :
    NatRes w n bd (.returned (.slice (some ⟨g, 0, none⟩) (sz zs) N)) w' := by
  subst hN
  have hs := sz_le zs
  have e : (zs.take (sz zs)).length = sz zs := by simp; omega
  refine ⟨some ⟨g, 0, none⟩, zs.length, zs.take (sz zs), ?_, ?_, ?_, ?_, ?_, hk⟩
  · rw [e]
  · rw [e]; exact hg.own hB hw hl hs
  · rw [val_take_sz, hv]
  · rw [sz_take_sz, e]
  · omega
theorem WordsAt.slAll {w : World} {g N : Nat} {zs : List Nat} (h : WordsAt w g zs) (hw : W64 zs) (hN : zs.length = N) (hl : N ≤ 17592186044416) : SlW w (some ⟨g, 0, none⟩) N N zs := by
  subst hN
  have := h.sl hw hl (Nat.le_refl _)
  rwa [List.take_length] at this
section
variable {ops : Array Oper} {rest : List Oper} {Q : Exit → Act → World → Prop} {a : Act} {w : World} {d : Option Tmp} {x y : Operand} {T : TypeId} {pos : String} {af : Array Edge}
theorem gate_append (ty : Nat) (h : wpList Tryz.prog ops Q ({ dst := d, op := .call { callee := .builtin .append, args := #[x, y], argTypes := #[ty, ty] }, type := T, pos := pos, after := af, guard := none } :: rest) a w) :
    wpList Tryz.prog ops Q ({ dst := d, op := .call { callee := .builtin .append, args := #[x, y], argTypes := #[ty, ty] }, type := T, pos := pos, after := af, guard := none } :: rest) a w := h
theorem wv_one (xs : List Nat) : ∀ u ∈ xs.map wv, u.oneCell' = true := by
  intro u hu; obtain ⟨x, _, rfl⟩ := List.mem_map.1 hu; rfl
/-- append(s, x...) onto words of the call's own. -/
theorem app_words {w0 : World} (hB : Below w0.heap.size w0 w) {sa xa : Option Addr} {sl sc xl xc : Nat} {xs ys : List Nat} (hs : OwnW w0.heap.size w sa sl sc xs) (hx : SlW w xa xl xc ys) (hp : Plain xa) (hlen : sl + xl ≤ 17592186044416)
    (h : ∀ (W : World) (a' : Option Addr) (c' : Nat), Below w0.heap.size w0 W → OwnW w0.heap.size W a' (sl + xl) c' (xs ++ ys) → wpList Tryz.prog ops Q rest (a.put d (.slice a' (sl + xl) c')) W)
    (he : a.eval x = .slice sa sl sc := by rfl) (hf : a.eval y = .slice xa xl xc := by rfl) :
    wpList Tryz.prog ops Q ({ dst := d, op := .call { callee := .builtin .append, args := #[x, y], argTypes := #[36, 36] }, type := T, pos := pos, after := af, guard := none } :: rest) a w := by
  obtain ⟨i0, hi, hz0, hz1, hz2⟩ := info_parts u64_info
  rcases hp with rfl | ⟨b, off, rfl⟩
  · have hc := hx.hnil rfl
    have hl : xl = 0 := by have := hx.hle; omega
    have hy : ys = [] := List.eq_nil_of_length_eq_zero (by rw [hx.hlen, hl])
    subst hc hl hy
    refine wpList_append_own_none rfl x y 36 rfl w0.heap.size 22 i0 1 Tryz.underlying36 hi _ sl _ he hs.own hf ?_
    have := h w sa sc hB (by simpa using hs)
    simpa using this
  · refine wpList_append_own _ rfl x y 36 rfl w0.heap.size 22 i0 (.int .u64 0) 1 8 Tryz.underlying36 hi hz0 hz1 hz2 rfl (by omega) _ sl _ he hs.own ⟨b, off, none⟩ xl xc (ys.map wv) hf (by simp [hx.hlen]) ?_ (wv_one ys) (by unfold maxLen; omega) (by omega) hB.size ?_
    · intro j u hu
      rw [List.getElem?_map] at hu
      cases hq : ys[j]? with
      | none => rw [hq] at hu; cases hu
      | some z =>
        rw [hq] at hu
        have hj := (List.getElem?_eq_some_iff.1 hq).1
        obtain ⟨b', off', e, hc⟩ := hx.hcell j (by rw [← hx.hlen]; exact hj)
        cases e
        rw [Addr.add_mid, hc]
        cases hu
        simp [wv, List.getD_eq_getElem?_getD, hq]
    · intro v' W ho hg _
      have hbel : Below w0.heap.size w0 W := hB.grown hg hB.size fun k hk => (hs.own.lt k hk).1
      have hw : W64 (xs ++ ys) := hs.hw.append hx.hw
      have hl : (xs ++ ys).length = sl + xl := by rw [List.length_append, hs.hlen, hx.hlen]
      rw [← List.map_append] at ho
      obtain ⟨a', c', rfl⟩ : ∃ a' c', v' = .slice a' (sl + xl) c' := by
        rcases ho.2 with ⟨rfl, h0⟩ | ⟨g, c, cur, rfl, _⟩
        · exact ⟨none, 0, by rw [h0]⟩
        · exact ⟨_, _, rfl⟩
      exact h W a' c' hbel ⟨ho, hl, hw⟩
end
end Go.Proofs.YtpodpdopgdkdkaaGreatDoor
