/- The contracts of nat.size, nat.Trim. -/
import Derived.Test.YthaplpenccpkpaaWordsRef
import Derived.Deep.QuietTactic
import Derived.BigQuiet
import Derived.StillTailTactics
namespace Go.Proofs.Ythaplpenccpkpaa
open Go.RowKit
set_option maxRecDepth 10000 in
set_option maxHeartbeats 1000000 in
theorem size_calls (w : World) (a : Option Addr) (len cap : Nat) (xs : List Nat) (h : SlW w a len cap xs) :
    Calls Try.prog 93 #[.slice a len cap] w fun e w' => e = .returned (.int .i64 (sz xs : Nat)) ∧ w' = w := by
  have hm : len ≤ 9223372036854775807 := by have := h.hle; have := h.hmax; omega
  have H := Lib.hid h
  clear h
  go_enter Try.func93, Try.ntmps93
  go_wp2_with fail
  go_loop [3] (fun i => ∃ k : Nat, k ≤ len ∧ i = .int .i64 k ∧ ∀ j, k ≤ j → j < len → xs.getD j 0 = 0) (fun i => (intOf i).toNat)
  case atStart => exact ⟨len, by omega, rfl, fun j h1 h2 => by omega⟩
  case round =>
    obtain ⟨k, hk, rfl, hz⟩ := hrel
    have HZ := Lib.hid hz
    clear hz
    by_cases hk0 : 0 < k
    · obtain ⟨b, off, rfl, hc⟩ := H.out.hcell (k - 1) (by omega)
      have h0 : (0 : Int) ≤ (k : Int) - 1 := by omega
      have e1 : ((k : Int) - 1).toNat = k - 1 := by omega
      by_cases hx : xs.getD (k - 1) 0 = 0
      · rw [hx] at hc
        have HX := Lib.hid hx
        clear hx
        go_wp2
        go_round
        case rel => exact ⟨k - 1, by omega, by rw [show ((k : Int) - 1) = ((k - 1 : Nat) : Int) by omega], fun j h1 h2 => by
          by_cases e : j = k - 1
          · rw [e]; exact HX.out
          · exact HZ.out j (by omega) h2⟩
        case measure => simp [intOf]; omega
      · obtain ⟨X, hX⟩ : ∃ X, xs.getD (k - 1) 0 = X := ⟨_, rfl⟩
        rw [hX] at hc hx
        have hX0 : (((X : Nat) : Int) == 0) = false := by simp; exact hx
        have HX := Lib.hid hX
        have HXn := Lib.hid hx
        clear hX hx
        go_wp2
        go_ret
        refine ⟨?_, rfl⟩
        rw [sz_unique (k := k) (by rw [H.out.hlen]; omega) (fun i h1 h2 => HZ.out i h1 (by rw [← H.out.hlen]; exact h2)) (.inr (by rw [HX.out]; exact HXn.out))]
        rfl
    · have hk1 : k = 0 := by omega
      subst hk1
      go_wp2
      go_ret
      refine ⟨?_, rfl⟩
      rw [sz_unique (xs := xs) (k := 0) (by omega) (fun i h1 h2 => HZ.out i h1 (by rw [← H.out.hlen]; exact h2)) (.inl rfl)]
      rfl

def wv (n : Nat) : Value := .int .u64 (n : Nat)
/-- A slice of words in memory of the call's own: below block B nothing of it lies. -/
structure OwnW (B : Nat) (w : World) (a : Option Addr) (len cap : Nat) (xs : List Nat) : Prop where
  own : w.ownsRow B 59 1 (.slice a len cap) len (xs.map wv)
  hlen : xs.length = len
  hw : W64 xs
theorem OwnW.sl {B : Nat} {w : World} {a : Option Addr} {len cap : Nat} {xs : List Nat} (h : OwnW B w a len cap xs) : SlW w a len cap xs := by
  obtain ⟨⟨h1, h2⟩, hl, hw⟩ := h
  rcases h2 with ⟨hv, hn⟩ | ⟨g, c, cur, hv, _, hg, hle, hm, hs, ht⟩
  · simp only [Value.slice.injEq] at hv
    obtain ⟨rfl, rfl, rfl⟩ := hv
    exact ⟨hl, by omega, by omega, hw, fun _ => rfl, fun i hi => by omega⟩
  · simp only [Value.slice.injEq] at hv
    obtain ⟨rfl, _, rfl⟩ := hv
    refine ⟨hl, hle, by unfold maxLen at hm; omega, hw, (fun e => by cases e), fun i hi => ⟨g, 0, rfl, ?_⟩⟩
    rw [cell_of_heap hg]
    have e1 : (cur.toList.take (len * 1))[i]? = some (wv (xs.getD i 0)) := by
      rw [ht, List.getElem?_map, List.getElem?_eq_getElem (by omega)]
      simp [List.getD_eq_getElem?_getD, List.getElem?_eq_getElem (show i < xs.length by omega)]
    rw [List.getElem?_take] at e1
    simp only [Nat.mul_one, Nat.zero_add] at e1 ⊢
    rw [if_pos hi] at e1
    simpa [wv] using e1
theorem OwnW.mono {B B' : Nat} {w : World} {a : Option Addr} {len cap : Nat} {xs : List Nat} (h : OwnW B w a len cap xs) (hb : B' ≤ B) : OwnW B' w a len cap xs := by
  obtain ⟨⟨h1, h2⟩, hl, hw⟩ := h
  refine ⟨⟨h1, ?_⟩, hl, hw⟩
  rcases h2 with h2 | ⟨g, c, cur, hv, hB, r⟩
  · exact .inl h2
  · exact .inr ⟨g, c, cur, hv, by omega, r⟩
theorem OwnW.keep {B : Nat} {w w' : World} {a : Option Addr} {len cap : Nat} {xs : List Nat} (h : OwnW B w a len cap xs) (hb : Below w.heap.size w w') : OwnW B w' a len cap xs := by
  obtain ⟨⟨h1, h2⟩, hl, hw⟩ := h
  refine ⟨⟨h1, ?_⟩, hl, hw⟩
  rcases h2 with h2 | ⟨g, c, cur, hv, hB, hg, r⟩
  · exact .inl h2
  · exact .inr ⟨g, c, cur, hv, hB, below_heap hb hg, r⟩
theorem SlW.take {w : World} {a : Option Addr} {len cap : Nat} {xs : List Nat} (h : SlW w a len cap xs) {k : Nat} (hk : k ≤ len) : SlW w a k cap (xs.take k) :=
  ⟨by rw [List.length_take, h.hlen]; omega, by have := h.hle; omega, h.hmax, h.hw.take k, h.hnil, fun i hi => by
    obtain ⟨b, off, e, hc⟩ := h.hcell i (by omega)
    exact ⟨b, off, e, by rw [hc]; simp [List.getD_eq_getElem?_getD, hi]⟩⟩
/-- The shape of an address that a slice may bear. -/
def Plain (a : Option Addr) : Prop := a = none ∨ ∃ b off, a = some ⟨b, off, none⟩
theorem u64_info : (Try.prog.info? 59).map (fun i => (i.zero, i.size, i.bytes)) = some (some (.int .u64 0), 1, 8) := by kernel_rfl
theorem clone_calls (w : World) (a : Option Addr) (len cap : Nat) (xs : List Nat) (h : SlW w a len cap xs) (hp : Plain a) (hs : len ≤ 17592186044416) :
    Calls Try.prog 92 #[.slice a len cap] w fun e w' => ∃ a' cap', e = .returned (.slice a' len cap') ∧ OwnW w.heap.size w' a' len cap' xs ∧ Below w.heap.size w w' := by
  rcases hp with rfl | ⟨b, off, rfl⟩
  · have h0 : len = 0 := by have := h.hnil rfl; have := h.hle; omega
    have hx : xs = [] := List.eq_nil_of_length_eq_zero (by rw [h.hlen, h0])
    subst h0 hx
    refine (Try.slices_Clone_nil 0 cap w).mono fun e w' ⟨he, hw⟩ => ⟨none, 0, he, ⟨⟨rfl, .inl ⟨rfl, rfl⟩⟩, rfl, W64.nil⟩, by rw [hw]; exact Below.refl _ _⟩
  · obtain ⟨i0, hi, hz0, hz1, hz2⟩ := info_parts u64_info
    refine (Try.slices_Clone i0 (.int .u64 0) 1 8 hi hz0 hz1 hz2 rfl (by omega) (Try.sizeOf59) b off len cap (xs.map wv) w (by simp [h.hlen]) (by unfold maxLen; omega) (by omega) ?_ ?_).mono ?_
    · intro j u hu
      rw [List.getElem?_map] at hu
      cases hx : xs[j]? with
      | none => rw [hx] at hu; cases hu
      | some x =>
        rw [hx] at hu
        have hj := (List.getElem?_eq_some_iff.1 hx).1
        obtain ⟨b', off', e, hc⟩ := h.hcell j (by rw [← h.hlen]; exact hj)
        cases e
        rw [hc]
        cases hu
        simp [wv, List.getD_eq_getElem?_getD, hx]
    · intro u hu
      obtain ⟨x, _, rfl⟩ := List.mem_map.1 hu
      rfl
    · rintro e w' ⟨v', rfl, ho, hne, hb⟩
      rcases ho.2 with ⟨rfl, h0⟩ | ⟨g, c, cur, rfl, r⟩
      · exact absurd rfl hne
      · exact ⟨_, _, rfl, ⟨ho, h.hlen, h.hw⟩, hb⟩
set_option maxRecDepth 10000 in
set_option maxHeartbeats 1000000 in
theorem trim_calls (w : World) (a : Option Addr) (len cap : Nat) (xs : List Nat) (h : SlW w a len cap xs) (hp : Plain a) (hs : len ≤ 17592186044416) :
    Calls Try.prog 59 #[.slice a len cap] w fun e w' => ∃ a' cap', e = .returned (.slice a' (sz xs) cap') ∧ OwnW w.heap.size w' a' (sz xs) cap' (xs.take (sz xs)) ∧ Below w.heap.size w w' := by
  have hz := h.sz_le
  have hle := h.hle
  have hm := h.hmax
  have H := Lib.hid h
  have HS := Lib.hid (size_calls w a len cap xs h)
  generalize hk : sz xs = k at hz HS ⊢
  have HK := Lib.hid hk
  clear h hk
  go_enter Try.func59, Try.ntmps59
  go_wp2_with fail
  refine HS.out.mono ?_
  rintro e w' ⟨rfl, rfl⟩
  go_wp2_with fail
  refine (clone_calls _ a k cap _ (H.out.take hz) hp (by omega)).mono ?_
  rintro e w2 ⟨a', cap', rfl, ho, hb⟩
  have HO := Lib.hid ho
  have HB := Lib.hid hb
  clear ho hb
  go_wp2
  go_ret
  exact ⟨a', cap', rfl, HO.out, HB.out⟩
end Go.Proofs.Ythaplpenccpkpaa
