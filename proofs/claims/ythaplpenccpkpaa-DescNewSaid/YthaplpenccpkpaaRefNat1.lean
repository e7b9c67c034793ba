/- The contracts of the reference's word, Cmp, Trim. -/
import Derived.Test.YthaplpenccpkpaaNatOps
namespace Go.Proofs.Ythaplpenccpkpaa
open Go.RowKit
/-- A word, behind a name that no walk opens. -/
def wd (xs : List Nat) (i : Nat) : Nat := xs.getD i 0
theorem wd_lt {xs : List Nat} (h : W64 xs) (i : Nat) : wd xs i < B64 := h.get i
theorem valTo_wd (xs : List Nat) (t : Nat) : valTo xs (t + 1) = valTo xs t + B64 ^ t * wd xs t := rfl
set_option maxRecDepth 10000 in
set_option maxHeartbeats 1000000 in
theorem word_of {w : World} {a : Option Addr} {len cap : Nat} {xs : List Nat} (h : SlW w a len cap xs) (i : Nat) :
    Calls Try.prog 64 #[.slice a len cap, .int .i64 (i : Nat)] w fun e w' => e = .returned (.int .u64 (wd xs i : Nat)) ∧ w = w' := by
  have m1 := h.hle
  have m2 := h.hmax
  by_cases hi : i < len
  · obtain ⟨b, off, rfl, hc⟩ := h.hcell i hi
    clear h
    unfold wd
    generalize xs.getD i 0 = X at hc ⊢
    go_enter Try.func64, Try.ntmps64
    go_wp2
    go_ret
    exact ⟨rfl, rfl⟩
  · have e : xs.getD i 0 = 0 := by rw [List.getD_eq_getElem?_getD, List.getElem?_eq_none (by rw [h.hlen]; omega)]; rfl
    unfold wd
    rw [e]
    clear h e
    go_enter Try.func64, Try.ntmps64
    go_wp2
    go_ret
    exact ⟨rfl, rfl⟩
set_option maxRecDepth 10000 in
set_option maxHeartbeats 1000000 in
theorem refCmp_calls (w : World) (a b : Option Addr) (la ca lb cb : Nat) (xs ys : List Nat) (ha : SlW w a la ca xs) (hb : SlW w b lb cb ys) :
    Calls Try.prog 62 #[.slice a la ca, .slice b lb cb] w fun e w' => e = .returned (.int .i64 (cmpI (val xs) (val ys))) ∧ w = w' := by
  have m1 := ha.hle
  have m2 := ha.hmax
  have m3 := hb.hle
  have m4 := hb.hmax
  have HX := Lib.hid ha.hw
  have HY := Lib.hid hb.hw
  have HZ : Hid (∀ j, max la lb ≤ j → xs.getD j 0 = ys.getD j 0) := fun j hj => by
    rw [List.getD_eq_getElem?_getD, List.getElem?_eq_none (by rw [ha.hlen]; omega), List.getD_eq_getElem?_getD, List.getElem?_eq_none (by rw [hb.hlen]; omega)]
  obtain ⟨M, hM⟩ : ∃ M, max la lb = M := ⟨_, rfl⟩
  rw [hM] at HZ
  have hM1 : max (la : Int) (lb : Int) = (M : Int) := by omega
  have hM2 : M ≤ 9223372036854775807 := by omega
  clear hM
  go_enter Try.func62, Try.ntmps62
  go_wp2_with fail
  go_loop [5] (fun i => ∃ t : Nat, t ≤ M ∧ i = .int .i64 ((t : Int) - 1) ∧ ∀ j, t ≤ j → xs.getD j 0 = ys.getD j 0) (fun i => (intOf i + 1).toNat)
  case atStart => exact ⟨M, by omega, by first | rfl | simp, HZ.out⟩
  case round =>
    obtain ⟨t, ht, rfl, hq⟩ := hrel
    have HQ := Lib.hid hq
    clear hq
    by_cases h0 : 0 < t
    · obtain ⟨u, rfl⟩ : ∃ u, t = u + 1 := ⟨t - 1, by omega⟩
      have e0 : (((u + 1 : Nat) : Int) - 1) = (u : Nat) := by omega
      rw [e0]
      rcases Nat.lt_trichotomy (xs.getD u 0) (ys.getD u 0) with hlt | heq | hgt
      · have HF := Lib.hid (cmpI_lt (lt_of_top u HX.out (fun j hj => HQ.out j (by omega)) hlt))
        have t2 : decide (wd xs u < wd ys u) = true := by simp only [decide_eq_true_eq]; exact hlt
        clear hlt
        go_wp2_with (go_at_call 64; refine (word_of (by assumption) _).mono ?_; rintro e w' ⟨rfl, rfl⟩)
        go_ret
        rw [HF.out]
        exact ⟨rfl, rfl⟩
      · have t2 : decide (wd xs u < wd ys u) = false := by simp only [decide_eq_false_iff_not]; unfold wd; omega
        have t3 : decide (wd ys u < wd xs u) = false := by simp only [decide_eq_false_iff_not]; unfold wd; omega
        have HE := Lib.hid heq
        clear heq
        go_wp2_with (go_at_call 64; refine (word_of (by assumption) _).mono ?_; rintro e w' ⟨rfl, rfl⟩)
        go_round
        case rel => exact ⟨u, by omega, by first | rfl | simp, fun j hj => by
          by_cases e : j = u
          · rw [e]; exact HE.out
          · exact HQ.out j (by omega)⟩
        case measure => simp [intOf]
      · have HF := Lib.hid (cmpI_gt (lt_of_top u HY.out (fun j hj => (HQ.out j (by omega)).symm) hgt))
        have t2 : decide (wd xs u < wd ys u) = false := by simp only [decide_eq_false_iff_not]; unfold wd; omega
        have t3 : decide (wd ys u < wd xs u) = true := by simp only [decide_eq_true_eq]; exact hgt
        clear hgt
        go_wp2_with (go_at_call 64; refine (word_of (by assumption) _).mono ?_; rintro e w' ⟨rfl, rfl⟩)
        go_ret
        rw [HF.out]
        exact ⟨rfl, rfl⟩
    · have ht0 : t = 0 := by omega
      subst ht0
      have HF := Lib.hid (cmpI_eq (val_eq_of_get fun i => HQ.out i (by omega)))
      go_wp2
      go_ret
      rw [HF.out]
      exact ⟨rfl, rfl⟩
theorem natRes_take {w W : World} {a : Option Addr} {k c bd : Nat} {xs : List Nat} (he : sz xs = k) (ho : OwnW w.heap.size W a (0 + k) c ([] ++ xs.take k)) (hb : Below w.heap.size w W) (hd : k ≤ bd) :
    NatRes w (val xs) bd (.returned (.slice a k c)) W := by
  subst he
  rw [Nat.zero_add, List.nil_append] at ho
  have e := ho.hlen
  refine ⟨a, c, xs.take (sz xs), by rw [e], by rw [e]; exact ho, val_take_sz xs, by rw [sz_take_sz, e], by omega, hb⟩
theorem trim_empty (w : World) : OwnW w.heap.size (w.alloc (.cells #[] 59)) (some ⟨w.heap.size, 0, none⟩) 0 0 [] :=
  ⟨⟨rfl, .inr ⟨w.heap.size, 0, #[], rfl, Nat.le_refl _, heap_new w _, Nat.le_refl _, by unfold maxLen; omega, rfl, rfl⟩⟩, rfl, W64.nil⟩
set_option maxRecDepth 10000 in
set_option maxHeartbeats 1000000 in
theorem refTrim_calls (w : World) (a : Option Addr) (len cap : Nat) (xs : List Nat) (h : SlW w a len cap xs) (hp : Plain a) (hs : len ≤ 17592186044416) :
    Calls Try.prog 65 #[.slice a len cap] w (NatRes w (val xs) len) := by
  have hm : len ≤ 9223372036854775807 := by have := h.hle; have := h.hmax; omega
  have mc := h.hle
  have md := h.hmax
  have H := Lib.hid h
  clear h
  go_enter Try.func65, Try.ntmps65
  go_wp2_with fail
  go_loop [3] (fun i => ∃ k : Nat, k ≤ len ∧ i = .int .i64 k ∧ ∀ j, k ≤ j → j < len → xs.getD j 0 = 0) (fun i => (intOf i).toNat)
  case atStart => exact ⟨len, by omega, rfl, fun j h1 h2 => by omega⟩
  case round =>
    obtain ⟨k, hk, rfl, hz⟩ := hrel
    have HZ := Lib.hid hz
    clear hz
    by_cases hk0 : 0 < k
    · obtain ⟨b, off, rfl, hc⟩ := H.out.hcell (k - 1) (by omega)
      have h0 : (0 : Int) ≤ (k : Int) - 1 := by omega
      have e1 : ((k : Int) - 1).toNat = k - 1 := by omega
      by_cases hx : xs.getD (k - 1) 0 = 0
      · rw [hx] at hc
        have HX := Lib.hid hx
        clear hx
        go_wp2
        go_round
        case rel => exact ⟨k - 1, by omega, by rw [show ((k : Int) - 1) = ((k - 1 : Nat) : Int) by omega], fun j h1 h2 => by
          by_cases e : j = k - 1
          · rw [e]; exact HX.out
          · exact HZ.out j (by omega) h2⟩
        case measure => simp [intOf]; omega
      · obtain ⟨X, hX⟩ : ∃ X, xs.getD (k - 1) 0 = X := ⟨_, rfl⟩
        rw [hX] at hc hx
        have hX0 : (((X : Nat) : Int) == 0) = false := by simp; exact hx
        have HX := Lib.hid hX
        have HXn := Lib.hid hx
        clear hX hx
        have HE := Lib.hid (show sz xs = k from sz_unique (by rw [H.out.hlen]; omega) (fun i h1 h2 => HZ.out i h1 (by rw [← H.out.hlen]; exact h2)) (.inr (by rw [HX.out]; exact HXn.out)))
        go_wp2_with ((with_reducible refine gate_append 69 ?_); refine app_words (w0 := w) (sa := some ⟨w.heap.size, 0, none⟩) (sc := 0) ((Below.refl _ _).alloc (Nat.le_refl _) _) (trim_empty w) ((H.out.take (k := k) (by omega)).below ((Below.refl _ _).alloc (Nat.le_refl _) _)) hp (by omega) (fun W a' c' hbW hoW => ?_); have HBW := Lib.hid hbW; have HOW := Lib.hid hoW; clear hbW hoW)
        go_ret
        exact natRes_take HE.out HOW.out HBW.out (by omega)
    · have hk1 : k = 0 := by omega
      subst hk1
      have HE := Lib.hid (show sz xs = 0 from sz_unique (xs := xs) (k := 0) (by omega) (fun i h1 h2 => HZ.out i h1 (by rw [← H.out.hlen]; exact h2)) (.inl rfl))
      go_wp2_with ((with_reducible refine gate_append 69 ?_); refine app_words (w0 := w) (sa := some ⟨w.heap.size, 0, none⟩) (sc := 0) ((Below.refl _ _).alloc (Nat.le_refl _) _) (trim_empty w) ((H.out.take (k := 0) (by omega)).below ((Below.refl _ _).alloc (Nat.le_refl _) _)) hp (by omega) (fun W a' c' hbW hoW => ?_); have HBW := Lib.hid hbW; have HOW := Lib.hid hoW; clear hbW hoW)
      go_ret
      exact natRes_take HE.out HOW.out HBW.out (by omega)
end Go.Proofs.Ythaplpenccpkpaa
