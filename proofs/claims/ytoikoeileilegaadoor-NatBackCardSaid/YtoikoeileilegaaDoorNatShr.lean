/- The contracts of the reference's Shr and of nat.Shr. -/
import Derived.Test.YtoikoeileilegaaDoorRefRight
import Derived.Test.YtoikoeileilegaaDoorNatShl
namespace Go.Proofs.YtoikoeileilegaaDoor
open Go.RowKit
/-- What a shift to the right gives, and whether something goes out. -/
def shrVal (xs : List Nat) (n : Int) : Nat := if n < 1 then val xs else val xs / 2 ^ n.toNat
def shrGone (xs : List Nat) (n : Int) : Bool := if n < 1 then false else goneB (val xs % 2 ^ n.toNat)
theorem natRes2_out {w w1 : World} {n bd : Nat} {e : Ending} {v : Value} (h : NatRes w n bd e w1) : ∃ s, e = .returned s ∧ NatRes2 w n bd v (.returned (.tuple #[s, v])) w1 := by
  have h' := h
  obtain ⟨a', c', rs, rfl, _⟩ := h'
  exact ⟨_, rfl, h.two⟩
theorem gone_all {xs : List Nat} {k : Nat} (hk : sz xs = k) : goneB (val xs) = decide (0 < k) := by
  unfold goneB
  by_cases h : k = 0
  · have := sz_zero.1 (hk.trans h)
    simp [this, h]
  · have : val xs ≠ 0 := fun e => h (hk ▸ sz_zero.2 e)
    simp [this, Nat.pos_of_ne_zero h]
set_option maxRecDepth 10000 in
set_option maxHeartbeats 2000000 in
theorem refShr_calls (w : World) (a : Option Addr) (la ca : Nat) (xs : List Nat) (n : Int) (h0 : -9223372036854775808 ≤ n) (h1 : n ≤ 9223372036854775807) (ha : SlW w a la ca xs) (pa : Plain a) (sa : la ≤ 4398046511104) :
    Calls Tryd.prog 19 #[.slice a la ca, .int .i64 n] w (NatRes2 w (shrVal xs n) la (.bool (shrGone xs n))) := by
  unfold shrVal shrGone
  have HA := Lib.hid ha
  clear ha
  by_cases hneg : n < 1
  · rw [if_pos hneg, if_pos hneg]
    go_enter Tryd.func19, Tryd.ntmps19
    go_wp2_with fail
    refine (refTrim_calls _ a la ca xs HA.out pa (by omega)).mono ?_
    rintro e w1 hr
    obtain ⟨a', c', rs, rfl, r⟩ := hr
    have R := Lib.hid r
    clear r
    go_wp2
    go_ret2
    exact ⟨a', c', rs, rfl, R.out⟩
  · rw [if_neg hneg, if_neg hneg]
    obtain ⟨m, rfl⟩ : ∃ m : Nat, n = m := ⟨n.toNat, by omega⟩
    rw [Int.toNat_natCast]
    obtain ⟨q, hq⟩ : ∃ q, m / 64 = q := ⟨_, rfl⟩
    have hqi : (m : Int) / 64 = (q : Nat) := by omega
    by_cases hbig : la ≤ q
    · obtain ⟨k, hk⟩ : ∃ k, sz xs = k := ⟨_, rfl⟩
      have hkl : k ≤ la := by rw [← hk]; exact HA.out.sz_le
      have hz := shr_zero (n := m) (q := q) HA.out.hw (by rw [hk]; omega) (by omega)
      rw [hz.1, hz.2, gone_all hk]
      have HS := refSize_calls w a la ca xs HA.out
      rw [hk] at HS
      have HS2 := Lib.hid HS
      clear HS hk hz hq
      have hbig' : (la : Int) ≤ (q : Int) := by omega
      go_enter Tryd.func19, Tryd.ntmps19
      go_wp2_with fail
      refine HS2.out.mono ?_
      rintro e w' ⟨rfl, rfl⟩
      go_wp2
      go_ret2
      refine ⟨none, 0, [], ?_, ownW_nil _ _, rfl, rfl, Nat.zero_le _, Below.refl _ _⟩
      simp
    · have HR := Lib.hid (right_calls w a la ca xs m HA.out sa (by omega))
      have hbig' : (q : Int) < (la : Int) := by omega
      clear hq
      go_enter Tryd.func19, Tryd.ntmps19
      go_wp2_with fail
      refine HR.out.mono ?_
      rintro e w' ⟨a', c', rs, rfl, r⟩
      have R := Lib.hid r
      clear r
      go_wp2
      go_ret2
      exact ⟨a', c', rs, rfl, R.out⟩
theorem shrW_last {s x : Nat} : srS s x = shrW s x 0 := by
  unfold shrW loS srS
  rw [Nat.zero_mul]
  rfl
theorem SlW.drop {w : World} {b off len cap : Nat} {xs : List Nat} (h : SlW w (some ⟨b, off, none⟩) len cap xs) {q : Nat} (hq : q ≤ len) : SlW w (some ⟨b, off + q, none⟩) (len - q) (cap - q) (xs.drop q) := by
  have h1 := h.hle
  have h2 := h.hmax
  refine ⟨by rw [List.length_drop, h.hlen], by omega, by omega, h.hw.drop q, (fun e => by cases e), fun i hi => ⟨b, off + q, rfl, ?_⟩⟩
  obtain ⟨b', off', e, hc⟩ := h.hcell (q + i) (by omega)
  cases e
  rw [Nat.add_assoc, hc]
  simp [List.getD_eq_getElem?_getD, List.getElem?_drop]
/-- The two parts of what goes out, as nat.Shr asks for them. -/
theorem gone_parts {xs : List Nat} (hx : W64 xs) {q s n z x : Nat} (hs : s ≤ 64) (hn : n = 64 * q + s) (hz : sz (xs.take q) = z) (hxe : wd xs q % 2 ^ s = x) (hq : q ≤ xs.length) : goneB (val xs % 2 ^ n) = (decide (x ≠ 0) || decide (0 < z)) := by
  rw [hn, (shr_split hx hs).1, hxe, ← valTo_take q hq]
  by_cases h : x = 0
  · rw [h, Nat.mul_zero, Nat.add_zero, gone_all hz]
    simp
  · rw [gone_more h (Nat.pow_pos (by decide))]
    simp [h]
end Go.Proofs.YtoikoeileilegaaDoor
