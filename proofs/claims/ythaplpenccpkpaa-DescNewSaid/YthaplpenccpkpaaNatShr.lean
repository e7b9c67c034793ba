/- The contracts of the reference's Shr and of nat.Shr. -/
import Derived.Test.YthaplpenccpkpaaRefRight
import Derived.Test.YthaplpenccpkpaaNatShl
namespace Go.Proofs.Ythaplpenccpkpaa
open Go.RowKit
/-- What a shift to the right gives, and whether something goes out. -/
def shrVal (xs : List Nat) (n : Int) : Nat := if n < 1 then val xs else val xs / 2 ^ n.toNat
def shrGone (xs : List Nat) (n : Int) : Bool := if n < 1 then false else goneB (val xs % 2 ^ n.toNat)
theorem natRes2_out {w w1 : World} {n bd : Nat} {e : Ending} {v : Value} (h : NatRes w n bd e w1) : ∃ s, e = .returned s ∧ NatRes2 w n bd v (.returned (.tuple #[s, v])) w1 := by
  have h' := h
  obtain ⟨a', c', rs, rfl, _⟩ := h'
  exact ⟨_, rfl, h.two⟩
theorem gone_all {xs : List Nat} {k : Nat} (hk : sz xs = k) : goneB (val xs) = decide (0 < k) := by
  unfold goneB
  by_cases h : k = 0
  · have := sz_zero.1 (hk.trans h)
    simp [this, h]
  · have : val xs ≠ 0 := fun e => h (hk ▸ sz_zero.2 e)
    simp [this, Nat.pos_of_ne_zero h]
theorem shrW_last {s x : Nat} : srS s x = shrW s x 0 := by
  unfold shrW loS srS
  rw [Nat.zero_mul]
  rfl
theorem SlW.drop {w : World} {b off len cap : Nat} {xs : List Nat} (h : SlW w (some ⟨b, off, none⟩) len cap xs) {q : Nat} (hq : q ≤ len) : SlW w (some ⟨b, off + q, none⟩) (len - q) (cap - q) (xs.drop q) := by
  have h1 := h.hle
  have h2 := h.hmax
  refine ⟨by rw [List.length_drop, h.hlen], by omega, by omega, h.hw.drop q, (fun e => by cases e), fun i hi => ⟨b, off + q, rfl, ?_⟩⟩
  obtain ⟨b', off', e, hc⟩ := h.hcell (q + i) (by omega)
  cases e
  rw [Nat.add_assoc, hc]
  simp [List.getD_eq_getElem?_getD, List.getElem?_drop]
/-- The two parts of what goes out, as nat.Shr asks for them. -/
theorem gone_parts {xs : List Nat} (hx : W64 xs) {q s n z x : Nat} (hs : s ≤ 64) (hn : n = 64 * q + s) (hz : sz (xs.take q) = z) (hxe : wd xs q % 2 ^ s = x) (hq : q ≤ xs.length) : goneB (val xs % 2 ^ n) = (decide (x ≠ 0) || decide (0 < z)) := by
  rw [hn, (shr_split hx hs).1, hxe, ← valTo_take q hq]
  by_cases h : x = 0
  · rw [h, Nat.mul_zero, Nat.add_zero, gone_all hz]
    simp
  · rw [gone_more h (Nat.pow_pos (by decide))]
    simp [h]
end Go.Proofs.Ythaplpenccpkpaa
