/- NatLaws: the walk over the law. -/
import Derived.Test.YthaplpenccpkpaaNatWord
namespace Go.Proofs.Ythaplpenccpkpaa
open Go.RowKit
theorem len_of_val {zs : List Nat} {n : Nat} (hz : sz zs = zs.length) (hv : val zs < B64 ^ n) : zs.length ≤ n := by
  rcases Nat.lt_or_ge n zs.length with h | h
  · exfalso
    obtain ⟨k, hk⟩ : ∃ k, zs.length = k + 1 := ⟨zs.length - 1, by omega⟩
    have h1 := sz_get_last (xs := zs) (by omega)
    rw [hz, hk, Nat.add_sub_cancel] at h1
    have h2 : valTo zs (k + 1) = valTo zs k + B64 ^ k * zs.getD k 0 := rfl
    rw [valTo_all (k + 1) (by omega)] at h2
    have h3 : B64 ^ k * 1 ≤ B64 ^ k * zs.getD k 0 := Nat.mul_le_mul_left _ (by omega)
    have h4 : B64 ^ n ≤ B64 ^ k := Nat.pow_le_pow_right (by decide) (by omega)
    omega
  · exact h
end Go.Proofs.Ythaplpenccpkpaa
