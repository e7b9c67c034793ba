/- NatShifts: the contract of nat.Shl at every count; the walk over the law. -/
import Derived.Test.YthaplpenccpkpaaRefShift2
import Derived.Test.YthaplpenccpkpaaNatShr2
namespace Go.Proofs.Ythaplpenccpkpaa
open Go.RowKit
set_option maxRecDepth 10000 in
set_option maxHeartbeats 2000000 in
theorem shl_calls (w : World) (a : Option Addr) (la ca : Nat) (xs : List Nat) (n : Int) (h0 : -9223372036854775808 ≤ n) (h1 : n ≤ 9223372036854775807) (ha : SlW w a la ca xs) (sa : la ≤ 4398046511104) :
    Calls Try.prog 94 #[.slice a la ca, .int .i64 n] w (NatRes2 w (shlVal xs n) (la + 2001) (.int .i64 (shlErr (sz xs) n))) := by
  have z1 := ha.sz_le
  have HA := Lib.hid ha
  have HS := Lib.hid (size_calls w a la ca xs ha)
  have m1 := ha.hle
  have m2 := ha.hmax
  unfold shlVal shlErr
  by_cases hneg : n < 0
  · rw [if_pos hneg, if_pos hneg]
    generalize sz xs = k at z1 HS ⊢
    clear ha
    go_enter Try.func94, Try.ntmps94
    go_wp2_with fail
    refine HS.out.mono ?_
    rintro e w' ⟨rfl, rfl⟩
    go_wp2
    go_ret2
    exact (natRes_nil (la + 2001) (Below.refl _ _)).two
  · rw [if_neg hneg, if_neg hneg]
    obtain ⟨m, rfl⟩ : ∃ m : Nat, n = m := ⟨n.toNat, by omega⟩
    rw [Int.toNat_natCast]
    by_cases hlt : 2000 < sz xs + (m + 63) / 64
    · rw [if_pos hlt, if_pos hlt]
      generalize sz xs = k at z1 HS hlt ⊢
      clear ha hneg h0
      obtain ⟨q, hq⟩ : ∃ q, m / 64 = q := ⟨_, rfl⟩
      have hqi : (m : Int) / 64 = (q : Nat) := by omega
      by_cases hbig : 2000 < q
      · have hbig' : (2000 : Int) < (q : Nat) := by omega
        clear hq
        go_enter Try.func94, Try.ntmps94
        go_wp2_with fail
        refine HS.out.mono ?_
        rintro e w' ⟨rfl, rfl⟩
        go_wp2
        go_ret2
        exact (natRes_nil (la + 2001) (Below.refl _ _)).two
      · have hbig' : (q : Int) ≤ 2000 := by omega
        obtain ⟨r, hr⟩ : ∃ r, (m + 63) / 64 = r := ⟨_, rfl⟩
        have hm2 : m ≤ 130000 := by omega
        have hri : ((m : Int) + 63) / 64 = (r : Nat) := by omega
        obtain ⟨K, hK⟩ : ∃ K, k + r = K := ⟨_, rfl⟩
        have hK1 : (k : Int) + (r : Int) = (K : Nat) := by omega
        rw [hr, hK] at hlt
        have hlt' : (2000 : Int) < (K : Nat) := by omega
        clear hq hr hK
        go_enter Try.func94, Try.ntmps94
        go_wp2_with fail
        refine HS.out.mono ?_
        rintro e w' ⟨rfl, rfl⟩
        go_wp2
        go_ret2
        exact (natRes_nil (la + 2001) (Below.refl _ _)).two
    · rw [if_neg hlt, if_neg hlt]
      refine (shl_ok w a la ca xs m ha (by omega)).mono ?_
      rintro e w' ⟨a', c', rs, rfl, r1, r2, r3, r4, r5⟩
      exact ⟨a', c', rs, rfl, r1, r2, r3, by omega, r5⟩
theorem wf_i64 {n : Int} (h : (Lit.int .i64 n).wf = true) : -9223372036854775808 ≤ n ∧ n ≤ 9223372036854775807 := by
  have e1 : IntKind.i64.min = -9223372036854775808 := rfl
  have e2 : IntKind.i64.max = 9223372036854775807 := rfl
  simp [Lit.wf, e1, e2] at h
  omega
end Go.Proofs.Ythaplpenccpkpaa
