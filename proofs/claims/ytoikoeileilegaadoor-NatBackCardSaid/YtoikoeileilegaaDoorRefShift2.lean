/- The contract of the reference's Shl. -/
import Derived.Test.YtoikoeileilegaaDoorRefShift
namespace Go.Proofs.YtoikoeileilegaaDoor
open Go.RowKit
def shlErr (k : Nat) (n : Int) : Int := if n < 0 then 1 else if 2000 < k + (n.toNat + 63) / 64 then 4 else 0
def shlVal (xs : List Nat) (n : Int) : Nat := if n < 0 then 0 else if 2000 < sz xs + (n.toNat + 63) / 64 then 0 else val xs * 2 ^ n.toNat
set_option maxRecDepth 10000 in
set_option maxHeartbeats 2000000 in
theorem refShl_calls (w : World) (a : Option Addr) (la ca : Nat) (xs : List Nat) (n : Int) (h0 : -9223372036854775808 ≤ n) (h1 : n ≤ 9223372036854775807) (ha : SlW w a la ca xs) (pa : Plain a) (sa : la ≤ 4398046511104) :
    Calls Tryd.prog 17 #[.slice a la ca, .int .i64 n] w (NatRes2 w (shlVal xs n) (la + 2001) (.int .i64 (shlErr (sz xs) n))) := by
  have z1 := ha.sz_le
  have HA := Lib.hid ha
  have HS := Lib.hid (refSize_calls w a la ca xs ha)
  unfold shlVal shlErr
  generalize sz xs = k at z1 HS ⊢
  clear ha
  by_cases hneg : n < 0
  · rw [if_pos hneg, if_pos hneg]
    go_enter Tryd.func17, Tryd.ntmps17
    go_wp2
    go_ret2
    exact (natRes_nil (la + 2001) (Below.refl _ _)).two
  · rw [if_neg hneg, if_neg hneg]
    obtain ⟨m, rfl⟩ : ∃ m : Nat, n = m := ⟨n.toNat, by omega⟩
    rw [Int.toNat_natCast]
    clear hneg h0
    by_cases hbig : 128000 < m
    · rw [if_pos (by omega), if_pos (by omega)]
      have hbig' : (128000 : Int) < (m : Int) := by omega
      go_enter Tryd.func17, Tryd.ntmps17
      go_wp2
      go_ret2
      exact (natRes_nil (la + 2001) (Below.refl _ _)).two
    · obtain ⟨r, hr⟩ : ∃ r, (m + 63) / 64 = r := ⟨_, rfl⟩
      have hri : ((m : Int) + 63) / 64 = (r : Nat) := by omega
      have hrt : ((m : Int) + 63).tdiv 64 = (r : Nat) := by rw [Int.tdiv_eq_ediv_of_nonneg (by omega)]; exact hri
      obtain ⟨K, hK⟩ : ∃ K, k + r = K := ⟨_, rfl⟩
      have hK1 : (k : Int) + (r : Int) = (K : Nat) := by omega
      rw [hr, hK]
      by_cases hlt : 2000 < K
      · rw [if_pos hlt, if_pos hlt]
        go_enter Tryd.func17, Tryd.ntmps17
        go_wp2_with fail
        refine HS.out.mono ?_
        rintro e w' ⟨rfl, rfl⟩
        go_wp2
        go_ret2
        exact (natRes_nil (la + 2001) (Below.refl _ _)).two
      · rw [if_neg hlt, if_neg hlt]
        go_enter Tryd.func17, Tryd.ntmps17
        go_wp2_with fail
        refine HS.out.mono ?_
        rintro e w' ⟨rfl, rfl⟩
        go_wp2_with fail
        refine (refTrim_calls _ a la ca xs HA.out pa (by omega)).mono ?_
        rintro e w1 ⟨a1, c1, ts, rfl, t1, t2, t3, t4, t5⟩
        have TV := Lib.hid t2
        have TB := Lib.hid t5
        have HL := Lib.hid (left_calls w1 a1 ts.length c1 ts m t1.sl (by omega) (by omega))
        clear t1 t2 t3 t5
        go_wp2_with fail
        refine HL.out.mono ?_
        rintro e w3 hq
        have hr2 := natRes_trans TB.out (hq.le (bd' := la + 2001) (by omega))
        rw [TV.out] at hr2
        obtain ⟨a', c', rs, rfl, r1, r2, r3, r4, r5⟩ := hr2
        have R := Lib.hid (And.intro r1 (And.intro r2 (And.intro r3 (And.intro r4 r5))))
        clear r1 r2 r3 r4 r5 hq
        go_wp2
        go_ret2
        exact ⟨a', c', rs, rfl, R.out.1, R.out.2.1, R.out.2.2.1, R.out.2.2.2.1, R.out.2.2.2.2⟩
end Go.Proofs.YtoikoeileilegaaDoor
