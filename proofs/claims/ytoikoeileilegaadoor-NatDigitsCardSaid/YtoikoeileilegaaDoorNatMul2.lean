/- The contracts of nat.Mul and the reference's Mul and Sub. -/
import Derived.Test.YtoikoeileilegaaDoorNatMul
namespace Go.Proofs.YtoikoeileilegaaDoor
open Go.RowKit
/-- A product's error. -/
def mulErr (k l : Nat) : Int := if 2000 < k + l then 4 else 0
/-- A product, or nothing. -/
def mulVal (xs ys : List Nat) : Nat := if 2000 < sz xs + sz ys then 0 else val xs * val ys
set_option maxRecDepth 10000 in
set_option maxHeartbeats 1000000 in
theorem mul_calls (w : World) (a b : Option Addr) (la ca lb cb : Nat) (xs ys : List Nat) (ha : SlW w a la ca xs) (hb : SlW w b lb cb ys) (sa : la ≤ 4398046511104) (sb : lb ≤ 4398046511104) :
    Calls Tryd.prog 13 #[.slice a la ca, .slice b lb cb] w (NatRes2 w (mulVal xs ys) 2000 (.int .i64 (mulErr (sz xs) (sz ys)))) := by
  have s1 : SzOf w a la ca (sz xs) := ⟨xs, ha, rfl⟩
  have s2 : SzOf w b lb cb (sz ys) := ⟨ys, hb, rfl⟩
  have z1 := ha.sz_le
  have z2 := hb.sz_le
  have m1 := ha.hle
  have m2 := ha.hmax
  have m3 := hb.hle
  have m4 := hb.hmax
  have hxw := ha.hw
  have hyw := hb.hw
  have HA := Lib.hid ha
  have HB := Lib.hid hb
  unfold mulVal
  have HVX : Hid (val (xs.take (sz xs)) = val xs) := val_take_sz xs
  have HVY : Hid (val (ys.take (sz ys)) = val ys) := val_take_sz ys
  generalize sz xs = k at s1 z1 HVX ⊢
  generalize sz ys = l at s2 z2 HVY ⊢
  clear ha hb hxw hyw
  obtain ⟨K, hK⟩ : ∃ K, k + l = K := ⟨_, rfl⟩
  unfold mulErr
  rw [hK]
  have HK := Lib.hid hK
  have hK1 : (k : Int) + (l : Int) = (K : Int) := by omega
  have hKm : K ≤ 8796093022208 := by omega
  by_cases hlt : 2000 < K
  · rw [if_pos hlt, if_pos hlt]
    go_enter Tryd.func13, Tryd.ntmps13
    go_wp2_with fail
    go_quiet ((go_at_call 40; exact Calls.quiet_of_same (size_of (by assumption) _)))
    have HB0 : Hid (Below w.heap.size w (w.drewN nq)) := below_drewN' (Below.refl _ _) nq
    go_wp2
    go_ret2
    exact (natRes_nil 2000 HB0.out).two
  · rw [if_neg hlt, if_neg hlt]
    go_enter Tryd.func13, Tryd.ntmps13
    go_wp2_with fail
    go_quiet ((go_at_call 40; exact Calls.quiet_of_same (size_of (by assumption) _)))
    have HB0 : Hid (Below w.heap.size w (w.drewN nq)) := below_drewN' (Below.refl _ _) nq
    go_wp2_with fail
    refine (product_calls _ a b k ca l cb _ _ ((HA.out.take z1).drewN nq) ((HB.out.take z2).drewN nq) (by omega) (by omega)).mono ?_
    rintro e w2 hr
    have hr2 := natRes_trans HB0.out (hr.le (bd' := 2000) (by omega))
    rw [HVX.out, HVY.out] at hr2
    obtain ⟨a', c', rs, rfl, r1, r2, r3, r4, r5⟩ := hr2
    have R := Lib.hid (And.intro r1 (And.intro r2 (And.intro r3 (And.intro r4 r5))))
    clear r1 r2 r3 r4 r5 hr
    go_wp2
    go_ret2
    exact ⟨a', c', rs, rfl, R.out.1, R.out.2.1, R.out.2.2.1, R.out.2.2.2.1, R.out.2.2.2.2⟩
set_option maxRecDepth 10000 in
set_option maxHeartbeats 1000000 in
theorem refMul_calls (w : World) (a b : Option Addr) (la ca lb cb : Nat) (xs ys : List Nat) (ha : SlW w a la ca xs) (hb : SlW w b lb cb ys) (sa : la ≤ 4398046511104) (sb : lb ≤ 4398046511104) (pa : Plain a) (pb : Plain b) :
    Calls Tryd.prog 14 #[.slice a la ca, .slice b lb cb] w (NatRes2 w (mulVal xs ys) (la + lb + 1) (.int .i64 (mulErr (sz xs) (sz ys)))) := by
  have z1 := ha.sz_le
  have z2 := hb.sz_le
  have m1 := ha.hle
  have m2 := ha.hmax
  have m3 := hb.hle
  have m4 := hb.hmax
  have HA := Lib.hid ha
  have HB := Lib.hid hb
  have HS1 := Lib.hid (refSize_calls w a la ca xs ha)
  have HS2 := Lib.hid (refSize_calls w b lb cb ys hb)
  unfold mulVal
  generalize sz xs = k at z1 HS1 ⊢
  generalize sz ys = l at z2 HS2 ⊢
  clear ha hb
  obtain ⟨K, hK⟩ : ∃ K, k + l = K := ⟨_, rfl⟩
  unfold mulErr
  rw [hK]
  have HK := Lib.hid hK
  have hK1 : (k : Int) + (l : Int) = (K : Int) := by omega
  have hKm : K ≤ 8796093022208 := by omega
  by_cases hlt : 2000 < K
  · rw [if_pos hlt, if_pos hlt]
    go_enter Tryd.func14, Tryd.ntmps14
    go_wp2_with fail
    refine HS1.out.mono ?_
    rintro e w' ⟨rfl, rfl⟩
    go_wp2_with fail
    refine HS2.out.mono ?_
    rintro e w' ⟨rfl, rfl⟩
    go_wp2
    go_ret2
    exact (natRes_nil (la + lb + 1) (Below.refl _ _)).two
  · rw [if_neg hlt, if_neg hlt]
    go_enter Tryd.func14, Tryd.ntmps14
    go_wp2_with fail
    refine HS1.out.mono ?_
    rintro e w' ⟨rfl, rfl⟩
    go_wp2_with fail
    refine HS2.out.mono ?_
    rintro e w' ⟨rfl, rfl⟩
    go_wp2_with fail
    refine (refTrim_calls _ a la ca xs HA.out pa (by omega)).mono ?_
    rintro e w1 ⟨a1, c1, ts, rfl, t1, t2, t3, t4, t5⟩
    have TO := Lib.hid t1
    have TV := Lib.hid t2
    have TB := Lib.hid t5
    clear t1 t2 t3 t5
    go_wp2_with fail
    refine (refTrim_calls _ b lb cb ys (HB.out.below TB.out) pb (by omega)).mono ?_
    rintro e w2 ⟨a2, c2, us, rfl, t1, t2, t3, t6, t5⟩
    have UO := Lib.hid t1
    have UV := Lib.hid t2
    have UB := Lib.hid t5
    clear t1 t2 t3 t5
    go_wp2_with fail
    refine (refTimes_calls _ a1 a2 _ c1 _ c2 _ _ (TO.out.keep UB.out).sl UO.out.sl (by omega) (by omega)).mono ?_
    rintro e w3 hr
    have hr2 := natRes_trans (below_then TB.out UB.out) (hr.le (bd' := la + lb + 1) (by omega))
    rw [TV.out, UV.out] at hr2
    obtain ⟨a', c', rs, rfl, r1, r2, r3, r4, r5⟩ := hr2
    have R := Lib.hid (And.intro r1 (And.intro r2 (And.intro r3 (And.intro r4 r5))))
    clear r1 r2 r3 r4 r5 hr
    go_wp2
    go_ret2
    exact ⟨a', c', rs, rfl, R.out.1, R.out.2.1, R.out.2.2.1, R.out.2.2.2.1, R.out.2.2.2.2⟩
/-- A difference's error. -/
def subErr (x y : Nat) : Int := if x < y then 3 else 0
theorem cmpI_neg (x y : Nat) : decide (cmpI x y < 0) = decide (x < y) := by
  unfold cmpI
  split
  · simp; omega
  · split <;> simp <;> omega
set_option maxRecDepth 10000 in
set_option maxHeartbeats 1000000 in
theorem refSub_calls (w : World) (a b : Option Addr) (la ca lb cb : Nat) (xs ys : List Nat) (ha : SlW w a la ca xs) (hb : SlW w b lb cb ys) (sa : la ≤ 4398046511104) (sb : lb ≤ 4398046511104) :
    Calls Tryd.prog 24 #[.slice a la ca, .slice b lb cb] w (NatRes2 w (val xs - val ys) (max la lb) (.int .i64 (subErr (val xs) (val ys)))) := by
  have m1 := ha.hle
  have m2 := ha.hmax
  have m3 := hb.hle
  have m4 := hb.hmax
  have HC := Lib.hid (refCmp_calls w a b la ca lb cb xs ys ha hb)
  have hn := cmpI_neg (val xs) (val ys)
  generalize cmpI (val xs) (val ys) = C at HC hn
  unfold subErr
  by_cases hlt : val xs < val ys
  · rw [if_pos hlt, show val xs - val ys = 0 by omega]
    rw [show decide (val xs < val ys) = true by simp; exact hlt] at hn
    clear hlt ha hb
    go_enter Tryd.func24, Tryd.ntmps24
    go_wp2_with fail
    refine HC.out.mono ?_
    rintro e w' ⟨rfl, rfl⟩
    go_wp2
    go_ret2
    exact (natRes_nil (max la lb) (Below.refl _ _)).two
  · rw [if_neg hlt]
    rw [show decide (val xs < val ys) = false by simp; omega] at hn
    have HL := Lib.hid (refLess_calls w a b la ca lb cb xs ys ha hb (by omega) (by omega) (by omega))
    clear hlt ha hb
    go_enter Tryd.func24, Tryd.ntmps24
    go_wp2_with fail
    refine HC.out.mono ?_
    rintro e w' ⟨rfl, rfl⟩
    go_wp2_with fail
    refine HL.out.mono ?_
    rintro e w3 ⟨a', c', rs, rfl, r1, r2, r3, r4, r5⟩
    have R := Lib.hid (And.intro r1 (And.intro r2 (And.intro r3 (And.intro r4 r5))))
    clear r1 r2 r3 r4 r5
    go_wp2
    go_ret2
    exact ⟨a', c', rs, rfl, R.out.1, R.out.2.1, R.out.2.2.1, R.out.2.2.2.1, R.out.2.2.2.2⟩
end Go.Proofs.YtoikoeileilegaaDoor
