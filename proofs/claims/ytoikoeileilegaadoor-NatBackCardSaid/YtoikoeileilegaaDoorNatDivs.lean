/- The contracts of nat.Div and the reference's Div; NatDivs: the walk over the law. -/
import Derived.Test.YtoikoeileilegaaDoorNatOver
namespace Go.Proofs.YtoikoeileilegaaDoor
open Go.RowKit
/-- Two natural numbers that the call has made, and a number beside them. -/
def NatTrip (w : World) (n m bd bd' : Nat) (v : Value) (e : Ending) (w' : World) : Prop :=
  ∃ s1 s2, e = .returned (.tuple #[s1, s2, v]) ∧ NatRes w n bd (.returned s1) w' ∧ NatRes w m bd' (.returned s2) w'
theorem NatPair.trip {w w' : World} {n m bd bd' : Nat} {s1 s2 v : Value} (h : NatPair w n m bd bd' (.returned (.tuple #[s1, s2])) w') : NatTrip w n m bd bd' v (.returned (.tuple #[s1, s2, v])) w' := by
  obtain ⟨a, c, zs, a', c', ys, he, r, t, hb⟩ := h
  cases he
  exact ⟨_, _, rfl, ⟨a, c, zs, rfl, r.1, r.2.1, r.2.2.1, r.2.2.2, hb⟩, ⟨a', c', ys, rfl, t.1, t.2.1, t.2.2.1, t.2.2.2, hb⟩⟩
set_option maxRecDepth 10000 in
set_option maxHeartbeats 2000000 in
theorem divNo_calls (w : World) (a b : Option Addr) (la ca lb cb : Nat) (xs ys : List Nat) (ha : SlW w a la ca xs) (hb : SlW w b lb cb ys) (h0 : sz ys = 0) :
    Calls Tryd.prog 31 #[.slice a la ca, .slice b lb cb] w (NatTrip w 0 0 0 0 (.int .i64 1)) := by
  have m1 := ha.hle
  have m2 := ha.hmax
  have m3 := hb.hle
  have m4 := hb.hmax
  have z1 := ha.sz_le
  have HSA : SzOf w a la ca (sz xs) := ⟨xs, ha, rfl⟩
  have HSB : SzOf w b lb cb 0 := ⟨ys, hb, h0⟩
  clear ha hb h0
  generalize sz xs = k at z1 HSA
  go_enter Tryd.func31, Tryd.ntmps31
  go_wp2_with fail
  go_quiet ((go_at_call 40; exact Calls.quiet_of_same (size_of (by assumption) _)))
  go_wp2
  go_ret3
  exact ⟨_, _, rfl, natRes_nil 0 (below_drewN' (Below.refl _ _) _), natRes_nil 0 (below_drewN' (Below.refl _ _) _)⟩
set_option maxRecDepth 10000 in
set_option maxHeartbeats 2000000 in
theorem divOk_calls (w : World) (a b : Option Addr) (la ca lb cb : Nat) (xs ys : List Nat) (ha : SlW w a la ca xs) (hb : SlW w b lb cb ys) (pa : Plain a) (sa : la ≤ 2000) (sb : lb ≤ 2000) (h0 : 0 < sz ys) :
    Calls Tryd.prog 31 #[.slice a la ca, .slice b lb cb] w (NatTrip w (val xs / val ys) (val xs % val ys) (la + 2) (la + lb + 2) (.int .i64 0)) := by
  have m1 := ha.hle
  have m2 := ha.hmax
  have m3 := hb.hle
  have m4 := hb.hmax
  have z1 := ha.sz_le
  have z2 := hb.sz_le
  have HSA : SzOf w a la ca (sz xs) := ⟨xs, ha, rfl⟩
  have HSB : SzOf w b lb cb (sz ys) := ⟨ys, hb, rfl⟩
  have HQ := Lib.hid (fun m => quotient_calls (w.drewN m) a b _ ca _ cb _ _ ((ha.take z1).drewN m) ((hb.take z2).drewN m) pa (by omega) (by omega) (sz_take_sz xs) (sz_take_sz ys) h0)
  rw [val_take_sz, val_take_sz] at HQ
  clear ha hb
  generalize sz xs = k at z1 HSA HQ
  generalize sz ys = l at z2 HSB HQ h0
  have hl0 : ((l : Int) == 0) = false := by simp; omega
  go_enter Tryd.func31, Tryd.ntmps31
  go_wp2_with fail
  go_quiet ((go_at_call 40; exact Calls.quiet_of_same (size_of (by assumption) _)))
  go_wp2_with fail
  refine (HQ.out nq).mono ?_
  rintro e w2 hp
  have hp2 := natPair_trans (below_drewN' (Below.refl w.heap.size w) nq) (hp.le (c1 := la + 2) (c2 := la + lb + 2) (by omega) (by omega))
  obtain ⟨a1, c1, z1, a2, c2, z2, rfl, q, t, hb2⟩ := hp2
  have R := Lib.hid (And.intro q (And.intro t hb2))
  clear q t hb2 hp
  go_wp2
  go_ret3
  exact NatPair.trip ⟨a1, c1, z1, a2, c2, z2, rfl, R.out.1, R.out.2.1, R.out.2.2⟩
set_option maxRecDepth 10000 in
set_option maxHeartbeats 2000000 in
theorem refDivNo_calls (w : World) (a b : Option Addr) (la ca lb cb : Nat) (ys : List Nat) (hb : SlW w b lb cb ys) (h0 : sz ys = 0) :
    Calls Tryd.prog 32 #[.slice a la ca, .slice b lb cb] w (NatTrip w 0 0 0 0 (.int .i64 1)) := by
  have HS := refSize_calls w b lb cb ys hb
  rw [h0] at HS
  have H := Lib.hid HS
  clear HS hb h0
  go_enter Tryd.func32, Tryd.ntmps32
  go_wp2_with fail
  refine H.out.mono ?_
  rintro e w' ⟨rfl, rfl⟩
  go_wp2
  go_ret3
  exact ⟨_, _, rfl, natRes_nil 0 (Below.refl _ _), natRes_nil 0 (Below.refl _ _)⟩
set_option maxRecDepth 10000 in
set_option maxHeartbeats 2000000 in
theorem refDivOk_calls (w : World) (a b : Option Addr) (la ca lb cb : Nat) (xs ys : List Nat) (ha : SlW w a la ca xs) (hb : SlW w b lb cb ys) (pa : Plain a) (pb : Plain b) (sa : la ≤ 2000) (sb : lb ≤ 2000) (h0 : 0 < sz ys) :
    Calls Tryd.prog 32 #[.slice a la ca, .slice b lb cb] w (NatTrip w (val xs / val ys) (val xs % val ys) (la + 2) (la + lb + 2) (.int .i64 0)) := by
  have m1 := ha.hle
  have m2 := ha.hmax
  have m3 := hb.hle
  have m4 := hb.hmax
  have z1 := ha.sz_le
  have z2 := hb.sz_le
  have HA := Lib.hid ha
  have HB := Lib.hid hb
  have H1 := Lib.hid (refSize_calls w a la ca xs ha)
  have H2 := Lib.hid (refSize_calls w b lb cb ys hb)
  have HY0 : Hid (val ys ≠ 0) := Lib.hid fun e => by have := sz_zero.2 e; omega
  clear ha hb
  generalize sz xs = k at z1 H1
  generalize sz ys = l at z2 H2 h0
  have hl0 : ((l : Int) == 0) = false := by simp; omega
  go_enter Tryd.func32, Tryd.ntmps32
  go_wp2_with fail
  refine H2.out.mono ?_
  rintro e w' ⟨rfl, rfl⟩
  go_wp2_with fail
  refine H1.out.mono ?_
  rintro e w' ⟨rfl, rfl⟩
  go_wp2_with fail
  refine H2.out.mono ?_
  rintro e w' ⟨rfl, rfl⟩
  go_wp2_with fail
  refine (refTrim_calls _ a la ca xs HA.out pa (by omega)).mono ?_
  rintro e w1 ⟨a1, c1, us, rfl, r1, r2, r3, r4, r5⟩
  have R1 := Lib.hid (And.intro r1 (And.intro r2 (And.intro r3 r4)))
  have HB1 := Lib.hid r5
  clear r1 r2 r3 r4 r5
  go_wp2_with fail
  refine (refTrim_calls _ b lb cb ys (HB.out.below HB1.out) pb (by omega)).mono ?_
  rintro e w2 ⟨a2, c2, vs, rfl, r1, r2, r3, r4, r5⟩
  have hv0 : 0 < sz vs := Nat.pos_of_ne_zero fun e => HY0.out (by rw [← r2]; exact sz_zero.1 e)
  have HO := Lib.hid (over_calls w2 a1 a2 _ c1 _ c2 us vs (R1.out.1.keep r5).sl r1.sl R1.out.1.plain (by have := R1.out.2.2.2; omega) (by omega) r3 (by omega))
  rw [R1.out.2.1, r2] at HO
  have HB2 := Lib.hid (below_then HB1.out r5)
  have hul := R1.out.2.2.2
  clear r1 r2 r3 r5
  go_wp2_with fail
  refine HO.out.mono ?_
  rintro e w3 hp
  have hp2 := natPair_trans HB2.out (hp.le (c1 := la + 2) (c2 := la + lb + 2) (by omega) (by omega))
  obtain ⟨a1, c1, z1, a2, c2, z2, rfl, q, t, hb2⟩ := hp2
  have R := Lib.hid (And.intro q (And.intro t hb2))
  clear q t hb2 hp
  go_wp2
  go_ret3
  exact NatPair.trip ⟨a1, c1, z1, a2, c2, z2, rfl, R.out.1, R.out.2.1, R.out.2.2⟩
end Go.Proofs.YtoikoeileilegaaDoor
