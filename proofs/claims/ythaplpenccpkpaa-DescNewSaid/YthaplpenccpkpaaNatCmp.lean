/- The contract of nat.Cmp. -/
import Derived.Test.YthaplpenccpkpaaNat1
namespace Go.Proofs.Ythaplpenccpkpaa
open Go.RowKit
/-- The same, the draws of an order counted. -/
theorem size_quiet (w : World) (a : Option Addr) (len cap : Nat) (xs : List Nat) (h : SlW w a len cap xs) (m : Nat) :
    Calls Try.prog 93 #[.slice a len cap] (w.drewN m) fun e w' => e = .returned (.int .i64 (sz xs : Nat)) ∧ w' = w.drewN m :=
  size_calls _ a len cap xs ⟨h.hlen, h.hle, h.hmax, h.hw, h.hnil, h.hcell⟩
theorem SlW.drewN {w : World} {a : Option Addr} {len cap : Nat} {xs : List Nat} (h : SlW w a len cap xs) (m : Nat) : SlW (w.drewN m) a len cap xs := ⟨h.hlen, h.hle, h.hmax, h.hw, h.hnil, h.hcell⟩
theorem drewN2 (w : World) (m n : Nat) : (w.drewN m).drewN n = w.drewN (m + n) := by simp [World.drewN, Nat.add_assoc]
theorem below_drewN' {B : Nat} {a w : World} (h : Below B a w) (n : Nat) : Below B a (w.drewN n) := ⟨h.os, h.tape, h.output, h.size, h.block⟩
/-- A slice whose size is k. -/
def SzOf (w : World) (a : Option Addr) (len cap k : Nat) : Prop := ∃ xs, SlW w a len cap xs ∧ sz xs = k
theorem size_of {w : World} {a : Option Addr} {len cap k : Nat} (h : SzOf w a len cap k) (m : Nat) :
    Calls Try.prog 93 #[.slice a len cap] (w.drewN m) fun e w' => e = .returned (.int .i64 (k : Nat)) ∧ w' = w.drewN m := by
  obtain ⟨xs, h1, rfl⟩ := h
  exact size_quiet w a len cap xs h1 m
set_option maxRecDepth 10000 in
set_option maxHeartbeats 1000000 in
theorem cmp_calls (w : World) (a b : Option Addr) (la ca lb cb : Nat) (xs ys : List Nat) (ha : SlW w a la ca xs) (hb : SlW w b lb cb ys) :
    Calls Try.prog 109 #[.slice a la ca, .slice b lb cb] w fun e w' => e = .returned (.int .i64 (cmpI (val xs) (val ys))) ∧ ∃ m, w' = w.drewN m := by
  have s1 : SzOf w a la ca (sz xs) := ⟨xs, ha, rfl⟩
  have s2 : SzOf w b lb cb (sz ys) := ⟨ys, hb, rfl⟩
  have z1 := ha.sz_le
  have z2 := hb.sz_le
  have m1 := ha.hle
  have m2 := ha.hmax
  have m3 := hb.hle
  have m4 := hb.hmax
  have HA := Lib.hid ha
  have HB := Lib.hid hb
  generalize hk : sz xs = k at s1 z1
  generalize hl : sz ys = l at s2 z2
  have HK := Lib.hid hk
  have HL := Lib.hid hl
  clear ha hb hk hl
  go_enter Try.func109, Try.ntmps109
  go_wp2_with fail
  go_quiet ((go_at_call 93; exact Calls.quiet_of_same (size_of (by assumption) _)))
  have hxw := HA.out.hw
  have hyw := HB.out.hw
  have HX := Lib.hid hxw
  have HY := Lib.hid hyw
  clear hxw hyw s1 s2
  by_cases hkl : k = l
  · subst hkl
    go_wp2_with fail
    go_loopw [5] (fun i wr => ∃ (t m : Nat), t ≤ k ∧ i = .int .i64 ((t : Int) - 1) ∧ wr = w.drewN m ∧ ∀ j, t ≤ j → xs.getD j 0 = ys.getD j 0) (fun i _ => (intOf i + 1).toNat)
    case atStart => exact ⟨k, nq, by omega, rfl, rfl, fun j hj => by rw [sz_get_beyond j (by rw [HK.out]; omega), sz_get_beyond j (by rw [HL.out]; omega)]⟩
    case round =>
      obtain ⟨t, m, ht, rfl, rfl, hq⟩ := hrel
      have HQ := Lib.hid hq
      clear hq
      by_cases h0 : 0 < t
      · obtain ⟨p, o, rfl, hx⟩ := HA.out.hcell (t - 1) (by omega)
        obtain ⟨p', o', rfl, hy⟩ := HB.out.hcell (t - 1) (by omega)
        have h1 : (0 : Int) ≤ (t : Int) - 1 := by omega
        have e1 : ((t : Int) - 1).toNat = t - 1 := by omega
        rcases Nat.lt_trichotomy (xs.getD (t - 1) 0) (ys.getD (t - 1) 0) with hlt | heq | hgt
        · have hfin := cmpI_lt (lt_of_top (t - 1) HX.out (fun j hj => HQ.out j (by omega)) hlt)
          have HF := Lib.hid hfin
          generalize xs.getD (t - 1) 0 = X at hx hlt
          generalize ys.getD (t - 1) 0 = Y at hy hlt
          have t1 : (((X : Nat) : Int) != (Y : Nat)) = true := by simp; omega
          have t2 : decide (X < Y) = true := by simp; exact hlt
          clear hfin hlt
          go_wp2_with fail
          go_quiet (fail)
          go_wp2_with fail
          go_quiet (fail)
          go_wp2
          go_ret
          rw [HF.out, drewN2, drewN2]
          exact ⟨rfl, _, rfl⟩
        · have HE := Lib.hid heq
          rw [heq] at hx
          generalize ys.getD (t - 1) 0 = Y at hx hy
          have t1 : (((Y : Nat) : Int) != (Y : Nat)) = false := by simp
          clear heq
          go_wp2_with fail
          go_quiet (fail)
          go_wp2
          go_roundw
          case rel => exact ⟨t - 1, _, by omega, by rw [show ((t : Int) - 1 - 1) = ((t - 1 : Nat) : Int) - 1 by omega], rfl, fun j hj => by
            by_cases e : j = t - 1
            · rw [e]; exact HE.out
            · exact HQ.out j (by omega)⟩
          case measure => simp [intOf]; omega
        · have hfin := cmpI_gt (lt_of_top (t - 1) HY.out (fun j hj => (HQ.out j (by omega)).symm) hgt)
          have HF := Lib.hid hfin
          generalize xs.getD (t - 1) 0 = X at hx hgt
          generalize ys.getD (t - 1) 0 = Y at hy hgt
          have t1 : (((X : Nat) : Int) != (Y : Nat)) = true := by simp; omega
          have t2 : decide (X < Y) = false := by simp; omega
          clear hfin hgt
          go_wp2_with fail
          go_quiet (fail)
          go_wp2_with fail
          go_quiet (fail)
          go_wp2
          go_ret
          rw [HF.out, drewN2, drewN2]
          exact ⟨rfl, _, rfl⟩
      · have ht0 : t = 0 := by omega
        subst ht0
        have hfin := cmpI_eq (val_eq_of_get fun i => HQ.out i (by omega))
        have HF := Lib.hid hfin
        clear hfin
        go_wp2
        go_ret
        rw [HF.out]
        exact ⟨rfl, _, rfl⟩
  · have t0 : decide (k = l) = false := by simp [hkl]
    by_cases hlt : k < l
    · have hfin := cmpI_lt (sz_lt_val (xs := xs) (ys := ys) HX.out (by rw [HK.out, HL.out]; exact hlt))
      have HF := Lib.hid hfin
      clear hfin
      have t1 : ((k : Int) != (l : Int)) = true := by simp; omega
      go_wp2
      go_ret
      rw [HF.out]
      exact ⟨rfl, _, rfl⟩
    · have hfin := cmpI_gt (sz_lt_val (xs := ys) (ys := xs) HY.out (by rw [HK.out, HL.out]; omega))
      have HF := Lib.hid hfin
      clear hfin
      have t1 : ((k : Int) != (l : Int)) = true := by simp; omega
      go_wp2
      go_ret
      rw [HF.out]
      exact ⟨rfl, _, rfl⟩
end Go.Proofs.Ythaplpenccpkpaa
