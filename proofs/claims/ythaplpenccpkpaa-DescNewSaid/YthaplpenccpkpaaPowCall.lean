/- desc.Powers.Power and Greatest, whatever make has left. -/
import Derived.Test.YthaplpenccpkpaaPowMake
namespace Go.Proofs.Ythaplpenccpkpaa
open Go.RowKit
theorem RowsIn.cell {B : Nat} {w : World} {a : Option Addr} {n c : Nat} {vs : List Value} (h : RowsIn B w a n c vs) {i : Nat} (hi : i < n) : ∃ L, a = some ⟨L, 0, none⟩ ∧ n ≤ c ∧ w.cell? ⟨L, i, none⟩ = vs[i]? := by
  obtain ⟨h1, h2⟩ := h
  rcases h2 with ⟨_, h2⟩ | ⟨g, c', cur, e, hB, hg, hle, _, _, ht⟩
  · omega
  · simp only [Value.slice.injEq] at e
    obtain ⟨rfl, _, rfl⟩ := e
    refine ⟨g, rfl, hle, ?_⟩
    rw [cell_of_heap hg, ← ht, List.getElem?_take, if_pos (by omega), Array.getElem?_toList]
theorem PowVal.sl {w : World} {v : Value} {n : Nat} (h : PowVal w v n) : ∃ a len c zs, v = .slice a len c ∧ SlW w a len c zs ∧ Plain a ∧ val zs = n ∧ len ≤ 400 := by
  obtain ⟨a, c, zs, rfl, ho, hv, hl⟩ := h
  exact ⟨a, zs.length, c, zs, rfl, ho.sl, ho.plain, hv, hl⟩
set_option maxRecDepth 10000 in
set_option maxHeartbeats 2000000 in
theorem greatest_calls (B : Nat) (w : World) (g b p c : Nat) (R : World → Prop)
    (hm : Calls Try.prog 58 #[.pointer (some ⟨g, 0, none⟩)] w fun e w' => e = .returned (.tuple #[]) ∧ PowMade B w' g b p c 1 0 1 ∧ R w') :
    Calls Try.prog 37 #[.pointer (some ⟨g, 0, none⟩)] w fun e w' => ∃ wm, PowMade B wm g b p c 1 0 1 ∧ R wm ∧ NatRes wm (c ^ p - 1) 400 e w' := by
  have HM := Lib.hid hm
  clear hm
  go_enter Try.func37, Try.ntmps37
  go_wp2_with fail
  refine HM.out.mono ?_
  rintro e wm ⟨rfl, hp, hr⟩
  have HP := Lib.hid hp
  have HR := Lib.hid hr
  obtain ⟨la, lc, vs, gv, hbx, _, _, _, hv⟩ := hp
  obtain ⟨ga, gl, gc, zs, rfl, hs, hpl, hval, hle⟩ := hv.sl
  have g7 : wm.cell? ⟨g, 7, none⟩ = some (.slice ga gl gc) := hbx.cell 7
  have HT := Lib.hid (trim_res hs hpl (by omega))
  have HV := Lib.hid hval
  clear hbx hs hpl hval hr HM
  go_wp2_with fail
  refine HT.out.mono ?_
  rintro e w' ⟨a1, c1, us, rfl, r1, r2, r3, r4, r5⟩
  have HF : Hid (NatRes wm (c ^ p - 1) 400 (.returned (.slice a1 us.length c1)) w') := Lib.hid ⟨a1, c1, us, rfl, r1, by rw [r2, HV.out], r3, by omega, r5⟩
  clear r1 r2 r3 r4 r5
  go_wp2
  go_ret
  exact ⟨wm, HP.out, HR.out, HF.out⟩
set_option maxRecDepth 10000 in
set_option maxHeartbeats 2000000 in
theorem powerAt_calls (B : Nat) (w : World) (g b p c k : Nat) (hk : k < 64) (R : World → Prop)
    (hm : Calls Try.prog 58 #[.pointer (some ⟨g, 0, none⟩)] w fun e w' => e = .returned (.tuple #[]) ∧ PowMade B w' g b p c 1 0 1 ∧ R w') :
    Calls Try.prog 34 #[.pointer (some ⟨g, 0, none⟩), .int .i64 (k : Nat)] w fun e w' => ∃ wm, PowMade B wm g b p c 1 0 1 ∧ R wm ∧ NatRes2 wm (b ^ k) 400 (.int .i64 0) e w' := by
  have HM := Lib.hid hm
  clear hm
  go_enter Try.func34, Try.ntmps34
  go_wp2_with fail
  refine HM.out.mono ?_
  rintro e wm ⟨rfl, hp, hr⟩
  have HP := Lib.hid hp
  have HR := Lib.hid hr
  obtain ⟨la, lc, vs, gv, hbx, hrow, hpow, hlen, _⟩ := hp
  obtain ⟨L, rfl, hlc, hcell⟩ := hrow.cell hk
  obtain ⟨v, hv1, hv2⟩ := hpow k (by omega)
  obtain ⟨ga, gl, gc, zs, rfl, hs, hpl, hval, hle⟩ := hv2.sl
  rw [hv1] at hcell
  have g6 : wm.cell? ⟨g, 6, none⟩ = some (.slice (some ⟨L, 0, none⟩) 64 lc) := hbx.cell 6
  have HT := Lib.hid (trim_res hs hpl (by omega))
  have HV := Lib.hid hval
  have hi : (0 : Int) ≤ (k : Int) ∧ (k : Int) < 64 := by omega
  clear hbx hs hpl hval hr HM hrow hpow hlen hv1 hv2
  go_wp2_with fail
  refine HT.out.mono ?_
  rintro e w' ⟨a1, c1, us, rfl, r1, r2, r3, r4, r5⟩
  have HF : Hid (NatRes2 wm (b ^ k) 400 (.int .i64 0) (.returned (.tuple #[.slice a1 us.length c1, .int .i64 0])) w') := Lib.hid ⟨a1, c1, us, rfl, r1, by rw [r2, HV.out], r3, by omega, r5⟩
  clear r1 r2 r3 r4 r5
  go_wp2
  go_ret2
  exact ⟨wm, HP.out, HR.out, HF.out⟩
set_option maxRecDepth 10000 in
set_option maxHeartbeats 2000000 in
theorem powerFrom_calls (B : Nat) (w : World) (g b p c : Nat) (n : Int) (h0 : -9223372036854775808 ≤ n) (h1 : n ≤ 9223372036854775807) (hn : n < 0 ∨ 64 ≤ n) (R : World → Prop)
    (hm : Calls Try.prog 58 #[.pointer (some ⟨g, 0, none⟩)] w fun e w' => e = .returned (.tuple #[]) ∧ PowMade B w' g b p c 1 0 1 ∧ R w') :
    Calls Try.prog 34 #[.pointer (some ⟨g, 0, none⟩), .int .i64 n] w fun e w' => ∃ wm, PowMade B wm g b p c 1 0 1 ∧ R wm ∧ NatRes2 wm (powVal b n) (n.toNat + 1) (.int .i64 (powErr b n)) e w' := by
  have HM := Lib.hid hm
  have HN := Lib.hid (fun w => natPower_calls w b n h0 h1)
  generalize powVal b n = V at HN ⊢
  generalize powErr b n = E at HN ⊢
  clear hm
  go_enter Try.func34, Try.ntmps34
  go_wp2_with fail
  refine HM.out.mono ?_
  rintro e wm ⟨rfl, hp, hr⟩
  have HP := Lib.hid hp
  have HR := Lib.hid hr
  obtain ⟨la, lc, vs, gv, hbx, _⟩ := hp
  have g0 : wm.cell? ⟨g, 0, none⟩ = some (.int .i64 (b : Nat)) := hbx.cell 0
  clear hbx hr HM
  by_cases hneg : 0 ≤ n
  · have hge : ¬ n < 64 := by omega
    go_wp2_with fail
    refine (HN.out _).mono ?_
    rintro e w' ⟨a1, c1, us, rfl, r⟩
    have HF := Lib.hid r
    clear r
    go_wp2
    go_ret2
    exact ⟨wm, HP.out, HR.out, a1, c1, us, rfl, HF.out⟩
  · go_wp2_with fail
    refine (HN.out _).mono ?_
    rintro e w' ⟨a1, c1, us, rfl, r⟩
    have HF := Lib.hid r
    clear r
    go_wp2
    go_ret2
    exact ⟨wm, HP.out, HR.out, a1, c1, us, rfl, HF.out⟩
end Go.Proofs.Ythaplpenccpkpaa
