/- The two tables told alike. No conditions. -/
import Derived.Test.YtojbdaeidbmjgaaRf23e
import Derived.BigQuiet
import Derived.Deep.QuietTactic
namespace Go.Proofs.Ytojbdaeidbmjgaa
set_option linter.unusedVariables false
set_option linter.unusedSimpArgs false
open Go.RowKit Go.Maps
/-- A slice of handles of the call's own. -/
def HRow (W : World) (sb : Nat) (v : Value) (ks : List Int) : Prop := ∃ B, sb < B ∧ W.ownsRow B 3 1 v ks.length (ks.map (Value.int .i64))
theorem HRow.below {W W' : World} {sb : Nat} {v : Value} {ks : List Int} (h : HRow W sb v ks) (hb : Below W.heap.size W W') : HRow W' sb v ks := by
  obtain ⟨B, h1, h2⟩ := h
  exact ⟨B, h1, row_below h2 hb⟩
theorem HRow.keep {W W' : World} {sb : Nat} {v : Value} {ks : List Int} (h : HRow W sb v ks) (hk : Keep sb W W') : HRow W' sb v ks := by
  obtain ⟨B, h1, h2, h3⟩ := h
  refine ⟨B, h1, h2, ?_⟩
  rcases h3 with h3 | ⟨g, cap, cur, hv, hB, hg, hr⟩
  · exact .inl h3
  · exact .inr ⟨g, cap, cur, hv, hB, hk _ _ _ _ (by omega) hg, hr⟩
theorem HRow.shape {W : World} {sb : Nat} {v : Value} {ks : List Int} (h : HRow W sb v ks) : ∃ a c, v = .slice a ks.length c ∧ (0 < ks.length → ∃ g, a = some ⟨g, 0, none⟩) := by
  obtain ⟨B, h1, h2, h3⟩ := h
  rcases h3 with ⟨hv, h0⟩ | ⟨g, cap, cur, hv, hB, hg, hr⟩
  · exact ⟨none, 0, by rw [hv, h0], fun h => by omega⟩
  · exact ⟨_, cap, hv, fun _ => ⟨g, rfl⟩⟩
theorem HRow.cell {W : World} {sb g c : Nat} {ks : List Int} {n : Nat} (h : HRow W sb (.slice (some ⟨g, 0, none⟩) n c) ks) (i : Nat) (hi : i < ks.length) : W.cell? ⟨g, i, none⟩ = some (.int .i64 ks[i]) := by
  obtain ⟨B, h1, h2, h3⟩ := h
  rcases h3 with ⟨hv, h0⟩ | ⟨g', cap, cur, hv, hB, hg, hr1, hr2, hr3, hr4⟩
  · simp at hv
  · simp at hv
    obtain ⟨rfl, _⟩ := hv
    rw [cell_of_heap hg]
    have e := congrArg (fun l => l[i]?) hr4
    simp only [List.getElem?_take, Array.getElem?_toList] at e
    rw [if_pos (by omega), List.getElem?_map, List.getElem?_eq_getElem hi] at e
    exact e
/-- What is under a handle that both have. -/
theorem Rel.same_get {D : DataW Unit} {L : List RefEnt} (h : Rel D L) {x : Int} (hx : Maps.has D (.int .i64 x) = true) {v : EntL} (hv : D.atKey (.int .i64 x) (entD zeroE) = entD v) : v = entAt L x ∧ thereL L x = true := by
  rw [h.has] at hx
  refine ⟨?_, hx⟩
  rcases there_cases L x with ⟨i, hi, rfl, ht⟩ | ⟨ht, _⟩
  · rw [h.at_ i hi (by rw [← ht]; exact hx)] at hv
    rw [entAt_nat L i hi]
    exact (entD_inj hv).symm
  · rw [hx] at ht; cases ht
theorem below_new {w0 W W' : World} {sb : Nat} {D : DataW Unit} (h : TabAt w0 W sb D) (hb : Below W.heap.size W W') : Below w0.heap.size w0 W' := below_then h.bel hb
set_option maxRecDepth 100000 in
set_option maxHeartbeats 3200000 in
theorem same_calls (w0 w : World) (sb rb : Nat) (D : DataW Unit) (v : Value) (L : List RefEnt) (hT : TabAt w0 w sb D) (hR : RefIs w0 w sb rb v L) (hL : Rel D L) :
    Calls Try.prog 20 #[.pointer (some ⟨sb, 0, none⟩), .pointer (some ⟨rb, 0, none⟩)] w fun e w' => e = .returned (.bool true) ∧ TabAt w0 w' sb D ∧ RefIs w0 w' sb rb v L := by
  obtain ⟨ks, hks⟩ : ∃ k, hdlsFrom 0 L = k := ⟨_, rfl⟩
  have hsk : SortedKeys D ks := hks ▸ hL.sorted
  have hsz : Maps.size D = ks.length := by rw [hL.size, ← hks, hdls_cnt]
  have hll := hL.len
  have hlen : ks.length ≤ 1000 := by rw [← hks]; have := hdls_len L 0; omega
  have HSK := Lib.hid hsk
  have HLR := Lib.hid hL
  have HSZ := Lib.hid hsz
  have HLL := Lib.hid hll
  have HKS := Lib.hid hks
  have HTA := Lib.hid (handles_tab w0 sb D w hT (by omega))
  have HR := Lib.hid hR
  have HSB := Lib.hid hT.lt
  obtain ⟨m, hm⟩ : ∃ m, ks.length = m := ⟨_, rfl⟩
  have HM := Lib.hid hm
  have hm2 : m ≤ 1000 := by omega
  clear hsk hsz hll hks hT hR hL hm hlen
  go_enter Try.func20, Try.ntmps20
  go_wp2_with fail
  refine HTA.out.mono ?_
  rintro e w1 ⟨va, xs, rfl, hs1, hl1, hr1, ht1, hk1⟩
  obtain rfl := hs1.unique HSK.out
  have HT1 := Lib.hid ht1
  have HR1 := Lib.hid (HR.out.keep hk1 ht1.bel)
  have HA1 : Hid (HRow w1 sb va xs) := Lib.hid ⟨_, HSB.out, hr1⟩
  clear hs1 hl1 hr1 ht1 hk1 HTA HR
  go_wp2_with fail
  refine (refHandles_calls w0 w1 sb rb v L HR1.out HLL.out).mono ?_
  rintro e w2 ⟨⟨vb, rfl, hr2⟩, hb2⟩
  rw [HKS.out] at hr2
  have HT2 := Lib.hid (HT1.out.grow hb2)
  have HR2 := Lib.hid (HR1.out.grow hb2)
  have HA2 := Lib.hid (HA1.out.below hb2)
  have HB2 : Hid (HRow w2 sb vb xs) := Lib.hid ⟨_, HT1.out.lt, hr2⟩
  clear hr2 hb2 HT1 HR1 HA1
  obtain ⟨aa, ca, rfl, haa⟩ := HA2.out.shape
  obtain ⟨ab, cb, rfl, hab⟩ := HB2.out.shape
  have hlen := len_tab w0 sb D w2 HT2.out (by rw [HSZ.out, HM.out]; exact hm2)
  rw [HSZ.out, HM.out] at hlen
  rw [HM.out] at HA2 HB2 haa hab ⊢
  have HAA := Lib.hid haa
  have HAB := Lib.hid hab
  have HLN := Lib.hid hlen
  clear haa hab hlen
  go_wp2_with fail
  refine HLN.out.mono ?_
  rintro e w3 ⟨rfl, ht3, hk3⟩
  have HT3 := Lib.hid ht3
  have HR3 := Lib.hid (HR2.out.keep hk3 ht3.bel)
  have HA3 := Lib.hid (HA2.out.keep hk3)
  have HB3 := Lib.hid (HB2.out.keep hk3)
  clear ht3 hk3 HT2 HR2 HA2 HB2 HLN
  go_wp2_with fail
  go_loopw [32] (fun i wr => ∃ k : Nat, k ≤ m ∧ i = .int .i64 k ∧ Hid (TabAt w0 wr sb D) ∧ Hid (RefIs w0 wr sb rb v L) ∧ Hid (HRow wr sb (.slice aa m ca) xs) ∧ Hid (HRow wr sb (.slice ab m cb) xs)) (fun i _ => m - (intOf i).toNat)
  case atStart => exact ⟨0, by omega, rfl, HT3, HR3, HA3, HB3⟩
  case round =>
    obtain ⟨k, hk, rfl, HT, HR, HA, HB⟩ := hrel
    clear HT3 HR3 HA3 HB3
    by_cases hlt : k < m
    · obtain ⟨ga, rfl⟩ := HAA.out (by omega)
      obtain ⟨gb, rfl⟩ := HAB.out (by omega)
      have hkx : k < xs.length := by have := HM.out; omega
      obtain ⟨x, hxx⟩ : ∃ x, xs[k] = x := ⟨_, rfl⟩
      have ha := HA.out.cell k hkx
      have hxm : Maps.has D (.int .i64 x) = true := (HSK.out.2 x).1 (by rw [← hxx]; exact List.getElem_mem _)
      have hwx : -9223372036854775808 ≤ x ∧ x ≤ 9223372036854775807 := by
        have h1 := HLR.out.has x
        rw [hxm] at h1
        rcases there_cases L x with ⟨i, hi, rfl, _⟩ | ⟨ht, _⟩
        · have := HLL.out; omega
        · rw [ht] at h1; cases h1
      rw [hxx] at ha
      have HX := Lib.hid hxx
      have HG := Lib.hid (get_keep w0 sb D x wr HT.out (wf_int hwx.1 hwx.2))
      have HXM := Lib.hid hxm
      have HWX := Lib.hid hwx
      clear hxx hxm hwx
      go_wp2_with fail
      refine HG.out.mono ?_
      rintro e w4 ⟨⟨en, hen, rfl⟩, ht4, hk4⟩
      have hsg := HLR.out.same_get HXM.out hen
      have HTX := Lib.hid hsg.2
      have hse := hsg.1
      rw [HXM.out]
      subst hse
      have HT4 := Lib.hid ht4
      have HR4 := Lib.hid (HR.out.keep hk4 ht4.bel)
      have HA4 := Lib.hid (HA.out.keep hk4)
      have HB4 := Lib.hid (HB.out.keep hk4)
      obtain ⟨⟨en, e0, e1, e2, e3⟩, hent⟩ : ∃ z, entAt L x = z := ⟨_, rfl⟩
      have HENT := Lib.hid hent
      rw [hent]
      clear hent ht4 hk4 HT HR HA HB ha hsg hen HG
      simp only [getV, if_true]
      have hb5 := below_alloc (Below.refl w4.heap.size w4) (.cells #[.int .u64 e0, .int .u64 e1, .int .u64 e2, .int .u64 e3] 31)
      have HT5 := Lib.hid (HT4.out.grow hb5)
      have HR5 := Lib.hid (HR4.out.grow hb5)
      have HA5 := Lib.hid (HA4.out.below hb5)
      have HB5 := Lib.hid (HB4.out.below hb5)
      have HY5 := Lib.hid (heap_new w4 (.cells #[.int .u64 e0, .int .u64 e1, .int .u64 e2, .int .u64 e3] 31))
      have hbc := HB5.out.cell k hkx
      rw [HX.out] at hbc
      clear hb5 HT4 HR4 HA4 HB4
      go_wp2_with fail
      generalize w4.alloc (.cells #[.int .u64 e0, .int .u64 e1, .int .u64 e2, .int .u64 e3] 31) = w5 at *
      refine (refGet_calls w0 w5 sb rb v L HR5.out x HWX.out HLL.out).mono ?_
      rintro e w6 ⟨rfl, hb6⟩
      rw [HENT.out, HTX.out]
      simp only [getV, if_true]
      have hb7 := below_alloc hb6 (.cells #[.int .u64 e0, .int .u64 e1, .int .u64 e2, .int .u64 e3] 31)
      have HT7 := Lib.hid (HT5.out.grow hb7)
      have HR7 := Lib.hid (HR5.out.grow hb7)
      have HA7 := Lib.hid (HA5.out.below hb7)
      have HB7 := Lib.hid (HB5.out.below hb7)
      have HY7 := Lib.hid (below_heap hb7 HY5.out)
      have HZ7 := Lib.hid (heap_new w6 (.cells #[.int .u64 e0, .int .u64 e1, .int .u64 e2, .int .u64 e3] 31))
      clear hb6 hb7 hbc HT5 HR5 HA5 HB5 HY5
      go_upto_region 9 with fail
      generalize hw7 : w6.alloc (.cells #[.int .u64 e0, .int .u64 e1, .int .u64 e2, .int .u64 e3] 31) = w7 at HT7 HR7 HA7 HB7 HY7 HZ7 ⊢
      clear hw7
      have ca0 := HA7.out.cell k hkx
      have cb0 := HB7.out.cell k hkx
      rw [HX.out] at ca0 cb0
      have y0 := cell_of_heap HY7.out 0
      have y1 := cell_of_heap HY7.out 1
      have y2 := cell_of_heap HY7.out 2
      have y3 := cell_of_heap HY7.out 3
      have z0 := cell_of_heap HZ7.out 0
      have z1 := cell_of_heap HZ7.out 1
      have z2 := cell_of_heap HZ7.out 2
      have z3 := cell_of_heap HZ7.out 3
      simp at y0 y1 y2 y3 z0 z1 z2 z3
      have hneq := bits_neq
      have hk0 : (0 : Int) ≤ (k : Int) := by omega
      have hkm : (k : Int) < (m : Int) := by omega
      go_quiet (fail)
      have HBQ := Lib.hid (below_drewN' (Below.refl w7.heap.size w7) nq)
      clear ca0 cb0 y0 y1 y2 y3 z0 z1 z2 z3 hneq hk0 hkm
      go_wp2
      go_roundw
      case rel => exact ⟨k + 1, by omega, by go_num, Lib.hid (HT7.out.grow HBQ.out), Lib.hid (HR7.out.grow HBQ.out), Lib.hid (HA7.out.below HBQ.out), Lib.hid (HB7.out.below HBQ.out)⟩
      case measure => simp [intOf]; omega
    · go_wp2
      go_ret
      exact ⟨rfl, HT.out, HR.out⟩
end Go.Proofs.Ytojbdaeidbmjgaa
