/- The reference's Put. No conditions. -/
import Derived.Test.YtojbdaeidbmjgaaRf23c
import Derived.Deep.AppendLies
import Derived.Deep.RegionLaw
namespace Go.Proofs.Ytojbdaeidbmjgaa
set_option linter.unusedVariables false
set_option linter.unusedSimpArgs false
open Go.RowKit Go.Maps
def putRV (fit : Bool) (L : List RefEnt) : Value :=
  if fit then (if freeL L < L.length then .tuple #[.int .i64 ((freeL L + 1 : Nat) : Int), .int .i64 0] else if 1000 ≤ L.length then .tuple #[.int .i64 0, .int .i64 5] else .tuple #[.int .i64 ((L.length + 1 : Nat) : Int), .int .i64 0]) else .tuple #[.int .i64 0, .int .i64 1]
def putRL (fit : Bool) (L : List RefEnt) (en : EntL) : List RefEnt :=
  if fit then (if freeL L < L.length then L.set (freeL L) ⟨en, true⟩ else if 1000 ≤ L.length then L else L ++ [⟨en, true⟩]) else L
def RefPut (w0 : World) (sb rb : Nat) (L : List RefEnt) (en : EntL) (fit : Bool) (w : World) (e : Ending) (w' : World) : Prop :=
  e = .returned (putRV fit L) ∧ (∃ v', RefIs w0 w' sb rb v' (putRL fit L en)) ∧ KeepR sb rb w w'
theorem ent_info : (Try.prog.info? 79).map (fun i => (i.zero, i.size, i.bytes)) = some (some (.agg #[.int .i64 0, .int .u64 0, .int .u64 0, .int .u64 0, .int .u64 0, .bool false]), 6, 48) := by kernel_rfl
section
variable {ops : Array Oper} {a : Act} {w : World} {Q : Exit → Act → World → Prop} {x y : Operand}
theorem step_app6 {o : Oper} {K : Act → World → Prop} {E : Prop} {w0 : World} (hgd : o.guard = none) (ho : o.op = .call { callee := .builtin .append, args := #[x, y], argTypes := #[43, 43] })
    (hB : Below w0.heap.size w0 w) {v : Value} {n g : Nat} {xs : List Value} (c0 c1 c2 c3 c4 c5 : Value) (hs : w.ownsRow w0.heap.size 79 6 v n xs) (hx : w.heap[g]? = some (.cells #[c0, c1, c2, c3, c4, c5] 79 (0, 0)))
    (hone : ∀ u ∈ [c0, c1, c2, c3, c4, c5], u.oneCell' = true) (hlen : n + 1 ≤ 1000000)
    (he : a.eval x = v) (hf : a.eval y = .slice (some ⟨g, 0, none⟩) 1 1)
    (h : ∀ (W : World) (g' cap : Nat), W.ownsRow w0.heap.size 79 6 (.slice (some ⟨g', 0, none⟩) (n + 1) cap) (n + 1) (xs ++ [c0, c1, c2, c3, c4, c5]) → w.grownBy W v.ownBlock → (v.ownBlock = some g' ∨ g' = w.heap.size) → K (a.put o.dst (.slice (some ⟨g', 0, none⟩) (n + 1) cap)) W) :
    if Region.wanted o (yielded ops a.tmps) = true then Oper.wp Try.prog o a w K Q else E := by
  obtain ⟨i0, hi, hz0, hz1, hz2⟩ := info_parts ent_info
  refine step_append_lies w hgd x y 43 ho w0.heap.size 79 i0 (.agg #[.int .i64 0, .int .u64 0, .int .u64 0, .int .u64 0, .int .u64 0, .bool false]) 6 48 Try.underlying43 hi hz0 hz1 hz2 rfl (by omega) v n xs he hs ⟨g, 0, none⟩ 1 1 [c0, c1, c2, c3, c4, c5] hf rfl ?_ hone (by omega) (by unfold maxLen; omega) (by omega) hB.size _ rfl ?_
  · intro j u hu
    rw [Addr.add_mid]
    have hj : j < 6 := by
      have := (List.getElem?_eq_some_iff.1 hu).1
      simpa using this
    rw [Nat.zero_add, cell_of_heap hx]
    rcases (show j = 0 ∨ j = 1 ∨ j = 2 ∨ j = 3 ∨ j = 4 ∨ j = 5 by omega) with rfl | rfl | rfl | rfl | rfl | rfl <;> exact hu
  · intro g' cap W ho2 hg hat _
    exact h W g' cap ho2 hg hat
end
theorem app6_hd {w0 W W' : World} {sb rb n cap : Nat} {ao : Option Addr} {L : List RefEnt} (h : RefIs w0 W sb rb (.slice ao L.length cap) L) (hn : L.length = n) (hg : W.grownBy W' (Value.slice ao n cap).ownBlock) :
    W'.heap[rb]? = some (.cells #[.slice ao n cap] 45 (0, 0)) := by
  subst hn
  rw [hg.block rb (lt_of_heap h.hd) (fun e => ?_)]
  · exact h.hd
  · rcases h.row.2 with ⟨hv, _⟩ | ⟨g, c, cur, hv, _, hc, _⟩
    · simp at hv
      rw [hv.1] at e
      cases e
    · simp at hv
      rw [hv.1] at e
      have : rb = g := Option.some.inj e
      have h1 := h.hd
      rw [this, hc] at h1
      simp at h1
/-- The list with one entry more. -/
theorem app6_ref {w0 W W' : World} {sb rb n cap g' cap' : Nat} {ao : Option Addr} {L : List RefEnt} (e : RefEnt) (h : RefIs w0 W sb rb (.slice ao L.length cap) L) (hn : L.length = n) (hsb : sb < W.heap.size) (hg : W.grownBy W' (Value.slice ao n cap).ownBlock)
    (ho : W'.ownsRow w0.heap.size 79 6 (.slice (some ⟨g', 0, none⟩) (n + 1) cap') (n + 1) (refVs L ++ refV e)) (hat : (Value.slice ao n cap).ownBlock = some g' ∨ g' = W.heap.size) :
    RefIs w0 (W'.setCell ⟨rb, 0, none⟩ (.slice (some ⟨g', 0, none⟩) (n + 1) cap')) sb rb (.slice (some ⟨g', 0, none⟩) (n + 1) cap') (L ++ [e]) ∧ KeepR sb rb W (W'.setCell ⟨rb, 0, none⟩ (.slice (some ⟨g', 0, none⟩) (n + 1) cap')) := by
  have hd := app6_hd h hn hg
  subst hn
  have hbel : Below w0.heap.size w0 W' := h.bel.grown hg h.bel.size fun k hk => (World.ownsRow.lt h.row k hk).1
  have hne : g' ≠ rb := by
    rcases ho.2 with ⟨hv, _⟩ | ⟨g, c, cur, hv, _, hc, _⟩
    · simp at hv
    · simp at hv
      obtain ⟨rfl, _⟩ := hv
      rintro rfl
      rw [hd] at hc
      simp at hc
  refine ⟨⟨heap_set hd 0 _, ?_, ?_, h.ne, h.base, hbel.setCell h.base _⟩, ?_⟩
  · have e1 : refVs (L ++ [e]) = refVs L ++ refV e := by simp [refVs]
    rw [e1]
    obtain ⟨h1, h2⟩ := ho
    refine ⟨by simpa using h1, ?_⟩
    rcases h2 with ⟨hv, _⟩ | ⟨g, c, cur, hv, hB, hc, r1, r2, r3, r4⟩
    · simp at hv
    · simp at hv
      obtain ⟨rfl, rfl⟩ := hv
      refine .inr ⟨g', cap', cur, by simp, hB, (heap_set_other hne 0 _).trans hc, by simpa using r1, r2, r3, ?_⟩
      rw [List.length_append]
      exact r4
  · rcases hat with hat | hat
    · intro e2
      exact h.own (hat.trans e2)
    · intro e2
      have : g' = sb := Option.some.inj e2
      omega
  · intro b o hb ho2 hc
    rw [heap_set_other hb]
    rw [hg.block b (lt_of_heap hc) (fun e2 => ?_)]
    · exact hc
    · rcases h.row.2 with ⟨hv, _⟩ | ⟨g, c, cur, hv, _, hcg, _⟩
      · simp at hv
        rw [hv.1] at e2
        cases e2
      · simp at hv
        rw [hv.1] at e2
        have hbg : b = g := Option.some.inj e2
        subst hbg
        rcases ho2 with ho2 | ho2
        · exact h.own (by rw [hv.1, ho2]; rfl)
        · rw [hcg] at hc
          cases hc
          exact ho2 _ _ rfl
set_option maxRecDepth 10000 in
set_option maxHeartbeats 3200000 in
theorem refPut_calls (w0 w : World) (sb rb : Nat) (v : Value) (L : List RefEnt) (hR : RefIs w0 w sb rb v L) (hsb : sb < w.heap.size) (hl : L.length ≤ 1000) (num : Int) (b0 b1 b2 b3 : Nat) (hb : W64 [b0, b1, b2, b3]) :
    Calls Try.prog 16 #[.pointer (some ⟨rb, 0, none⟩), .int .i64 num, bitsV b0 b1 b2 b3] w (RefPut w0 sb rb L ⟨num, b0, b1, b2, b3⟩ (fitsF num b0 b1 b2 b3) w) := by
  obtain ⟨ft, hft⟩ : ∃ q, fitsF num b0 b1 b2 b3 = q := ⟨_, rfl⟩
  have HF := Lib.hid (fun w => refFits_calls num b0 b1 b2 b3 hb w)
  unfold bitsV at HF ⊢
  rw [hft] at HF
  rw [hft]
  have HR := Lib.hid hR
  have HLT := Lib.hid hl
  have HSB := Lib.hid hsb
  clear hft hb hR hl hsb
  go_enter Try.func16, Try.ntmps16
  go_wp2_with fail
  have HB0 := Lib.hid (below_alloc (Below.refl w.heap.size w) (.cells #[.int .u64 (b0 : Nat), .int .u64 (b1 : Nat), .int .u64 (b2 : Nat), .int .u64 (b3 : Nat)] 31))
  have HX0 := Lib.hid (heap_new w (.cells #[.int .u64 (b0 : Nat), .int .u64 (b1 : Nat), .int .u64 (b2 : Nat), .int .u64 (b3 : Nat)] 31))
  generalize w.alloc (.cells #[.int .u64 (b0 : Nat), .int .u64 (b1 : Nat), .int .u64 (b2 : Nat), .int .u64 (b3 : Nat)] 31) = wa at HB0 HX0 ⊢
  refine (HF.out _).mono ?_
  rintro e w1 ⟨rfl, hb1⟩
  have HB1 := Lib.hid (below_then HB0.out hb1)
  have HX1 := Lib.hid (below_heap hb1 HX0.out)
  have HR1 := Lib.hid (HR.out.grow HB1.out)
  have HSB1 : Hid (sb < w1.heap.size) := Lib.hid (Nat.lt_of_lt_of_le HSB.out HB1.out.size)
  clear hb1 HB0 HX0 HF HSB HR
  cases ft
  · go_wp2
    go_ret2
    exact ⟨rfl, ⟨v, HR1.out⟩, KeepR.of_below HB1.out⟩
  have hv : ∃ ao cap, v = .slice ao L.length cap ∧ (0 < L.length → ∃ lb, ao = some ⟨lb, 0, none⟩) := by
    rcases HR1.out.row.2 with ⟨rfl, h0⟩ | ⟨g, cap, cur, hv, _⟩
    · exact ⟨none, 0, by rw [h0], fun h => by omega⟩
    · exact ⟨_, cap, hv, fun _ => ⟨g, rfl⟩⟩
  obtain ⟨ao, cap, rfl, hao⟩ := hv
  have HAO := Lib.hid hao
  have HC0 : Hid (w1.cell? ⟨rb, 0, none⟩ = some (.slice ao L.length cap)) := Lib.hid (cell_of_heap HR1.out.hd 0)
  obtain ⟨n, hn⟩ : ∃ n, L.length = n := ⟨_, rfl⟩
  have HN := Lib.hid hn
  rw [hn] at HC0 HAO
  have hn2 : n ≤ 1000 := by rw [← hn]; exact HLT.out
  clear hao hn
  have c0 := HC0.out
  go_wp2_with fail
  go_loop [18] (fun i => ∃ k : Nat, k ≤ n ∧ i = .int .i64 k ∧ Hid (k ≤ freeL L)) (fun i => n - (intOf i).toNat)
  case atStart => exact ⟨0, by omega, rfl, Lib.hid (Nat.zero_le _)⟩
  case round =>
    obtain ⟨k, hk, rfl, HFR⟩ := hrel
    by_cases hlt : k < n
    · obtain ⟨lb, rfl⟩ := HAO.out (by omega)
      have hkl : k < L.length := by have := HN.out; omega
      have s := HR1.out.six k hkl
      obtain ⟨tk, htk⟩ : ∃ q, L[k].taken = q := ⟨_, rfl⟩
      have HTK := Lib.hid htk
      have x5 := s.c5
      rw [htk] at x5
      clear htk s
      cases tk
      · have hkf : k = freeL L := by
          have h1 := HFR.out
          by_cases h2 : k < freeL L
          · have := free_before L k h2
            rw [HTK.out] at this
            cases this
          · omega
        have HR2 := Lib.hid (HR1.out.grow (Below.refl w1.heap.size w1).drew)
        have HS := Lib.hid (HR2.out.six k hkl)
        have hq := st6 HR2.out k hkl ⟨⟨num, b0, b1, b2, b3⟩, true⟩
        have HQ : Hid (∃ W', W' = (((((w1.drew.setCell ⟨lb, k * 6, none⟩ (.int .i64 num)).setCell ⟨lb, k * 6 + 1, none⟩ (.int .u64 b0)).setCell ⟨lb, k * 6 + 2, none⟩ (.int .u64 b1)).setCell ⟨lb, k * 6 + 3, none⟩ (.int .u64 b2)).setCell ⟨lb, k * 6 + 4, none⟩ (.int .u64 b3)).setCell ⟨lb, k * 6 + 5, none⟩ (.bool true) ∧
          (∃ v', RefIs w0 W' sb rb v' (putRL true L ⟨num, b0, b1, b2, b3⟩)) ∧ KeepR sb rb w1.drew W') := Lib.hid (by
            obtain ⟨W', h1, h2, h3⟩ := hq
            refine ⟨W', h1, ⟨.slice (some ⟨lb, 0, none⟩) (L.set k ⟨⟨num, b0, b1, b2, b3⟩, true⟩).length cap, ?_⟩, h3⟩
            unfold putRL
            rw [if_pos rfl, if_pos (by omega), ← hkf]
            exact h2)
        have HV : Hid (putRV true L = .tuple #[.int .i64 ((k : Int) + 1), .int .i64 0]) := Lib.hid (by
          unfold putRV
          rw [if_pos rfl, if_pos (by omega), ← hkf]
          rfl)
        clear hq hkf HR1 HR2
        generalize L[k] = en at HS
        obtain ⟨⟨en, e0, e1, e2, e3⟩, tk⟩ := en
        have y0 : w1.cell? ⟨w.heap.size, 0, none⟩ = some (.int .u64 b0) := cell_of_heap HX1.out 0
        have y1 : w1.cell? ⟨w.heap.size, 1, none⟩ = some (.int .u64 b1) := cell_of_heap HX1.out 1
        have y2 : w1.cell? ⟨w.heap.size, 2, none⟩ = some (.int .u64 b2) := cell_of_heap HX1.out 2
        have y3 : w1.cell? ⟨w.heap.size, 3, none⟩ = some (.int .u64 b3) := cell_of_heap HX1.out 3
        have hi0 : (0 : Int) ≤ (k : Int) := by omega
        have hin : (k : Int) < (n : Int) := by omega
        go_wp2_with fail
        go_still_tail 9, (by kernel_rfl)
        change wpList _ _ _ _ _ w1.drew
        have HB2 := Lib.hid (KeepR.trans (KeepR.of_below (sb := sb) (rb := rb) HB1.out) (KeepR.of_below (Below.refl w1.heap.size w1).drew))
        clear c0 y0 y1 y2 y3 hi0 hin HC0 HX1 x5 HB1
        generalize w1.drew = wd at *
        have x0 := HS.out.c0
        have x1 := HS.out.c1
        have x2 := HS.out.c2
        have x3 := HS.out.c3
        have x4 := HS.out.c4
        have x5 := HS.out.c5
        have f0 := HS.out.f (k * 6)
        have f1 := HS.out.f (k * 6 + 1)
        have f2 := HS.out.f (k * 6 + 2)
        have f3 := HS.out.f (k * 6 + 3)
        have f4 := HS.out.f (k * 6 + 4)
        have f5 := HS.out.f (k * 6 + 5)
        simp only at x0 x1 x2 x3 x4 x5
        go_wp2
        obtain ⟨W', hW', hv', hk'⟩ := HQ.out
        rw [← hW']
        go_ret2
        exact ⟨by rw [HV.out]; rfl, hv', HB2.out.trans hk'⟩
      · have hkf : k + 1 ≤ freeL L := by
          have h1 := HFR.out
          by_cases h2 : k = freeL L
          · have h3 := free_not L (by omega)
            simp only [← h2] at h3
            rw [HTK.out] at h3
            cases h3
          · omega
        have HKF := Lib.hid hkf
        clear hkf
        go_wp2
        go_round
        case rel => exact ⟨k + 1, by omega, by go_num, HKF⟩
        case measure => simp [intOf]; omega
    · obtain rfl : k = n := by omega
      have HFE : Hid (freeL L = L.length) := Lib.hid (by have := HFR.out; have := free_le L; have := HN.out; omega)
      by_cases hge : 1000 ≤ k
      · have HV : Hid (putRV true L = .tuple #[.int .i64 0, .int .i64 5] ∧ ∀ en, putRL true L en = L) := Lib.hid (by
          have h1 := HFE.out
          have h2 := HN.out
          unfold putRV putRL
          rw [if_pos rfl, if_neg (by omega), if_pos (by omega)]
          exact ⟨rfl, fun en => by rw [if_pos rfl, if_neg (by omega), if_pos (by omega)]⟩)
        go_wp2
        go_ret2
        exact ⟨by rw [HV.out.1]; rfl, ⟨_, by rw [HV.out.2]; exact HR1.out⟩, KeepR.of_below HB1.out⟩
      · have HV : Hid (putRV true L = .tuple #[.int .i64 ((k : Int) + 1), .int .i64 0] ∧ ∀ en, putRL true L en = L ++ [⟨en, true⟩]) := Lib.hid (by
          have h1 := HFE.out
          have h2 := HN.out
          unfold putRV putRL
          rw [if_pos rfl, if_neg (by omega), if_neg (by omega), h2]
          exact ⟨rfl, fun en => by rw [if_pos rfl, if_neg (by omega), if_neg (by omega)]⟩)
        have y0 : w1.cell? ⟨w.heap.size, 0, none⟩ = some (.int .u64 b0) := cell_of_heap HX1.out 0
        have y1 : w1.cell? ⟨w.heap.size, 1, none⟩ = some (.int .u64 b1) := cell_of_heap HX1.out 1
        have y2 : w1.cell? ⟨w.heap.size, 2, none⟩ = some (.int .u64 b2) := cell_of_heap HX1.out 2
        have y3 : w1.cell? ⟨w.heap.size, 3, none⟩ = some (.int .u64 b3) := cell_of_heap HX1.out 3
        have b12 : Below w1.heap.size w1 (w1.alloc (.cells #[.int .i64 num, .int .u64 b0, .int .u64 b1, .int .u64 b2, .int .u64 b3, .bool true] 79)).drew := ((Below.refl _ _).alloc (Nat.le_refl _) _).drew
        have HB12 := Lib.hid b12
        have HRA := Lib.hid (HR1.out.grow b12)
        have HXA : Hid ((w1.alloc (.cells #[.int .i64 num, .int .u64 b0, .int .u64 b1, .int .u64 b2, .int .u64 b3, .bool true] 79)).drew.heap[w1.heap.size]? = some (.cells #[.int .i64 num, .int .u64 b0, .int .u64 b1, .int .u64 b2, .int .u64 b3, .bool true] 79 (0, 0))) := Lib.hid (heap_new _ _)
        have HROW : Hid ((w1.alloc (.cells #[.int .i64 num, .int .u64 b0, .int .u64 b1, .int .u64 b2, .int .u64 b3, .bool true] 79)).drew.ownsRow w0.heap.size 79 6 (.slice ao k cap) k (refVs L)) := Lib.hid (by have := HRA.out.row; rw [HN.out] at this; exact this)
        have a0 : (w1.alloc (.cells #[.int .i64 num, .int .u64 b0, .int .u64 b1, .int .u64 b2, .int .u64 b3, .bool true] 79)).drew.cell? ⟨rb, 0, none⟩ = some (.slice ao k cap) := by rw [← HN.out]; exact cell_of_heap HRA.out.hd 0
        clear b12
        go_wp2_with fail
        go_region_law (refine step_app6 (w0 := w0) rfl rfl HRA.out.bel _ _ _ _ _ _ HROW.out HXA.out (by simp [Value.oneCell']) (by omega) rfl rfl (fun W g' cap' hoW hgW hatW => ?_); have hdW : W.heap[rb]? = some (.cells #[.slice ao k cap] 45 (0, 0)) := app6_hd HRA.out HN.out hgW; have q0 : W.cell? ⟨rb, 0, none⟩ = some (.slice ao k cap) := cell_of_heap hdW 0; have qz : W.frozen? ⟨rb, 0, none⟩ = false := free_of_heap hdW 0; have HDW := Lib.hid hdW; have HOW := Lib.hid hoW; have HGW := Lib.hid hgW; have HAW := Lib.hid hatW; clear hdW hoW hgW hatW)
        all_goals
          have hend := app6_ref ⟨⟨num, b0, b1, b2, b3⟩, true⟩ HRA.out HN.out (Nat.lt_of_lt_of_le HSB1.out HB12.out.size) HGW.out HOW.out HAW.out
          have q1 : (W.setCell ⟨rb, 0, none⟩ (.slice (some ⟨g', 0, none⟩) (k + 1) cap')).cell? ⟨rb, 0, none⟩ = some (.slice (some ⟨g', 0, none⟩) (k + 1) cap') := World.cell?_setCell_same _ _ _ q0
          have HE := Lib.hid hend
          clear hend y0 y1 y2 y3 a0
          go_wp2
          go_ret2
          exact ⟨by rw [HV.out.1]; rfl, ⟨_, by rw [HV.out.2]; exact HE.out.1⟩, (KeepR.of_below HB1.out).trans ((KeepR.of_below HB12.out).trans HE.out.2)⟩
end Go.Proofs.Ytojbdaeidbmjgaa
