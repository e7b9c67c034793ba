/- TablePlays: whatever is put, got, freed and set, in whatever order, is answered as the document says. No conditions. -/
import Derived.Test.YtojbdaeidbmjgaaTabSame
namespace Go.Proofs.Ytojbdaeidbmjgaa
set_option linter.unusedVariables false
set_option linter.unusedSimpArgs false
open Go.RowKit Go.Maps
theorem putRV_form (fit : Bool) (L : List RefEnt) : ∃ z1 z2 : Int, putRV fit L = .tuple #[.int .i64 z1, .int .i64 z2] := by
  unfold putRV
  split
  · split
    · exact ⟨_, _, rfl⟩
    · split
      · exact ⟨_, _, rfl⟩
      · exact ⟨_, _, rfl⟩
  · exact ⟨_, _, rfl⟩
/-- Put, beside the reference's list. -/
theorem put_both {w0 w w' : World} {sb : Nat} {D : DataW Unit} {L : List RefEnt} {en : EntL} {fit : Bool} {e : Ending} (h : PutRes w0 sb D en fit w e w') (hL : Rel D L) :
    e = .returned (putRV fit L) ∧ Keep sb w w' ∧ ∃ D', TabAt w0 w' sb D' ∧ Rel D' (putRL fit L en) := by
  obtain ⟨hk, h⟩ := h
  rcases h with ⟨rfl, rfl, ht⟩ | ⟨rfl, hs, rfl, ht⟩ | ⟨rfl, hs, k, hf, _, rfl, ht⟩
  · exact ⟨rfl, hk, D, ht, hL⟩
  · obtain ⟨h1, h2⟩ := hL.full hs
    refine ⟨?_, hk, D, ht, ?_⟩
    · unfold putRV
      rw [if_pos rfl, if_neg (by omega), if_pos (by omega)]
    · unfold putRL
      rw [if_pos rfl, if_neg (by omega), if_pos (by omega)]
      exact hL
  · obtain rfl := hf.unique hL.least
    by_cases hlt : freeL L < L.length
    · refine ⟨?_, hk, _, ht, ?_⟩
      · unfold putRV
        rw [if_pos rfl, if_pos hlt]
      · unfold putRL
        rw [if_pos rfl, if_pos hlt]
        exact hL.putAt _ hlt en
    · have he : freeL L = L.length := by have := free_le L; omega
      have hr := hL.room hs he
      refine ⟨?_, hk, _, ht, ?_⟩
      · unfold putRV
        rw [if_pos rfl, if_neg hlt, if_neg (by omega), he]
      · unfold putRL
        rw [if_pos rfl, if_neg hlt, if_neg (by omega)]
        have := hL.putNew hr en
        rw [he]
        exact this
theorem getV_form (en : EntL) (t : Bool) : ∃ (n : Int) (a0 a1 a2 a3 : Nat) (z : Int), getV en t = .tuple #[.int .i64 n, .agg #[.int .u64 a0, .int .u64 a1, .int .u64 a2, .int .u64 a3], .int .i64 z] := by
  unfold getV
  cases t
  · exact ⟨0, 0, 0, 0, 0, 6, rfl⟩
  · exact ⟨_, _, _, _, _, _, rfl⟩
/-- Get, beside the reference's list. -/
theorem get_both {D : DataW Unit} {L : List RefEnt} (hL : Rel D L) {x : Int} {v : EntL} (hv : D.atKey (.int .i64 x) (entD zeroE) = entD v) : getV v (Maps.has D (.int .i64 x)) = getV (entAt L x) (thereL L x) := by
  cases hh : Maps.has D (.int .i64 x)
  · have := hL.has x
    rw [hh] at this
    rw [← this]
    rfl
  · obtain ⟨h1, h2⟩ := hL.same_get hh hv
    rw [h1, h2]
/-- Free, beside the reference's list. -/
theorem del_both {D : DataW Unit} {L : List RefEnt} (hL : Rel D L) (x : Int) : Rel (if Maps.has D (.int .i64 x) then D.del (.int .i64 x) else D) (putIf L x ⟨zeroE, false⟩) := by
  rw [hL.has]
  rcases there_cases L x with ⟨i, hi, rfl, ht⟩ | ⟨ht, _⟩
  · cases hth : thereL L ((i + 1 : Nat) : Int)
    · rw [if_neg (by simp), putIf_no _ _ _ hth]
      exact hL
    · rw [if_pos rfl, putIf_nat L i hi _ hth]
      exact hL.del i hi (by rw [← ht]; exact hth) zeroE
  · rw [ht, if_neg (by simp), putIf_no _ _ _ ht]
    exact hL
/-- Set, beside the reference's list. -/
theorem set_both {D : DataW Unit} {L : List RefEnt} (hL : Rel D L) (x : Int) (fit : Bool) (en : EntL) : Rel (setD fit (Maps.has D (.int .i64 x)) D x en) (if fit then putIf L x ⟨en, true⟩ else L) := by
  rw [hL.has]
  unfold setD
  cases fit
  · exact hL
  · rcases there_cases L x with ⟨i, hi, rfl, ht⟩ | ⟨ht, _⟩
    · cases hth : thereL L ((i + 1 : Nat) : Int)
      · rw [if_neg (by simp), if_pos rfl, putIf_no _ _ _ hth]
        exact hL
      · rw [if_pos (by simp), if_pos rfl, putIf_nat L i hi _ hth]
        exact hL.putAt i hi en
    · rw [ht, if_neg (by simp), if_pos rfl, putIf_no _ _ _ ht]
      exact hL
/-- The two tables, side by side. -/
def Both (w0 W : World) (sb rb : Nat) : Prop := ∃ D v L, TabAt w0 W sb D ∧ RefIs w0 W sb rb v L ∧ Rel D L
theorem Both.grow {w0 W W' : World} {sb rb : Nat} (h : Both w0 W sb rb) (hb : Below W.heap.size W W') : Both w0 W' sb rb := by
  obtain ⟨D, v, L, h1, h2, h3⟩ := h
  exact ⟨D, v, L, h1.grow hb, h2.grow hb, h3⟩
theorem Both.bel {w0 W : World} {sb rb : Nat} (h : Both w0 W sb rb) : Below w0.heap.size w0 W := by
  obtain ⟨D, v, L, h1, _⟩ := h
  exact h1.bel
theorem Both.lt {w0 W : World} {sb rb : Nat} (h : Both w0 W sb rb) : sb < W.heap.size := by
  obtain ⟨D, v, L, h1, _⟩ := h
  exact h1.lt
/-- The script's steps, as they lie in memory. -/
def OpsAt (w : World) (a : Option Addr) (len : Nat) : Prop :=
  ∀ i, i < len → ∃ (b off : Nat) (K H N : Int) (b0 b1 b2 b3 : Nat), a = some ⟨b, off, none⟩ ∧ w.cell? ⟨b, off + i * 7, none⟩ = some (.int .i64 K) ∧ w.cell? ⟨b, off + i * 7 + 1, none⟩ = some (.int .i64 H) ∧ w.cell? ⟨b, off + i * 7 + 2, none⟩ = some (.int .i64 N) ∧
    w.cell? ⟨b, off + i * 7 + 3, none⟩ = some (.int .u64 b0) ∧ w.cell? ⟨b, off + i * 7 + 4, none⟩ = some (.int .u64 b1) ∧ w.cell? ⟨b, off + i * 7 + 5, none⟩ = some (.int .u64 b2) ∧ w.cell? ⟨b, off + i * 7 + 6, none⟩ = some (.int .u64 b3) ∧
    (Lit.int .i64 H).wf = true ∧ W64 [b0, b1, b2, b3]
theorem wf_bd {x : Int} (h : (Lit.int .i64 x).wf = true) : -9223372036854775808 ≤ x ∧ x ≤ 9223372036854775807 := by
  have e1 : IntKind.i64.min = -9223372036854775808 := rfl
  have e2 : IntKind.i64.max = 9223372036854775807 := rfl
  simp [Lit.wf, e1, e2] at h
  exact h
theorem same_both (w0 w : World) (sb rb : Nat) (h : Both w0 w sb rb) : Calls Try.prog 20 #[.pointer (some ⟨sb, 0, none⟩), .pointer (some ⟨rb, 0, none⟩)] w fun e w' => e = .returned (.bool true) ∧ Both w0 w' sb rb := by
  obtain ⟨D, v, L, h1, h2, h3⟩ := h
  exact (same_calls w0 w sb rb D v L h1 h2 h3).mono fun e w' ⟨he, a, b⟩ => ⟨he, D, v, L, a, b, h3⟩
theorem refIs_new {w0 X : World} {sb : Nat} (hb : Below w0.heap.size w0 X) (hne : X.heap.size ≠ sb) : RefIs w0 (X.alloc (.cells #[.slice none 0 0] 45)) sb X.heap.size (.slice none 0 0) [] :=
  ⟨heap_new _ _, World.ownsRow_nil _ _ _ _, by simp [Value.ownBlock], hne, hb.size, below_alloc hb _⟩
set_option maxRecDepth 100000 in
set_option maxHeartbeats 6400000 in
theorem plays_calls (w : World) (a : Option Addr) (len cap : Nat) (z : Bool) (hlen : len ≤ 9223372036854775807) (ho : OpsAt w a len) :
    Calls Try.prog 5 #[.slice a len cap, .bool z] w fun e w' => e = .returned (.bool true) ∧ Below w.heap.size w w' := by
  have HO := Lib.hid ho
  clear ho
  cases z
  all_goals
    go_enter Try.func5, Try.ntmps5
    go_wp2_with fail
    refine (tawake_calls _).mono ?_
    rintro e w1 ⟨rfl, hb1⟩
    have HB1 := Lib.hid hb1
    clear hb1
    go_wp2_with fail
    refine (new_calls _).mono ?_
    rintro e w' ⟨rfl, rfl⟩
    go_upto_region 6 with fail
  have hs : (w1.alloc (.cells #[.int .i32 0, .int .u32 0, .map none] 55)).heap.size = w1.heap.size + 1 := by simp
  have hr := refIs_new (sb := w1.heap.size) (below_alloc HB1.out (.cells #[.int .i32 0, .int .u32 0, .map none] 55)) (by omega)
  rw [hs] at hr
  have HBO : Hid (Both w ((w1.alloc (.cells #[.int .i32 0, .int .u32 0, .map none] 55)).alloc (.cells #[.slice none 0 0] 45)) w1.heap.size (w1.heap.size + 1)) :=
    Lib.hid ⟨_, _, _, (tabAt_new HB1.out).grow (below_alloc (Below.refl _ _) _), hr, rel_empty⟩
  clear hs hr HB1
  generalize ((w1.alloc (.cells #[.int .i32 0, .int .u32 0, .map none] 55)).alloc (.cells #[.slice none 0 0] 45)) = W at HBO ⊢
  generalize w1.heap.size + 1 = rb at HBO ⊢
  generalize w1.heap.size = sb at HBO ⊢
  rotate_left
  have hs : (w1.alloc (.cells #[.int .i32 0, .int .u32 0, .map none] 55)).heap.size = w1.heap.size + 1 := by simp
  have hs2 : ((w1.alloc (.cells #[.int .i32 0, .int .u32 0, .map none] 55)).alloc (.cells #[.slice none 0 0] 45)).heap.size = w1.heap.size + 1 + 1 := by simp
  have hr := (refIs_new (sb := w1.heap.size + 1 + 1) (below_alloc HB1.out (.cells #[.int .i32 0, .int .u32 0, .map none] 55)) (by omega)).grow (below_alloc (Below.refl _ _) (.cells #[.int .i32 0, .int .u32 0, .map none] 55))
  rw [hs] at hr
  have ht := tabAt_new (below_alloc (below_alloc HB1.out (.cells #[.int .i32 0, .int .u32 0, .map none] 55)) (.cells #[.slice none 0 0] 45))
  rw [hs2] at ht
  have HBO : Hid (Both w (((w1.alloc (.cells #[.int .i32 0, .int .u32 0, .map none] 55)).alloc (.cells #[.slice none 0 0] 45)).alloc (.cells #[.int .i32 0, .int .u32 0, .map none] 55)) (w1.heap.size + 1 + 1) (w1.heap.size + 1)) :=
    Lib.hid ⟨_, _, _, ht, hr, rel_empty⟩
  clear hs hs2 hr ht HB1
  generalize (((w1.alloc (.cells #[.int .i32 0, .int .u32 0, .map none] 55)).alloc (.cells #[.slice none 0 0] 45)).alloc (.cells #[.int .i32 0, .int .u32 0, .map none] 55)) = W at HBO ⊢
  generalize w1.heap.size + 1 + 1 = sb at HBO ⊢
  generalize w1.heap.size + 1 = rb at HBO ⊢
  all_goals
    go_wp2_with fail
    go_loopw [29] (fun i wr => ∃ k : Nat, k ≤ len ∧ k ≤ 200 ∧ i = .int .i64 k ∧ Hid (Both w wr sb rb)) (fun i _ => 200 - (intOf i).toNat)
    case atStart => exact ⟨0, by omega, by omega, rfl, HBO⟩
    case round =>
      obtain ⟨k, hk, hk2, rfl, HB⟩ := hrel
      clear HBO
      by_cases hlt : k < len
      · obtain ⟨b, off, K, H, N, b0, b1, b2, b3, rfl, d0, d1, d2, d3, d4, d5, d6, hwh, hw64⟩ := HO.out k hlt
        have a0 := below_cell HB.out.bel d0
        have a1 := below_cell HB.out.bel d1
        have a2 := below_cell HB.out.bel d2
        have a3 := below_cell HB.out.bel d3
        have a4 := below_cell HB.out.bel d4
        have a5 := below_cell HB.out.bel d5
        have a6 := below_cell HB.out.bel d6
        have HWH := Lib.hid hwh
        have HW64 := Lib.hid hw64
        clear d0 d1 d2 d3 d4 d5 d6 hwh hw64
        by_cases h200 : 200 ≤ k
        · go_wp2
          go_ret
          exact ⟨rfl, below_alloc HB.out.bel _⟩
        · go_upto_region 12 with fail
          have hba := below_alloc (Below.refl wr.heap.size wr) (.cells #[.int .i64 K, .int .i64 H, .int .i64 N, .int .u64 b0, .int .u64 b1, .int .u64 b2, .int .u64 b3] 57)
          have HX := Lib.hid (heap_new wr (.cells #[.int .i64 K, .int .i64 H, .int .i64 N, .int .u64 b0, .int .u64 b1, .int .u64 b2, .int .u64 b3] 57))
          have HNE : Hid (wr.heap.size ≠ sb) := Lib.hid (by have := HB.out.lt; omega)
          have HBb := Lib.hid (HB.out.grow hba)
          have HNR : Hid (wr.heap.size ≠ rb) := Lib.hid (by obtain ⟨_, _, _, _, h, _⟩ := HB.out; have := lt_of_heap h.hd; omega)
          clear hba a0 a1 a2 a3 a4 a5 a6 HB
          generalize wr.alloc (.cells #[.int .i64 K, .int .i64 H, .int .i64 N, .int .u64 b0, .int .u64 b1, .int .u64 b2, .int .u64 b3] 57) = wb at HX HBb ⊢
          obtain ⟨D, v, L, hT, hR, hL⟩ := HBb.out
          have HT := Lib.hid hT
          have HR := Lib.hid hR
          have HL := Lib.hid hL
          clear hT hR hL
          have x1 : wb.cell? ⟨wr.heap.size, 1, none⟩ = some (.int .i64 H) := cell_of_heap HX.out 1
          have x2 : wb.cell? ⟨wr.heap.size, 2, none⟩ = some (.int .i64 N) := cell_of_heap HX.out 2
          have x3 : wb.cell? ⟨wr.heap.size, 3, none⟩ = some (.int .u64 b0) := cell_of_heap HX.out 3
          have x4 : wb.cell? ⟨wr.heap.size, 4, none⟩ = some (.int .u64 b1) := cell_of_heap HX.out 4
          have x5 : wb.cell? ⟨wr.heap.size, 5, none⟩ = some (.int .u64 b2) := cell_of_heap HX.out 5
          have x6 : wb.cell? ⟨wr.heap.size, 6, none⟩ = some (.int .u64 b3) := cell_of_heap HX.out 6
          by_cases hK1 : K = 1
          · subst hK1
            have HP := Lib.hid (put_tab w sb D N b0 b1 b2 b3 HW64.out wb HT.out)
            unfold bitsV at HP
            go_wp2_with fail
            refine HP.out.mono ?_
            intro e w2 h
            obtain ⟨he, hkp, D', hT', hL'⟩ := put_both h HL.out
            obtain ⟨z1, z2, hz⟩ := putRV_form (fitsF N b0 b1 b2 b3) L
            have HZ := Lib.hid hz
            rw [hz] at he
            subst he
            have HT2 := Lib.hid hT'
            have HL2 := Lib.hid hL'
            have HR2 := Lib.hid (HR.out.keep hkp hT'.bel)
            have HX2 := Lib.hid (hkp _ _ _ _ HNE.out HX.out)
            clear hz h hkp hT' hL' x1 x2 x3 x4 x5 x6 HP
            have x2 : w2.cell? ⟨wr.heap.size, 2, none⟩ = some (.int .i64 N) := cell_of_heap HX2.out 2
            have x3 : w2.cell? ⟨wr.heap.size, 3, none⟩ = some (.int .u64 b0) := cell_of_heap HX2.out 3
            have x4 : w2.cell? ⟨wr.heap.size, 4, none⟩ = some (.int .u64 b1) := cell_of_heap HX2.out 4
            have x5 : w2.cell? ⟨wr.heap.size, 5, none⟩ = some (.int .u64 b2) := cell_of_heap HX2.out 5
            have x6 : w2.cell? ⟨wr.heap.size, 6, none⟩ = some (.int .u64 b3) := cell_of_heap HX2.out 6
            have HP := Lib.hid (refPut_calls w w2 sb rb v L HR2.out HT2.out.lt HL.out.len N b0 b1 b2 b3 HW64.out)
            unfold bitsV at HP
            go_wp2_with fail
            refine HP.out.mono ?_
            rintro e w3 ⟨he, ⟨v', hR'⟩, hkr⟩
            rw [HZ.out] at he
            subst he
            have HBE : Hid (Both w w3 sb rb) := Lib.hid ⟨_, _, _, HT2.out.keepR hkr HR2.out hR'.bel, hR', HL2.out⟩
            clear x2 x3 x4 x5 x6 hR' hkr HP
            have HS := Lib.hid (same_both w _ sb rb HBE.out)
            clear HBE
            go_wp2_with fail
            refine HS.out.mono ?_
            rintro e w9 ⟨rfl, hb9⟩
            have HB9 := Lib.hid hb9
            clear hb9 HS
            go_wp2
            go_roundw
            case rel => exact ⟨k + 1, by omega, by omega, by go_num, HB9⟩
            case measure => simp [intOf]; omega
          by_cases hK2 : K = 2
          · subst hK2
            have HG := Lib.hid (get_keep w sb D H wb HT.out HWH.out)
            go_wp2_with fail
            refine HG.out.mono ?_
            rintro e w2 ⟨⟨vg, hvg, rfl⟩, ht2, hk2⟩
            have hgb := get_both HL.out hvg
            obtain ⟨zn, g0, g1, g2, g3, ze, hz⟩ := getV_form (entAt L H) (thereL L H)
            have HZ := Lib.hid hz
            rw [hgb, hz]
            have hb3 := below_alloc (Below.refl w2.heap.size w2) (.cells #[.int .u64 g0, .int .u64 g1, .int .u64 g2, .int .u64 g3] 31)
            have HT3 := Lib.hid (ht2.grow hb3)
            have HR3 := Lib.hid ((HR.out.keep hk2 ht2.bel).grow hb3)
            have HX3 := Lib.hid (below_heap hb3 (hk2 _ _ _ _ HNE.out HX.out))
            have HY3 := Lib.hid (heap_new w2 (.cells #[.int .u64 g0, .int .u64 g1, .int .u64 g2, .int .u64 g3] 31))
            have y1 : (w2.alloc (.cells #[.int .u64 g0, .int .u64 g1, .int .u64 g2, .int .u64 g3] 31)).cell? ⟨wr.heap.size, 1, none⟩ = some (.int .i64 H) := cell_of_heap HX3.out 1
            clear hz hgb hvg ht2 hk2 hb3 x1 x2 x3 x4 x5 x6 HG
            go_wp2_with fail
            generalize w2.alloc (.cells #[.int .u64 g0, .int .u64 g1, .int .u64 g2, .int .u64 g3] 31) = w3 at *
            refine (refGet_calls w w3 sb rb v L HR3.out H (wf_bd HWH.out) HL.out.len).mono ?_
            rintro e w4 ⟨rfl, hb4⟩
            rw [HZ.out]
            have hb5 := below_alloc hb4 (.cells #[.int .u64 g0, .int .u64 g1, .int .u64 g2, .int .u64 g3] 31)
            have HBE : Hid (Both w (w4.alloc (.cells #[.int .u64 g0, .int .u64 g1, .int .u64 g2, .int .u64 g3] 31)) sb rb) := Lib.hid ⟨_, _, _, HT3.out.grow hb5, HR3.out.grow hb5, HL.out⟩
            have HY5 := Lib.hid (below_heap hb5 HY3.out)
            have y0 : (w4.alloc (.cells #[.int .u64 g0, .int .u64 g1, .int .u64 g2, .int .u64 g3] 31)).cell? ⟨w2.heap.size, 0, none⟩ = some (.int .u64 g0) := cell_of_heap HY5.out 0
            have y1 : (w4.alloc (.cells #[.int .u64 g0, .int .u64 g1, .int .u64 g2, .int .u64 g3] 31)).cell? ⟨w2.heap.size, 1, none⟩ = some (.int .u64 g1) := cell_of_heap HY5.out 1
            have y2 : (w4.alloc (.cells #[.int .u64 g0, .int .u64 g1, .int .u64 g2, .int .u64 g3] 31)).cell? ⟨w2.heap.size, 2, none⟩ = some (.int .u64 g2) := cell_of_heap HY5.out 2
            have y3 : (w4.alloc (.cells #[.int .u64 g0, .int .u64 g1, .int .u64 g2, .int .u64 g3] 31)).cell? ⟨w2.heap.size, 3, none⟩ = some (.int .u64 g3) := cell_of_heap HY5.out 3
            have hneq := bits_neq
            clear hb4 hb5 HT3 HR3 HX3 HY3
            have HS := Lib.hid (same_both w _ sb rb HBE.out)
            clear HBE
            go_wp2_with fail
            clear hneq y0 y1 y2 y3
            refine HS.out.mono ?_
            rintro e w9 ⟨rfl, hb9⟩
            have HB9 := Lib.hid hb9
            clear hb9 HS
            go_wp2
            go_roundw
            case rel => exact ⟨k + 1, by omega, by omega, by go_num, HB9⟩
            case measure => simp [intOf]; omega
          by_cases hK3 : K = 3
          · subst hK3
            obtain ⟨zf, hzf⟩ : ∃ z : Int, (if thereL L H = true then 0 else 6) = z := ⟨_, rfl⟩
            have HDL := Lib.hid (del_both HL.out H)
            have HF : Hid (∀ W, TabAt w W sb D → Calls Try.prog 11 #[.pointer (some ⟨sb, 0, none⟩), .int .i64 H] W fun e w' => e = .returned (.int .i64 zf) ∧ (∃ D', TabAt w w' sb D' ∧ Rel D' (putIf L H ⟨zeroE, false⟩)) ∧ Keep sb W w') :=
              Lib.hid (fun W h => (free_tab w sb D H W h HWH.out).mono fun e w' ⟨h1, h2, h3⟩ => ⟨by rw [h1, HL.out.has, hzf], ⟨_, h2, HDL.out⟩, h3⟩)
            have HF2 : Hid (∀ W, RefIs w W sb rb v L → Calls Try.prog 18 #[.pointer (some ⟨rb, 0, none⟩), .int .i64 H] W fun e w' => e = .returned (.int .i64 zf) ∧ (∃ v', RefIs w w' sb rb v' (putIf L H ⟨zeroE, false⟩)) ∧ KeepR sb rb W w') :=
              Lib.hid (fun W h => by
                have := refFree_calls w W sb rb v L h H (wf_bd HWH.out) HL.out.len
                rw [hzf] at this
                exact this)
            have HTd := Lib.hid (HT.out.grow (Below.refl wb.heap.size wb).drew)
            have HRd := Lib.hid (HR.out.grow (Below.refl wb.heap.size wb).drew)
            clear hzf HDL x2 x3 x4 x5 x6
            go_wp2_with fail
            go_region_held3 (fun w' => w'.cell? ⟨wr.heap.size, 1, none⟩ = some (.int .i64 H))
              (first | exact x1 | exact q1 | exact q2 | assumption)
              (first
              | (go_at_call 11; refine (HF.out _ (by first | exact HT.out | exact HTd.out)).mono ?_; rintro e w2 ⟨rfl, ⟨D', ht2, hl2⟩, hk2⟩; have hx2 := hk2 _ _ _ _ HNE.out HX.out; have HX2 := Lib.hid hx2; have q1 : w2.cell? ⟨wr.heap.size, 1, none⟩ = some (.int .i64 H) := cell_of_heap hx2 1; have HT2 := Lib.hid ht2; have HL2 := Lib.hid hl2; have HR2 := Lib.hid (HRd.out.keep hk2 ht2.bel); clear ht2 hl2 hk2 hx2)
              | (go_at_call 18; refine (HF2.out _ HR2.out).mono ?_; rintro e w3 ⟨rfl, ⟨v', hr3⟩, hk3⟩; have hx3 := hk3 _ _ HNR.out (.inr (fun cs f e => by simp at e)) HX2.out; have q2 : w3.cell? ⟨wr.heap.size, 1, none⟩ = some (.int .i64 H) := cell_of_heap hx3 1; have HT3 := Lib.hid (HT2.out.keepR hk3 HR2.out hr3.bel); have HR3 := Lib.hid hr3; clear hr3 hk3 hx3))
            all_goals
              have HBE : Hid (Both w w3 sb rb) := Lib.hid ⟨_, _, _, HT3.out, HR3.out, HL2.out⟩
              clear x1 q1 q2 HT3 HR3 HT2 HR2 HF HF2
              have HS := Lib.hid (same_both w _ sb rb HBE.out)
              clear HBE
              go_wp2_with fail
              refine HS.out.mono ?_
              rintro e w9 ⟨rfl, hb9⟩
              have HB9 := Lib.hid hb9
              clear hb9 HS
              go_wp2
              go_roundw
              case rel => exact ⟨k + 1, by omega, by omega, by go_num, HB9⟩
              case measure => simp [intOf]; omega
          by_cases hK4 : K = 4
          · subst hK4
            obtain ⟨zf, hzf⟩ : ∃ z : Int, setErr (fitsF N b0 b1 b2 b3) (thereL L H) = z := ⟨_, rfl⟩
            have HDL := Lib.hid (set_both HL.out H (fitsF N b0 b1 b2 b3) ⟨N, b0, b1, b2, b3⟩)
            obtain ⟨L', hL'⟩ : ∃ l, (if fitsF N b0 b1 b2 b3 then putIf L H ⟨⟨N, b0, b1, b2, b3⟩, true⟩ else L) = l := ⟨_, rfl⟩
            rw [hL'] at HDL
            have HF : Hid (∀ W, TabAt w W sb D → Calls Try.prog 13 #[.pointer (some ⟨sb, 0, none⟩), .int .i64 H, .int .i64 N, .agg #[.int .u64 b0, .int .u64 b1, .int .u64 b2, .int .u64 b3]] W fun e w' => e = .returned (.int .i64 zf) ∧ (∃ D', TabAt w w' sb D' ∧ Rel D' L') ∧ Keep sb W w') :=
              Lib.hid (fun W h => (set_tab w sb D H N b0 b1 b2 b3 HW64.out W h (by have := HL.out.size; have h2 : cntL L ≤ L.length := List.countP_le_length; have := HL.out.len; omega) HWH.out).mono fun e w' ⟨h1, h2, h3⟩ => ⟨by rw [h1, HL.out.has, hzf], ⟨_, h2, HDL.out⟩, h3⟩)
            have HF2 : Hid (∀ W, RefIs w W sb rb v L → Calls Try.prog 19 #[.pointer (some ⟨rb, 0, none⟩), .int .i64 H, .int .i64 N, .agg #[.int .u64 b0, .int .u64 b1, .int .u64 b2, .int .u64 b3]] W fun e w' => e = .returned (.int .i64 zf) ∧ (∃ v', RefIs w w' sb rb v' L') ∧ KeepR sb rb W w') :=
              Lib.hid (fun W h => by
                have := refSet_calls w W sb rb v L h H (wf_bd HWH.out) HL.out.len N b0 b1 b2 b3 HW64.out
                rw [hzf, hL'] at this
                exact this)
            have HTd := Lib.hid (HT.out.grow (Below.refl wb.heap.size wb).drew)
            have HRd := Lib.hid (HR.out.grow (Below.refl wb.heap.size wb).drew)
            clear hzf HDL hL'
            go_wp2_with fail
            go_region_held3 (fun w' => w'.cell? ⟨wr.heap.size, 1, none⟩ = some (.int .i64 H) ∧ w'.cell? ⟨wr.heap.size, 2, none⟩ = some (.int .i64 N) ∧ w'.cell? ⟨wr.heap.size, 3, none⟩ = some (.int .u64 b0) ∧ w'.cell? ⟨wr.heap.size, 4, none⟩ = some (.int .u64 b1) ∧ w'.cell? ⟨wr.heap.size, 5, none⟩ = some (.int .u64 b2) ∧ w'.cell? ⟨wr.heap.size, 6, none⟩ = some (.int .u64 b3))
              (first | exact ⟨x1, x2, x3, x4, x5, x6⟩ | exact q2 | exact q3 | assumption)
              (first
              | (go_at_call 13; refine (HF.out _ (by first | exact HT.out | exact HTd.out)).mono ?_; rintro e w2 ⟨rfl, ⟨D', ht2, hl2⟩, hk2⟩; have hx2 := hk2 _ _ _ _ HNE.out HX.out; have HX2 := Lib.hid hx2; have q2 : w2.cell? ⟨wr.heap.size, 1, none⟩ = some (.int .i64 H) ∧ w2.cell? ⟨wr.heap.size, 2, none⟩ = some (.int .i64 N) ∧ w2.cell? ⟨wr.heap.size, 3, none⟩ = some (.int .u64 b0) ∧ w2.cell? ⟨wr.heap.size, 4, none⟩ = some (.int .u64 b1) ∧ w2.cell? ⟨wr.heap.size, 5, none⟩ = some (.int .u64 b2) ∧ w2.cell? ⟨wr.heap.size, 6, none⟩ = some (.int .u64 b3) := ⟨cell_of_heap hx2 1, cell_of_heap hx2 2, cell_of_heap hx2 3, cell_of_heap hx2 4, cell_of_heap hx2 5, cell_of_heap hx2 6⟩; have HT2 := Lib.hid ht2; have HL2 := Lib.hid hl2; have HR2 := Lib.hid (HRd.out.keep hk2 ht2.bel); clear ht2 hl2 hk2 hx2)
              | (go_at_call 19; refine (HF2.out _ HR2.out).mono ?_; rintro e w3 ⟨rfl, ⟨v', hr3⟩, hk3⟩; have hx3 := hk3 _ _ HNR.out (.inr (fun cs f e => by simp at e)) HX2.out; have q3 : w3.cell? ⟨wr.heap.size, 1, none⟩ = some (.int .i64 H) ∧ w3.cell? ⟨wr.heap.size, 2, none⟩ = some (.int .i64 N) ∧ w3.cell? ⟨wr.heap.size, 3, none⟩ = some (.int .u64 b0) ∧ w3.cell? ⟨wr.heap.size, 4, none⟩ = some (.int .u64 b1) ∧ w3.cell? ⟨wr.heap.size, 5, none⟩ = some (.int .u64 b2) ∧ w3.cell? ⟨wr.heap.size, 6, none⟩ = some (.int .u64 b3) := ⟨cell_of_heap hx3 1, cell_of_heap hx3 2, cell_of_heap hx3 3, cell_of_heap hx3 4, cell_of_heap hx3 5, cell_of_heap hx3 6⟩; have HT3 := Lib.hid (HT2.out.keepR hk3 HR2.out hr3.bel); have HR3 := Lib.hid hr3; clear hr3 hk3 hx3))
            all_goals
              have HBE : Hid (Both w w3 sb rb) := Lib.hid ⟨_, _, _, HT3.out, HR3.out, HL2.out⟩
              clear x1 x2 x3 x4 x5 x6 q2 q3 HT3 HR3 HT2 HR2 HF HF2
              have HS := Lib.hid (same_both w _ sb rb HBE.out)
              clear HBE
              go_wp2_with fail
              refine HS.out.mono ?_
              rintro e w9 ⟨rfl, hb9⟩
              have HB9 := Lib.hid hb9
              clear hb9 HS
              go_wp2
              go_roundw
              case rel => exact ⟨k + 1, by omega, by omega, by go_num, HB9⟩
              case measure => simp [intOf]; omega
          · have e1 : (K == 1) = false := by simp [hK1]
            have e2 : (K == 2) = false := by simp [hK2]
            have e3 : (K == 3) = false := by simp [hK3]
            have e4 : (K == 4) = false := by simp [hK4]
            have HBE := HBb
            clear x1 x2 x3 x4 x5 x6 hK1 hK2 hK3 hK4
            have HS := Lib.hid (same_both w _ sb rb HBE.out)
            clear HBE
            go_wp2_with fail
            refine HS.out.mono ?_
            rintro e w9 ⟨rfl, hb9⟩
            have HB9 := Lib.hid hb9
            clear hb9 HS
            go_wp2
            go_roundw
            case rel => exact ⟨k + 1, by omega, by omega, by go_num, HB9⟩
            case measure => simp [intOf]; omega
      · go_wp2
        go_ret
        exact ⟨rfl, HB.out.bel⟩
end Go.Proofs.Ytojbdaeidbmjgaa
