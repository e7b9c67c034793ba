/- The reference's Finite. No conditions. · FixedSides: what is written in each direction is one of two texts; the walk over the law. -/
import Derived.Test.YtpodpdopgdkdkaaGreatDoorMw21
import Derived.Test.YtpodpdopgdkdkaaGreatDoorMw25
import Derived.BigRegion
import Derived.Deep.RegionHeld3
import Derived.Test.YtpodpdopgdkdkaaGreatDoorMw28
set_option linter.unusedVariables false
set_option linter.unusedSimpArgs false
namespace Go.Proofs.YtpodpdopgdkdkaaGreatDoor
set_option linter.unusedVariables false
set_option linter.unusedSimpArgs false
open Go.RowKit
theorem sto8 {W : World} {r : Nat} {a0 a1 a2 a3 a4 a5 a6 a7 : Value} {t : TypeId} {f : Nat × Nat} (h : W.heap[r]? = some (.cells #[a0, a1, a2, a3, a4, a5, a6, a7] t f)) (v0 v1 v2 v3 v4 v5 v6 v7 : Value) :
    ∃ W', W' = ((((((((W.setCell ⟨r, 0, none⟩ v0).setCell ⟨r, 1, none⟩ v1).setCell ⟨r, 2, none⟩ v2).setCell ⟨r, 3, none⟩ v3).setCell ⟨r, 4, none⟩ v4).setCell ⟨r, 5, none⟩ v5).setCell ⟨r, 6, none⟩ v6).setCell ⟨r, 7, none⟩ v7) ∧ W'.heap[r]? = some (.cells #[v0, v1, v2, v3, v4, v5, v6, v7] t f) ∧ (∀ b, b ≠ r → W'.heap[b]? = W.heap[b]?) ∧ W'.heap.size = W.heap.size ∧ (∀ (B : Nat) (w0 : World), B ≤ r → Below B w0 W → Below B w0 W') := by
  have h0 : (W.setCell ⟨r, 0, none⟩ v0).heap[r]? = some (.cells #[v0, a1, a2, a3, a4, a5, a6, a7] t f) := heap_set h 0 v0
  have h1 : ((W.setCell ⟨r, 0, none⟩ v0).setCell ⟨r, 1, none⟩ v1).heap[r]? = some (.cells #[v0, v1, a2, a3, a4, a5, a6, a7] t f) := heap_set h0 1 v1
  have h2 : (((W.setCell ⟨r, 0, none⟩ v0).setCell ⟨r, 1, none⟩ v1).setCell ⟨r, 2, none⟩ v2).heap[r]? = some (.cells #[v0, v1, v2, a3, a4, a5, a6, a7] t f) := heap_set h1 2 v2
  have h3 : ((((W.setCell ⟨r, 0, none⟩ v0).setCell ⟨r, 1, none⟩ v1).setCell ⟨r, 2, none⟩ v2).setCell ⟨r, 3, none⟩ v3).heap[r]? = some (.cells #[v0, v1, v2, v3, a4, a5, a6, a7] t f) := heap_set h2 3 v3
  have h4 : (((((W.setCell ⟨r, 0, none⟩ v0).setCell ⟨r, 1, none⟩ v1).setCell ⟨r, 2, none⟩ v2).setCell ⟨r, 3, none⟩ v3).setCell ⟨r, 4, none⟩ v4).heap[r]? = some (.cells #[v0, v1, v2, v3, v4, a5, a6, a7] t f) := heap_set h3 4 v4
  have h5 : ((((((W.setCell ⟨r, 0, none⟩ v0).setCell ⟨r, 1, none⟩ v1).setCell ⟨r, 2, none⟩ v2).setCell ⟨r, 3, none⟩ v3).setCell ⟨r, 4, none⟩ v4).setCell ⟨r, 5, none⟩ v5).heap[r]? = some (.cells #[v0, v1, v2, v3, v4, v5, a6, a7] t f) := heap_set h4 5 v5
  have h6 : (((((((W.setCell ⟨r, 0, none⟩ v0).setCell ⟨r, 1, none⟩ v1).setCell ⟨r, 2, none⟩ v2).setCell ⟨r, 3, none⟩ v3).setCell ⟨r, 4, none⟩ v4).setCell ⟨r, 5, none⟩ v5).setCell ⟨r, 6, none⟩ v6).heap[r]? = some (.cells #[v0, v1, v2, v3, v4, v5, v6, a7] t f) := heap_set h5 6 v6
  have h7 : ((((((((W.setCell ⟨r, 0, none⟩ v0).setCell ⟨r, 1, none⟩ v1).setCell ⟨r, 2, none⟩ v2).setCell ⟨r, 3, none⟩ v3).setCell ⟨r, 4, none⟩ v4).setCell ⟨r, 5, none⟩ v5).setCell ⟨r, 6, none⟩ v6).setCell ⟨r, 7, none⟩ v7).heap[r]? = some (.cells #[v0, v1, v2, v3, v4, v5, v6, v7] t f) := heap_set h6 7 v7
  refine ⟨_, rfl, h7, fun b hb => ?_, ?_, fun B w0 hB hb => ?_⟩
  · rw [heap_set_other hb, heap_set_other hb, heap_set_other hb, heap_set_other hb, heap_set_other hb, heap_set_other hb, heap_set_other hb, heap_set_other hb]
  · rw [size_set, size_set, size_set, size_set, size_set, size_set, size_set, size_set]
  · exact ((((((((hb.setCell hB _).setCell hB _).setCell hB _).setCell hB _).setCell hB _).setCell hB _).setCell hB _).setCell hB _)
theorem other8 {W : World} {r b : Nat} (hb : b ≠ r) (o : Nat) (v0 v1 v2 v3 v4 v5 v6 v7 : Value) : ((((((((W.setCell ⟨r, 0, none⟩ v0).setCell ⟨r, 1, none⟩ v1).setCell ⟨r, 2, none⟩ v2).setCell ⟨r, 3, none⟩ v3).setCell ⟨r, 4, none⟩ v4).setCell ⟨r, 5, none⟩ v5).setCell ⟨r, 6, none⟩ v6).setCell ⟨r, 7, none⟩ v7).cell? ⟨b, o, none⟩ = W.cell? ⟨b, o, none⟩ := by
  have e : ∀ (V : World) (i : Nat) (v : Value), (V.setCell ⟨r, i, none⟩ v).cell? ⟨b, o, none⟩ = V.cell? ⟨b, o, none⟩ := fun V i v => by
    unfold World.cell?
    rw [heap_set_other hb]
  rw [e, e, e, e, e, e, e, e]
/-- A pattern of a binary format whose number is finite and not nought. -/
def finLive (V P X : Nat) : Prop := V / 2 ^ (P - 1) % 2 ^ X < 2 ^ X - 1 ∧ coefF V P X ≠ 0
def FinIs (n : Int) (b0 b1 b2 b3 : Nat) (w : World) (e : Ending) (w' : World) : Prop := Below w.heap.size w w' ∧
  ((∃ P X L, Inf6 n P X L ∧ (blen (val [b0, b1, b2, b3]) : Int) ≤ wdF n ∧ finLive (val [b0, b1, b2, b3]) P X ∧ ∃ c0 c1 c2 c3 : Nat, W64 [c0, c1, c2, c3] ∧ val [c0, c1, c2, c3] = coefF (val [b0, b1, b2, b3]) P X ∧
      e = .returned (.tuple #[.agg (datV 1 (sgF (val [b0, b1, b2, b3]) P X) false (expF (val [b0, b1, b2, b3]) P X L) c0 c1 c2 c3), .bool true])) ∨
   ((∀ P X L, Inf6 n P X L → (blen (val [b0, b1, b2, b3]) : Int) ≤ wdF n → ¬ finLive (val [b0, b1, b2, b3]) P X) ∧ ∃ (k : Int) (sg si : Bool) (x : Int) (c0 c1 c2 c3 : Nat), e = .returned (.tuple #[.agg (datV k sg si x c0 c1 c2 c3), .bool false])))
set_option maxRecDepth 100000 in
set_option maxHeartbeats 8000000 in
theorem finite_calls (n : Int) (b0 b1 b2 b3 : Nat) (hb : W64 [b0, b1, b2, b3]) (w : World) :
    Calls Tryz.prog 11 #[.int .i64 n, bitsV b0 b1 b2 b3] w (FinIs n b0 b1 b2 b3 w) := by
  have HU := Lib.hid (fun W => runpack_calls n b0 b1 b2 b3 hb W)
  have HBN := Lib.hid (fun W => rbinary_calls n W)
  unfold bitsV at *
  clear hb
  go_enter Tryz.func11, Tryz.ntmps11
  go_wp2_with fail
  have HB0 := Lib.hid (below_alloc (below_alloc (Below.refl w.heap.size w) (.cells #[.int .u64 (b0 : Nat), .int .u64 (b1 : Nat), .int .u64 (b2 : Nat), .int .u64 (b3 : Nat)] 24)) (.cells #[.int .i64 0, .bool false, .bool false, .int .i64 0, .int .u64 0, .int .u64 0, .int .u64 0, .int .u64 0] 31))
  have HS0 : (w.alloc (.cells #[.int .u64 (b0 : Nat), .int .u64 (b1 : Nat), .int .u64 (b2 : Nat), .int .u64 (b3 : Nat)] 24)).heap.size = w.heap.size + 1 := by simp
  generalize (w.alloc (.cells #[.int .u64 (b0 : Nat), .int .u64 (b1 : Nat), .int .u64 (b2 : Nat), .int .u64 (b3 : Nat)] 24)) = v0 at HB0 HS0 ⊢
  have HR0 := heap_new v0 (.cells #[.int .i64 0, .bool false, .bool false, .int .i64 0, .int .u64 0, .int .u64 0, .int .u64 0, .int .u64 0] 31)
  rw [HS0] at HR0
  generalize (v0.alloc (.cells #[.int .i64 0, .bool false, .bool false, .int .i64 0, .int .u64 0, .int .u64 0, .int .u64 0, .int .u64 0] 31)) = v1 at HB0 HR0 ⊢
  refine (HU.out _).mono ?_
  intro e w1 hr
  rcases hr with ⟨P, X, L, H, hlen, hb1, hfin, hinf⟩ | ⟨hbad, rfl, hb1⟩
  · have HB1 := Lib.hid (below_then HB0.out hb1)
    have HR1 := Lib.hid (below_heap hb1 HR0)
    have HH := Lib.hid (And.intro H hlen)
    clear hb1 HB0 HR0 HS0 HU
    by_cases hE : val [b0, b1, b2, b3] / 2 ^ (P - 1) % 2 ^ X < 2 ^ X - 1
    · obtain ⟨c0, c1, c2, c3, hcw, hcv, rfl⟩ := hfin hE
      have HC := Lib.hid (And.intro hcw hcv)
      have HE := Lib.hid hE
      obtain ⟨sg, hsg⟩ : ∃ sg : Bool, (((val [b0, b1, b2, b3] / 2 ^ (P + X - 1) % 2 : Nat) : Int) == 1) = sg := ⟨_, rfl⟩
      obtain ⟨x, hx⟩ : ∃ x, L + max (((val [b0, b1, b2, b3] / 2 ^ (P - 1) % 2 ^ X : Nat) : Int) - 1) 0 = x := ⟨_, rfl⟩
      rw [hsg, hx]
      have HX := Lib.hid hx
      have HSG := Lib.hid hsg
      clear hsg hx hcw hcv hfin hinf H hlen hE
      by_cases hz : c0 = 0 ∧ c1 = 0 ∧ c2 = 0 ∧ c3 = 0
      · obtain ⟨rfl, rfl, rfl, rfl⟩ := hz
        have heq := fun W => bits_eqIn W 0 0 0 0 0 0 0 0
        simp only [beq_self_eq_true, Bool.and_self] at heq
        go_wp2_with fail
        have HRA := Lib.hid (below_heap (below_alloc (Below.refl w1.heap.size w1) (.cells #[.int .i64 1, .bool sg, .bool false, .int .i64 x, .int .u64 0, .int .u64 0, .int .u64 0, .int .u64 0] 31)) HR1.out)
        have HWA := Lib.hid (heap_new w1 (.cells #[.int .i64 1, .bool sg, .bool false, .int .i64 x, .int .u64 0, .int .u64 0, .int .u64 0, .int .u64 0] 31))
        have HBA := Lib.hid (below_alloc HB1.out (.cells #[.int .i64 1, .bool sg, .bool false, .int .i64 x, .int .u64 0, .int .u64 0, .int .u64 0, .int .u64 0] 31))
        generalize (w1.alloc (.cells #[.int .i64 1, .bool sg, .bool false, .int .i64 x, .int .u64 0, .int .u64 0, .int .u64 0, .int .u64 0] 31)) = W at HRA HWA HBA ⊢
        have hne : w1.heap.size ≠ w.heap.size + 1 := by have := lt_of_heap HR1.out; omega
        have z0 : W.cell? ⟨w1.heap.size, 0, none⟩ = some (.int .i64 1) := cell_of_heap HWA.out 0
        have z1 : W.cell? ⟨w1.heap.size, 1, none⟩ = some (.bool sg) := cell_of_heap HWA.out 1
        have z2 : W.cell? ⟨w1.heap.size, 2, none⟩ = some (.bool false) := cell_of_heap HWA.out 2
        have z3 : W.cell? ⟨w1.heap.size, 3, none⟩ = some (.int .i64 x) := cell_of_heap HWA.out 3
        have z4 : W.cell? ⟨w1.heap.size, 4, none⟩ = some (.int .u64 0) := cell_of_heap HWA.out 4
        have z5 : W.cell? ⟨w1.heap.size, 5, none⟩ = some (.int .u64 0) := cell_of_heap HWA.out 5
        have z6 : W.cell? ⟨w1.heap.size, 6, none⟩ = some (.int .u64 0) := cell_of_heap HWA.out 6
        have z7 : W.cell? ⟨w1.heap.size, 7, none⟩ = some (.int .u64 0) := cell_of_heap HWA.out 7
        have y0 : W.cell? ⟨w.heap.size + 1, 0, none⟩ = some (.int .i64 0) := cell_of_heap HRA.out 0
        have f0 := free_of_heap HRA.out 0
        have y1 : W.cell? ⟨w.heap.size + 1, 1, none⟩ = some (.bool false) := cell_of_heap HRA.out 1
        have f1 := free_of_heap HRA.out 1
        have y2 : W.cell? ⟨w.heap.size + 1, 2, none⟩ = some (.bool false) := cell_of_heap HRA.out 2
        have f2 := free_of_heap HRA.out 2
        have y3 : W.cell? ⟨w.heap.size + 1, 3, none⟩ = some (.int .i64 0) := cell_of_heap HRA.out 3
        have f3 := free_of_heap HRA.out 3
        have y4 : W.cell? ⟨w.heap.size + 1, 4, none⟩ = some (.int .u64 0) := cell_of_heap HRA.out 4
        have f4 := free_of_heap HRA.out 4
        have y5 : W.cell? ⟨w.heap.size + 1, 5, none⟩ = some (.int .u64 0) := cell_of_heap HRA.out 5
        have f5 := free_of_heap HRA.out 5
        have y6 : W.cell? ⟨w.heap.size + 1, 6, none⟩ = some (.int .u64 0) := cell_of_heap HRA.out 6
        have f6 := free_of_heap HRA.out 6
        have y7 : W.cell? ⟨w.heap.size + 1, 7, none⟩ = some (.int .u64 0) := cell_of_heap HRA.out 7
        have f7 := free_of_heap HRA.out 7
        go_region
        all_goals
          go_wp2
          obtain ⟨W2, hW2, k1, k2, k3, k4⟩ := sto8 HRA.out (.int .i64 1) (.bool sg) (.bool false) (.int .i64 x) (.int .u64 0) (.int .u64 0) (.int .u64 0) (.int .u64 0)
          rw [← hW2]
          exact bodyPost_ret (results_ct rfl _ _ (w.heap.size + 1) 31 _ _ _ rfl k1 Tryz.underlying31 rfl (by kernel_rfl)) rfl ⟨(k4 _ _ (by omega) HBA.out).drew, .inr ⟨fun P' X' L' hI hl hf => by obtain ⟨rfl, rfl, rfl⟩ := HH.out.1.uniq hI; exact hf.2 (HC.out.2.symm.trans (show val [0, 0, 0, 0] = 0 from rfl)), 1, sg, false, x, 0, 0, 0, 0, rfl⟩⟩
      · have heq := fun W => bits_eqIn W (c0 : Nat) (c1 : Nat) (c2 : Nat) (c3 : Nat) 0 0 0 0
        rw [four_ne hz] at heq
        have HF0 : Hid (coefF (val [b0, b1, b2, b3]) P X ≠ 0) := Lib.hid (by rw [← show val [c0, c1, c2, c3] = coefF (val [b0, b1, b2, b3]) P X from HC.out.2]; exact fun h => hz (val4_zero h))
        have hbt : decide (1 ≤ n ∧ n ≤ 6) = true := decide_eq_true HH.out.1.rng
        rw [hbt] at HBN
        clear hz hbt
        go_wp2_with fail
        have HRA := Lib.hid (below_heap (below_alloc (Below.refl w1.heap.size w1) (.cells #[.int .i64 1, .bool sg, .bool false, .int .i64 x, .int .u64 (c0 : Nat), .int .u64 (c1 : Nat), .int .u64 (c2 : Nat), .int .u64 (c3 : Nat)] 31)) HR1.out)
        have HWA := Lib.hid (heap_new w1 (.cells #[.int .i64 1, .bool sg, .bool false, .int .i64 x, .int .u64 (c0 : Nat), .int .u64 (c1 : Nat), .int .u64 (c2 : Nat), .int .u64 (c3 : Nat)] 31))
        have HBA := Lib.hid (below_alloc HB1.out (.cells #[.int .i64 1, .bool sg, .bool false, .int .i64 x, .int .u64 (c0 : Nat), .int .u64 (c1 : Nat), .int .u64 (c2 : Nat), .int .u64 (c3 : Nat)] 31))
        generalize (w1.alloc (.cells #[.int .i64 1, .bool sg, .bool false, .int .i64 x, .int .u64 (c0 : Nat), .int .u64 (c1 : Nat), .int .u64 (c2 : Nat), .int .u64 (c3 : Nat)] 31)) = W at HRA HWA HBA ⊢
        have hne : w1.heap.size ≠ w.heap.size + 1 := by have := lt_of_heap HR1.out; omega
        have z0 : W.cell? ⟨w1.heap.size, 0, none⟩ = some (.int .i64 1) := cell_of_heap HWA.out 0
        have z1 : W.cell? ⟨w1.heap.size, 1, none⟩ = some (.bool sg) := cell_of_heap HWA.out 1
        have z2 : W.cell? ⟨w1.heap.size, 2, none⟩ = some (.bool false) := cell_of_heap HWA.out 2
        have z3 : W.cell? ⟨w1.heap.size, 3, none⟩ = some (.int .i64 x) := cell_of_heap HWA.out 3
        have z4 : W.cell? ⟨w1.heap.size, 4, none⟩ = some (.int .u64 (c0 : Nat)) := cell_of_heap HWA.out 4
        have z5 : W.cell? ⟨w1.heap.size, 5, none⟩ = some (.int .u64 (c1 : Nat)) := cell_of_heap HWA.out 5
        have z6 : W.cell? ⟨w1.heap.size, 6, none⟩ = some (.int .u64 (c2 : Nat)) := cell_of_heap HWA.out 6
        have z7 : W.cell? ⟨w1.heap.size, 7, none⟩ = some (.int .u64 (c3 : Nat)) := cell_of_heap HWA.out 7
        have y0 : W.cell? ⟨w.heap.size + 1, 0, none⟩ = some (.int .i64 0) := cell_of_heap HRA.out 0
        have f0 := free_of_heap HRA.out 0
        have y1 : W.cell? ⟨w.heap.size + 1, 1, none⟩ = some (.bool false) := cell_of_heap HRA.out 1
        have f1 := free_of_heap HRA.out 1
        have y2 : W.cell? ⟨w.heap.size + 1, 2, none⟩ = some (.bool false) := cell_of_heap HRA.out 2
        have f2 := free_of_heap HRA.out 2
        have y3 : W.cell? ⟨w.heap.size + 1, 3, none⟩ = some (.int .i64 0) := cell_of_heap HRA.out 3
        have f3 := free_of_heap HRA.out 3
        have y4 : W.cell? ⟨w.heap.size + 1, 4, none⟩ = some (.int .u64 0) := cell_of_heap HRA.out 4
        have f4 := free_of_heap HRA.out 4
        have y5 : W.cell? ⟨w.heap.size + 1, 5, none⟩ = some (.int .u64 0) := cell_of_heap HRA.out 5
        have f5 := free_of_heap HRA.out 5
        have y6 : W.cell? ⟨w.heap.size + 1, 6, none⟩ = some (.int .u64 0) := cell_of_heap HRA.out 6
        have f6 := free_of_heap HRA.out 6
        have y7 : W.cell? ⟨w.heap.size + 1, 7, none⟩ = some (.int .u64 0) := cell_of_heap HRA.out 7
        have f7 := free_of_heap HRA.out 7
        go_region_held3 (fun w' => w'.cell? ⟨w1.heap.size, 0, none⟩ = some (.int .i64 1) ∧ w'.cell? ⟨w1.heap.size, 1, none⟩ = some (.bool sg) ∧ w'.cell? ⟨w1.heap.size, 2, none⟩ = some (.bool false) ∧ w'.cell? ⟨w1.heap.size, 3, none⟩ = some (.int .i64 x) ∧ w'.cell? ⟨w1.heap.size, 4, none⟩ = some (.int .u64 (c0 : Nat)) ∧ w'.cell? ⟨w1.heap.size, 5, none⟩ = some (.int .u64 (c1 : Nat)) ∧ w'.cell? ⟨w1.heap.size, 6, none⟩ = some (.int .u64 (c2 : Nat)) ∧ w'.cell? ⟨w1.heap.size, 7, none⟩ = some (.int .u64 (c3 : Nat)))
          (first | (with_reducible exact ⟨(other8 hne 0 _ _ _ _ _ _ _ _).trans z0, (other8 hne 1 _ _ _ _ _ _ _ _).trans z1, (other8 hne 2 _ _ _ _ _ _ _ _).trans z2, (other8 hne 3 _ _ _ _ _ _ _ _).trans z3, (other8 hne 4 _ _ _ _ _ _ _ _).trans z4, (other8 hne 5 _ _ _ _ _ _ _ _).trans z5, (other8 hne 6 _ _ _ _ _ _ _ _).trans z6, (other8 hne 7 _ _ _ _ _ _ _ _).trans z7⟩) | exact ⟨z0, z1, z2, z3, z4, z5, z6, z7⟩)
          (first
          | (go_at_call 37; go_must (refine (HBN.out _).mono ?_); go_must (rintro e w3 ⟨rfl, hb3⟩); have hbv := (⟨hb3.os, hb3.tape, hb3.output, hb3.size, hb3.block⟩ : Below W.heap.size W w3); have HW3 := Lib.hid (below_heap hbv HWA.out); have HR3 := Lib.hid (below_heap hbv HRA.out); have HB3 := Lib.hid (below_then HBA.out hbv); clear hb3 hbv; have z0 : w3.cell? ⟨w1.heap.size, 0, none⟩ = some (.int .i64 1) := cell_of_heap HW3.out 0; have z1 : w3.cell? ⟨w1.heap.size, 1, none⟩ = some (.bool sg) := cell_of_heap HW3.out 1; have z2 : w3.cell? ⟨w1.heap.size, 2, none⟩ = some (.bool false) := cell_of_heap HW3.out 2; have z3 : w3.cell? ⟨w1.heap.size, 3, none⟩ = some (.int .i64 x) := cell_of_heap HW3.out 3; have z4 : w3.cell? ⟨w1.heap.size, 4, none⟩ = some (.int .u64 (c0 : Nat)) := cell_of_heap HW3.out 4; have z5 : w3.cell? ⟨w1.heap.size, 5, none⟩ = some (.int .u64 (c1 : Nat)) := cell_of_heap HW3.out 5; have z6 : w3.cell? ⟨w1.heap.size, 6, none⟩ = some (.int .u64 (c2 : Nat)) := cell_of_heap HW3.out 6; have z7 : w3.cell? ⟨w1.heap.size, 7, none⟩ = some (.int .u64 (c3 : Nat)) := cell_of_heap HW3.out 7; have y0 : w3.cell? ⟨w.heap.size + 1, 0, none⟩ = some (.int .i64 0) := cell_of_heap HR3.out 0; have f0 := free_of_heap HR3.out 0; have y1 : w3.cell? ⟨w.heap.size + 1, 1, none⟩ = some (.bool false) := cell_of_heap HR3.out 1; have f1 := free_of_heap HR3.out 1; have y2 : w3.cell? ⟨w.heap.size + 1, 2, none⟩ = some (.bool false) := cell_of_heap HR3.out 2; have f2 := free_of_heap HR3.out 2; have y3 : w3.cell? ⟨w.heap.size + 1, 3, none⟩ = some (.int .i64 0) := cell_of_heap HR3.out 3; have f3 := free_of_heap HR3.out 3; have y4 : w3.cell? ⟨w.heap.size + 1, 4, none⟩ = some (.int .u64 0) := cell_of_heap HR3.out 4; have f4 := free_of_heap HR3.out 4; have y5 : w3.cell? ⟨w.heap.size + 1, 5, none⟩ = some (.int .u64 0) := cell_of_heap HR3.out 5; have f5 := free_of_heap HR3.out 5; have y6 : w3.cell? ⟨w.heap.size + 1, 6, none⟩ = some (.int .u64 0) := cell_of_heap HR3.out 6; have f6 := free_of_heap HR3.out 6; have y7 : w3.cell? ⟨w.heap.size + 1, 7, none⟩ = some (.int .u64 0) := cell_of_heap HR3.out 7; have f7 := free_of_heap HR3.out 7))
        all_goals
          go_wp2
          obtain ⟨W2, hW2, k1, k2, k3, k4⟩ := sto8 HR3.out (.int .i64 1) (.bool sg) (.bool false) (.int .i64 x) (.int .u64 (c0 : Nat)) (.int .u64 (c1 : Nat)) (.int .u64 (c2 : Nat)) (.int .u64 (c3 : Nat))
          rw [← hW2]
          exact bodyPost_ret (results_ct rfl _ _ (w.heap.size + 1) 31 _ _ _ rfl k1 Tryz.underlying31 rfl (by kernel_rfl)) rfl ⟨k4 _ _ (by omega) HB3.out, .inl ⟨P, X, L, HH.out.1, HH.out.2, ⟨HE.out, HF0.out⟩, c0, c1, c2, c3, HC.out.1, HC.out.2, by rw [show sgF (val [b0, b1, b2, b3]) P X = sg from HSG.out, show expF (val [b0, b1, b2, b3]) P X L = x from HX.out]; rfl⟩⟩
    · obtain ⟨k, sg, si, c0, c1, c2, c3, hk, rfl⟩ := hinf hE
      have HE := Lib.hid hE
      clear hfin hinf H hlen hE
      have hk1 : ¬ k = 1 := by omega
      have hk2 : (k != 1) = true := by simp [hk1]
      have hk3 : (k == 1) = false := by simp [hk1]
      clear hk hk1
      go_wp2_with fail
      have HRA := Lib.hid (below_heap (below_alloc (Below.refl w1.heap.size w1) (.cells #[.int .i64 k, .bool sg, .bool si, .int .i64 0, .int .u64 (c0 : Nat), .int .u64 (c1 : Nat), .int .u64 (c2 : Nat), .int .u64 (c3 : Nat)] 31)) HR1.out)
      have HWA := Lib.hid (heap_new w1 (.cells #[.int .i64 k, .bool sg, .bool si, .int .i64 0, .int .u64 (c0 : Nat), .int .u64 (c1 : Nat), .int .u64 (c2 : Nat), .int .u64 (c3 : Nat)] 31))
      have HBA := Lib.hid (below_alloc HB1.out (.cells #[.int .i64 k, .bool sg, .bool si, .int .i64 0, .int .u64 (c0 : Nat), .int .u64 (c1 : Nat), .int .u64 (c2 : Nat), .int .u64 (c3 : Nat)] 31))
      generalize (w1.alloc (.cells #[.int .i64 k, .bool sg, .bool si, .int .i64 0, .int .u64 (c0 : Nat), .int .u64 (c1 : Nat), .int .u64 (c2 : Nat), .int .u64 (c3 : Nat)] 31)) = W at HRA HWA HBA ⊢
      have hne : w1.heap.size ≠ w.heap.size + 1 := by have := lt_of_heap HR1.out; omega
      have z0 : W.cell? ⟨w1.heap.size, 0, none⟩ = some (.int .i64 k) := cell_of_heap HWA.out 0
      have z1 : W.cell? ⟨w1.heap.size, 1, none⟩ = some (.bool sg) := cell_of_heap HWA.out 1
      have z2 : W.cell? ⟨w1.heap.size, 2, none⟩ = some (.bool si) := cell_of_heap HWA.out 2
      have z3 : W.cell? ⟨w1.heap.size, 3, none⟩ = some (.int .i64 0) := cell_of_heap HWA.out 3
      have z4 : W.cell? ⟨w1.heap.size, 4, none⟩ = some (.int .u64 (c0 : Nat)) := cell_of_heap HWA.out 4
      have z5 : W.cell? ⟨w1.heap.size, 5, none⟩ = some (.int .u64 (c1 : Nat)) := cell_of_heap HWA.out 5
      have z6 : W.cell? ⟨w1.heap.size, 6, none⟩ = some (.int .u64 (c2 : Nat)) := cell_of_heap HWA.out 6
      have z7 : W.cell? ⟨w1.heap.size, 7, none⟩ = some (.int .u64 (c3 : Nat)) := cell_of_heap HWA.out 7
      have y0 : W.cell? ⟨w.heap.size + 1, 0, none⟩ = some (.int .i64 0) := cell_of_heap HRA.out 0
      have f0 := free_of_heap HRA.out 0
      have y1 : W.cell? ⟨w.heap.size + 1, 1, none⟩ = some (.bool false) := cell_of_heap HRA.out 1
      have f1 := free_of_heap HRA.out 1
      have y2 : W.cell? ⟨w.heap.size + 1, 2, none⟩ = some (.bool false) := cell_of_heap HRA.out 2
      have f2 := free_of_heap HRA.out 2
      have y3 : W.cell? ⟨w.heap.size + 1, 3, none⟩ = some (.int .i64 0) := cell_of_heap HRA.out 3
      have f3 := free_of_heap HRA.out 3
      have y4 : W.cell? ⟨w.heap.size + 1, 4, none⟩ = some (.int .u64 0) := cell_of_heap HRA.out 4
      have f4 := free_of_heap HRA.out 4
      have y5 : W.cell? ⟨w.heap.size + 1, 5, none⟩ = some (.int .u64 0) := cell_of_heap HRA.out 5
      have f5 := free_of_heap HRA.out 5
      have y6 : W.cell? ⟨w.heap.size + 1, 6, none⟩ = some (.int .u64 0) := cell_of_heap HRA.out 6
      have f6 := free_of_heap HRA.out 6
      have y7 : W.cell? ⟨w.heap.size + 1, 7, none⟩ = some (.int .u64 0) := cell_of_heap HRA.out 7
      have f7 := free_of_heap HRA.out 7
      go_region
      all_goals
        go_wp2
        obtain ⟨W2, hW2, k1, k2, k3, k4⟩ := sto8 HRA.out (.int .i64 k) (.bool sg) (.bool si) (.int .i64 0) (.int .u64 (c0 : Nat)) (.int .u64 (c1 : Nat)) (.int .u64 (c2 : Nat)) (.int .u64 (c3 : Nat))
        rw [← hW2]
        exact bodyPost_ret (results_ct rfl _ _ (w.heap.size + 1) 31 _ _ _ rfl k1 Tryz.underlying31 rfl (by kernel_rfl)) rfl ⟨(k4 _ _ (by omega) HBA.out).drew, .inr ⟨fun P' X' L' hI hl hf => by obtain ⟨rfl, rfl, rfl⟩ := HH.out.1.uniq hI; exact HE.out hf.1, k, sg, si, 0, c0, c1, c2, c3, rfl⟩⟩
  · have HB1 := Lib.hid (below_then HB0.out hb1)
    have HR1 := Lib.hid (below_heap hb1 HR0)
    have HBAD := Lib.hid hbad
    clear hb1 HB0 HR0 HS0 HU hbad
    unfold datum0
    go_wp2_with fail
    have HRA := Lib.hid (below_heap (below_alloc (Below.refl w1.heap.size w1) (.cells #[.int .i64 0, .bool false, .bool false, .int .i64 0, .int .u64 0, .int .u64 0, .int .u64 0, .int .u64 0] 31)) HR1.out)
    have HWA := Lib.hid (heap_new w1 (.cells #[.int .i64 0, .bool false, .bool false, .int .i64 0, .int .u64 0, .int .u64 0, .int .u64 0, .int .u64 0] 31))
    have HBA := Lib.hid (below_alloc HB1.out (.cells #[.int .i64 0, .bool false, .bool false, .int .i64 0, .int .u64 0, .int .u64 0, .int .u64 0, .int .u64 0] 31))
    generalize (w1.alloc (.cells #[.int .i64 0, .bool false, .bool false, .int .i64 0, .int .u64 0, .int .u64 0, .int .u64 0, .int .u64 0] 31)) = W at HRA HWA HBA ⊢
    have hne : w1.heap.size ≠ w.heap.size + 1 := by have := lt_of_heap HR1.out; omega
    have z0 : W.cell? ⟨w1.heap.size, 0, none⟩ = some (.int .i64 0) := cell_of_heap HWA.out 0
    have z1 : W.cell? ⟨w1.heap.size, 1, none⟩ = some (.bool false) := cell_of_heap HWA.out 1
    have z2 : W.cell? ⟨w1.heap.size, 2, none⟩ = some (.bool false) := cell_of_heap HWA.out 2
    have z3 : W.cell? ⟨w1.heap.size, 3, none⟩ = some (.int .i64 0) := cell_of_heap HWA.out 3
    have z4 : W.cell? ⟨w1.heap.size, 4, none⟩ = some (.int .u64 0) := cell_of_heap HWA.out 4
    have z5 : W.cell? ⟨w1.heap.size, 5, none⟩ = some (.int .u64 0) := cell_of_heap HWA.out 5
    have z6 : W.cell? ⟨w1.heap.size, 6, none⟩ = some (.int .u64 0) := cell_of_heap HWA.out 6
    have z7 : W.cell? ⟨w1.heap.size, 7, none⟩ = some (.int .u64 0) := cell_of_heap HWA.out 7
    have y0 : W.cell? ⟨w.heap.size + 1, 0, none⟩ = some (.int .i64 0) := cell_of_heap HRA.out 0
    have f0 := free_of_heap HRA.out 0
    have y1 : W.cell? ⟨w.heap.size + 1, 1, none⟩ = some (.bool false) := cell_of_heap HRA.out 1
    have f1 := free_of_heap HRA.out 1
    have y2 : W.cell? ⟨w.heap.size + 1, 2, none⟩ = some (.bool false) := cell_of_heap HRA.out 2
    have f2 := free_of_heap HRA.out 2
    have y3 : W.cell? ⟨w.heap.size + 1, 3, none⟩ = some (.int .i64 0) := cell_of_heap HRA.out 3
    have f3 := free_of_heap HRA.out 3
    have y4 : W.cell? ⟨w.heap.size + 1, 4, none⟩ = some (.int .u64 0) := cell_of_heap HRA.out 4
    have f4 := free_of_heap HRA.out 4
    have y5 : W.cell? ⟨w.heap.size + 1, 5, none⟩ = some (.int .u64 0) := cell_of_heap HRA.out 5
    have f5 := free_of_heap HRA.out 5
    have y6 : W.cell? ⟨w.heap.size + 1, 6, none⟩ = some (.int .u64 0) := cell_of_heap HRA.out 6
    have f6 := free_of_heap HRA.out 6
    have y7 : W.cell? ⟨w.heap.size + 1, 7, none⟩ = some (.int .u64 0) := cell_of_heap HRA.out 7
    have f7 := free_of_heap HRA.out 7
    go_region
    all_goals
      go_wp2
      obtain ⟨W2, hW2, k1, k2, k3, k4⟩ := sto8 HRA.out (.int .i64 0) (.bool false) (.bool false) (.int .i64 0) (.int .u64 0) (.int .u64 0) (.int .u64 0) (.int .u64 0)
      rw [← hW2]
      exact bodyPost_ret (results_ct rfl _ _ (w.heap.size + 1) 31 _ _ _ rfl k1 Tryz.underlying31 rfl (by kernel_rfl)) rfl ⟨(k4 _ _ (by omega) HBA.out).drew, .inr ⟨fun P' X' L' hI hl hf => HBAD.out ⟨hI.rng.1, hI.rng.2, hl⟩, 0, false, false, 0, 0, 0, 0, 0, rfl⟩⟩
end Go.Proofs.YtpodpdopgdkdkaaGreatDoor
namespace Go.Proofs.YtpodpdopgdkdkaaGreatDoor
set_option linter.unusedVariables false
set_option linter.unusedSimpArgs false
open Go.RowKit
/-- The text with the lower neighbour, or with the greater one. -/
def wtU (sg : Bool) (A D : Nat) (u : Bool) (m : Nat) (t : Int) : List UInt8 :=
  let s := Lib.decDigits (if scN A (-(t - m + 1)) % scD D (-(t - m + 1)) = 0 then scN A (-(t - m + 1)) / scD D (-(t - m + 1)) else if u then scN A (-(t - m + 1)) / scD D (-(t - m + 1)) + 1 else scN A (-(t - m + 1)) / scD D (-(t - m + 1)))
  if m < s.length then layL sg (s.take m) (t - m + 1 + 1) else layL sg s (t - m + 1)
theorem wt_up (sg : Bool) (A D : Nat) (dir : Int) (m : Nat) (t : Int) : wrText sg A D dir m t = wtU sg A D (isUp dir sg (scN A (-(t - m + 1))) (scD D (-(t - m + 1)))) m t := by
  unfold wrText wtU quoR
  rfl
theorem isUp2 (sg : Bool) (A D : Nat) : isUp 2 sg A D = false := by unfold isUp upB; simp
theorem isUp3 (sg : Bool) (A D : Nat) : isUp 3 sg A D = !sg := by unfold isUp upB; simp
theorem isUp4 (sg : Bool) (A D : Nat) : isUp 4 sg A D = sg := by unfold isUp upB; simp
/-- What Write tells of a live number. -/
theorem write_live {n dir cnt : Int} {b0 b1 b2 b3 : Nat} {w w' : World} {e : Ending} {P X m : Nat} {L T : Int} (h : WrIs n dir cnt b0 b1 b2 b3 w e w') (hd : 0 ≤ dir ∧ dir ≤ 4) (hc : 1 ≤ cnt ∧ cnt ≤ 800) (hm : cnt = (m : Int)) (hI : Inf6 n P X L)
    (hl : (blen (val [b0, b1, b2, b3]) : Int) ≤ wdF n) (hv : finLive (val [b0, b1, b2, b3]) P X) (hT : isTens (frN (coefF (val [b0, b1, b2, b3]) P X) (expF (val [b0, b1, b2, b3]) P X L)) (frD (expF (val [b0, b1, b2, b3]) P X L)) T) :
    e = .returned (.tuple #[.string ⟨(wrText (sgF (val [b0, b1, b2, b3]) P X) (frN (coefF (val [b0, b1, b2, b3]) P X) (expF (val [b0, b1, b2, b3]) P X L)) (frD (expF (val [b0, b1, b2, b3]) P X L)) dir m T).toArray⟩,
      .bool (wrMore (frN (coefF (val [b0, b1, b2, b3]) P X) (expF (val [b0, b1, b2, b3]) P X L)) (frD (expF (val [b0, b1, b2, b3]) P X L)) m T), .int .i64 0]) ∧ Below w.heap.size w w' := by
  obtain ⟨hb, ⟨hn, -⟩ | ⟨-, P', X', L', t, hI', -, ht, rfl⟩⟩ := h
  · exact absurd ⟨⟨hI.rng.1, hI.rng.2, hl⟩, hd⟩ hn
  · obtain ⟨rfl, rfl, rfl⟩ := hI.uniq hI'
    obtain rfl := tens_unique (ht ⟨hc, hv⟩) hT
    refine ⟨?_, hb⟩
    rw [wr_main hc hm hv.1 rfl hv.2 rfl rfl rfl rfl]
/-- A live number has a first digit. -/
theorem live_tens {n : Int} {P X : Nat} {L : Int} {V : Nat} (hI : Inf6 n P X L) (hv : finLive V P X) : ∃ T, -5800 ≤ T ∧ T < 5800 ∧ isTens (frN (coefF V P X) (expF V P X L)) (frD (expF V P X L)) T := by
  obtain ⟨k, hk⟩ : ∃ k : Nat, 300 = k := ⟨_, rfl⟩
  exact tens_exists (by omega : k ≤ 300) (frN_pos hv.2) (frD_pos _) (frN_lt hI hv.1 hk) (frD_lt hI hv.1 hk)
end Go.Proofs.YtpodpdopgdkdkaaGreatDoor
