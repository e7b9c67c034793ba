/- desc.Binary at base 2. No conditions. · limbs.Shr at four words; limbs.Shl of one. No conditions. -/
import Derived.Test.YtpodpdopgdkdkaaGreatDoorMw12
import Derived.Test.YtpodpdopgdkdkaaGreatDoorMw11
set_option linter.unusedVariables false
set_option linter.unusedSimpArgs false
namespace Go.Proofs.YtpodpdopgdkdkaaGreatDoor
set_option linter.unusedVariables false
set_option linter.unusedSimpArgs false
open Go.RowKit
set_option maxRecDepth 100000 in
set_option maxHeartbeats 40000000 in
theorem binary_base (n c wd p x l m y : Int) (s : ByteArray) (d : Bool) (b0 b1 b2 b3 : Nat) (hb : W64 [b0, b1, b2, b3]) (w : World)
    (hof : ∀ w, Calls Tryz.prog 104 #[.int .i64 n] w fun e w' => e = .returned (.tuple #[.agg (infV c s 2 wd p x l m y d), .int .i64 0]) ∧ Below w.heap.size w w') :
    Calls Tryz.prog 60 #[.int .i64 n, bitsV b0 b1 b2 b3] w fun e w' => e = .returned (.tuple #[.agg (infV c s 2 wd p x l m y d), .bool (decide ((blen (val [b0, b1, b2, b3]) : Int) ≤ wd))]) ∧ Below w.heap.size w w' := by
  unfold bitsV
  unfold infV at hof ⊢
  have hl := fun w => limbsLen_calls w b0 b1 b2 b3 hb
  unfold bitsV at hl
  have HL := Lib.hid hl
  clear hl
  obtain ⟨L, hL⟩ : ∃ L, blen (val [b0, b1, b2, b3]) = L := ⟨_, rfl⟩
  rw [hL] at HL ⊢
  have HO := Lib.hid hof
  clear hof hb
  go_enter Tryz.func60, Tryz.ntmps60
  go_wp2_with fail
  have HB0 := Lib.hid (below_alloc (below_alloc (Below.refl w.heap.size w) (.cells #[.int .u64 (b0 : Nat), .int .u64 (b1 : Nat), .int .u64 (b2 : Nat), .int .u64 (b3 : Nat)] 24)) (.cells #[.int .i64 0, .string ⟨#[]⟩, .int .i64 0, .int .i64 0, .int .i64 0, .int .i64 0, .int .i64 0, .int .i64 0, .int .i64 0, .bool false] 88))
  have HX0 : Hid ((w.alloc (.cells #[.int .u64 (b0 : Nat), .int .u64 (b1 : Nat), .int .u64 (b2 : Nat), .int .u64 (b3 : Nat)] 24)).heap[w.heap.size]? = _) := Lib.hid (heap_new w (.cells #[.int .u64 (b0 : Nat), .int .u64 (b1 : Nat), .int .u64 (b2 : Nat), .int .u64 (b3 : Nat)] 24))
  have HS0 : (w.alloc (.cells #[.int .u64 (b0 : Nat), .int .u64 (b1 : Nat), .int .u64 (b2 : Nat), .int .u64 (b3 : Nat)] 24)).heap.size = w.heap.size + 1 := by simp
  generalize (w.alloc (.cells #[.int .u64 (b0 : Nat), .int .u64 (b1 : Nat), .int .u64 (b2 : Nat), .int .u64 (b3 : Nat)] 24)) = w0 at HB0 HX0 HS0 ⊢
  have HR0 := heap_new w0 (.cells #[.int .i64 0, .string ⟨#[]⟩, .int .i64 0, .int .i64 0, .int .i64 0, .int .i64 0, .int .i64 0, .int .i64 0, .int .i64 0, .bool false] 88)
  have HX1 := Lib.hid ((heap_keep w0 (.cells #[.int .i64 0, .string ⟨#[]⟩, .int .i64 0, .int .i64 0, .int .i64 0, .int .i64 0, .int .i64 0, .int .i64 0, .int .i64 0, .bool false] 88) (lt_of_heap HX0.out)).trans HX0.out)
  rw [HS0] at HR0
  have HS1 : (w0.alloc (.cells #[.int .i64 0, .string ⟨#[]⟩, .int .i64 0, .int .i64 0, .int .i64 0, .int .i64 0, .int .i64 0, .int .i64 0, .int .i64 0, .bool false] 88)).heap.size = w.heap.size + 1 + 1 := by simp [HS0]
  generalize (w0.alloc (.cells #[.int .i64 0, .string ⟨#[]⟩, .int .i64 0, .int .i64 0, .int .i64 0, .int .i64 0, .int .i64 0, .int .i64 0, .int .i64 0, .bool false] 88)) = w1 at HB0 HR0 HX1 HS1 ⊢
  refine (HO.out _).mono ?_
  rintro e w2 ⟨rfl, hb2⟩
  have HB2 := Lib.hid (below_then HB0.out hb2)
  have HX2 := Lib.hid (below_heap hb2 HX1.out)
  have HR2 := Lib.hid (below_heap hb2 HR0)
  clear hb2 HB0 HX1 HR0 HO HX0 HS0
  go_wp2_with (first | ((with_reducible refine gate_store 88 ?_); refine st_box 88 88 HB2.out Tryz.sizeInfo (fun W hBW hkW hXW => ?_) (hn := rfl) (h1 := by simp [Value.oneCell'])) | fail)
  have HXA := Lib.hid (below_heap hkW HX2.out)
  have HRA := Lib.hid (below_heap hkW HR2.out)
  have HWA := Lib.hid hXW
  have HBA := Lib.hid hBW
  have hne : w.heap.size + 1 < w2.heap.size := by have := lt_of_heap HR2.out; omega
  have hr0 : w.heap.size ≠ w.heap.size + 1 := by omega
  have hr2 : w2.heap.size ≠ w.heap.size + 1 := by omega
  clear hBW hkW hXW HX2 HR2 HB2
  have x0 : W.cell? ⟨w.heap.size, 0, none⟩ = some (.int .u64 (b0 : Nat)) := cell_of_heap HXA.out 0
  have x1 : W.cell? ⟨w.heap.size, 1, none⟩ = some (.int .u64 (b1 : Nat)) := cell_of_heap HXA.out 1
  have x2 : W.cell? ⟨w.heap.size, 2, none⟩ = some (.int .u64 (b2 : Nat)) := cell_of_heap HXA.out 2
  have x3 : W.cell? ⟨w.heap.size, 3, none⟩ = some (.int .u64 (b3 : Nat)) := cell_of_heap HXA.out 3
  have z0 : W.cell? ⟨w2.heap.size, 0, none⟩ = some (.int .i64 c) := cell_of_heap HWA.out 0
  have z1 : W.cell? ⟨w2.heap.size, 1, none⟩ = some (.string s) := cell_of_heap HWA.out 1
  have z2 : W.cell? ⟨w2.heap.size, 2, none⟩ = some (.int .i64 2) := cell_of_heap HWA.out 2
  have z3 : W.cell? ⟨w2.heap.size, 3, none⟩ = some (.int .i64 wd) := cell_of_heap HWA.out 3
  have z4 : W.cell? ⟨w2.heap.size, 4, none⟩ = some (.int .i64 p) := cell_of_heap HWA.out 4
  have z5 : W.cell? ⟨w2.heap.size, 5, none⟩ = some (.int .i64 x) := cell_of_heap HWA.out 5
  have z6 : W.cell? ⟨w2.heap.size, 6, none⟩ = some (.int .i64 l) := cell_of_heap HWA.out 6
  have z7 : W.cell? ⟨w2.heap.size, 7, none⟩ = some (.int .i64 m) := cell_of_heap HWA.out 7
  have z8 : W.cell? ⟨w2.heap.size, 8, none⟩ = some (.int .i64 y) := cell_of_heap HWA.out 8
  have z9 : W.cell? ⟨w2.heap.size, 9, none⟩ = some (.bool d) := cell_of_heap HWA.out 9
  have y0 : W.cell? ⟨w.heap.size + 1, 0, none⟩ = some (.int .i64 0) := cell_of_heap HRA.out 0
  have f0 := free_of_heap HRA.out 0
  have y1 : W.cell? ⟨w.heap.size + 1, 1, none⟩ = some (.string ⟨#[]⟩) := cell_of_heap HRA.out 1
  have f1 := free_of_heap HRA.out 1
  have y2 : W.cell? ⟨w.heap.size + 1, 2, none⟩ = some (.int .i64 0) := cell_of_heap HRA.out 2
  have f2 := free_of_heap HRA.out 2
  have y3 : W.cell? ⟨w.heap.size + 1, 3, none⟩ = some (.int .i64 0) := cell_of_heap HRA.out 3
  have f3 := free_of_heap HRA.out 3
  have y4 : W.cell? ⟨w.heap.size + 1, 4, none⟩ = some (.int .i64 0) := cell_of_heap HRA.out 4
  have f4 := free_of_heap HRA.out 4
  have y5 : W.cell? ⟨w.heap.size + 1, 5, none⟩ = some (.int .i64 0) := cell_of_heap HRA.out 5
  have f5 := free_of_heap HRA.out 5
  have y6 : W.cell? ⟨w.heap.size + 1, 6, none⟩ = some (.int .i64 0) := cell_of_heap HRA.out 6
  have f6 := free_of_heap HRA.out 6
  have y7 : W.cell? ⟨w.heap.size + 1, 7, none⟩ = some (.int .i64 0) := cell_of_heap HRA.out 7
  have f7 := free_of_heap HRA.out 7
  have y8 : W.cell? ⟨w.heap.size + 1, 8, none⟩ = some (.int .i64 0) := cell_of_heap HRA.out 8
  have f8 := free_of_heap HRA.out 8
  have y9 : W.cell? ⟨w.heap.size + 1, 9, none⟩ = some (.bool false) := cell_of_heap HRA.out 9
  have f9 := free_of_heap HRA.out 9
  go_region_held3 (fun w' => w'.cell? ⟨w.heap.size, 0, none⟩ = some (.int .u64 (b0 : Nat)) ∧ w'.cell? ⟨w.heap.size, 1, none⟩ = some (.int .u64 (b1 : Nat)) ∧ w'.cell? ⟨w.heap.size, 2, none⟩ = some (.int .u64 (b2 : Nat)) ∧ w'.cell? ⟨w.heap.size, 3, none⟩ = some (.int .u64 (b3 : Nat)) ∧ w'.cell? ⟨w2.heap.size, 0, none⟩ = some (.int .i64 c) ∧ w'.cell? ⟨w2.heap.size, 1, none⟩ = some (.string s) ∧ w'.cell? ⟨w2.heap.size, 2, none⟩ = some (.int .i64 2) ∧ w'.cell? ⟨w2.heap.size, 3, none⟩ = some (.int .i64 wd) ∧ w'.cell? ⟨w2.heap.size, 4, none⟩ = some (.int .i64 p) ∧ w'.cell? ⟨w2.heap.size, 5, none⟩ = some (.int .i64 x) ∧ w'.cell? ⟨w2.heap.size, 6, none⟩ = some (.int .i64 l) ∧ w'.cell? ⟨w2.heap.size, 7, none⟩ = some (.int .i64 m) ∧ w'.cell? ⟨w2.heap.size, 8, none⟩ = some (.int .i64 y) ∧ w'.cell? ⟨w2.heap.size, 9, none⟩ = some (.bool d))
    (first | (with_reducible exact ⟨(other10 hr0 0 _ _ _ _ _ _ _ _ _ _).trans x0, (other10 hr0 1 _ _ _ _ _ _ _ _ _ _).trans x1, (other10 hr0 2 _ _ _ _ _ _ _ _ _ _).trans x2, (other10 hr0 3 _ _ _ _ _ _ _ _ _ _).trans x3, (other10 hr2 0 _ _ _ _ _ _ _ _ _ _).trans z0, (other10 hr2 1 _ _ _ _ _ _ _ _ _ _).trans z1, (other10 hr2 2 _ _ _ _ _ _ _ _ _ _).trans z2, (other10 hr2 3 _ _ _ _ _ _ _ _ _ _).trans z3, (other10 hr2 4 _ _ _ _ _ _ _ _ _ _).trans z4, (other10 hr2 5 _ _ _ _ _ _ _ _ _ _).trans z5, (other10 hr2 6 _ _ _ _ _ _ _ _ _ _).trans z6, (other10 hr2 7 _ _ _ _ _ _ _ _ _ _).trans z7, (other10 hr2 8 _ _ _ _ _ _ _ _ _ _).trans z8, (other10 hr2 9 _ _ _ _ _ _ _ _ _ _).trans z9⟩) | exact ⟨x0, x1, x2, x3, z0, z1, z2, z3, z4, z5, z6, z7, z8, z9⟩)
    (first
    | (go_at_call 105; go_must (refine (HL.out _).mono ?_); go_must (rintro e w3 ⟨rfl, hb3⟩); have hbv := (⟨hb3.os, hb3.tape, hb3.output, hb3.size, hb3.block⟩ : Below W.heap.size W w3); have HW3 := Lib.hid (below_heap hbv HWA.out); have HR3 := Lib.hid (below_heap hbv HRA.out); have HX3 := Lib.hid (below_heap hbv HXA.out); have x0 : w3.cell? ⟨w.heap.size, 0, none⟩ = some (.int .u64 (b0 : Nat)) := cell_of_heap HX3.out 0; have x1 : w3.cell? ⟨w.heap.size, 1, none⟩ = some (.int .u64 (b1 : Nat)) := cell_of_heap HX3.out 1; have x2 : w3.cell? ⟨w.heap.size, 2, none⟩ = some (.int .u64 (b2 : Nat)) := cell_of_heap HX3.out 2; have x3 : w3.cell? ⟨w.heap.size, 3, none⟩ = some (.int .u64 (b3 : Nat)) := cell_of_heap HX3.out 3; have HB3 := Lib.hid (below_then HBA.out hbv); clear hb3 hbv; have z0 : w3.cell? ⟨w2.heap.size, 0, none⟩ = some (.int .i64 c) := cell_of_heap HW3.out 0; have z1 : w3.cell? ⟨w2.heap.size, 1, none⟩ = some (.string s) := cell_of_heap HW3.out 1; have z2 : w3.cell? ⟨w2.heap.size, 2, none⟩ = some (.int .i64 2) := cell_of_heap HW3.out 2; have z3 : w3.cell? ⟨w2.heap.size, 3, none⟩ = some (.int .i64 wd) := cell_of_heap HW3.out 3; have z4 : w3.cell? ⟨w2.heap.size, 4, none⟩ = some (.int .i64 p) := cell_of_heap HW3.out 4; have z5 : w3.cell? ⟨w2.heap.size, 5, none⟩ = some (.int .i64 x) := cell_of_heap HW3.out 5; have z6 : w3.cell? ⟨w2.heap.size, 6, none⟩ = some (.int .i64 l) := cell_of_heap HW3.out 6; have z7 : w3.cell? ⟨w2.heap.size, 7, none⟩ = some (.int .i64 m) := cell_of_heap HW3.out 7; have z8 : w3.cell? ⟨w2.heap.size, 8, none⟩ = some (.int .i64 y) := cell_of_heap HW3.out 8; have z9 : w3.cell? ⟨w2.heap.size, 9, none⟩ = some (.bool d) := cell_of_heap HW3.out 9; have y0 : w3.cell? ⟨w.heap.size + 1, 0, none⟩ = some (.int .i64 0) := cell_of_heap HR3.out 0; have f0 := free_of_heap HR3.out 0; have y1 : w3.cell? ⟨w.heap.size + 1, 1, none⟩ = some (.string ⟨#[]⟩) := cell_of_heap HR3.out 1; have f1 := free_of_heap HR3.out 1; have y2 : w3.cell? ⟨w.heap.size + 1, 2, none⟩ = some (.int .i64 0) := cell_of_heap HR3.out 2; have f2 := free_of_heap HR3.out 2; have y3 : w3.cell? ⟨w.heap.size + 1, 3, none⟩ = some (.int .i64 0) := cell_of_heap HR3.out 3; have f3 := free_of_heap HR3.out 3; have y4 : w3.cell? ⟨w.heap.size + 1, 4, none⟩ = some (.int .i64 0) := cell_of_heap HR3.out 4; have f4 := free_of_heap HR3.out 4; have y5 : w3.cell? ⟨w.heap.size + 1, 5, none⟩ = some (.int .i64 0) := cell_of_heap HR3.out 5; have f5 := free_of_heap HR3.out 5; have y6 : w3.cell? ⟨w.heap.size + 1, 6, none⟩ = some (.int .i64 0) := cell_of_heap HR3.out 6; have f6 := free_of_heap HR3.out 6; have y7 : w3.cell? ⟨w.heap.size + 1, 7, none⟩ = some (.int .i64 0) := cell_of_heap HR3.out 7; have f7 := free_of_heap HR3.out 7; have y8 : w3.cell? ⟨w.heap.size + 1, 8, none⟩ = some (.int .i64 0) := cell_of_heap HR3.out 8; have f8 := free_of_heap HR3.out 8; have y9 : w3.cell? ⟨w.heap.size + 1, 9, none⟩ = some (.bool false) := cell_of_heap HR3.out 9; have f9 := free_of_heap HR3.out 9))
  all_goals
    go_wp2
    obtain ⟨W2, hW2, k1, k2, k3, k4⟩ := sto10 HR3.out (.int .i64 c) (.string s) (.int .i64 2) (.int .i64 wd) (.int .i64 p) (.int .i64 x) (.int .i64 l) (.int .i64 m) (.int .i64 y) (.bool d)
    rw [← hW2]
    exact bodyPost_ret (results_ct rfl _ _ (w.heap.size + 1) 88 _ _ _ rfl k1 Tryz.underlying88 rfl (by kernel_rfl)) rfl ⟨rfl, k4 _ _ (by omega) HB3.out⟩
end Go.Proofs.YtpodpdopgdkdkaaGreatDoor
namespace Go.Proofs.YtpodpdopgdkdkaaGreatDoor
set_option linter.unusedVariables false
set_option linter.unusedSimpArgs false
open Go.RowKit
/-- The words of a number shifted to the right. -/
def shrL (xs : List Nat) (q s : Nat) : Nat → List Nat
  | 0 => []
  | u + 1 => shrL xs q s u ++ [shrW s (wd xs (q + u)) (wd xs (q + u + 1))]
theorem shrL_len (xs : List Nat) (q s u : Nat) : (shrL xs q s u).length = u := by
  induction u with
  | zero => rfl
  | succ u ih => rw [shrL, List.length_append, ih]; rfl
theorem shrL_inv (xs : List Nat) (q s : Nat) (hs : s ≤ 64) : ∀ u, val (shrL xs q s u) * 2 ^ s + wd xs q % 2 ^ s = valTo (xs.drop q) u + B64 ^ u * (wd xs (q + u) % 2 ^ s)
  | 0 => by simp [shrL, val_nil, valTo]
  | u + 1 => shr_step hs (shrL_inv xs q s hs u) (shrL_len xs q s u)
theorem shrL_val {xs : List Nat} (hx : W64 xs) (q s : Nat) (hs : s ≤ 64) (hl : xs.length = 4) : val (shrL xs q s 4) = val xs / 2 ^ (64 * q + s) :=
  shr_end hx hs (shrL_inv xs q s hs 4) (by omega)
theorem shrW_none (s x : Nat) : x / 2 ^ s = shrW s x 0 := by unfold shrW loS; simp
/-- What the loop lays into the j-th word. -/
theorem shr_words {xs zs : List Nat} (hx : W64 xs) {q s : Nat} (hs : s < 64) (hl : xs.length = 4) (hz : zs.length = 4) (h : ∀ j, j < 4 → wd zs j = if j + q < 4 then shrW s (wd xs (q + j)) (wd xs (q + j + 1)) else 0) :
    val zs = val xs / 2 ^ (64 * q + s) := by
  rw [← shrL_val hx q s (by omega) hl]
  have hb : ∀ k, 4 ≤ k → wd xs k = 0 := fun k hk => wd_beyond (by omega)
  have e : ∀ j, j < 4 → wd zs j = shrW s (wd xs (q + j)) (wd xs (q + j + 1)) := fun j hj => by
    rw [h j hj]
    split
    · rfl
    · rw [hb _ (by omega), hb _ (by omega)]
      simp [shrW, loS]
  have e0 := e 0 (by omega)
  have e1 := e 1 (by omega)
  have e2 := e 2 (by omega)
  have e3 := e 3 (by omega)
  obtain ⟨c0, c1, c2, c3, rfl⟩ := four_of hz
  simp only [wd4] at e0 e1 e2 e3
  rw [e0, e1, e2, e3]
  rfl
theorem shr_all {xs : List Nat} (hx : W64 xs) (hl : xs.length = 4) : val xs / 2 ^ 0 = val xs := by simp
set_option maxRecDepth 10000 in
set_option maxHeartbeats 2000000 in
theorem limShr_calls (w : World) (b0 b1 b2 b3 : Nat) (hx : W64 [b0, b1, b2, b3]) (n : Nat) (hn : n < 256) :
    Calls Tryz.prog 107 #[bitsV b0 b1 b2 b3, .int .i64 (n : Nat)] w (BitsRes w (val [b0, b1, b2, b3] / 2 ^ n)) := by
  unfold bitsV
  by_cases h0 : n = 0
  · subst h0
    go_enter Tryz.func107, Tryz.ntmps107
    go_wp2
    refine bodyPost_ret (results_cell rfl _ _ (w.heap.size + 1) 23 _ _ _ rfl (?_ : _ = some (Obj.cells #[.int .u64 (b0 : Nat), .int .u64 (b1 : Nat), .int .u64 (b2 : Nat), .int .u64 (b3 : Nat)] 23 (0, 0))) Tryz.underlying23 rfl (by kernel_rfl)) rfl ⟨b0, b1, b2, b3, hx, by simp, rfl, below_alloc (below_alloc (Below.refl _ _) _) _⟩
    have := heap_new (w.alloc (.cells #[.int .u64 (b0 : Nat), .int .u64 (b1 : Nat), .int .u64 (b2 : Nat), .int .u64 (b3 : Nat)] 23)) (.cells #[.int .u64 (b0 : Nat), .int .u64 (b1 : Nat), .int .u64 (b2 : Nat), .int .u64 (b3 : Nat)] 23)
    simpa using this
  obtain ⟨q, r, hr, hqr⟩ : ∃ q r, r < 64 ∧ n = 64 * q + r := ⟨n / 64, n % 64, by omega, by omega⟩
  have hq : q < 4 := by omega
  have H3 := Lib.hid (three_new w 23 23 23 [b0, b1, b2, b3] [0, 0, 0, 0] [0, 0, 0, 0] (.cells #[.int .u64 (b0 : Nat), .int .u64 (b1 : Nat), .int .u64 (b2 : Nat), .int .u64 (b3 : Nat)] 23) (.cells #[.int .u64 0, .int .u64 0, .int .u64 0, .int .u64 0] 23) (.cells #[.int .u64 0, .int .u64 0, .int .u64 0, .int .u64 0] 23) rfl rfl rfl)
  have HX := Lib.hid hx
  have HQR := Lib.hid hqr
  have e2 : (n : Int) / 64 = (q : Nat) := by omega
  have e3 : (n : Int) % 64 = (r : Nat) := by omega
  have e4 : (n : Int).tmod 64 = (r : Nat) := by rw [Int.tmod_eq_emod_of_nonneg (by omega)]; exact e3
  have e5 : (n : Int).tdiv 64 = (q : Nat) := by rw [Int.tdiv_eq_ediv_of_nonneg (by omega)]; exact e2
  have i5 : IntKind.u64.wrap (r : Int) = (r : Nat) := wrapS (by unfold B64; omega)
  have hn1 : ¬ (n : Int) < 1 := by omega
  clear hx hqr h0
  go_enter Tryz.func107, Tryz.ntmps107
  go_wp2_with fail
  generalize (((w.alloc (.cells #[.int .u64 (b0 : Nat), .int .u64 (b1 : Nat), .int .u64 (b2 : Nat), .int .u64 (b3 : Nat)] 23)).alloc (.cells #[.int .u64 0, .int .u64 0, .int .u64 0, .int .u64 0] 23)).alloc (.cells #[.int .u64 0, .int .u64 0, .int .u64 0, .int .u64 0] 23)) = W0 at H3 ⊢
  obtain ⟨xs, hxs⟩ : ∃ l, [b0, b1, b2, b3] = l := ⟨_, rfl⟩
  have hxl : xs.length = 4 := by rw [← hxs]; rfl
  have HXS := Lib.hid hxs
  rw [hxs] at H3 HX
  have HXL := Lib.hid hxl
  have HIN : Hid (∃ a b c d : Nat, xs = [a, b, c, d]) := Lib.hid (four_of hxl)
  clear hxs hxl
  clear e2 e3 e4 e5 i5 hn1
  go_loopw [8] (fun i wr => ∃ (t : Nat) (zs : List Nat), t ≤ 4 - q ∧ i = .int .i64 t ∧ Hid (ArrAt 23 wr w.heap.size xs) ∧ Hid (ArrAt 23 wr (w.heap.size + 1) [0, 0, 0, 0]) ∧ Hid (ArrAt 23 wr (w.heap.size + 1 + 1) zs) ∧ Hid (zs.length = 4) ∧ Hid (W64 zs) ∧ Hid (∀ j, j < 4 → wd zs j = if j < t then shrW r (wd xs (q + j)) (wd xs (q + j + 1)) else 0) ∧ Hid (Below w.heap.size w wr)) (fun i _ => 4 - (intOf i).toNat)
  case atStart => exact ⟨0, [0, 0, 0, 0], by omega, rfl, Lib.hid H3.out.1, Lib.hid H3.out.2.1, Lib.hid H3.out.2.2.1, Lib.hid rfl, Lib.hid (by intro x hx; simp at hx; rw [hx]; decide), Lib.hid (fun j hj => by rw [if_neg (by omega)]; rcases (show j = 0 ∨ j = 1 ∨ j = 2 ∨ j = 3 by omega) with rfl | rfl | rfl | rfl <;> rfl), Lib.hid H3.out.2.2.2⟩
  case round =>
    obtain ⟨t, zs, ht, rfl, HXA, HR, HZ, HZL, HZW, HD, HB⟩ := hrel
    clear H3
    have a0 := HXA.out.cell 0 (by rw [HXL.out]; omega)
    have a1 := HXA.out.cell 1 (by rw [HXL.out]; omega)
    have a2 := HXA.out.cell 2 (by rw [HXL.out]; omega)
    have a3 := HXA.out.cell 3 (by rw [HXL.out]; omega)
    have h4q : (4 : Int) - (q : Int) = ((4 - q : Nat) : Int) := by omega
    by_cases hlt : t < 4 - q
    · obtain ⟨u, hu⟩ : ∃ u, q + t = u := ⟨_, rfl⟩
      have hu1 : (t : Int) + (q : Int) = (u : Int) := by omega
      have hu2 : (u : Int) < 4 := by omega
      have hu3 : (0 : Int) ≤ (u : Int) := by omega
      have ax := HXA.out.cell u (by rw [HXL.out]; omega)
      have hXl := wd_lt HX.out u
      have hYl := wd_lt HX.out (u + 1)
      obtain ⟨X, hX⟩ : ∃ X, wd xs u = X := ⟨_, rfl⟩
      obtain ⟨Y, hY⟩ : ∃ Y, wd xs (u + 1) = Y := ⟨_, rfl⟩
      rw [hX] at ax hXl
      rw [hY] at hYl
      have HWN : Hid (W64 (zs.set t (shrW r X Y))) := Lib.hid (HZW.out.set t _ (shrW_lt (by omega) hXl))
      have HDN : Hid (∀ j, j < 4 → wd (zs.set t (shrW r X Y)) j = if j < t + 1 then shrW r (wd xs (q + j)) (wd xs (q + j + 1)) else 0) := Lib.hid (fun j hj => by
        by_cases e : j = t
        · rw [e, wd_set_eq (by rw [HZL.out]; omega), if_pos (by omega), hu, hX, hY]
        · rw [wd_set_ne _ (by omega), HD.out j hj]
          by_cases e2 : j < t
          · rw [if_pos e2, if_pos (by omega)]
          · rw [if_neg e2, if_neg (by omega)])
      have k4 := shr_cast r X
      have i7 : (64 : Int) - (r : Int) = ((64 - r : Nat) : Int) := by omega
      have i8 : IntKind.u64.wrap ((64 - r : Nat) : Int) = ((64 - r : Nat) : Int) := wrapS (by unfold B64; omega)
      have i9 : min (64 - r) 64 = 64 - r := by omega
      have k5 := bits_shr (s := r) (y := Y) (by omega) hXl
      have hHY := Lib.hid hY
      have hHX := Lib.hid hX
      have z0 := HZ.out.cell t (by rw [HZL.out]; omega)
      have f0 := HZ.out.free t
      have ht0 : (0 : Int) ≤ (t : Int) := by omega
      have ht4 : (t : Int) < 4 := by omega
      have htq : decide ((t : Int) < ((4 - q : Nat) : Int)) = true := by simp; omega
      obtain ⟨W1, hW1⟩ : ∃ W, W = wr.setCell ⟨w.heap.size + 1 + 1, t, none⟩ (.int .u64 ((srS r X : Nat) : Int)) := ⟨_, rfl⟩
      have HZ1 : Hid (ArrAt 23 W1 (w.heap.size + 1 + 1) (zs.set t (srS r X))) := Lib.hid (by rw [hW1]; exact HZ.out.set t _)
      have HX1 : Hid (ArrAt 23 W1 w.heap.size xs) := Lib.hid (by rw [hW1]; exact HXA.out.other (by omega) t _)
      have HR1 : Hid (ArrAt 23 W1 (w.heap.size + 1) [0, 0, 0, 0]) := Lib.hid (by rw [hW1]; exact HR.out.other (by omega) t _)
      have HB1 : Hid (Below w.heap.size w W1) := Lib.hid (by rw [hW1]; exact HB.out.setCell (by show w.heap.size ≤ w.heap.size + 1 + 1; omega) _)
      have b0' := HX1.out.cell 0 (by rw [HXL.out]; omega)
      have b1' := HX1.out.cell 1 (by rw [HXL.out]; omega)
      have b2' := HX1.out.cell 2 (by rw [HXL.out]; omega)
      have b3' := HX1.out.cell 3 (by rw [HXL.out]; omega)
      rw [hW1] at b0' b1' b2' b3'
      clear hX hY hXl hYl
      by_cases hlast : u + 1 < 4
      · have hd4 : decide ((u : Int) + 1 < 4) = true := by simp; omega
        by_cases hr0 : 0 < r
        · have hdr : decide (0 < (r : Int)) = true := by simp; omega
          have z1 := HZ1.out.cell t (by rw [List.length_set, HZL.out]; omega)
          rw [wd_set_eq (by rw [HZL.out]; omega)] at z1
          have f1 := HZ1.out.free t
          have y1 := HX1.out.cell (u + 1) (by rw [HXL.out]; omega)
          rw [hHY.out] at y1
          rw [hW1] at z1 f1 y1
          have HXN : Hid (ArrAt 23 (W1.setCell ⟨w.heap.size + 1 + 1, t, none⟩ (.int .u64 ((shrW r X Y : Nat) : Int))).drew w.heap.size xs) := Lib.hid (HX1.out.other (by omega) t _)
          have HRN : Hid (ArrAt 23 (W1.setCell ⟨w.heap.size + 1 + 1, t, none⟩ (.int .u64 ((shrW r X Y : Nat) : Int))).drew (w.heap.size + 1) [0, 0, 0, 0]) := Lib.hid (HR1.out.other (by omega) t _)
          have HZN : Hid (ArrAt 23 (W1.setCell ⟨w.heap.size + 1 + 1, t, none⟩ (.int .u64 ((shrW r X Y : Nat) : Int))).drew (w.heap.size + 1 + 1) (zs.set t (shrW r X Y))) := Lib.hid (by have := HZ1.out.set t (shrW r X Y); rw [List.set_set] at this; exact this)
          have HBN : Hid (Below w.heap.size w (W1.setCell ⟨w.heap.size + 1 + 1, t, none⟩ (.int .u64 ((shrW r X Y : Nat) : Int))).drew) := Lib.hid (HB1.out.setCell (by show w.heap.size ≤ w.heap.size + 1 + 1; omega) _).drew
          rw [hW1] at HXN HRN HZN HBN
          have hwu : IntKind.i64.wrap (u : Int) = (u : Int) := IntWalk.i64_in _ (by omega)
          have hwu1 : IntKind.i64.wrap ((u : Int) + 1) = (u : Int) + 1 := IntWalk.i64_in _ (by omega)
          have hu0 : (0 : Int) ≤ (u : Int) + 1 := by omega
          have hu4 : (u : Int) + 1 < 4 := by omega
          have hut : ((u : Int) + 1).toNat = u + 1 := by omega
          go_wp2_with fail
          go_region_law (fail)
          all_goals
            clear a0 a1 a2 a3 b0' b1' b2' b3' z0 f0 z1 f1 y1 hwu hwu1 hu0 hu4 hut
            go_wp2
            go_roundw
            case rel => exact ⟨t + 1, zs.set t (shrW r X Y), by omega, by go_num, HXN, HRN, HZN, Lib.hid (by rw [List.length_set]; exact HZL.out), HWN, HDN, HBN⟩
            case measure => simp [intOf]; omega
        · have hr1 : r = 0 := by omega
          have k6 : srS r X = shrW r X Y := by rw [hr1]; exact shrW_zero
          have HXN := HX1
          have HRN := HR1
          have HZN : Hid (ArrAt 23 W1 (w.heap.size + 1 + 1) (zs.set t (shrW r X Y))) := Lib.hid (by rw [← k6]; exact HZ1.out)
          have HBN := HB1
          rw [hW1] at HXN HRN HZN HBN
          have hdr : decide (0 < (r : Int)) = false := by simp; omega
          clear hr1 k6
          go_wp2
          go_roundw
          case rel => exact ⟨t + 1, zs.set t (shrW r X Y), by omega, by go_num, HXN, HRN, HZN, Lib.hid (by rw [List.length_set]; exact HZL.out), HWN, HDN, HBN⟩
          case measure => simp [intOf]; omega
      · have hd4 : decide ((u : Int) + 1 < 4) = false := by simp; omega
        have k6 : srS r X = shrW r X Y := by
          have h1 := hHY.out
          rw [wd_beyond (by rw [HXL.out]; omega)] at h1
          rw [← h1]
          exact shrW_none r X
        have HXN := HX1
        have HRN := HR1
        have HZN : Hid (ArrAt 23 W1 (w.heap.size + 1 + 1) (zs.set t (shrW r X Y))) := Lib.hid (by rw [← k6]; exact HZ1.out)
        have HBN := HB1
        rw [hW1] at HXN HRN HZN HBN
        clear k6
        by_cases hr0 : 0 < r
        all_goals
          go_wp2
          go_roundw
          case rel => exact ⟨t + 1, zs.set t (shrW r X Y), by omega, by go_num, HXN, HRN, HZN, Lib.hid (by rw [List.length_set]; exact HZL.out), HWN, HDN, HBN⟩
          case measure => simp [intOf]; omega
    · obtain rfl : t = 4 - q := by omega
      have htq : decide (((4 - q : Nat) : Int) < ((4 - q : Nat) : Int)) = false := by simp
      have HN : Hid (val zs = val xs / 2 ^ n) := Lib.hid (by
        rw [HQR.out]
        exact shr_words HX.out hr HXL.out HZL.out (fun j hj => by
          rw [HD.out j hj]
          by_cases e : j < 4 - q
          · rw [if_pos e, if_pos (by omega)]
          · rw [if_neg e, if_neg (by omega)]))
      obtain ⟨c0, c1, c2, c3, rfl⟩ := four_of HZL.out
      have z0 := HZ.out.cell 0 (by simp)
      have z1 := HZ.out.cell 1 (by simp)
      have z2 := HZ.out.cell 2 (by simp)
      have z3 := HZ.out.cell 3 (by simp)
      have r0 := HR.out.cell 0 (by simp)
      have r1 := HR.out.cell 1 (by simp)
      have r2 := HR.out.cell 2 (by simp)
      have r3 := HR.out.cell 3 (by simp)
      have f0 := HR.out.free 0
      have f1 := HR.out.free 1
      have f2 := HR.out.free 2
      have f3 := HR.out.free 3
      simp only [wd, List.getD_cons_zero, List.getD_cons_succ] at z0 z1 z2 z3 r0 r1 r2 r3
      go_wp2
      obtain ⟨W2, hW2, k1, k2, k3, k4⟩ := sto4 (f := (0, 0)) (t := 23) (a0 := .int .u64 (0 : Nat)) (a1 := .int .u64 (0 : Nat)) (a2 := .int .u64 (0 : Nat)) (a3 := .int .u64 (0 : Nat)) HR.out (.int .u64 (c0 : Nat)) (.int .u64 (c1 : Nat)) (.int .u64 (c2 : Nat)) (.int .u64 (c3 : Nat))
      rw [← hW2]
      exact bodyPost_ret (results_cell rfl _ _ (w.heap.size + 1) 23 _ _ _ rfl k1 Tryz.underlying23 rfl (by kernel_rfl)) rfl ⟨c0, c1, c2, c3, HZW.out, by rw [HXS.out]; exact HN.out, rfl, k4 _ _ (by omega) HB.out⟩
end Go.Proofs.YtpodpdopgdkdkaaGreatDoor
