/- A value that has just so many digits: its first digit's exponent; what is written with as many digits, with more, with one less. Plain laws. No conditions. · FixedAll: the walk over the law. -/
import Derived.Test.YtpodpdopgdkdkaaGreatDoorMw32
import Derived.Test.YtpodpdopgdkdkaaGreatDoorMw30
set_option linter.unusedVariables false
set_option linter.unusedSimpArgs false
namespace Go.Proofs.YtpodpdopgdkdkaaGreatDoor
set_option linter.unusedVariables false
set_option linter.unusedSimpArgs false
theorem pow_le_digits : ∀ (n M : Nat), M ≤ n → 0 < M → 10 ^ (Lib.nDigits M - 1) ≤ M := by
  intro n
  induction n with
  | zero => intro M h h0; omega
  | succ n ih =>
    intro M h h0
    by_cases h1 : M < 10
    · rw [Lib.nDigits_small h1]; simp; omega
    · rw [Lib.nDigits_big h1, Nat.add_sub_cancel]
      have h2 := ih (M / 10) (by omega) (by omega)
      have h3 := Lib.nDigits_pos (M / 10)
      obtain ⟨k, hk⟩ : ∃ k, Lib.nDigits (M / 10) = k + 1 := ⟨Lib.nDigits (M / 10) - 1, by omega⟩
      rw [hk, Nat.add_sub_cancel] at h2
      rw [hk, Nat.pow_succ]
      omega
/-- The fraction A / D is M times 10^at. -/
def isVal (A D M : Nat) (at' : Int) : Prop := A * 10 ^ (-at').toNat = M * 10 ^ at'.toNat * D
/-- .. with a power of ten on both sides. -/
theorem val_big {A D M K : Nat} {a : Int} (h : isVal A D M a) (hK : 0 ≤ (K : Int) + a) : A * 10 ^ K = M * 10 ^ ((K : Int) + a).toNat * D := by
  unfold isVal at h
  by_cases h0 : 0 ≤ a
  · rw [show (-a).toNat = 0 by omega, Nat.pow_zero, Nat.mul_one] at h
    rw [h, show ((K : Int) + a).toNat = a.toNat + K by omega, Nat.pow_add]
    simp only [Nat.mul_assoc, Nat.mul_left_comm, Nat.mul_comm]
  · rw [show a.toNat = 0 by omega, Nat.pow_zero, Nat.mul_one] at h
    have e : K = (-a).toNat + ((K : Int) + a).toNat := by omega
    obtain ⟨q, hq⟩ : ∃ q, ((K : Int) + a).toNat = q := ⟨_, rfl⟩
    rw [hq] at e ⊢
    rw [e, Nat.pow_add, ← Nat.mul_assoc, h]
    simp only [Nat.mul_assoc, Nat.mul_left_comm, Nat.mul_comm]
theorem le10_big {A D K : Nat} {e : Int} (hK : 0 ≤ (K : Int) + e) : le10 A D e ↔ D * 10 ^ ((K : Int) + e).toNat ≤ A * 10 ^ K := by
  unfold le10
  by_cases h0 : 0 ≤ e
  · rw [show (-e).toNat = 0 by omega, Nat.pow_zero, Nat.mul_one, show ((K : Int) + e).toNat = e.toNat + K by omega, Nat.pow_add, ← Nat.mul_assoc]
    exact (Nat.mul_le_mul_right_iff (Nat.pow_pos (by decide))).symm
  · rw [show e.toNat = 0 by omega, Nat.pow_zero, Nat.mul_one]
    obtain ⟨q, hq⟩ : ∃ q, ((K : Int) + e).toNat = q := ⟨_, rfl⟩
    have hk : K = (-e).toNat + q := by omega
    rw [hq]
    conv => rhs; rw [hk, Nat.pow_add, ← Nat.mul_assoc]
    exact (Nat.mul_le_mul_right_iff (Nat.pow_pos (by decide))).symm
theorem le10_val {A D M : Nat} {a : Int} (h : isVal A D M a) (hD : 0 < D) (j : Nat) : le10 A D (a + j) ↔ 10 ^ j ≤ M := by
  obtain ⟨K, hK⟩ : ∃ K : Nat, (K : Int) = a.natAbs := ⟨a.natAbs, rfl⟩
  have h1 := val_big (K := K) h (by omega)
  rw [le10_big (K := K) (by omega), h1, show ((K : Int) + (a + j)).toNat = j + ((K : Int) + a).toNat by omega, Nat.pow_add]
  obtain ⟨q, hq⟩ : ∃ q, 10 ^ ((K : Int) + a).toNat = q := ⟨_, rfl⟩
  have hqp : 0 < q := by rw [← hq]; exact Nat.pow_pos (by decide)
  rw [hq, show M * q * D = D * (M * q) from Nat.mul_comm _ _]
  rw [Nat.mul_le_mul_left_iff hD, Nat.mul_le_mul_right_iff hqp]
theorem tens_val {A D M l : Nat} {a : Int} (h : isVal A D M a) (hD : 0 < D) (hl : 0 < l) (h1 : 10 ^ (l - 1) ≤ M) (h2 : M < 10 ^ l) : isTens A D (a + l - 1) := by
  constructor
  · rw [show a + (l : Int) - 1 = a + ((l - 1 : Nat) : Int) by omega]
    exact (le10_val h hD _).2 h1
  · rw [show a + (l : Int) - 1 + 1 = a + (l : Int) by omega]
    intro k
    have := (le10_val h hD l).1 k
    omega
/-- A power of ten is cut off on both sides. -/
theorem sc_big {A D : Nat} {K : Nat} {e : Int} (hK : 0 ≤ (K : Int) + e) : scN A (-e) * 10 ^ ((K : Int) + e).toNat * D = A * 10 ^ K * scD D (-e) := by
  unfold scN scD
  rw [Int.neg_neg]
  by_cases h0 : 0 ≤ e
  · rw [show (-e).toNat = 0 by omega, show ((K : Int) + e).toNat = K + e.toNat by omega, Nat.pow_add, Nat.pow_zero, Nat.mul_one]
    simp only [Nat.mul_assoc, Nat.mul_left_comm, Nat.mul_comm]
  · obtain ⟨q, hq⟩ : ∃ q, ((K : Int) + e).toNat = q := ⟨_, rfl⟩
    have hk : K = (-e).toNat + q := by omega
    rw [hq, show e.toNat = 0 by omega, Nat.pow_zero, Nat.mul_one]
    conv => rhs; rw [hk, Nat.pow_add]
    simp only [Nat.mul_assoc, Nat.mul_left_comm, Nat.mul_comm]
theorem val_exact {A D M : Nat} {a : Int} (h : isVal A D M a) (hD : 0 < D) (k : Nat) : scN A (-(a - k)) = M * 10 ^ k * scD D (-(a - k)) := by
  obtain ⟨K, hK⟩ : ∃ K : Nat, (K : Int) = a.natAbs + k := ⟨a.natAbs + k, by omega⟩
  have h1 := val_big (K := K) h (by omega)
  have h2 := sc_big (A := A) (D := D) (K := K) (e := a - k) (by omega)
  rw [h1, show ((K : Int) + a).toNat = ((K : Int) + (a - k)).toNat + k by omega, Nat.pow_add] at h2
  obtain ⟨q, hq⟩ : ∃ q, 10 ^ ((K : Int) + (a - k)).toNat = q := ⟨_, rfl⟩
  have hqp : 0 < q := by rw [← hq]; exact Nat.pow_pos (by decide)
  rw [hq] at h2
  have h3 : scN A (-(a - k)) * (q * D) = M * 10 ^ k * scD D (-(a - k)) * (q * D) := by
    calc scN A (-(a - k)) * (q * D) = scN A (-(a - k)) * q * D := by rw [Nat.mul_assoc]
      _ = M * (q * 10 ^ k) * D * scD D (-(a - k)) := h2
      _ = M * 10 ^ k * scD D (-(a - k)) * (q * D) := by simp only [Nat.mul_assoc, Nat.mul_left_comm, Nat.mul_comm]
  exact Nat.eq_of_mul_eq_mul_right (Nat.mul_pos hqp hD) h3
theorem val_less {A D M : Nat} {a : Int} (h : isVal A D M a) (hD : 0 < D) : scN A (-(a + 1)) * 10 = M * scD D (-(a + 1)) := by
  obtain ⟨K, hK⟩ : ∃ K : Nat, (K : Int) = a.natAbs := ⟨a.natAbs, rfl⟩
  have h1 := val_big (K := K) h (by omega)
  have h2 := sc_big (A := A) (D := D) (K := K) (e := a + 1) (by omega)
  rw [h1, show ((K : Int) + (a + 1)).toNat = ((K : Int) + a).toNat + 1 by omega, Nat.pow_succ] at h2
  obtain ⟨q, hq⟩ : ∃ q, 10 ^ ((K : Int) + a).toNat = q := ⟨_, rfl⟩
  have hqp : 0 < q := by rw [← hq]; exact Nat.pow_pos (by decide)
  rw [hq] at h2
  have h3 : scN A (-(a + 1)) * 10 * (q * D) = M * scD D (-(a + 1)) * (q * D) := by
    calc scN A (-(a + 1)) * 10 * (q * D) = scN A (-(a + 1)) * (q * 10) * D := by simp only [Nat.mul_assoc, Nat.mul_left_comm, Nat.mul_comm]
      _ = M * q * D * scD D (-(a + 1)) := h2
      _ = M * scD D (-(a + 1)) * (q * D) := by simp only [Nat.mul_assoc, Nat.mul_left_comm, Nat.mul_comm]
  exact Nat.eq_of_mul_eq_mul_right (Nat.mul_pos hqp hD) h3
theorem more_less {A D M : Nat} {a : Int} (h : isVal A D M a) (hD : 0 < D) (hM : M % 10 ≠ 0) : scN A (-(a + 1)) % scD D (-(a + 1)) ≠ 0 := by
  intro h0
  have h1 := val_less h hD
  have hz := scD_ne hD (e := -(a + 1))
  obtain ⟨q, hq⟩ : ∃ q, scN A (-(a + 1)) = scD D (-(a + 1)) * q := Nat.dvd_of_mod_eq_zero h0
  rw [hq] at h1
  have h2 : (q * 10) * scD D (-(a + 1)) = M * scD D (-(a + 1)) := by rw [← h1]; simp only [Nat.mul_assoc, Nat.mul_left_comm, Nat.mul_comm]
  have h3 := Nat.eq_of_mul_eq_mul_right hz h2
  omega
/-- The digits of a number without the noughts at its end are a number's. -/
theorem strip_num {N : Nat} (h : 0 < N) : ∃ M, 0 < M ∧ Lib.decDigits M = stripZ (Lib.decDigits N) ∧ N = M * 10 ^ endZ (Lib.decDigits N) ∧ M % 10 ≠ 0 := by
  have hs := strip_split (Lib.decDigits N)
  obtain ⟨z, hz⟩ : ∃ z, endZ (Lib.decDigits N) = z := ⟨_, rfl⟩
  obtain ⟨p, hp⟩ : ∃ p, stripZ (Lib.decDigits N) = p := ⟨_, rfl⟩
  rw [hz, hp] at hs
  have hN : N = dval p * 10 ^ z := by
    have h1 := dval_dec N
    have h3 := dval_noughts z []
    rw [List.append_nil, dval_nil] at h3
    rw [hs, dval_append, List.length_replicate, h3] at h1
    omega
  have hM : 0 < dval p := Nat.pos_of_ne_zero fun e => by rw [e, Nat.zero_mul] at hN; omega
  have h2 := dec_tens (dval p) z hM
  rw [← hN, hs] at h2
  have h4 : p = Lib.decDigits (dval p) := List.append_cancel_right h2
  refine ⟨dval p, hM, by rw [hp]; exact h4.symm, by rw [hz]; exact hN, fun h10 => ?_⟩
  obtain ⟨q, hq⟩ : ∃ q, dval p = q * 10 ^ 1 := ⟨dval p / 10, by omega⟩
  have hq0 : 0 < q := by omega
  have h5 := dec_tens q 1 hq0
  rw [← hq, ← h4] at h5
  have h6 := strip_noZ (Lib.decDigits N)
  rw [hp] at h6
  exact h6 48 (by rw [h5]; simp) rfl
/-- The number that Exact tells is the value. -/
theorem exact_val {F : Nat} {x : Int} {M z : Nat} (h : exN F x = M * 10 ^ z) : isVal (frN F x) (frD x) M (exAt x + z) := by
  unfold isVal frN frD
  unfold exN at h
  by_cases hx : 0 ≤ x
  · rw [if_pos hx] at h
    unfold exAt
    rw [if_pos hx, h, show (-(0 + (z : Int))).toNat = 0 by omega, show ((0 : Int) + z).toNat = z by omega, show (-x).toNat = 0 by omega]
  · rw [if_neg hx] at h
    unfold exAt
    rw [if_neg hx, show x.toNat = 0 by omega, Nat.pow_zero, Nat.mul_one]
    obtain ⟨k, hk⟩ : ∃ k, (-x).toNat = k := ⟨_, rfl⟩
    rw [hk] at h ⊢
    have h10 : F * 10 ^ k = M * 10 ^ z * 2 ^ k := by
      rw [← h, show (10 : Nat) = 5 * 2 from rfl, Nat.mul_pow, ← Nat.mul_assoc]
    by_cases hz : k ≤ z
    · rw [show (-(x + (z : Int))).toNat = 0 by omega, Nat.pow_zero, Nat.mul_one, show (x + (z : Int)).toNat = z - k by omega]
      have e : z = (z - k) + k := by omega
      rw [e, Nat.pow_add] at h10
      have h2 : F * 10 ^ k = M * 10 ^ (z - k) * 2 ^ k * 10 ^ k := by rw [h10]; simp only [Nat.mul_assoc, Nat.mul_left_comm, Nat.mul_comm]
      exact Nat.eq_of_mul_eq_mul_right (Nat.pow_pos (by decide)) h2
    · rw [show (x + (z : Int)).toNat = 0 by omega, Nat.pow_zero, Nat.mul_one, show (-(x + (z : Int))).toNat = k - z by omega]
      have e : k = (k - z) + z := by omega
      have h2 : F * 10 ^ (k - z) * 10 ^ z = M * 2 ^ k * 10 ^ z := by
        rw [Nat.mul_assoc, ← Nat.pow_add, ← e, h10]; simp only [Nat.mul_assoc, Nat.mul_left_comm, Nat.mul_comm]
      exact Nat.eq_of_mul_eq_mul_right (Nat.pow_pos (by decide)) h2
/-- With as many digits as there are, and k more. -/
theorem write_exact {A D M : Nat} {a : Int} {s : List UInt8} (h : isVal A D M a) (hD : 0 < D) (hM : 0 < M) (hs : Lib.decDigits M = s) (sg : Bool) (dir : Int) (k : Nat) :
    isTens A D (a + s.length - 1) ∧ wrText sg A D dir (s.length + k) (a + s.length - 1) = layL sg (s ++ List.replicate k 48) (a - k) ∧ wrMore A D (s.length + k) (a + s.length - 1) = false := by
  have hl : s.length = Lib.nDigits M := by rw [← hs, Lib.decDigits_length]
  have hl0 : 0 < s.length := by rw [hl]; exact Lib.nDigits_pos M
  have h1 := pow_le_digits M M (Nat.le_refl _) hM
  have h2 := Lib.lt_pow_nDigits M
  rw [← hl] at h1 h2
  have he : a + (s.length : Int) - 1 - ((s.length + k : Nat) : Int) + 1 = a - k := by omega
  have hv := val_exact h hD k
  have hz := scD_ne hD (e := -(a - k))
  have hm0 : scN A (-(a - k)) % scD D (-(a - k)) = 0 := by rw [hv]; exact Nat.mul_mod_left _ _
  refine ⟨tens_val h hD hl0 h1 h2, ?_, ?_⟩
  · have hq : quoR dir sg (scN A (-(a - k))) (scD D (-(a - k))) = M * 10 ^ k := by
      unfold quoR
      rw [if_pos hm0, hv, Nat.mul_div_cancel _ hz]
    unfold wrText
    rw [he, hq, dec_tens M k hM, hs]
    have hn : ¬ s.length + k < (s ++ List.replicate k (48 : UInt8)).length := by simp
    exact if_neg hn
  · unfold wrMore
    rw [he, decide_eq_false (not_not_intro hm0)]
/-- With one less. -/
theorem write_less {A D M : Nat} {a : Int} {s : List UInt8} (h : isVal A D M a) (hD : 0 < D) (hM : M % 10 ≠ 0) (hs : Lib.decDigits M = s) {m : Nat} (hm : m + 1 = s.length) : wrMore A D m (a + s.length - 1) = true := by
  unfold wrMore
  have he : a + (s.length : Int) - 1 - (m : Int) + 1 = a + 1 := by omega
  rw [he, decide_eq_true (more_less h hD hM)]
end Go.Proofs.YtpodpdopgdkdkaaGreatDoor
namespace Go.Proofs.YtpodpdopgdkdkaaGreatDoor
set_option linter.unusedVariables false
set_option linter.unusedSimpArgs false
open Go.RowKit
set_option maxRecDepth 100000 in
set_option maxHeartbeats 8000000 in
theorem fixedAll_calls (n dir : Int) (b0 b1 b2 b3 : Nat) (u : Int) (hb : W64 [b0, b1, b2, b3]) (hu0 : 0 ≤ u) (hu1 : u ≤ 255) (w : World) (hT : Tab10 w) :
    Calls Tryz.prog 7 #[.int .i64 n, .int .i64 dir, bitsV b0 b1 b2 b3, .int .u8 u] w fun e w' => e = .returned (.bool true) ∧ Below w.heap.size w w' := by
  have HT := Lib.hid hT
  have HA := Lib.hid (fun W (hW : Below w.heap.size w W) => awake10_calls W (tabIs_below hT hW))
  have H1 := Lib.hid (fun (cnt : Int) (hc0 : -9223372036854775808 ≤ cnt) (hc1 : cnt ≤ 9223372036854775807) W (hW : Below w.heap.size w W) => write_calls n dir cnt b0 b1 b2 b3 hb hc0 hc1 W (tabIs_below hT hW))
  have H2 := Lib.hid (fun W => finite_calls n b0 b1 b2 b3 hb W)
  have H3 := Lib.hid (fun W (hW : Below w.heap.size w W) => exact_calls n b0 b1 b2 b3 hb W (tabIs_below hT hW))
  have H4 := Lib.hid (fun W => direction_calls W dir)
  unfold bitsV at *
  clear hT hb
  obtain ⟨k, hk⟩ : ∃ k : Nat, (k : Int) = u % 90 := ⟨(u % 90).toNat, by omega⟩
  have hr1 : u % 90 = (k : Int) := hk.symm
  have hr2 : u.tmod 90 = (k : Int) := by rw [Int.tmod_eq_emod_of_nonneg hu0]; exact hr1
  have hk90 : k ≤ 90 := by omega
  clear hk
  by_cases hd : 0 ≤ dir ∧ dir ≤ 4
  rotate_left
  · rw [decide_eq_false hd] at H4
    clear hd H1 H2 H3
    go_enter Tryz.func7, Tryz.ntmps7
    go_wp2_with fail
    have HB0 := Lib.hid (below_alloc (Below.refl w.heap.size w) (.cells #[.int .u64 (b0 : Nat), .int .u64 (b1 : Nat), .int .u64 (b2 : Nat), .int .u64 (b3 : Nat)] 24))
    generalize (w.alloc (.cells #[.int .u64 (b0 : Nat), .int .u64 (b1 : Nat), .int .u64 (b2 : Nat), .int .u64 (b3 : Nat)] 24)) = v0 at HB0 ⊢
    refine (HA.out _ HB0.out).mono ?_
    rintro e w1 ⟨rfl, hb1⟩
    have HB1 := Lib.hid (below_then HB0.out hb1)
    clear hb1
    go_wp2_with fail
    refine (H4.out _).mono ?_
    rintro e w2 ⟨rfl, rfl⟩
    go_wp2_with fail
    refine (HA.out _ HB1.out).mono ?_
    rintro e w3 ⟨rfl, hb3⟩
    have HB3 := Lib.hid (below_then HB1.out hb3)
    clear hb3
    go_wp2
    go_ret
    exact ⟨rfl, HB3.out⟩
  rw [decide_eq_true hd] at H4
  have HDR := Lib.hid hd
  clear hd
  go_enter Tryz.func7, Tryz.ntmps7
  go_wp2_with fail
  have HB0 := Lib.hid (below_alloc (Below.refl w.heap.size w) (.cells #[.int .u64 (b0 : Nat), .int .u64 (b1 : Nat), .int .u64 (b2 : Nat), .int .u64 (b3 : Nat)] 24))
  have HP0 : Hid ((w.alloc (.cells #[.int .u64 (b0 : Nat), .int .u64 (b1 : Nat), .int .u64 (b2 : Nat), .int .u64 (b3 : Nat)] 24)).heap[w.heap.size]? = _) := Lib.hid (heap_new w (.cells #[.int .u64 (b0 : Nat), .int .u64 (b1 : Nat), .int .u64 (b2 : Nat), .int .u64 (b3 : Nat)] 24))
  generalize (w.alloc (.cells #[.int .u64 (b0 : Nat), .int .u64 (b1 : Nat), .int .u64 (b2 : Nat), .int .u64 (b3 : Nat)] 24)) = v0 at HB0 HP0 ⊢
  refine (HA.out _ HB0.out).mono ?_
  rintro e w1 ⟨rfl, hb1⟩
  have HB1 := Lib.hid (below_then HB0.out hb1)
  have HP1 := Lib.hid (below_heap hb1 HP0.out)
  clear hb1 HP0 HA
  have d0 : w1.cell? ⟨w.heap.size, 0, none⟩ = some (.int .u64 (b0 : Nat)) := cell_of_heap HP1.out 0
  have d1 : w1.cell? ⟨w.heap.size, 1, none⟩ = some (.int .u64 (b1 : Nat)) := cell_of_heap HP1.out 1
  have d2 : w1.cell? ⟨w.heap.size, 2, none⟩ = some (.int .u64 (b2 : Nat)) := cell_of_heap HP1.out 2
  have d3 : w1.cell? ⟨w.heap.size, 3, none⟩ = some (.int .u64 (b3 : Nat)) := cell_of_heap HP1.out 3
  go_wp2_with fail
  refine (H4.out _).mono ?_
  rintro e w9 ⟨rfl, rfl⟩
  go_wp2_with fail
  refine (H3.out _ HB1.out).mono ?_
  intro e w2 hr
  have HB2 := Lib.hid (below_then HB1.out hr.1)
  have HP2 := Lib.hid (below_heap hr.1 HP1.out)
  obtain ⟨-, ⟨P, X, L, hI, hl, rfl⟩ | ⟨-, rfl⟩⟩ := hr
  rotate_left
  · unfold noOut
    clear d0 d1 d2 d3 H1 H2 H3
    go_wp2
    go_ret
    exact ⟨rfl, HB2.out⟩
  unfold exV
  by_cases hE : val [b0, b1, b2, b3] / 2 ^ (P - 1) % 2 ^ X < 2 ^ X - 1
  rotate_left
  · rw [if_neg hE]
    unfold noOut
    clear d0 d1 d2 d3 H1 H2 H3 hE hI hl
    go_wp2
    go_ret
    exact ⟨rfl, HB2.out⟩
  rw [if_pos hE]
  by_cases hF0 : coefF (val [b0, b1, b2, b3]) P X = 0
  · rw [if_pos hF0]
    unfold noOut
    clear d0 d1 d2 d3 H1 H2 H3 hE hI hl hF0
    go_wp2
    go_ret
    exact ⟨rfl, HB2.out⟩
  rw [if_neg hF0]
  have hv : finLive (val [b0, b1, b2, b3]) P X := ⟨hE, hF0⟩
  obtain ⟨TT, hT0, hT1, hTT⟩ := live_tens hI hv
  have hD := frD_pos (expF (val [b0, b1, b2, b3]) P X L)
  have hwj := fun (cnt : Int) (m : Nat) (hc : 1 ≤ cnt ∧ cnt ≤ 800) (hm : cnt = (m : Int)) (T : Int) hT W hW => (H1.out cnt (by omega) (by omega) W hW).mono fun e w' h => write_live (T := T) h HDR.out hc hm hI hl hv hT
  have hNp : 0 < exN (coefF (val [b0, b1, b2, b3]) P X) (expF (val [b0, b1, b2, b3]) P X L) := by
    unfold exN
    split <;> exact Nat.mul_pos (Nat.pos_of_ne_zero hF0) (Nat.pow_pos (by decide))
  obtain ⟨M, hM, hMs, hMe, hM10⟩ := strip_num hNp
  have hval := exact_val hMe
  have HHI := Lib.hid (And.intro hI (And.intro hl hv))
  unfold exOut
  obtain ⟨x, hx⟩ : ∃ x, expF (val [b0, b1, b2, b3]) P X L = x := ⟨_, rfl⟩
  have HX := Lib.hid hx
  obtain ⟨sg, hsg⟩ : ∃ sg, sgF (val [b0, b1, b2, b3]) P X = sg := ⟨_, rfl⟩
  have HSG := Lib.hid hsg
  rw [hx, hsg] at hwj
  rw [hx] at hMs hMe hval hTT hD hNp ⊢
  obtain ⟨F, hF⟩ : ∃ F, coefF (val [b0, b1, b2, b3]) P X = F := ⟨_, rfl⟩
  rw [hF] at hwj hMs hMe hval hTT hNp ⊢
  obtain ⟨a, ha⟩ : ∃ a, exAt x + ((endZ (Lib.decDigits (exN F x)) : Nat) : Int) = a := ⟨_, rfl⟩
  rw [ha] at hval ⊢
  rw [← hMs]
  obtain ⟨A, hA⟩ : ∃ A, frN F x = A := ⟨_, rfl⟩
  obtain ⟨D, hDe⟩ : ∃ D, frD x = D := ⟨_, rfl⟩
  rw [hA, hDe] at hwj hval hTT
  rw [hDe] at hD
  obtain ⟨s, hs⟩ : ∃ s, Lib.decDigits M = s := ⟨_, rfl⟩
  rw [hs]
  obtain ⟨hTn, hWt, hWm⟩ := write_exact hval hD hM hs sg dir k
  have hWl := fun (m : Nat) (hm : m + 1 = s.length) => write_less hval hD hM10 hs hm
  have hTe := tens_unique hTT hTn
  have hl1 := dig_one M
  rw [hs] at hl1
  obtain ⟨S, hS⟩ : ∃ S : ByteArray, S = ⟨s.toArray⟩ := ⟨_, rfl⟩
  rw [← hS]
  have hSd : S.data.toList = s := by rw [hS]
  have hSz := wr_size hSd
  obtain ⟨l, hll⟩ : ∃ l, s.length = l := ⟨_, rfl⟩
  rw [hll] at hSz hTn hWt hWm hWl hTe hl1
  by_cases h700 : 700 < l
  · have h700i : (700 : Int) < (l : Int) := by omega
    clear d0 d1 d2 d3 H1 H2 H3 hE hI hl hF0 hv hTT hD hwj hNp hM hMs hMe hM10 hval hx hsg hF ha hA hDe hs hTn hWt hWm hWl hTe hS hSd hll
    go_wp2
    go_ret
    exact ⟨rfl, HB2.out⟩
  have hWc1 : ∀ W, Below w.heap.size w W → Calls Tryz.prog 9 #[.int .i64 n, .int .i64 dir, .int .i64 ((l : Int) + (k : Int)), .agg #[.int .u64 (b0 : Nat), .int .u64 (b1 : Nat), .int .u64 (b2 : Nat), .int .u64 (b3 : Nat)]] W fun e w' => e = .returned (.tuple #[.string ⟨(layL sg (s ++ List.replicate k 48) (a - k)).toArray⟩, .bool false, .int .i64 0]) ∧ Below W.heap.size W w' := fun W hW => by
    have h := hwj ((l : Int) + (k : Int)) (l + k) (by omega) (by omega) (a + l - 1) hTn W hW
    rw [hWt, hWm] at h
    exact h
  have hWc2 : 2 ≤ l → ∀ W, Below w.heap.size w W → Calls Tryz.prog 9 #[.int .i64 n, .int .i64 dir, .int .i64 ((l : Int) - 1), .agg #[.int .u64 (b0 : Nat), .int .u64 (b1 : Nat), .int .u64 (b2 : Nat), .int .u64 (b3 : Nat)]] W fun e w' => (∃ R : ByteArray, e = .returned (.tuple #[.string R, .bool true, .int .i64 0])) ∧ Below W.heap.size W w' := fun h2 W hW => by
    have h := hwj ((l : Int) - 1) (l - 1) (by omega) (by omega) (a + l - 1) hTn W hW
    rw [hWl (l - 1) (by omega)] at h
    exact h.mono fun e w' hh => ⟨⟨_, hh.1⟩, hh.2⟩
  obtain ⟨Z, hZ⟩ : ∃ Z : ByteArray, Z = ⟨(layL sg (s ++ List.replicate k 48) (a - k)).toArray⟩ := ⟨_, rfl⟩
  rw [← hZ] at hWc1
  have HWC1 := Lib.hid hWc1
  have HWC2 := Lib.hid hWc2
  have HLY := Lib.hid (fun W (hW : Below w.heap.size w W) (R : ByteArray) (hR : R.data.toList = s ++ List.replicate k 48) => by
    have h := rlayout_calls W sg R (s ++ List.replicate k 48) (a - k) hR (by rw [List.length_append, hll]; omega) (by rw [List.length_append, List.length_replicate, hll]; omega) (by omega) (by omega) (tabIs_below HT.out hW)
    rw [← hZ] at h
    exact h)
  have HSD := Lib.hid hSd
  have HLL := Lib.hid hll
  have h700i : (l : Int) ≤ 700 := by omega
  have h700n : l ≤ 700 := by omega
  have ha1 : -10000 ≤ a := by omega
  have ha2 : a ≤ 10000 := by omega
  clear hE hI hl hF0 hv hTT hD hwj hNp hM hMs hMe hM10 hval hx hsg hF ha hA hDe hs hTn hWt hWm hWl hTe hS hSd hll hWc1 hWc2 hZ H1 H3 h700 hT0 hT1
  clear d0 d1 d2 d3
  have d0 : w2.cell? ⟨w.heap.size, 0, none⟩ = some (.int .u64 (b0 : Nat)) := cell_of_heap HP2.out 0
  have d1 : w2.cell? ⟨w.heap.size, 1, none⟩ = some (.int .u64 (b1 : Nat)) := cell_of_heap HP2.out 1
  have d2 : w2.cell? ⟨w.heap.size, 2, none⟩ = some (.int .u64 (b2 : Nat)) := cell_of_heap HP2.out 2
  have d3 : w2.cell? ⟨w.heap.size, 3, none⟩ = some (.int .u64 (b3 : Nat)) := cell_of_heap HP2.out 3
  go_wp2_with fail
  refine (H2.out _).mono ?_
  intro e w3 hr
  have HB3 := Lib.hid (below_then HB2.out hr.1)
  have HP3 := Lib.hid (below_heap hr.1 HP2.out)
  obtain ⟨-, ⟨P', X', L', hI', hl', hv', c0, c1, c2, c3, hcw, hcv, rfl⟩ | ⟨hno, -⟩⟩ := hr
  rotate_left
  · exact absurd HHI.out.2.2 (hno P X L HHI.out.1 HHI.out.2.1)
  obtain ⟨rfl, rfl, rfl⟩ := HHI.out.1.uniq hI'
  rw [HSG.out, HX.out]
  unfold datV
  clear hI' hl' hv' hcw hcv H2 d0 d1 d2 d3 HP1 HP2
  go_wp2_with fail
  have HG4 := Lib.hid (heap_new w3 (.cells #[.int .i64 1, .bool sg, .bool false, .int .i64 x, .int .u64 (c0 : Nat), .int .u64 (c1 : Nat), .int .u64 (c2 : Nat), .int .u64 (c3 : Nat)] 31))
  have HB4 := Lib.hid (below_alloc HB3.out (.cells #[.int .i64 1, .bool sg, .bool false, .int .i64 x, .int .u64 (c0 : Nat), .int .u64 (c1 : Nat), .int .u64 (c2 : Nat), .int .u64 (c3 : Nat)] 31))
  have HP4 := Lib.hid ((heap_keep w3 (.cells #[.int .i64 1, .bool sg, .bool false, .int .i64 x, .int .u64 (c0 : Nat), .int .u64 (c1 : Nat), .int .u64 (c2 : Nat), .int .u64 (c3 : Nat)] 31) (lt_of_heap HP3.out)).trans HP3.out)
  generalize (w3.alloc (.cells #[.int .i64 1, .bool sg, .bool false, .int .i64 x, .int .u64 (c0 : Nat), .int .u64 (c1 : Nat), .int .u64 (c2 : Nat), .int .u64 (c3 : Nat)] 31)) = w4 at HG4 HB4 HP4 ⊢
  clear HP3 HB3 hr1 hr2
  go_loop [15, 55] (fun s' i => ∃ (t : Nat) (R : ByteArray), t ≤ k ∧ i = .int .i64 (t : Nat) ∧ s' = .string R ∧ R.size ≤ 1000 ∧ R.data.toList = s ++ List.replicate t 48) (fun _ i => k - (intOf i).toNat)
  case atStart => exact ⟨0, S, by omega, rfl, rfl, by omega, by rw [List.replicate_zero, List.append_nil]; exact HSD.out⟩
  case round =>
    obtain ⟨t, R, ht, rfl, rfl, hR1, hR⟩ := hrel
    have HR := Lib.hid hR
    clear hR
    by_cases hlt : t < k
    · go_wp2
      go_round
      case rel => exact ⟨t + 1, R ++ ⟨#[48]⟩, by omega, by go_num, rfl, by rw [wr_size (rfl : (R ++ ⟨#[48]⟩).data.toList = _), wr_app, HR.out]; simp [HLL.out]; omega, by rw [wr_app, HR.out, List.replicate_succ']; simp⟩
      case measure => simp [intOf]; omega
    · obtain rfl : t = k := by omega
      have d0 : w4.cell? ⟨w.heap.size, 0, none⟩ = some (.int .u64 (b0 : Nat)) := cell_of_heap HP4.out 0
      have d1 : w4.cell? ⟨w.heap.size, 1, none⟩ = some (.int .u64 (b1 : Nat)) := cell_of_heap HP4.out 1
      have d2 : w4.cell? ⟨w.heap.size, 2, none⟩ = some (.int .u64 (b2 : Nat)) := cell_of_heap HP4.out 2
      have d3 : w4.cell? ⟨w.heap.size, 3, none⟩ = some (.int .u64 (b3 : Nat)) := cell_of_heap HP4.out 3
      go_wp2_with fail
      refine (HWC1.out _ HB4.out).mono ?_
      rintro e w5 ⟨rfl, hb5⟩
      have HB5 := Lib.hid (below_then HB4.out hb5)
      have HP5 := Lib.hid (below_heap hb5 HP4.out)
      have HG5 := Lib.hid (below_heap hb5 HG4.out)
      have x1 : w5.cell? ⟨w3.heap.size, 1, none⟩ = some (.bool sg) := cell_of_heap HG5.out 1
      clear hb5 d0 d1 d2 d3
      go_wp2_with fail
      refine (HLY.out _ HB5.out _ HR.out).mono ?_
      rintro e w6 ⟨rfl, hb6⟩
      have HB6 := Lib.hid (below_then HB5.out hb6)
      have HP6 := Lib.hid (below_heap hb6 HP5.out)
      clear hb6 x1
      have d0 : w6.cell? ⟨w.heap.size, 0, none⟩ = some (.int .u64 (b0 : Nat)) := cell_of_heap HP6.out 0
      have d1 : w6.cell? ⟨w.heap.size, 1, none⟩ = some (.int .u64 (b1 : Nat)) := cell_of_heap HP6.out 1
      have d2 : w6.cell? ⟨w.heap.size, 2, none⟩ = some (.int .u64 (b2 : Nat)) := cell_of_heap HP6.out 2
      have d3 : w6.cell? ⟨w.heap.size, 3, none⟩ = some (.int .u64 (b3 : Nat)) := cell_of_heap HP6.out 3
      by_cases hl1e : l = 1
      · subst hl1e
        go_wp2
        go_ret
        exact ⟨rfl, HB6.out⟩
      · have hq : ((l : Int) == 1) = false := by simp; omega
        have HW7 := Lib.hid (HWC2.out (by omega) _ HB6.out)
        go_wp2_with fail
        refine HW7.out.mono ?_
        rintro e w7 ⟨⟨R7, rfl⟩, hb7⟩
        have HB7 := Lib.hid (below_then HB6.out hb7)
        clear hb7 d0 d1 d2 d3
        go_wp2
        go_ret
        exact ⟨rfl, HB7.out⟩
theorem fx_u8 {n : Int} (h : (Lit.int .u8 n).wf = true) : 0 ≤ n ∧ n ≤ 255 := by
  have e1 : IntKind.u8.min = 0 := rfl
  have e2 : IntKind.u8.max = 255 := rfl
  simp [Lit.wf, e1, e2] at h
  omega
theorem fixedAll_row (n dir : Int) (v : Value) (u : Int) (w : World) (_ : (Lit.int .i64 n).wf = true) (_ : (Lit.int .i64 dir).wf = true) (h : ∃ b0 b1 b2 b3 : Nat, v = bitsV b0 b1 b2 b3 ∧ W64 [b0, b1, b2, b3]) (hu : (Lit.int .u8 u).wf = true) (hT : Tab10 w) :
    Calls Tryz.prog 7 #[.int .i64 n, .int .i64 dir, v, .int .u8 u] w fun e w' => e = .returned (.bool true) ∧ Below w.heap.size w w' := by
  obtain ⟨b0, b1, b2, b3, rfl, hb⟩ := h
  have := fx_u8 hu
  exact fixedAll_calls n dir b0 b1 b2 b3 u hb this.1 this.2 w hT
end Go.Proofs.YtpodpdopgdkdkaaGreatDoor
