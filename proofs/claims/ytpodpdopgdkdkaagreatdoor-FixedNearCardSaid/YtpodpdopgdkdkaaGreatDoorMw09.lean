/- The reference's Right, where more bits go than there are words. No conditions. · The contract of limbs.Len at four words: how many bits a pattern has. No conditions. · limbs at four words: Of, Bit; blocks of four words. No conditions. · The reference's field of a pattern. No conditions. -/
import Derived.Test.YtpodpdopgdkdkaaGreatDoorMw08
import Derived.Test.YtpodpdopgdkdkaaGreatDoorMw06
import Derived.Test.YtpodpdopgdkdkaaGreatDoorMw03
import Derived.Test.YtpodpdopgdkdkaaGreatDoorMw05
import Derived.Test.YtpodpdopgdkdkaaGreatDoorMw07
set_option linter.unusedVariables false
set_option linter.unusedSimpArgs false
namespace Go.Proofs.YtpodpdopgdkdkaaGreatDoor
open Go.RowKit
set_option maxRecDepth 10000 in
set_option maxHeartbeats 2000000 in
theorem right_far (w : World) (a : Option Addr) (la ca : Nat) (xs : List Nat) (n : Nat) (ha : SlW w a la ca xs) (sa : la ≤ 4398046511104) (hn : la < n / 64) (hn2 : n < 256) :
    Calls Tryz.prog 120 #[.slice a la ca, .int .i64 (n : Nat)] w (NatRes2 w (val xs / 2 ^ n) la (.bool (goneB (val xs % 2 ^ n)))) := by
  have m1 := ha.hle
  have m2 := ha.hmax
  have HX := Lib.hid ha.hw
  have HA := Lib.hid ha
  clear ha
  obtain ⟨q, hq⟩ : ∃ q, n / 64 = q := ⟨_, rfl⟩
  obtain ⟨s, hs⟩ : ∃ s, n % 64 = s := ⟨_, rfl⟩
  have hs64 : s < 64 := by omega
  have HNQ : Hid (n = 64 * q + s) := Lib.hid (by omega)
  have hqi : (n : Int) / 64 = (q : Nat) := by omega
  have hsi : (n : Int) % 64 = (s : Nat) := by omega
  have hnb : n ≤ 1000000000000000 := by omega
  have hq4 : q < 4 := by omega
  rw [hq] at hn
  clear hq hs
  have i5 : IntKind.u64.wrap (s : Int) = (s : Nat) := wrapS (by unfold B64; omega)
  have i6 : min s 64 = s := by omega
  go_enter Tryz.func120, Tryz.ntmps120
  go_wp2_with fail
  try rw [hqi]
  try rw [hsi]
  go_loop [13, 6] (fun i gn => ∃ t : Nat, t ≤ la ∧ i = .int .i64 t ∧ gn = .bool (goneB (goneN xs q s t))) (fun i _ => la - (intOf i).toNat)
  case atStart => exact ⟨0, by omega, rfl, by rw [goneN_zero]; rfl⟩
  case round =>
    obtain ⟨t, ht, rfl, rfl⟩ := hrel
    by_cases hlt : t < la
    · obtain ⟨p, o, rfl, hx⟩ := HA.out.wcell t hlt
      rcases Nat.lt_trichotomy t q with hc | hc | hc
      · have HG := Lib.hid (goneN_below (xs := xs) (s := s) hc)
        by_cases hz : wd xs t = 0
        · rw [hz] at hx HG
          clear hz
          have HG2 : Hid (goneN xs q s (t + 1) = goneN xs q s t) := Lib.hid HG.out
          clear HG
          go_wp2
          go_round
          case rel => exact ⟨t + 1, by omega, by go_num, by rw [HG2.out]⟩
          case measure => simp [intOf]; omega
        · have HG2 : Hid (goneB (goneN xs q s (t + 1)) = true) := Lib.hid (by rw [HG.out]; exact gone_more hz (Nat.pow_pos (by decide)))
          generalize wd xs t = X at hx hz
          have hX0 : (((X : Nat) : Int) == 0) = false := by simp; exact hz
          have hX1 : (((X : Nat) : Int) != 0) = true := by simp; exact hz
          clear HG hz
          go_wp2
          go_round
          case rel => exact ⟨t + 1, by omega, by go_num, by rw [HG2.out]⟩
          case measure => simp [intOf]; omega
      · omega
      · omega
    · have hte : la = t := by omega
      subst hte
      have HG := Lib.hid (goneN_end (q := q) (s := s) HX.out (by omega) (by rw [HA.out.hlen]; exact Nat.le_refl _))
      rw [← HNQ.out] at HG
      rw [HG.out]
      obtain ⟨gb, hgb⟩ : ∃ b, goneB (val xs % 2 ^ n) = b := ⟨_, rfl⟩
      rw [hgb]
      have HGB := Lib.hid hgb
      clear HG hgb
      go_wp2_with fail
      go_loopw [9, 8] (fun i o wr => i = .int .i64 (q : Nat) ∧ o = .slice none 0 0 ∧ wr = w) (fun _ _ _ => 0)
      case atStart => exact ⟨by first | rfl | go_num, rfl, rfl⟩
      case round =>
        obtain ⟨rfl, rfl, rfl⟩ := hrel
        go_wp2_with fail
        refine (refTrim_calls _ none 0 0 [] (SlW.nil0 _) (.inl rfl) (by omega)).mono ?_
        rintro e w2 hr
        have h0 : val [] = val xs / 2 ^ n := by
          have h1 := val_lt HX.out
          rw [HA.out.hlen] at h1
          have h2 : B64 ^ la ≤ 2 ^ n := by
            rw [show B64 = 2 ^ 64 from rfl, ← Nat.pow_mul]
            exact Nat.pow_le_pow_right (by decide) (by have := HNQ.out; omega)
          rw [Nat.div_eq_of_lt (Nat.lt_of_lt_of_le h1 h2)]; rfl
        have hr2 := hr.le (bd' := la) (by omega)
        rw [h0] at hr2
        obtain ⟨a', c', rs, rfl, r1, r2, r3, r4, r5⟩ := hr2
        have R := Lib.hid (And.intro r1 (And.intro r2 (And.intro r3 (And.intro r4 r5))))
        clear r1 r2 r3 r4 r5 hr
        go_wp2
        go_ret2
        rw [HGB.out]
        exact ⟨a', c', rs, rfl, R.out.1, R.out.2.1, R.out.2.2.1, R.out.2.2.2.1, R.out.2.2.2.2⟩
/-- Right, of less than 256 bits. -/
theorem right_any (w : World) (a : Option Addr) (la ca : Nat) (xs : List Nat) (n : Nat) (ha : SlW w a la ca xs) (sa : la ≤ 4398046511104) (hn : n < 256) :
    Calls Tryz.prog 120 #[.slice a la ca, .int .i64 (n : Nat)] w (NatRes2 w (val xs / 2 ^ n) la (.bool (goneB (val xs % 2 ^ n)))) := by
  by_cases h : n / 64 ≤ la
  · exact right_calls w a la ca xs n ha sa h
  · exact right_far w a la ca xs n ha sa (by omega) hn
end Go.Proofs.YtpodpdopgdkdkaaGreatDoor
namespace Go.Proofs.YtpodpdopgdkdkaaGreatDoor
open Go.RowKit
/-- A pattern's value. -/
def bitsV (b0 b1 b2 b3 : Nat) : Value := .agg #[.int .u64 (b0 : Nat), .int .u64 (b1 : Nat), .int .u64 (b2 : Nat), .int .u64 (b3 : Nat)]
set_option maxRecDepth 10000 in
set_option maxHeartbeats 1000000 in
theorem limbsLen_calls (w : World) (b0 b1 b2 b3 : Nat) (h : W64 [b0, b1, b2, b3]) :
    Calls Tryz.prog 105 #[bitsV b0 b1 b2 b3] w fun e w' => e = .returned (.int .i64 (blen (val [b0, b1, b2, b3]) : Nat)) ∧ Below w.heap.size w w' := by
  unfold bitsV
  have hcell : ∀ j, j < 4 → (w.alloc (.cells #[.int .u64 (b0 : Nat), .int .u64 (b1 : Nat), .int .u64 (b2 : Nat), .int .u64 (b3 : Nat)] 23)).cell? ⟨w.heap.size, j, none⟩ = some (.int .u64 (([b0, b1, b2, b3].getD j 0 : Nat) : Int)) := by
    intro j hj
    rw [cell_of_heap (heap_new w _)]
    rcases (show j = 0 ∨ j = 1 ∨ j = 2 ∨ j = 3 by omega) with rfl | rfl | rfl | rfl <;> rfl
  have HC := Lib.hid hcell
  have H := Lib.hid h
  clear hcell h
  have HV : Hid (∀ k, 0 < k → k ≤ 4 → (∀ j, k ≤ j → j < 4 → [b0, b1, b2, b3].getD j 0 = 0) → [b0, b1, b2, b3].getD (k - 1) 0 ≠ 0 → blen (val [b0, b1, b2, b3]) = 64 * (k - 1) + blen ([b0, b1, b2, b3].getD (k - 1) 0)) := by
    intro k h1 h2 h3 h4
    have e : sz [b0, b1, b2, b3] = k := sz_unique (by simpa using h2) (fun i a b => h3 i a (by simpa using b)) (.inr h4)
    have := blen_val H.out (by omega)
    rw [e] at this
    exact this
  have HN : Hid ((∀ j, j < 4 → [b0, b1, b2, b3].getD j 0 = 0) → blen (val [b0, b1, b2, b3]) = 0) := by
    intro h3
    rw [val_zeros (fun i hi => h3 i (by simpa using hi))]; rfl
  have HG : Hid (∀ i, [b0, b1, b2, b3].getD i 0 < B64) := fun i => H.out.get i
  generalize [b0, b1, b2, b3] = xs at HC H HV HN HG
  generalize blen (val xs) = R at HV HN ⊢
  clear H
  go_enter Tryz.func105, Tryz.ntmps105
  go_wp2_with fail
  generalize hW : w.alloc (.cells #[.int .u64 (b0 : Nat), .int .u64 (b1 : Nat), .int .u64 (b2 : Nat), .int .u64 (b3 : Nat)] 23) = W at HC ⊢
  have HB : Hid (Below w.heap.size w W) := by rw [← hW]; exact below_alloc (Below.refl _ _) _
  clear hW
  go_loop [3] (fun i => ∃ k : Nat, k ≤ 4 ∧ i = .int .i64 ((k : Int) - 1) ∧ ∀ j, k ≤ j → j < 4 → xs.getD j 0 = 0) (fun i => (intOf i + 1).toNat)
  case atStart => exact ⟨4, by omega, rfl, fun j h1 h2 => by omega⟩
  case round =>
    obtain ⟨k, hk, rfl, hz⟩ := hrel
    have HZ := Lib.hid hz
    clear hz
    by_cases hk0 : 0 < k
    · have hc := HC.out (k - 1) (by omega)
      have h0 : (0 : Int) ≤ (k : Int) - 1 := by omega
      have e1 : ((k : Int) - 1).toNat = k - 1 := by omega
      by_cases hx : xs.getD (k - 1) 0 = 0
      · rw [hx] at hc
        have HX := Lib.hid hx
        clear hx
        go_wp2
        go_round
        case rel => exact ⟨k - 1, by omega, by rw [show ((k : Int) - 1 - 1) = ((k - 1 : Nat) : Int) - 1 by omega], fun j h1 h2 => by
          by_cases e : j = k - 1
          · rw [e]; exact HX.out
          · exact HZ.out j (by omega) h2⟩
        case measure => simp [intOf]; omega
      · have hR := HV.out k hk0 hk HZ.out hx
        have hg := HG.out (k - 1)
        generalize xs.getD (k - 1) 0 = X at hc hx hR hg
        have hl := bitsLen_calls X W hg
        have hlX := blen_le64 hg
        generalize blen X = L at hl hlX hR
        have hX0 : (((X : Nat) : Int) == 0) = false := by simp; exact hx
        have hX1 : (((X : Nat) : Int) != 0) = true := by simp; exact hx
        have HL := Lib.hid hl
        have HR := Lib.hid hR
        clear hx hl hR
        go_wp2_with fail
        refine HL.out.mono ?_
        rintro e w' ⟨rfl, rfl⟩
        go_wp2
        go_ret
        refine ⟨congrArg (fun n => Ending.returned (.int .i64 n)) ?_, HB.out⟩
        have := HR.out
        omega
    · have hk1 : k = 0 := by omega
      subst hk1
      go_wp2
      go_ret
      refine ⟨?_, HB.out⟩
      rw [HN.out fun j hj => HZ.out j (by omega) hj]
      rfl
end Go.Proofs.YtpodpdopgdkdkaaGreatDoor
namespace Go.Proofs.YtpodpdopgdkdkaaGreatDoor
set_option linter.unusedVariables false
set_option linter.unusedSimpArgs false
open Go.RowKit
theorem results_cell {P : Program} {fn : Func} {p : Tmp} {ty : TypeId} (h : fn.results = #[.cell p ty]) (tmps : Array Value) (w : World) (g : Nat) (t : TypeId) (cs : Array Value) (fr : Nat × Nat) (d : TypeDesc)
    (hp : tmps.getD p undef = .pointer (some ⟨g, 0, none⟩)) (hg : w.heap[g]? = some (.cells cs t fr))
    (hu : P.underlying ty = some d) (hd : (match d with | .struct _ | .array _ _ => true | _ => false) = true) (hi : (P.info? ty).map (·.size) = some cs.size) :
    (results fn tmps).run P w = .ok (.agg cs) w := by
  have hp' : tmps[p]?.getD undef = .pointer (some ⟨g, 0, none⟩) := by simpa using hp
  simp [results, h, hp', asAddr, run_loadVar_row w g t ty cs fr d hg hu hd hi]
/-- A block of type t that holds the words xs. -/
def ArrAt (t : TypeId) (w : World) (g : Nat) (xs : List Nat) : Prop := w.heap[g]? = some (.cells (wcells xs) t (0, 0))
theorem ArrAt.cell {t : TypeId} {w : World} {g : Nat} {xs : List Nat} (h : ArrAt t w g xs) (i : Nat) (hi : i < xs.length) : w.cell? ⟨g, i, none⟩ = some (.int .u64 ((wd xs i : Nat) : Int)) := by
  rw [cell_of_heap h, wcells_get hi]; rfl
theorem ArrAt.free {t : TypeId} {w : World} {g : Nat} {xs : List Nat} (h : ArrAt t w g xs) (i : Nat) : w.frozen? ⟨g, i, none⟩ = false := free_of_heap h i
theorem ArrAt.keep {t : TypeId} {w w' : World} {g : Nat} {xs : List Nat} (h : ArrAt t w g xs) (hb : Below w.heap.size w w') : ArrAt t w' g xs := below_heap hb h
theorem ArrAt.set {t : TypeId} {w : World} {g : Nat} {xs : List Nat} (h : ArrAt t w g xs) (i n : Nat) : ArrAt t (w.setCell ⟨g, i, none⟩ (.int .u64 (n : Nat))) g (xs.set i n) := by
  unfold ArrAt
  rw [heap_set h i _]
  have := wcells_set xs i n
  unfold wv at this
  rw [this]
theorem ArrAt.other {t : TypeId} {w : World} {g k : Nat} {xs : List Nat} (h : ArrAt t w g xs) (hk : g ≠ k) (i : Nat) (v : Value) : ArrAt t (w.setCell ⟨k, i, none⟩ v) g xs := (heap_set_other hk i v).trans h
/-- A pattern of the value F, in new memory. -/
def BitsRes (w : World) (F : Nat) (e : Ending) (w' : World) : Prop := ∃ c0 c1 c2 c3 : Nat, W64 [c0, c1, c2, c3] ∧ val [c0, c1, c2, c3] = F ∧ e = .returned (bitsV c0 c1 c2 c3) ∧ Below w.heap.size w w'
theorem B64_val : B64 = 18446744073709551616 := rfl
/-- Four cells stored into a block of four. -/
theorem sto4 {W : World} {r : Nat} {a0 a1 a2 a3 : Value} {t : TypeId} {f : Nat × Nat} (h : W.heap[r]? = some (.cells #[a0, a1, a2, a3] t f)) (v0 v1 v2 v3 : Value) :
    ∃ W', W' = (((W.setCell ⟨r, 0, none⟩ v0).setCell ⟨r, 1, none⟩ v1).setCell ⟨r, 2, none⟩ v2).setCell ⟨r, 3, none⟩ v3 ∧ W'.heap[r]? = some (.cells #[v0, v1, v2, v3] t f) ∧ (∀ b, b ≠ r → W'.heap[b]? = W.heap[b]?) ∧ W'.heap.size = W.heap.size ∧
      (∀ (B : Nat) (w0 : World), B ≤ r → Below B w0 W → Below B w0 W') := by
  refine ⟨_, rfl, heap_set (heap_set (heap_set (heap_set h 0 _) 1 _) 2 _) 3 _, fun b hb => ?_, ?_, fun B w0 hB hb => ?_⟩
  · rw [heap_set_other hb, heap_set_other hb, heap_set_other hb, heap_set_other hb]
  · rw [size_set, size_set, size_set, size_set]
  · exact (((hb.setCell hB _).setCell hB _).setCell hB _).setCell hB _
theorem four_of {xs : List Nat} (h : xs.length = 4) : ∃ c0 c1 c2 c3, xs = [c0, c1, c2, c3] := by
  match xs, h with
  | [c0, c1, c2, c3], _ => exact ⟨c0, c1, c2, c3, rfl⟩
theorem wd_set_eq {xs : List Nat} {i n : Nat} (h : i < xs.length) : wd (xs.set i n) i = n := by
  unfold wd
  simp [List.getD_eq_getElem?_getD, h]
set_option maxRecDepth 10000 in
set_option maxHeartbeats 1000000 in
theorem limOf_calls (n : Nat) (hn : n < B64) (w : World) : Calls Tryz.prog 130 #[.int .u64 (n : Nat)] w fun e w' => e = .returned (bitsV n 0 0 0) ∧ Below w.heap.size w w' := by
  unfold bitsV
  go_enter Tryz.func130, Tryz.ntmps130
  go_wp2
  refine bodyPost_ret (results_cell rfl _ _ w.heap.size 23 _ _ _ rfl (?_ : _ = some (Obj.cells #[.int .u64 (n : Nat), .int .u64 0, .int .u64 0, .int .u64 0] 23 (0, 0))) Tryz.underlying23 rfl (by kernel_rfl)) rfl ⟨rfl, below_alloc (below_alloc (Below.refl _ _) _) _⟩
  exact (heap_keep _ _ (by simp)).trans (heap_new w _)
theorem and_one (x : Nat) (hx : x < B64) : bits .and .u64 (x : Int) 1 = ((x % 2 : Nat) : Int) := by
  have h := mask_and (s := 1) (x := x) (by omega) hx
  exact h
theorem bit_word {xs : List Nat} (h : W64 xs) {q r : Nat} (hq : q < xs.length) (hr : r < 64) : val xs / 2 ^ (64 * q + r) % 2 = wd xs q / 2 ^ r % 2 := by
  have hl : valTo xs q < B64 ^ q := valTo_lt h q
  have hp : 0 < B64 ^ q := Nat.pow_pos (by decide)
  have e : val xs / 2 ^ (64 * q + r) = (wd xs q + B64 * val (xs.drop (q + 1))) / 2 ^ r := by
    rw [val_take_le (xs := xs) q, val_drop', Nat.pow_add, ← B64_pow, ← Nat.div_div_eq_div_mul, Nat.add_mul_div_left _ _ hp, Nat.div_eq_of_lt hl, Nat.zero_add]
  rw [e]
  have hb : B64 = 2 ^ r * 2 * 2 ^ (63 - r) := by
    rw [← Nat.pow_succ, ← Nat.pow_add, show r.succ + (63 - r) = 64 by omega]
  rw [hb, Nat.mul_assoc, Nat.mul_assoc, Nat.add_mul_div_left _ _ (Nat.pow_pos (by decide)), Nat.add_mul_mod_self_left]
set_option maxRecDepth 10000 in
set_option maxHeartbeats 1000000 in
theorem limBit_calls (w : World) (b0 b1 b2 b3 : Nat) (h : W64 [b0, b1, b2, b3]) (n : Nat) (hn : n < 256) :
    Calls Tryz.prog 62 #[bitsV b0 b1 b2 b3, .int .i64 (n : Nat)] w fun e w' => e = .returned (.int .u64 ((val [b0, b1, b2, b3] / 2 ^ n % 2 : Nat) : Int)) ∧ Below w.heap.size w w' := by
  unfold bitsV
  obtain ⟨q, r, hr, rfl⟩ : ∃ q r, r < 64 ∧ n = 64 * q + r := ⟨n / 64, n % 64, by omega, by omega⟩
  have hq : q < 4 := by omega
  have hcell : (w.alloc (.cells #[.int .u64 (b0 : Nat), .int .u64 (b1 : Nat), .int .u64 (b2 : Nat), .int .u64 (b3 : Nat)] 23)).cell? ⟨w.heap.size, q, none⟩ = some (.int .u64 ((wd [b0, b1, b2, b3] q : Nat) : Int)) := by
    rw [cell_of_heap (heap_new w _)]
    rcases (show q = 0 ∨ q = 1 ∨ q = 2 ∨ q = 3 by omega) with rfl | rfl | rfl | rfl <;> rfl
  have hxw := wd_lt h q
  have HV : Hid (val [b0, b1, b2, b3] / 2 ^ (64 * q + r) % 2 = wd [b0, b1, b2, b3] q / 2 ^ r % 2) := Lib.hid (bit_word h hq hr)
  generalize wd [b0, b1, b2, b3] q = x at hcell hxw HV
  generalize val [b0, b1, b2, b3] / 2 ^ (64 * q + r) % 2 = R at HV ⊢
  obtain ⟨n, hnn⟩ : ∃ n : Nat, 64 * q + r = n := ⟨_, rfl⟩
  rw [hnn] at hn ⊢
  have e0 : decide ((n : Int) < 0) = false := decide_eq_false (by omega)
  have e1 : decide ((256 : Int) ≤ (n : Int)) = false := decide_eq_false (by omega)
  have e2 : (n : Int) / 64 = (q : Nat) := by omega
  have e3 : (n : Int) % 64 = (r : Nat) := by omega
  have e4 : (n : Int).tmod 64 = (r : Nat) := by rw [Int.tmod_eq_emod_of_nonneg (by omega)]; exact e3
  have e5 : (n : Int).tdiv 64 = (q : Nat) := by rw [Int.tdiv_eq_ediv_of_nonneg (by omega)]; exact e2
  have e6 : bits .and .u64 ((x : Int) / 2 ^ r) 1 = ((R : Nat) : Int) := by rw [HV.out, shr_cast]; exact and_one _ (Nat.lt_of_le_of_lt (Nat.div_le_self _ _) hxw)
  have hq4 : (q : Int) < 4 := by omega
  have h0 : (0 : Int) ≤ (r : Int) := by omega
  clear hnn h
  go_enter Tryz.func62, Tryz.ntmps62
  go_wp2
  go_ret
  exact ⟨rfl, below_alloc (Below.refl _ _) _⟩
/-- Three new blocks of four words. -/
theorem three_new (w : World) (t1 t2 t3 : TypeId) (a b c : List Nat) (o1 o2 o3 : Obj) (h1 : o1 = .cells (wcells a) t1 (0, 0)) (h2 : o2 = .cells (wcells b) t2 (0, 0)) (h3 : o3 = .cells (wcells c) t3 (0, 0)) :
    ArrAt t1 (((w.alloc o1).alloc o2).alloc o3) w.heap.size a ∧ ArrAt t2 (((w.alloc o1).alloc o2).alloc o3) (w.heap.size + 1) b ∧ ArrAt t3 (((w.alloc o1).alloc o2).alloc o3) (w.heap.size + 1 + 1) c ∧ Below w.heap.size w (((w.alloc o1).alloc o2).alloc o3) := by
  subst h1 h2 h3
  have s1 : (w.alloc (.cells (wcells a) t1)).heap.size = w.heap.size + 1 := by simp
  have s2 : ((w.alloc (.cells (wcells a) t1)).alloc (.cells (wcells b) t2)).heap.size = w.heap.size + 1 + 1 := by simp
  refine ⟨?_, ?_, ?_, below_alloc (below_alloc (below_alloc (Below.refl _ _) _) _) _⟩
  · exact (heap_keep _ _ (by rw [s2]; omega)).trans ((heap_keep _ _ (by rw [s1]; omega)).trans (heap_new w _))
  · have := heap_new (w.alloc (.cells (wcells a) t1)) (.cells (wcells b) t2)
    rw [s1] at this
    exact (heap_keep _ _ (by rw [s2]; omega)).trans this
  · have := heap_new ((w.alloc (.cells (wcells a) t1)).alloc (.cells (wcells b) t2)) (.cells (wcells c) t3)
    rw [s2] at this
    exact this
set_option maxRecDepth 10000 in
set_option maxHeartbeats 1000000 in
theorem limSub_calls (w : World) (b0 b1 b2 b3 d0 d1 d2 d3 : Nat) (hx : W64 [b0, b1, b2, b3]) (hy : W64 [d0, d1, d2, d3]) (hle : val [d0, d1, d2, d3] ≤ val [b0, b1, b2, b3]) :
    Calls Tryz.prog 129 #[bitsV b0 b1 b2 b3, bitsV d0 d1 d2 d3] w fun e w' => ∃ c0 c1 c2 c3 : Nat, ∃ z : Int, W64 [c0, c1, c2, c3] ∧ val [c0, c1, c2, c3] = val [b0, b1, b2, b3] - val [d0, d1, d2, d3] ∧ e = .returned (.tuple #[bitsV c0 c1 c2 c3, .int .u64 z]) ∧ Below w.heap.size w w' := by
  unfold bitsV
  have h3 := three_new w 23 23 23 [b0, b1, b2, b3] [d0, d1, d2, d3] [0, 0, 0, 0] (.cells #[.int .u64 (b0 : Nat), .int .u64 (b1 : Nat), .int .u64 (b2 : Nat), .int .u64 (b3 : Nat)] 23) (.cells #[.int .u64 (d0 : Nat), .int .u64 (d1 : Nat), .int .u64 (d2 : Nat), .int .u64 (d3 : Nat)] 23) (.cells #[.int .u64 0, .int .u64 0, .int .u64 0, .int .u64 0] 23) rfl rfl rfl
  have H3 := Lib.hid h3
  have HX := Lib.hid hx
  have HY := Lib.hid hy
  have HLE := Lib.hid hle
  clear h3 hx hy hle
  go_enter Tryz.func129, Tryz.ntmps129
  go_wp2_with fail
  generalize (((w.alloc (.cells #[.int .u64 (b0 : Nat), .int .u64 (b1 : Nat), .int .u64 (b2 : Nat), .int .u64 (b3 : Nat)] 23)).alloc (.cells #[.int .u64 (d0 : Nat), .int .u64 (d1 : Nat), .int .u64 (d2 : Nat), .int .u64 (d3 : Nat)] 23)).alloc (.cells #[.int .u64 0, .int .u64 0, .int .u64 0, .int .u64 0] 23)) = W0 at H3 ⊢
  obtain ⟨xs, hxs⟩ : ∃ l, [b0, b1, b2, b3] = l := ⟨_, rfl⟩
  obtain ⟨ys, hys⟩ : ∃ l, [d0, d1, d2, d3] = l := ⟨_, rfl⟩
  have hxl : xs.length = 4 := by rw [← hxs]; rfl
  have hyl : ys.length = 4 := by rw [← hys]; rfl
  have HXS := Lib.hid hxs
  have HYS := Lib.hid hys
  rw [hxs] at H3 HX HLE
  rw [hys] at H3 HY HLE
  have HXL := Lib.hid hxl
  have HYL := Lib.hid hyl
  clear hxs hys hxl hyl
  go_loopw [6, 10] (fun cr i wr => ∃ (t c : Nat) (zs : List Nat), t ≤ 4 ∧ i = .int .i64 t ∧ cr = .int .u64 (c : Nat) ∧ c ≤ 1 ∧ Hid (ArrAt 23 wr w.heap.size zs) ∧ Hid (ArrAt 23 wr (w.heap.size + 1) ys) ∧ Hid (ArrAt 23 wr (w.heap.size + 1 + 1) [0, 0, 0, 0]) ∧ Hid (zs.length = 4) ∧ Hid (W64 zs) ∧ Hid (valTo zs t + valTo ys t = valTo xs t + B64 ^ t * c) ∧ Hid (∀ j, t ≤ j → wd zs j = wd xs j) ∧ Hid (Below w.heap.size w wr)) (fun _ i _ => 4 - (intOf i).toNat)
  case atStart => exact ⟨0, 0, xs, by omega, rfl, rfl, by omega, Lib.hid H3.out.1, Lib.hid H3.out.2.1, Lib.hid H3.out.2.2.1, HXL, HX, Lib.hid (by simp [valTo]), Lib.hid (fun j _ => rfl), Lib.hid H3.out.2.2.2⟩
  case round =>
    obtain ⟨t, c, zs, ht, rfl, rfl, hc, HZ, HYA, HR, HZL, HZW, HV, HSM, HB⟩ := hrel
    clear H3
    by_cases hlt : t < 4
    · have hq := subHi_le (wd xs t) (wd ys t) c
      have HS := Lib.hid (sub_step (zs := zs) HV.out (valTo_wd xs t) (valTo_wd ys t) (by rw [HZL.out]; omega) (wd_lt HX.out t) (wd_lt HY.out t) hc)
      have HW := Lib.hid (HZW.out.set t _ (subLo_lt (wd xs t) (wd ys t) c))
      have hadd := run_sub64 (wd xs t) (wd ys t) c hc
      have a0 := HZ.out.cell t (by rw [HZL.out]; exact hlt)
      rw [HSM.out t (Nat.le_refl _)] at a0
      have a1 := HYA.out.cell t (by rw [HYL.out]; exact hlt)
      have h4 : (t : Int) < 4 := by omega
      have h0 : (0 : Int) ≤ (t : Int) := by omega
      go_wp2_with fail
      have z0 := HZ.out.cell t (by rw [HZL.out]; exact hlt)
      have f0 := HZ.out.free t
      go_region_law (fail)
      all_goals
        clear a0 a1 z0 f0 hadd
        go_wp2
        go_roundw
        case rel => exact ⟨t + 1, subHi (wd xs t) (wd ys t) c, zs.set t (subLo (wd xs t) (wd ys t) c), by omega, by go_num, rfl, hq, Lib.hid (HZ.out.set t _), Lib.hid (HYA.out.other (by omega) t _), Lib.hid (HR.out.other (by omega) t _), Lib.hid (by rw [List.length_set]; exact HZL.out), HW, HS, Lib.hid (fun j hj => by rw [wd_set_ne _ (by omega)]; exact HSM.out j (by omega)), Lib.hid (HB.out.setCell (Nat.le_refl _) _).drew⟩
        case measure => simp [intOf]; omega
    · obtain rfl : t = 4 := by omega
      obtain ⟨c0, c1, c2, c3, rfl⟩ := four_of HZL.out
      have HN := Lib.hid (sub_end HV.out HZW.out HLE.out (Nat.le_of_eq HXL.out) (Nat.le_of_eq HYL.out) HZL.out)
      have a0 := HZ.out.cell 0 (by simp)
      have a1 := HZ.out.cell 1 (by simp)
      have a2 := HZ.out.cell 2 (by simp)
      have a3 := HZ.out.cell 3 (by simp)
      have r0 := HR.out.cell 0 (by simp)
      have r1 := HR.out.cell 1 (by simp)
      have r2 := HR.out.cell 2 (by simp)
      have r3 := HR.out.cell 3 (by simp)
      have f0 := HR.out.free 0
      have f1 := HR.out.free 1
      have f2 := HR.out.free 2
      have f3 := HR.out.free 3
      simp only [wd, List.getD_cons_zero, List.getD_cons_succ] at a0 a1 a2 a3 r0 r1 r2 r3
      go_wp2
      obtain ⟨W2, hW2, k1, k2, k3, k4⟩ := sto4 (f := (0, 0)) (t := 23) (a0 := .int .u64 (0 : Nat)) (a1 := .int .u64 (0 : Nat)) (a2 := .int .u64 (0 : Nat)) (a3 := .int .u64 (0 : Nat)) HR.out (.int .u64 (c0 : Nat)) (.int .u64 (c1 : Nat)) (.int .u64 (c2 : Nat)) (.int .u64 (c3 : Nat))
      rw [← hW2]
      exact bodyPost_ret (results_ct rfl _ _ (w.heap.size + 1 + 1) 23 _ _ _ rfl k1 Tryz.underlying23 rfl (by kernel_rfl)) rfl ⟨c0, c1, c2, c3, _, HZW.out, by rw [HXS.out, HYS.out]; exact HN.out, rfl, k4 _ _ (by omega) HB.out⟩
end Go.Proofs.YtpodpdopgdkdkaaGreatDoor
namespace Go.Proofs.YtpodpdopgdkdkaaGreatDoor
set_option linter.unusedVariables false
set_option linter.unusedSimpArgs false
open Go.RowKit
/-- A pattern in a block of its own, as a slice of words. -/
theorem bits_sl {W : World} {g b0 b1 b2 b3 : Nat} {t : TypeId} {f : Nat × Nat} (h : W.heap[g]? = some (.cells #[.int .u64 (b0 : Nat), .int .u64 (b1 : Nat), .int .u64 (b2 : Nat), .int .u64 (b3 : Nat)] t f)) (hb : W64 [b0, b1, b2, b3]) :
    SlW W (some ⟨g, 0, none⟩) 4 4 [b0, b1, b2, b3] :=
  ⟨rfl, by omega, by omega, hb, by simp, fun i hi => ⟨g, 0, rfl, by
    rw [cell_of_heap h]
    rcases (show i = 0 ∨ i = 1 ∨ i = 2 ∨ i = 3 by omega) with rfl | rfl | rfl | rfl <;> rfl⟩⟩
set_option maxRecDepth 10000 in
set_option maxHeartbeats 2000000 in
theorem rfield_calls (w : World) (b0 b1 b2 b3 : Nat) (hx : W64 [b0, b1, b2, b3]) (at0 n : Nat) (ha : at0 < 256) (hn : n < 256) :
    Calls Tryz.prog 85 #[bitsV b0 b1 b2 b3, .int .i64 (at0 : Nat), .int .i64 (n : Nat)] w (NatRes w (val [b0, b1, b2, b3] / 2 ^ at0 % 2 ^ n) 8) := by
  have HX := Lib.hid hx
  obtain ⟨V, hV⟩ : ∃ V, val [b0, b1, b2, b3] = V := ⟨_, rfl⟩
  have HV := Lib.hid hV
  have HN := Lib.hid (And.intro ha hn)
  rw [hV]
  unfold bitsV
  clear hx hV ha hn
  go_enter Tryz.func85, Tryz.ntmps85
  go_wp2_with fail
  have HB0 := Lib.hid (below_alloc (Below.refl w.heap.size w) (.cells #[.int .u64 (b0 : Nat), .int .u64 (b1 : Nat), .int .u64 (b2 : Nat), .int .u64 (b3 : Nat)] 24))
  have HP0 : Hid ((w.alloc (.cells #[.int .u64 (b0 : Nat), .int .u64 (b1 : Nat), .int .u64 (b2 : Nat), .int .u64 (b3 : Nat)] 24)).heap[w.heap.size]? = _) := Lib.hid (heap_new w (.cells #[.int .u64 (b0 : Nat), .int .u64 (b1 : Nat), .int .u64 (b2 : Nat), .int .u64 (b3 : Nat)] 24))
  generalize (w.alloc (.cells #[.int .u64 (b0 : Nat), .int .u64 (b1 : Nat), .int .u64 (b2 : Nat), .int .u64 (b3 : Nat)] 24)) = w0 at HB0 HP0 ⊢
  refine (right_any w0 _ 4 4 _ at0 (bits_sl HP0.out HX.out) (by omega) HN.out.1).mono ?_
  rintro e w1 ⟨xa, xc, xs, rfl, xo, xv, xz, xl, hb1⟩
  have HXO := Lib.hid xo
  have HXV := Lib.hid xv
  have HB1 := Lib.hid (below_then HB0.out hb1)
  clear xo xv hb1 xz
  go_wp2_with fail
  refine (right_any w1 xa _ xc xs n HXO.out.sl (by omega) HN.out.2).mono ?_
  rintro e w2 ⟨ya, yc, ys, rfl, yo, yv, yz, yl, hb2⟩
  have HYO := Lib.hid yo
  have HYV := Lib.hid yv
  have HXO2 := Lib.hid (HXO.out.keep hb2)
  have HB2 := Lib.hid (below_then HB1.out hb2)
  clear yo yv hb2 yz
  go_wp2_with fail
  refine (left_calls w2 ya _ yc ys n HYO.out.sl (by omega) (by have := HN.out; omega)).mono ?_
  rintro e w3 ⟨za, zc, zs, rfl, zo, zv, zz, zl, hb3⟩
  have HZO := Lib.hid zo
  have HZV := Lib.hid zv
  have HXO3 := Lib.hid (HXO2.out.keep hb3)
  have HB3 := Lib.hid (below_then HB2.out hb3)
  have hzl : zs.length ≤ 8 := by have := HN.out; omega
  clear zo zv hb3 zz
  go_wp2_with fail
  have hle : val zs ≤ val xs := by rw [HZV.out, HYV.out]; exact Nat.div_mul_le_self _ _
  refine (refLess_calls w3 xa za _ xc _ zc xs zs HXO3.out.sl HZO.out.sl (by omega) (by omega) hle).mono ?_
  intro e w4 hr
  have hr2 := natRes_trans HB3.out (hr.le (bd' := 8) (by omega))
  have hval : val xs - val zs = V / 2 ^ at0 % 2 ^ n := by
    rw [HZV.out, HYV.out, HXV.out, HV.out, Nat.mod_eq_sub, Nat.mul_comm (2 ^ n)]
  rw [hval] at hr2
  obtain ⟨a', c', rs, rfl, r1, r2, r3, r4, r5⟩ := hr2
  have R := Lib.hid (And.intro r1 (And.intro r2 (And.intro r3 (And.intro r4 r5))))
  clear r1 r2 r3 r4 r5 hr
  go_wp2
  go_ret
  exact ⟨a', c', rs, rfl, R.out.1, R.out.2.1, R.out.2.2.1, R.out.2.2.2.1, R.out.2.2.2.2⟩
end Go.Proofs.YtpodpdopgdkdkaaGreatDoor
