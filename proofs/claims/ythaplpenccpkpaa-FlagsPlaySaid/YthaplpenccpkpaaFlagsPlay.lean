/- FlagsPlay: whatever is raised, cleared, tested and set, in whatever order, is told as the document says. No conditions. -/
import Derived.Test.YthaplpenccpkpaaFlagsStay
namespace Go.Proofs.Ythaplpenccpkpaa
open Go.RowKit
/-- A slice of pairs of ints, as it is read. -/
def PairsAt (w : World) (a : Option Addr) (len : Nat) : Prop :=
  ∀ i, i < len → ∃ b off n0 n1, a = some ⟨b, off, none⟩ ∧ w.cell? ⟨b, off + i * 2, none⟩ = some (.int .i64 n0) ∧ w.cell? ⟨b, off + i * 2 + 1, none⟩ = some (.int .i64 n1)
theorem clear_test (r : B4) (n : Int) : bits .and .i64 (num (r &&& fl n)) 15 = num (r &&& fl n) := by
  rw [and15, fl_num]
theorem num_bne_self (r : B4) : (num r != num r) = false := by simp
theorem b_bne_self (b : Bool) : (b != b) = false := by simp
theorem i_bne_self (b : Int) : (b != b) = false := by simp
set_option maxRecDepth 10000 in
set_option maxHeartbeats 2000000 in
theorem play_calls_false (a : Option Addr) (len cap : Nat) (w : World) (hl : len ≤ 9223372036854775807) (hz : PairsAt w a len) :
    Calls Try.prog 6 #[.slice a len cap, .bool false] w fun e w' => e = .returned (.bool true) ∧ Below w.heap.size w w' := by
  have HZ := Lib.hid hz
  clear hz
  go_enter Try.func6, Try.ntmps6
  go_wp2_with fail
  refine (awake03_calls _).mono ?_
  rintro e w0 ⟨rfl, hb0⟩
  have HB0 := Lib.hid hb0
  clear hb0
  go_wp2_with fail
  refine (new_calls _).mono ?_
  rintro e w1 ⟨rfl, hw⟩
  obtain ⟨G, hG⟩ : ∃ G, w0.heap.size = G := ⟨_, rfl⟩
  rw [hG]
  have HC : Hid (CtxAt w1 G 0 0) := by rw [hw, ← hG]; exact ctx_new w0
  have HB : Hid (Below w.heap.size w w1) := by rw [hw]; exact below_alloc HB0.out _
  have HG : Hid (w.heap.size ≤ G) := by rw [← hG]; exact HB0.out.size
  clear hw HB0 hG
  go_wp2_with fail
  go_loopw [20, 6, 7] (fun i r dd wr => ∃ (k : Nat) (s : B4) (d : Int), k ≤ len ∧ i = .int .i64 k ∧ r = .int .i64 (num s) ∧ dd = .int .i64 d ∧ 0 ≤ d ∧ d ≤ 4 ∧ CtxAt wr G s d ∧ Below w.heap.size w wr) (fun i _ _ _ => len - (intOf i).toNat)
  case atStart => exact ⟨0, 0, 0, by omega, rfl, rfl, rfl, by omega, by omega, HC.out, HB.out⟩
  case round =>
    obtain ⟨k, s, d, hk, rfl, rfl, rfl, hd0, hd4, hc, hB⟩ := hrel
    have HBk := Lib.hid hB
    have HCk := Lib.hid hc
    clear hc hB HC HB
    by_cases hlt : k < len
    · obtain ⟨b, off, K, N, rfl, hx, hy⟩ := HZ.out k hlt
      have hcx : wr.cell? ⟨b, off + k * 2, none⟩ = some (.int .i64 K) := by
        rw [HBk.out.cell (World.block_lt_of_cell? w _ hx)]; exact hx
      have hcy : wr.cell? ⟨b, off + k * 2 + 1, none⟩ = some (.int .i64 N) := by
        rw [HBk.out.cell (World.block_lt_of_cell? w _ hy)]; exact hy
      clear hx hy
      rcases (show K = 1 ∨ K = 2 ∨ K = 3 ∨ K = 4 ∨ (K ≠ 1 ∧ K ≠ 2 ∧ K ≠ 3 ∧ K ≠ 4) by omega) with hK | hK | hK | hK | hK
      · subst hK
        have e1 := and15 N
        have e2 := or_num s (fl N)
        go_wp2_with fail
        refine (raise_calls wr G s d N HCk.out).mono ?_
        rintro e wn ⟨rfl, hw⟩
        have HCn : Hid (CtxAt wn G (s ||| fl N) d) := by rw [hw]; exact HCk.out.set0 _
        have HBn : Hid (Below w.heap.size w wn) := by rw [hw]; exact HBk.out.setCell HG.out _
        clear hw HCk HBk
        go_wp2_with fail
        refine (flags_calls wn G (s ||| fl N) d HCn.out).mono ?_
        rintro e wm ⟨rfl, rfl⟩
        have g1 := num_bne_self (s ||| fl N)
        go_wp2_with fail
        refine (direction_calls _ G (s ||| fl N) d HCn.out (by omega) (by omega)).mono ?_
        rintro e wm ⟨rfl, rfl⟩
        have g2 := i_bne_self d
        go_wp2
        go_roundw
        case rel => exact ⟨k + 1, (s ||| fl N), d, by omega, by go_num, rfl, rfl, by omega, by omega, HCn.out, HBn.out⟩
        case measure => simp [intOf]; omega
      · subst hK
        have e1 := and_num s N
        have e2 := clear_test s N
        have e3 := num_bne_self (s &&& fl N)
        have e4 := andNot_num s N
        go_wp2_with fail
        refine (clear_calls wr G s d N HCk.out).mono ?_
        rintro e wn ⟨rfl, hw⟩
        have HCn : Hid (CtxAt wn G (s &&& ~~~ fl N) d) := by rw [hw]; exact HCk.out.set0 _
        have HBn : Hid (Below w.heap.size w wn) := by rw [hw]; exact HBk.out.setCell HG.out _
        clear hw HCk HBk
        go_wp2_with fail
        refine (flags_calls wn G (s &&& ~~~ fl N) d HCn.out).mono ?_
        rintro e wm ⟨rfl, rfl⟩
        have g1 := num_bne_self (s &&& ~~~ fl N)
        go_wp2_with fail
        refine (direction_calls _ G (s &&& ~~~ fl N) d HCn.out (by omega) (by omega)).mono ?_
        rintro e wm ⟨rfl, rfl⟩
        have g2 := i_bne_self d
        go_wp2
        go_roundw
        case rel => exact ⟨k + 1, (s &&& ~~~ fl N), d, by omega, by go_num, rfl, rfl, by omega, by omega, HCn.out, HBn.out⟩
        case measure => simp [intOf]; omega
      · subst hK
        have e1 := and_num s N
        have e2 := num_ne (s &&& fl N)
        have e3 := b_bne_self (s &&& fl N != 0)
        go_wp2_with fail
        refine (test_calls wr G s d N HCk.out).mono ?_
        rintro e wn ⟨rfl, rfl⟩
        have HCn := HCk
        have HBn := HBk
        clear HCk HBk
        go_wp2_with fail
        refine (flags_calls wn G s d HCn.out).mono ?_
        rintro e wm ⟨rfl, rfl⟩
        have g1 := num_bne_self s
        go_wp2_with fail
        refine (direction_calls _ G s d HCn.out (by omega) (by omega)).mono ?_
        rintro e wm ⟨rfl, rfl⟩
        have g2 := i_bne_self d
        go_wp2
        go_roundw
        case rel => exact ⟨k + 1, s, d, by omega, by go_num, rfl, rfl, by omega, by omega, HCn.out, HBn.out⟩
        case measure => simp [intOf]; omega
      · subst hK
        by_cases hn : 0 ≤ N ∧ N ≤ 4
        · have n1 := hn.1
          have n2 := hn.2
          clear hn
          have e3 := i_bne_self d
          go_wp2_with fail
          refine (set_calls wr G s d N HCk.out hd0 hd4 n1 n2).mono ?_
          rintro e wn ⟨rfl, hw⟩
          have HCn : Hid (CtxAt wn G s N) := by rw [hw]; exact HCk.out.set1 _
          have HBn : Hid (Below w.heap.size w wn) := by rw [hw]; exact HBk.out.setCell HG.out _
          clear hw HCk HBk
          go_wp2_with fail
          refine (flags_calls wn G s N HCn.out).mono ?_
          rintro e wm ⟨rfl, rfl⟩
          have g1 := num_bne_self s
          go_wp2_with fail
          refine (direction_calls _ G s N HCn.out (by omega) (by omega)).mono ?_
          rintro e wm ⟨rfl, rfl⟩
          have g2 := i_bne_self N
          go_wp2
          go_roundw
          case rel => exact ⟨k + 1, s, N, by omega, by go_num, rfl, rfl, by omega, by omega, HCn.out, HBn.out⟩
          case measure => simp [intOf]; omega
        · have hn' : N < 0 ∨ 4 < N := by omega
          clear hn
          rcases hn' with hn | hn
          · go_wp2_with fail
            refine (set_none wr G N (by omega)).mono ?_
            rintro e wn ⟨rfl, rfl⟩
            have HCn := HCk
            have HBn := HBk
            clear HCk HBk
            go_wp2_with fail
            refine (flags_calls wn G s d HCn.out).mono ?_
            rintro e wm ⟨rfl, rfl⟩
            have g1 := num_bne_self s
            go_wp2_with fail
            refine (direction_calls _ G s d HCn.out (by omega) (by omega)).mono ?_
            rintro e wm ⟨rfl, rfl⟩
            have g2 := i_bne_self d
            go_wp2
            go_roundw
            case rel => exact ⟨k + 1, s, d, by omega, by go_num, rfl, rfl, by omega, by omega, HCn.out, HBn.out⟩
            case measure => simp [intOf]; omega
          · have n1 : 0 ≤ N := by omega
            have n2 : decide (N ≤ 4) = false := by simp; omega
            go_wp2_with fail
            refine (set_none wr G N (by omega)).mono ?_
            rintro e wn ⟨rfl, rfl⟩
            have HCn := HCk
            have HBn := HBk
            clear HCk HBk
            go_wp2_with fail
            refine (flags_calls wn G s d HCn.out).mono ?_
            rintro e wm ⟨rfl, rfl⟩
            have g1 := num_bne_self s
            go_wp2_with fail
            refine (direction_calls _ G s d HCn.out (by omega) (by omega)).mono ?_
            rintro e wm ⟨rfl, rfl⟩
            have g2 := i_bne_self d
            go_wp2
            go_roundw
            case rel => exact ⟨k + 1, s, d, by omega, by go_num, rfl, rfl, by omega, by omega, HCn.out, HBn.out⟩
            case measure => simp [intOf]; omega
      · have f1 : (K == 1) = false := by simp; omega
        have f2 : (K == 2) = false := by simp; omega
        have f3 : (K == 3) = false := by simp; omega
        have f4 : (K == 4) = false := by simp; omega
        clear hK
        have HCn := HCk
        have HBn := HBk
        clear HCk HBk
        go_wp2_with fail
        refine (flags_calls wr G s d HCn.out).mono ?_
        rintro e wm ⟨rfl, rfl⟩
        have g1 := num_bne_self s
        go_wp2_with fail
        refine (direction_calls _ G s d HCn.out (by omega) (by omega)).mono ?_
        rintro e wm ⟨rfl, rfl⟩
        have g2 := i_bne_self d
        go_wp2
        go_roundw
        case rel => exact ⟨k + 1, s, d, by omega, by go_num, rfl, rfl, by omega, by omega, HCn.out, HBn.out⟩
        case measure => simp [intOf]; omega
    · go_wp2
      go_ret
      exact ⟨rfl, HBk.out⟩
set_option maxRecDepth 10000 in
set_option maxHeartbeats 2000000 in
theorem play_calls_true (a : Option Addr) (len cap : Nat) (w : World) (hl : len ≤ 9223372036854775807) (hz : PairsAt w a len) :
    Calls Try.prog 6 #[.slice a len cap, .bool true] w fun e w' => e = .returned (.bool true) ∧ Below w.heap.size w w' := by
  have HZ := Lib.hid hz
  clear hz
  go_enter Try.func6, Try.ntmps6
  go_wp2_with fail
  refine (awake03_calls _).mono ?_
  rintro e w0 ⟨rfl, hb0⟩
  have HB0 := Lib.hid hb0
  clear hb0
  go_wp2_with fail
  refine (new_calls _).mono ?_
  rintro e w1 ⟨rfl, hw⟩
  have HB1 : Hid (Below w.heap.size w w1) := by rw [hw]; exact below_alloc HB0.out _
  clear hw HB0
  obtain ⟨G, hG⟩ : ∃ G, w1.heap.size = G := ⟨_, rfl⟩
  have HC0 : Hid (CtxAt (w1.alloc (.cells #[.int .u32 0, .int .i32 0] 53)) w1.heap.size 0 0) := ctx_new w1
  have HB2 : Hid (Below w.heap.size w (w1.alloc (.cells #[.int .u32 0, .int .i32 0] 53))) := below_alloc HB1.out _
  have HG : Hid (w.heap.size ≤ w1.heap.size) := HB1.out.size
  clear HB1 hG
  go_wp2_with fail
  generalize w1.heap.size = G at HC0 HG ⊢
  generalize w1.alloc (.cells #[.int .u32 0, .int .i32 0] 53) = w2 at HC0 HB2 ⊢
  have HC := HC0
  have HB := HB2
  clear HC0 HB2
  go_loopw [20, 6, 7] (fun i r dd wr => ∃ (k : Nat) (s : B4) (d : Int), k ≤ len ∧ i = .int .i64 k ∧ r = .int .i64 (num s) ∧ dd = .int .i64 d ∧ 0 ≤ d ∧ d ≤ 4 ∧ CtxAt wr G s d ∧ Below w.heap.size w wr) (fun i _ _ _ => len - (intOf i).toNat)
  case atStart => exact ⟨0, 0, 0, by omega, rfl, rfl, rfl, by omega, by omega, HC.out, HB.out⟩
  case round =>
    obtain ⟨k, s, d, hk, rfl, rfl, rfl, hd0, hd4, hc, hB⟩ := hrel
    have HBk := Lib.hid hB
    have HCk := Lib.hid hc
    clear hc hB HC HB
    by_cases hlt : k < len
    · obtain ⟨b, off, K, N, rfl, hx, hy⟩ := HZ.out k hlt
      have hcx : wr.cell? ⟨b, off + k * 2, none⟩ = some (.int .i64 K) := by
        rw [HBk.out.cell (World.block_lt_of_cell? w _ hx)]; exact hx
      have hcy : wr.cell? ⟨b, off + k * 2 + 1, none⟩ = some (.int .i64 N) := by
        rw [HBk.out.cell (World.block_lt_of_cell? w _ hy)]; exact hy
      clear hx hy
      rcases (show K = 1 ∨ K = 2 ∨ K = 3 ∨ K = 4 ∨ (K ≠ 1 ∧ K ≠ 2 ∧ K ≠ 3 ∧ K ≠ 4) by omega) with hK | hK | hK | hK | hK
      · subst hK
        have e1 := and15 N
        have e2 := or_num s (fl N)
        go_wp2_with fail
        refine (raise_calls wr G s d N HCk.out).mono ?_
        rintro e wn ⟨rfl, hw⟩
        have HCn : Hid (CtxAt wn G (s ||| fl N) d) := by rw [hw]; exact HCk.out.set0 _
        have HBn : Hid (Below w.heap.size w wn) := by rw [hw]; exact HBk.out.setCell HG.out _
        clear hw HCk HBk
        go_wp2_with fail
        refine (flags_calls wn G (s ||| fl N) d HCn.out).mono ?_
        rintro e wm ⟨rfl, rfl⟩
        have g1 := num_bne_self (s ||| fl N)
        go_wp2_with fail
        refine (direction_calls _ G (s ||| fl N) d HCn.out (by omega) (by omega)).mono ?_
        rintro e wm ⟨rfl, rfl⟩
        have g2 := i_bne_self d
        go_wp2
        go_roundw
        case rel => exact ⟨k + 1, (s ||| fl N), d, by omega, by go_num, rfl, rfl, by omega, by omega, HCn.out, HBn.out⟩
        case measure => simp [intOf]; omega
      · subst hK
        have e1 := and_num s N
        have e2 := clear_test s N
        have e3 := num_bne_self (s &&& fl N)
        have e4 := andNot_num s N
        go_wp2_with fail
        refine (clear_calls wr G s d N HCk.out).mono ?_
        rintro e wn ⟨rfl, hw⟩
        have HCn : Hid (CtxAt wn G (s &&& ~~~ fl N) d) := by rw [hw]; exact HCk.out.set0 _
        have HBn : Hid (Below w.heap.size w wn) := by rw [hw]; exact HBk.out.setCell HG.out _
        clear hw HCk HBk
        go_wp2_with fail
        refine (flags_calls wn G (s &&& ~~~ fl N) d HCn.out).mono ?_
        rintro e wm ⟨rfl, rfl⟩
        have g1 := num_bne_self (s &&& ~~~ fl N)
        go_wp2_with fail
        refine (direction_calls _ G (s &&& ~~~ fl N) d HCn.out (by omega) (by omega)).mono ?_
        rintro e wm ⟨rfl, rfl⟩
        have g2 := i_bne_self d
        go_wp2
        go_roundw
        case rel => exact ⟨k + 1, (s &&& ~~~ fl N), d, by omega, by go_num, rfl, rfl, by omega, by omega, HCn.out, HBn.out⟩
        case measure => simp [intOf]; omega
      · subst hK
        have e1 := and_num s N
        have e2 := num_ne (s &&& fl N)
        have e3 := b_bne_self (s &&& fl N != 0)
        go_wp2_with fail
        refine (test_calls wr G s d N HCk.out).mono ?_
        rintro e wn ⟨rfl, rfl⟩
        have HCn := HCk
        have HBn := HBk
        clear HCk HBk
        go_wp2_with fail
        refine (flags_calls wn G s d HCn.out).mono ?_
        rintro e wm ⟨rfl, rfl⟩
        have g1 := num_bne_self s
        go_wp2_with fail
        refine (direction_calls _ G s d HCn.out (by omega) (by omega)).mono ?_
        rintro e wm ⟨rfl, rfl⟩
        have g2 := i_bne_self d
        go_wp2
        go_roundw
        case rel => exact ⟨k + 1, s, d, by omega, by go_num, rfl, rfl, by omega, by omega, HCn.out, HBn.out⟩
        case measure => simp [intOf]; omega
      · subst hK
        by_cases hn : 0 ≤ N ∧ N ≤ 4
        · have n1 := hn.1
          have n2 := hn.2
          clear hn
          have e3 := i_bne_self d
          go_wp2_with fail
          refine (set_calls wr G s d N HCk.out hd0 hd4 n1 n2).mono ?_
          rintro e wn ⟨rfl, hw⟩
          have HCn : Hid (CtxAt wn G s N) := by rw [hw]; exact HCk.out.set1 _
          have HBn : Hid (Below w.heap.size w wn) := by rw [hw]; exact HBk.out.setCell HG.out _
          clear hw HCk HBk
          go_wp2_with fail
          refine (flags_calls wn G s N HCn.out).mono ?_
          rintro e wm ⟨rfl, rfl⟩
          have g1 := num_bne_self s
          go_wp2_with fail
          refine (direction_calls _ G s N HCn.out (by omega) (by omega)).mono ?_
          rintro e wm ⟨rfl, rfl⟩
          have g2 := i_bne_self N
          go_wp2
          go_roundw
          case rel => exact ⟨k + 1, s, N, by omega, by go_num, rfl, rfl, by omega, by omega, HCn.out, HBn.out⟩
          case measure => simp [intOf]; omega
        · have hn' : N < 0 ∨ 4 < N := by omega
          clear hn
          rcases hn' with hn | hn
          · go_wp2_with fail
            refine (set_none wr G N (by omega)).mono ?_
            rintro e wn ⟨rfl, rfl⟩
            have HCn := HCk
            have HBn := HBk
            clear HCk HBk
            go_wp2_with fail
            refine (flags_calls wn G s d HCn.out).mono ?_
            rintro e wm ⟨rfl, rfl⟩
            have g1 := num_bne_self s
            go_wp2_with fail
            refine (direction_calls _ G s d HCn.out (by omega) (by omega)).mono ?_
            rintro e wm ⟨rfl, rfl⟩
            have g2 := i_bne_self d
            go_wp2
            go_roundw
            case rel => exact ⟨k + 1, s, d, by omega, by go_num, rfl, rfl, by omega, by omega, HCn.out, HBn.out⟩
            case measure => simp [intOf]; omega
          · have n1 : 0 ≤ N := by omega
            have n2 : decide (N ≤ 4) = false := by simp; omega
            go_wp2_with fail
            refine (set_none wr G N (by omega)).mono ?_
            rintro e wn ⟨rfl, rfl⟩
            have HCn := HCk
            have HBn := HBk
            clear HCk HBk
            go_wp2_with fail
            refine (flags_calls wn G s d HCn.out).mono ?_
            rintro e wm ⟨rfl, rfl⟩
            have g1 := num_bne_self s
            go_wp2_with fail
            refine (direction_calls _ G s d HCn.out (by omega) (by omega)).mono ?_
            rintro e wm ⟨rfl, rfl⟩
            have g2 := i_bne_self d
            go_wp2
            go_roundw
            case rel => exact ⟨k + 1, s, d, by omega, by go_num, rfl, rfl, by omega, by omega, HCn.out, HBn.out⟩
            case measure => simp [intOf]; omega
      · have f1 : (K == 1) = false := by simp; omega
        have f2 : (K == 2) = false := by simp; omega
        have f3 : (K == 3) = false := by simp; omega
        have f4 : (K == 4) = false := by simp; omega
        clear hK
        have HCn := HCk
        have HBn := HBk
        clear HCk HBk
        go_wp2_with fail
        refine (flags_calls wr G s d HCn.out).mono ?_
        rintro e wm ⟨rfl, rfl⟩
        have g1 := num_bne_self s
        go_wp2_with fail
        refine (direction_calls _ G s d HCn.out (by omega) (by omega)).mono ?_
        rintro e wm ⟨rfl, rfl⟩
        have g2 := i_bne_self d
        go_wp2
        go_roundw
        case rel => exact ⟨k + 1, s, d, by omega, by go_num, rfl, rfl, by omega, by omega, HCn.out, HBn.out⟩
        case measure => simp [intOf]; omega
    · go_wp2
      go_ret
      exact ⟨rfl, HBk.out⟩
theorem play_row (a : Option Addr) (len cap : Nat) (z : Bool) (w : World) (h : len ≤ 9223372036854775807 ∧ PairsAt w a len) :
    Calls Try.prog 6 #[.slice a len cap, .bool z] w fun e w' => e = .returned (.bool true) ∧ Below w.heap.size w w' := by
  cases z
  · exact play_calls_false a len cap w h.1 h.2
  · exact play_calls_true a len cap w h.1 h.2
end Go.Proofs.Ythaplpenccpkpaa
