/- The reference's Number and Nat. No conditions. · The contracts of desc.binary, desc.decimal, desc.All, desc.Of and of the reference's Of: what each format is, for every number. No conditions. · The contracts of desc.All and desc.Of. No conditions. -/
import Derived.Test.YtpodpdopgdkdkaaGreatDoorMw09
import Derived.Test.YtpodpdopgdkdkaaGreatDoorMw01
import Derived.Great.BuildSlice
set_option linter.unusedVariables false
set_option linter.unusedSimpArgs false
namespace Go.Proofs.YtpodpdopgdkdkaaGreatDoor
set_option linter.unusedVariables false
set_option linter.unusedSimpArgs false
open Go.RowKit
set_option maxRecDepth 10000 in
set_option maxHeartbeats 1000000 in
theorem rnum_calls (w : World) (a : Option Addr) (la ca : Nat) (xs : List Nat) (h : SlW w a la ca xs) (hv : val xs < 9223372036854775808) (hs : la ≤ 4611686018427387904) :
    Calls Tryz.prog 86 #[.slice a la ca] w fun e w' => e = .returned (.int .i64 (val xs : Nat)) ∧ w = w' := by
  have m1 := h.hle
  have m2 := h.hmax
  rcases Nat.eq_zero_or_pos la with h0 | h0
  · have hx : xs = [] := List.length_eq_zero_iff.1 (by rw [h.hlen]; exact h0)
    subst hx; subst h0
    clear h hv
    go_enter Tryz.func86, Tryz.ntmps86
    go_wp2
    go_ret
    exact ⟨rfl, rfl⟩
  · obtain ⟨b, off, rfl, hc⟩ := h.wcell 0 h0
    obtain ⟨x, ys, rfl⟩ : ∃ x ys, xs = x :: ys := by
      cases xs with
      | nil => have := h.hlen; simp at this; omega
      | cons x ys => exact ⟨x, ys, rfl⟩
    have hx : val (x :: ys) = x := by
      have e : val (x :: ys) = x + B64 * val ys := rfl
      rw [B64_val] at e
      omega
    rw [hx] at hv ⊢
    have hc' : w.cell? ⟨b, off, none⟩ = some (.int .u64 (x : Nat)) := hc
    have hw1 : IntKind.i64.wrap (x : Int) = (x : Int) := IntWalk.i64_in _ (by omega)
    have hne : ((la : Int) == 0) = false := by simp; omega
    have hne2 : ¬ (la : Int) = 0 := by omega
    have hpos : (0 : Int) < (la : Nat) := by omega
    clear hc h hx hv
    go_enter Tryz.func86, Tryz.ntmps86
    go_wp2
    go_ret
    exact ⟨rfl, rfl⟩
set_option maxRecDepth 10000 in
set_option maxHeartbeats 1000000 in
theorem rnat_calls (w : World) (b0 b1 b2 b3 : Nat) (hx : W64 [b0, b1, b2, b3]) :
    Calls Tryz.prog 44 #[bitsV b0 b1 b2 b3] w (NatRes w (val [b0, b1, b2, b3]) 4) := by
  have HX := Lib.hid hx
  unfold bitsV
  clear hx
  go_enter Tryz.func44, Tryz.ntmps44
  go_wp2_with fail
  have HB0 := Lib.hid (below_alloc (Below.refl w.heap.size w) (.cells #[.int .u64 (b0 : Nat), .int .u64 (b1 : Nat), .int .u64 (b2 : Nat), .int .u64 (b3 : Nat)] 24))
  have HP0 : Hid ((w.alloc (.cells #[.int .u64 (b0 : Nat), .int .u64 (b1 : Nat), .int .u64 (b2 : Nat), .int .u64 (b3 : Nat)] 24)).heap[w.heap.size]? = _) := Lib.hid (heap_new w (.cells #[.int .u64 (b0 : Nat), .int .u64 (b1 : Nat), .int .u64 (b2 : Nat), .int .u64 (b3 : Nat)] 24))
  generalize (w.alloc (.cells #[.int .u64 (b0 : Nat), .int .u64 (b1 : Nat), .int .u64 (b2 : Nat), .int .u64 (b3 : Nat)] 24)) = w0 at HB0 HP0 ⊢
  refine (refTrim_calls w0 _ 4 4 _ (bits_sl HP0.out HX.out) (.inr ⟨_, _, rfl⟩) (by omega)).mono ?_
  intro e w4 hr
  have hr2 := natRes_trans HB0.out hr
  obtain ⟨a', c', rs, rfl, r1, r2, r3, r4, r5⟩ := hr2
  have R := Lib.hid (And.intro r1 (And.intro r2 (And.intro r3 (And.intro r4 r5))))
  clear r1 r2 r3 r4 r5 hr
  go_wp2
  go_ret
  exact ⟨a', c', rs, rfl, R.out.1, R.out.2.1, R.out.2.2.1, R.out.2.2.2.1, R.out.2.2.2.2⟩
end Go.Proofs.YtpodpdopgdkdkaaGreatDoor
namespace Go.Proofs.YtpodpdopgdkdkaaGreatDoor
open Go.RowKit

/-- A format's name. -/
def nmF : Int → ByteArray
  | 1 => ⟨#[72, 97, 108, 102]⟩ | 2 => ⟨#[66, 114, 97, 105, 110]⟩ | 3 => ⟨#[83, 105, 110, 103, 108, 101]⟩ | 4 => ⟨#[68, 111, 117, 98, 108, 101]⟩
  | 5 => ⟨#[81, 117, 97, 100]⟩ | 6 => ⟨#[79, 99, 116, 111]⟩
  | 7 => ⟨#[80, 108, 97, 105, 110, 51, 50]⟩ | 8 => ⟨#[80, 108, 97, 105, 110, 54, 52]⟩ | 9 => ⟨#[80, 108, 97, 105, 110, 49, 50, 56]⟩
  | 10 => ⟨#[68, 101, 110, 115, 101, 51, 50]⟩ | 11 => ⟨#[68, 101, 110, 115, 101, 54, 52]⟩ | 12 => ⟨#[68, 101, 110, 115, 101, 49, 50, 56]⟩
  | _ => ⟨#[]⟩
/-- precision, exponent's bits or greatest exponent, width, greatest exponent E. -/
def prF : Int → Int
  | 1 => 11 | 2 => 8 | 3 => 24 | 4 => 53 | 5 => 113 | 6 => 241 | 7 => 7 | 8 => 16 | 9 => 34 | 10 => 7 | 11 => 16 | 12 => 34 | _ => 0
def exF : Int → Int
  | 1 => 5 | 2 => 8 | 3 => 8 | 4 => 11 | 5 => 15 | 6 => 15 | 7 => 96 | 8 => 384 | 9 => 6144 | 10 => 96 | 11 => 384 | 12 => 6144 | _ => 0
def wdF : Int → Int
  | 1 => 16 | 2 => 16 | 3 => 32 | 4 => 64 | 5 => 128 | 6 => 256 | 7 => 32 | 8 => 64 | 9 => 128 | 10 => 32 | 11 => 64 | 12 => 128 | _ => 0
def emF : Int → Int
  | 1 => 15 | 2 => 127 | 3 => 127 | 4 => 1023 | 5 => 16383 | 6 => 16383 | 7 => 96 | 8 => 384 | 9 => 6144 | 10 => 96 | 11 => 384 | 12 => 6144 | _ => 0
def bsF (n : Int) : Int := if n ≤ 6 then 2 else 10
def plF (n : Int) : Int := if n ≤ 6 then prF n - 2 else prF n - 1
def loF (n : Int) : Int := 2 - emF n - prF n
def hiF (n : Int) : Int := emF n + 1 - prF n
/-- What desc.Info holds of a format. -/
def infF (n : Int) : Array Value :=
  #[.int .i64 n, .string (nmF n), .int .i64 (bsF n), .int .i64 (wdF n), .int .i64 (prF n), .int .i64 (exF n), .int .i64 (loF n), .int .i64 (hiF n), .int .i64 (plF n), .bool (decide (10 ≤ n))]
def inf0 : Array Value :=
  #[.int .i64 0, .string ⟨#[]⟩, .int .i64 0, .int .i64 0, .int .i64 0, .int .i64 0, .int .i64 0, .int .i64 0, .int .i64 0, .bool false]

theorem inf_lit1 : infF 1 = #[.int .i64 1, .string ⟨#[72, 97, 108, 102]⟩, .int .i64 2, .int .i64 16, .int .i64 11, .int .i64 5, .int .i64 (-24), .int .i64 5, .int .i64 9, .bool false] := rfl
theorem inf_lit2 : infF 2 = #[.int .i64 2, .string ⟨#[66, 114, 97, 105, 110]⟩, .int .i64 2, .int .i64 16, .int .i64 8, .int .i64 8, .int .i64 (-133), .int .i64 120, .int .i64 6, .bool false] := rfl
theorem inf_lit3 : infF 3 = #[.int .i64 3, .string ⟨#[83, 105, 110, 103, 108, 101]⟩, .int .i64 2, .int .i64 32, .int .i64 24, .int .i64 8, .int .i64 (-149), .int .i64 104, .int .i64 22, .bool false] := rfl
theorem inf_lit4 : infF 4 = #[.int .i64 4, .string ⟨#[68, 111, 117, 98, 108, 101]⟩, .int .i64 2, .int .i64 64, .int .i64 53, .int .i64 11, .int .i64 (-1074), .int .i64 971, .int .i64 51, .bool false] := rfl
theorem inf_lit5 : infF 5 = #[.int .i64 5, .string ⟨#[81, 117, 97, 100]⟩, .int .i64 2, .int .i64 128, .int .i64 113, .int .i64 15, .int .i64 (-16494), .int .i64 16271, .int .i64 111, .bool false] := rfl
theorem inf_lit6 : infF 6 = #[.int .i64 6, .string ⟨#[79, 99, 116, 111]⟩, .int .i64 2, .int .i64 256, .int .i64 241, .int .i64 15, .int .i64 (-16622), .int .i64 16143, .int .i64 239, .bool false] := rfl
theorem inf_lit7 : infF 7 = #[.int .i64 7, .string ⟨#[80, 108, 97, 105, 110, 51, 50]⟩, .int .i64 10, .int .i64 32, .int .i64 7, .int .i64 96, .int .i64 (-101), .int .i64 90, .int .i64 6, .bool false] := rfl
theorem inf_lit8 : infF 8 = #[.int .i64 8, .string ⟨#[80, 108, 97, 105, 110, 54, 52]⟩, .int .i64 10, .int .i64 64, .int .i64 16, .int .i64 384, .int .i64 (-398), .int .i64 369, .int .i64 15, .bool false] := rfl
theorem inf_lit9 : infF 9 = #[.int .i64 9, .string ⟨#[80, 108, 97, 105, 110, 49, 50, 56]⟩, .int .i64 10, .int .i64 128, .int .i64 34, .int .i64 6144, .int .i64 (-6176), .int .i64 6111, .int .i64 33, .bool false] := rfl
theorem inf_lit10 : infF 10 = #[.int .i64 10, .string ⟨#[68, 101, 110, 115, 101, 51, 50]⟩, .int .i64 10, .int .i64 32, .int .i64 7, .int .i64 96, .int .i64 (-101), .int .i64 90, .int .i64 6, .bool true] := rfl
theorem inf_lit11 : infF 11 = #[.int .i64 11, .string ⟨#[68, 101, 110, 115, 101, 54, 52]⟩, .int .i64 10, .int .i64 64, .int .i64 16, .int .i64 384, .int .i64 (-398), .int .i64 369, .int .i64 15, .bool true] := rfl
theorem inf_lit12 : infF 12 = #[.int .i64 12, .string ⟨#[68, 101, 110, 115, 101, 49, 50, 56]⟩, .int .i64 10, .int .i64 128, .int .i64 34, .int .i64 6144, .int .i64 (-6176), .int .i64 6111, .int .i64 33, .bool true] := rfl
theorem twelve {n : Int} (h : 1 ≤ n) (h' : n ≤ 12) : n = 1 ∨ n = 2 ∨ n = 3 ∨ n = 4 ∨ n = 5 ∨ n = 6 ∨ n = 7 ∨ n = 8 ∨ n = 9 ∨ n = 10 ∨ n = 11 ∨ n = 12 := by omega

set_option maxHeartbeats 4000000 in
theorem binary_calls (n : Int) (w : World) (hn : n = 1 ∨ n = 2 ∨ n = 3 ∨ n = 4 ∨ n = 5 ∨ n = 6) :
    Calls Tryz.prog 143 #[.int .i64 n, .string (nmF n), .int .i64 (prF n), .int .i64 (exF n)] w
      fun e w' => e = .returned (.agg (infF n)) ∧ Below w.heap.size w w' := by
  rcases hn with rfl | rfl | rfl | rfl | rfl | rfl
  all_goals
    simp only [nmF, prF, exF]
    go_enter Tryz.func143, Tryz.ntmps143
    go_wp2
    exact bodyPost_ret (v := .agg (infF _)) (by simp [results, Tryz.results143, go_sem]; rfl) rfl ⟨rfl, (Below.refl _ _).alloc (Nat.le_refl _) _⟩

set_option maxHeartbeats 4000000 in
theorem dDecimal_calls (n : Int) (w : World) (hn : n = 7 ∨ n = 8 ∨ n = 9 ∨ n = 10 ∨ n = 11 ∨ n = 12) :
    Calls Tryz.prog 144 #[.int .i64 n, .string (nmF n), .int .i64 (wdF n), .int .i64 (prF n), .int .i64 (exF n)] w
      fun e w' => e = .returned (.agg (infF n)) ∧ Below w.heap.size w w' := by
  rcases hn with rfl | rfl | rfl | rfl | rfl | rfl
  all_goals
    simp only [nmF, prF, exF, wdF]
    go_enter Tryz.func144, Tryz.ntmps144
    go_wp2
    exact bodyPost_ret (v := .agg (infF _)) (by simp [results, Tryz.results144, go_sem]; rfl) rfl ⟨rfl, (Below.refl _ _).alloc (Nat.le_refl _) _⟩

/-- All's block: the twelve formats, cell by cell. -/
def allCells : Array Value := (infF 1).append ((infF 2).append ((infF 3).append ((infF 4).append ((infF 5).append ((infF 6).append ((infF 7).append ((infF 8).append ((infF 9).append ((infF 10).append ((infF 11).append (infF 12)))))))))))
end Go.Proofs.YtpodpdopgdkdkaaGreatDoor
namespace Go.Proofs.YtpodpdopgdkdkaaGreatDoor
open Go.RowKit
theorem info_info : (Tryz.prog.info? 88).map (fun i => (i.zero, i.size)) = some (some (.agg inf0), 10) := by kernel_rfl
theorem all_fill : Instr.fill (fun i => some (i * 10, 10)) ((Array.range (12 * 10)).map ((Value.agg inf0).cells[· % (Value.agg inf0).cells.size]!)) [(0, .agg (infF 1)), (1, .agg (infF 2)), (2, .agg (infF 3)), (3, .agg (infF 4)), (4, .agg (infF 5)), (5, .agg (infF 6)), (6, .agg (infF 7)), (7, .agg (infF 8)), (8, .agg (infF 9)), (9, .agg (infF 10)), (10, .agg (infF 11)), (11, .agg (infF 12))] = some allCells := by kernel_rfl
set_option maxRecDepth 100000 in
set_option maxHeartbeats 1000000 in
theorem all_calls (w : World) :
    Calls Tryz.prog 128 #[] w
      fun e w' => (∃ g, w.heap.size ≤ g ∧ e = .returned (.slice (some ⟨g, 0, none⟩) 12 12) ∧ w'.heap[g]? = some (.cells allCells 88)) ∧ Below w.heap.size w w' := by
  obtain ⟨ie, hie, hz, hs⟩ : ∃ ie, Tryz.prog.info? 88 = some ie ∧ ie.zero = some (.agg inf0) ∧ ie.size = 10 := by
    have h := info_info
    cases hh : Tryz.prog.info? 88 with
    | none => rw [hh] at h; simp at h
    | some ie => rw [hh] at h; simp at h; exact ⟨ie, rfl, h.1, h.2⟩
  have hf : Instr.fill (fun i => some (i * ie.size, ie.size)) ((Array.range (12 * ie.size)).map ((Value.agg inf0).cells[· % (Value.agg inf0).cells.size]!)) [(0, .agg (infF 1)), (1, .agg (infF 2)), (2, .agg (infF 3)), (3, .agg (infF 4)), (4, .agg (infF 5)), (5, .agg (infF 6)), (6, .agg (infF 7)), (7, .agg (infF 8)), (8, .agg (infF 9)), (9, .agg (infF 10)), (10, .agg (infF 11)), (11, .agg (infF 12))] = some allCells := by rw [hs]; exact all_fill
  have HF := Lib.hid hf
  clear hf
  have HS := Lib.hid hs
  clear hs
  go_enter Tryz.func128, Tryz.ntmps128
  go_wp2_with fail
  refine (binary_calls 1 _ (by simp)).mono ?_
  rintro e w1 ⟨rfl, hb1⟩
  go_wp2_with fail
  refine (binary_calls 2 _ (by simp)).mono ?_
  rintro e w2 ⟨rfl, hb2⟩
  go_wp2_with fail
  refine (binary_calls 3 _ (by simp)).mono ?_
  rintro e w3 ⟨rfl, hb3⟩
  go_wp2_with fail
  refine (binary_calls 4 _ (by simp)).mono ?_
  rintro e w4 ⟨rfl, hb4⟩
  go_wp2_with fail
  refine (binary_calls 5 _ (by simp)).mono ?_
  rintro e w5 ⟨rfl, hb5⟩
  go_wp2_with fail
  refine (binary_calls 6 _ (by simp)).mono ?_
  rintro e w6 ⟨rfl, hb6⟩
  go_wp2_with fail
  refine (dDecimal_calls 7 _ (by simp)).mono ?_
  rintro e w7 ⟨rfl, hb7⟩
  go_wp2_with fail
  refine (dDecimal_calls 8 _ (by simp)).mono ?_
  rintro e w8 ⟨rfl, hb8⟩
  go_wp2_with fail
  refine (dDecimal_calls 9 _ (by simp)).mono ?_
  rintro e w9 ⟨rfl, hb9⟩
  go_wp2_with fail
  refine (dDecimal_calls 10 _ (by simp)).mono ?_
  rintro e w10 ⟨rfl, hb10⟩
  go_wp2_with fail
  refine (dDecimal_calls 11 _ (by simp)).mono ?_
  rintro e w11 ⟨rfl, hb11⟩
  go_wp2_with fail
  refine (dDecimal_calls 12 _ (by simp)).mono ?_
  rintro e w12 ⟨rfl, hb12⟩
  go_wp2_with (refine wpList_buildSlice rfl 156 88 12 _ rfl allCells ie (.agg inf0) Tryz.underlying156 hie hz (by rw [HS.out]; decide) (by rw [HS.out]; decide) (by simp only [List.map_toArray, List.map_cons, List.map_nil]; exact HF.out) ?_)
  go_ret
  exact ⟨⟨w12.heap.size, (below_then (below_then (below_then (below_then (below_then (below_then (below_then (below_then (below_then (below_then (below_then hb1 hb2) hb3) hb4) hb5) hb6) hb7) hb8) hb9) hb10) hb11) hb12).size, rfl, heap_new _ _⟩, below_alloc (below_then (below_then (below_then (below_then (below_then (below_then (below_then (below_then (below_then (below_then (below_then hb1 hb2) hb3) hb4) hb5) hb6) hb7) hb8) hb9) hb10) hb11) hb12) _⟩

theorem Tryz.sizeInfo : (Tryz.prog.info? 88).map (·.size) = some 10 := by kernel_rfl
theorem all_at {w : World} {g : Nat} (hg : w.heap[g]? = some (.cells allCells 88)) (i : Nat) : w.cell? ⟨g, i, none⟩ = allCells[i]? := cell_of_heap hg i

set_option maxRecDepth 100000 in
set_option maxHeartbeats 1000000 in
theorem of_calls1 (w : World) :
    Calls Tryz.prog 104 #[.int .i64 1] w fun e w' => e = .returned (.tuple #[.agg (infF 1), .int .i64 0]) ∧ Below w.heap.size w w' := by
  go_enter Tryz.func104, Tryz.ntmps104
  go_wp2_with fail
  refine (all_calls _).mono ?_
  rintro e w1 ⟨⟨g, hgs, rfl, hg⟩, hb⟩
  have c0 : w1.cell? ⟨g, 0, none⟩ = some (.int .i64 1) := (all_at hg 0).trans rfl
  have c1 : w1.cell? ⟨g, 1, none⟩ = some (.string ⟨#[72, 97, 108, 102]⟩) := (all_at hg 1).trans rfl
  have c2 : w1.cell? ⟨g, 2, none⟩ = some (.int .i64 2) := (all_at hg 2).trans rfl
  have c3 : w1.cell? ⟨g, 3, none⟩ = some (.int .i64 16) := (all_at hg 3).trans rfl
  have c4 : w1.cell? ⟨g, 4, none⟩ = some (.int .i64 11) := (all_at hg 4).trans rfl
  have c5 : w1.cell? ⟨g, 5, none⟩ = some (.int .i64 5) := (all_at hg 5).trans rfl
  have c6 : w1.cell? ⟨g, 6, none⟩ = some (.int .i64 (-24)) := (all_at hg 6).trans rfl
  have c7 : w1.cell? ⟨g, 7, none⟩ = some (.int .i64 5) := (all_at hg 7).trans rfl
  have c8 : w1.cell? ⟨g, 8, none⟩ = some (.int .i64 9) := (all_at hg 8).trans rfl
  have c9 : w1.cell? ⟨g, 9, none⟩ = some (.bool false) := (all_at hg 9).trans rfl
  have HR : w1.heap[w.heap.size]? = some (.cells inf0 88) := by
    rw [hb.block _ (by simp)]; exact heap_new _ _
  clear hg hgs
  go_wp2_with ((with_reducible refine gate_store 88 ?_); refine st_row 88 w.heap.size 88 HR Tryz.sizeInfo ?_)
  exact bodyPost_ret (results_ct rfl _ _ w.heap.size 88 _ _ _ rfl (setRow_heap _ _ _ _ _ _ HR) Tryz.underlying88 rfl Tryz.sizeInfo) rfl
    ⟨rfl, below_setRow ((Below.refl _ _).alloc (Nat.le_refl _) _ |>.trans (hb.mono (by simp))) (Nat.le_refl _) _⟩
set_option maxRecDepth 100000 in
set_option maxHeartbeats 1000000 in
theorem of_calls2 (w : World) :
    Calls Tryz.prog 104 #[.int .i64 2] w fun e w' => e = .returned (.tuple #[.agg (infF 2), .int .i64 0]) ∧ Below w.heap.size w w' := by
  go_enter Tryz.func104, Tryz.ntmps104
  go_wp2_with fail
  refine (all_calls _).mono ?_
  rintro e w1 ⟨⟨g, hgs, rfl, hg⟩, hb⟩
  have c0 : w1.cell? ⟨g, 10, none⟩ = some (.int .i64 2) := (all_at hg 10).trans rfl
  have c1 : w1.cell? ⟨g, 11, none⟩ = some (.string ⟨#[66, 114, 97, 105, 110]⟩) := (all_at hg 11).trans rfl
  have c2 : w1.cell? ⟨g, 12, none⟩ = some (.int .i64 2) := (all_at hg 12).trans rfl
  have c3 : w1.cell? ⟨g, 13, none⟩ = some (.int .i64 16) := (all_at hg 13).trans rfl
  have c4 : w1.cell? ⟨g, 14, none⟩ = some (.int .i64 8) := (all_at hg 14).trans rfl
  have c5 : w1.cell? ⟨g, 15, none⟩ = some (.int .i64 8) := (all_at hg 15).trans rfl
  have c6 : w1.cell? ⟨g, 16, none⟩ = some (.int .i64 (-133)) := (all_at hg 16).trans rfl
  have c7 : w1.cell? ⟨g, 17, none⟩ = some (.int .i64 120) := (all_at hg 17).trans rfl
  have c8 : w1.cell? ⟨g, 18, none⟩ = some (.int .i64 6) := (all_at hg 18).trans rfl
  have c9 : w1.cell? ⟨g, 19, none⟩ = some (.bool false) := (all_at hg 19).trans rfl
  have HR : w1.heap[w.heap.size]? = some (.cells inf0 88) := by
    rw [hb.block _ (by simp)]; exact heap_new _ _
  clear hg hgs
  go_wp2_with ((with_reducible refine gate_store 88 ?_); refine st_row 88 w.heap.size 88 HR Tryz.sizeInfo ?_)
  exact bodyPost_ret (results_ct rfl _ _ w.heap.size 88 _ _ _ rfl (setRow_heap _ _ _ _ _ _ HR) Tryz.underlying88 rfl Tryz.sizeInfo) rfl
    ⟨rfl, below_setRow ((Below.refl _ _).alloc (Nat.le_refl _) _ |>.trans (hb.mono (by simp))) (Nat.le_refl _) _⟩
set_option maxRecDepth 100000 in
set_option maxHeartbeats 1000000 in
theorem of_calls3 (w : World) :
    Calls Tryz.prog 104 #[.int .i64 3] w fun e w' => e = .returned (.tuple #[.agg (infF 3), .int .i64 0]) ∧ Below w.heap.size w w' := by
  go_enter Tryz.func104, Tryz.ntmps104
  go_wp2_with fail
  refine (all_calls _).mono ?_
  rintro e w1 ⟨⟨g, hgs, rfl, hg⟩, hb⟩
  have c0 : w1.cell? ⟨g, 20, none⟩ = some (.int .i64 3) := (all_at hg 20).trans rfl
  have c1 : w1.cell? ⟨g, 21, none⟩ = some (.string ⟨#[83, 105, 110, 103, 108, 101]⟩) := (all_at hg 21).trans rfl
  have c2 : w1.cell? ⟨g, 22, none⟩ = some (.int .i64 2) := (all_at hg 22).trans rfl
  have c3 : w1.cell? ⟨g, 23, none⟩ = some (.int .i64 32) := (all_at hg 23).trans rfl
  have c4 : w1.cell? ⟨g, 24, none⟩ = some (.int .i64 24) := (all_at hg 24).trans rfl
  have c5 : w1.cell? ⟨g, 25, none⟩ = some (.int .i64 8) := (all_at hg 25).trans rfl
  have c6 : w1.cell? ⟨g, 26, none⟩ = some (.int .i64 (-149)) := (all_at hg 26).trans rfl
  have c7 : w1.cell? ⟨g, 27, none⟩ = some (.int .i64 104) := (all_at hg 27).trans rfl
  have c8 : w1.cell? ⟨g, 28, none⟩ = some (.int .i64 22) := (all_at hg 28).trans rfl
  have c9 : w1.cell? ⟨g, 29, none⟩ = some (.bool false) := (all_at hg 29).trans rfl
  have HR : w1.heap[w.heap.size]? = some (.cells inf0 88) := by
    rw [hb.block _ (by simp)]; exact heap_new _ _
  clear hg hgs
  go_wp2_with ((with_reducible refine gate_store 88 ?_); refine st_row 88 w.heap.size 88 HR Tryz.sizeInfo ?_)
  exact bodyPost_ret (results_ct rfl _ _ w.heap.size 88 _ _ _ rfl (setRow_heap _ _ _ _ _ _ HR) Tryz.underlying88 rfl Tryz.sizeInfo) rfl
    ⟨rfl, below_setRow ((Below.refl _ _).alloc (Nat.le_refl _) _ |>.trans (hb.mono (by simp))) (Nat.le_refl _) _⟩
set_option maxRecDepth 100000 in
set_option maxHeartbeats 1000000 in
theorem of_calls4 (w : World) :
    Calls Tryz.prog 104 #[.int .i64 4] w fun e w' => e = .returned (.tuple #[.agg (infF 4), .int .i64 0]) ∧ Below w.heap.size w w' := by
  go_enter Tryz.func104, Tryz.ntmps104
  go_wp2_with fail
  refine (all_calls _).mono ?_
  rintro e w1 ⟨⟨g, hgs, rfl, hg⟩, hb⟩
  have c0 : w1.cell? ⟨g, 30, none⟩ = some (.int .i64 4) := (all_at hg 30).trans rfl
  have c1 : w1.cell? ⟨g, 31, none⟩ = some (.string ⟨#[68, 111, 117, 98, 108, 101]⟩) := (all_at hg 31).trans rfl
  have c2 : w1.cell? ⟨g, 32, none⟩ = some (.int .i64 2) := (all_at hg 32).trans rfl
  have c3 : w1.cell? ⟨g, 33, none⟩ = some (.int .i64 64) := (all_at hg 33).trans rfl
  have c4 : w1.cell? ⟨g, 34, none⟩ = some (.int .i64 53) := (all_at hg 34).trans rfl
  have c5 : w1.cell? ⟨g, 35, none⟩ = some (.int .i64 11) := (all_at hg 35).trans rfl
  have c6 : w1.cell? ⟨g, 36, none⟩ = some (.int .i64 (-1074)) := (all_at hg 36).trans rfl
  have c7 : w1.cell? ⟨g, 37, none⟩ = some (.int .i64 971) := (all_at hg 37).trans rfl
  have c8 : w1.cell? ⟨g, 38, none⟩ = some (.int .i64 51) := (all_at hg 38).trans rfl
  have c9 : w1.cell? ⟨g, 39, none⟩ = some (.bool false) := (all_at hg 39).trans rfl
  have HR : w1.heap[w.heap.size]? = some (.cells inf0 88) := by
    rw [hb.block _ (by simp)]; exact heap_new _ _
  clear hg hgs
  go_wp2_with ((with_reducible refine gate_store 88 ?_); refine st_row 88 w.heap.size 88 HR Tryz.sizeInfo ?_)
  exact bodyPost_ret (results_ct rfl _ _ w.heap.size 88 _ _ _ rfl (setRow_heap _ _ _ _ _ _ HR) Tryz.underlying88 rfl Tryz.sizeInfo) rfl
    ⟨rfl, below_setRow ((Below.refl _ _).alloc (Nat.le_refl _) _ |>.trans (hb.mono (by simp))) (Nat.le_refl _) _⟩
set_option maxRecDepth 100000 in
set_option maxHeartbeats 1000000 in
theorem of_calls5 (w : World) :
    Calls Tryz.prog 104 #[.int .i64 5] w fun e w' => e = .returned (.tuple #[.agg (infF 5), .int .i64 0]) ∧ Below w.heap.size w w' := by
  go_enter Tryz.func104, Tryz.ntmps104
  go_wp2_with fail
  refine (all_calls _).mono ?_
  rintro e w1 ⟨⟨g, hgs, rfl, hg⟩, hb⟩
  have c0 : w1.cell? ⟨g, 40, none⟩ = some (.int .i64 5) := (all_at hg 40).trans rfl
  have c1 : w1.cell? ⟨g, 41, none⟩ = some (.string ⟨#[81, 117, 97, 100]⟩) := (all_at hg 41).trans rfl
  have c2 : w1.cell? ⟨g, 42, none⟩ = some (.int .i64 2) := (all_at hg 42).trans rfl
  have c3 : w1.cell? ⟨g, 43, none⟩ = some (.int .i64 128) := (all_at hg 43).trans rfl
  have c4 : w1.cell? ⟨g, 44, none⟩ = some (.int .i64 113) := (all_at hg 44).trans rfl
  have c5 : w1.cell? ⟨g, 45, none⟩ = some (.int .i64 15) := (all_at hg 45).trans rfl
  have c6 : w1.cell? ⟨g, 46, none⟩ = some (.int .i64 (-16494)) := (all_at hg 46).trans rfl
  have c7 : w1.cell? ⟨g, 47, none⟩ = some (.int .i64 16271) := (all_at hg 47).trans rfl
  have c8 : w1.cell? ⟨g, 48, none⟩ = some (.int .i64 111) := (all_at hg 48).trans rfl
  have c9 : w1.cell? ⟨g, 49, none⟩ = some (.bool false) := (all_at hg 49).trans rfl
  have HR : w1.heap[w.heap.size]? = some (.cells inf0 88) := by
    rw [hb.block _ (by simp)]; exact heap_new _ _
  clear hg hgs
  go_wp2_with ((with_reducible refine gate_store 88 ?_); refine st_row 88 w.heap.size 88 HR Tryz.sizeInfo ?_)
  exact bodyPost_ret (results_ct rfl _ _ w.heap.size 88 _ _ _ rfl (setRow_heap _ _ _ _ _ _ HR) Tryz.underlying88 rfl Tryz.sizeInfo) rfl
    ⟨rfl, below_setRow ((Below.refl _ _).alloc (Nat.le_refl _) _ |>.trans (hb.mono (by simp))) (Nat.le_refl _) _⟩
set_option maxRecDepth 100000 in
set_option maxHeartbeats 1000000 in
theorem of_calls6 (w : World) :
    Calls Tryz.prog 104 #[.int .i64 6] w fun e w' => e = .returned (.tuple #[.agg (infF 6), .int .i64 0]) ∧ Below w.heap.size w w' := by
  go_enter Tryz.func104, Tryz.ntmps104
  go_wp2_with fail
  refine (all_calls _).mono ?_
  rintro e w1 ⟨⟨g, hgs, rfl, hg⟩, hb⟩
  have c0 : w1.cell? ⟨g, 50, none⟩ = some (.int .i64 6) := (all_at hg 50).trans rfl
  have c1 : w1.cell? ⟨g, 51, none⟩ = some (.string ⟨#[79, 99, 116, 111]⟩) := (all_at hg 51).trans rfl
  have c2 : w1.cell? ⟨g, 52, none⟩ = some (.int .i64 2) := (all_at hg 52).trans rfl
  have c3 : w1.cell? ⟨g, 53, none⟩ = some (.int .i64 256) := (all_at hg 53).trans rfl
  have c4 : w1.cell? ⟨g, 54, none⟩ = some (.int .i64 241) := (all_at hg 54).trans rfl
  have c5 : w1.cell? ⟨g, 55, none⟩ = some (.int .i64 15) := (all_at hg 55).trans rfl
  have c6 : w1.cell? ⟨g, 56, none⟩ = some (.int .i64 (-16622)) := (all_at hg 56).trans rfl
  have c7 : w1.cell? ⟨g, 57, none⟩ = some (.int .i64 16143) := (all_at hg 57).trans rfl
  have c8 : w1.cell? ⟨g, 58, none⟩ = some (.int .i64 239) := (all_at hg 58).trans rfl
  have c9 : w1.cell? ⟨g, 59, none⟩ = some (.bool false) := (all_at hg 59).trans rfl
  have HR : w1.heap[w.heap.size]? = some (.cells inf0 88) := by
    rw [hb.block _ (by simp)]; exact heap_new _ _
  clear hg hgs
  go_wp2_with ((with_reducible refine gate_store 88 ?_); refine st_row 88 w.heap.size 88 HR Tryz.sizeInfo ?_)
  exact bodyPost_ret (results_ct rfl _ _ w.heap.size 88 _ _ _ rfl (setRow_heap _ _ _ _ _ _ HR) Tryz.underlying88 rfl Tryz.sizeInfo) rfl
    ⟨rfl, below_setRow ((Below.refl _ _).alloc (Nat.le_refl _) _ |>.trans (hb.mono (by simp))) (Nat.le_refl _) _⟩
set_option maxRecDepth 100000 in
set_option maxHeartbeats 1000000 in
theorem of_calls7 (w : World) :
    Calls Tryz.prog 104 #[.int .i64 7] w fun e w' => e = .returned (.tuple #[.agg (infF 7), .int .i64 0]) ∧ Below w.heap.size w w' := by
  go_enter Tryz.func104, Tryz.ntmps104
  go_wp2_with fail
  refine (all_calls _).mono ?_
  rintro e w1 ⟨⟨g, hgs, rfl, hg⟩, hb⟩
  have c0 : w1.cell? ⟨g, 60, none⟩ = some (.int .i64 7) := (all_at hg 60).trans rfl
  have c1 : w1.cell? ⟨g, 61, none⟩ = some (.string ⟨#[80, 108, 97, 105, 110, 51, 50]⟩) := (all_at hg 61).trans rfl
  have c2 : w1.cell? ⟨g, 62, none⟩ = some (.int .i64 10) := (all_at hg 62).trans rfl
  have c3 : w1.cell? ⟨g, 63, none⟩ = some (.int .i64 32) := (all_at hg 63).trans rfl
  have c4 : w1.cell? ⟨g, 64, none⟩ = some (.int .i64 7) := (all_at hg 64).trans rfl
  have c5 : w1.cell? ⟨g, 65, none⟩ = some (.int .i64 96) := (all_at hg 65).trans rfl
  have c6 : w1.cell? ⟨g, 66, none⟩ = some (.int .i64 (-101)) := (all_at hg 66).trans rfl
  have c7 : w1.cell? ⟨g, 67, none⟩ = some (.int .i64 90) := (all_at hg 67).trans rfl
  have c8 : w1.cell? ⟨g, 68, none⟩ = some (.int .i64 6) := (all_at hg 68).trans rfl
  have c9 : w1.cell? ⟨g, 69, none⟩ = some (.bool false) := (all_at hg 69).trans rfl
  have HR : w1.heap[w.heap.size]? = some (.cells inf0 88) := by
    rw [hb.block _ (by simp)]; exact heap_new _ _
  clear hg hgs
  go_wp2_with ((with_reducible refine gate_store 88 ?_); refine st_row 88 w.heap.size 88 HR Tryz.sizeInfo ?_)
  exact bodyPost_ret (results_ct rfl _ _ w.heap.size 88 _ _ _ rfl (setRow_heap _ _ _ _ _ _ HR) Tryz.underlying88 rfl Tryz.sizeInfo) rfl
    ⟨rfl, below_setRow ((Below.refl _ _).alloc (Nat.le_refl _) _ |>.trans (hb.mono (by simp))) (Nat.le_refl _) _⟩
set_option maxRecDepth 100000 in
set_option maxHeartbeats 1000000 in
theorem of_calls8 (w : World) :
    Calls Tryz.prog 104 #[.int .i64 8] w fun e w' => e = .returned (.tuple #[.agg (infF 8), .int .i64 0]) ∧ Below w.heap.size w w' := by
  go_enter Tryz.func104, Tryz.ntmps104
  go_wp2_with fail
  refine (all_calls _).mono ?_
  rintro e w1 ⟨⟨g, hgs, rfl, hg⟩, hb⟩
  have c0 : w1.cell? ⟨g, 70, none⟩ = some (.int .i64 8) := (all_at hg 70).trans rfl
  have c1 : w1.cell? ⟨g, 71, none⟩ = some (.string ⟨#[80, 108, 97, 105, 110, 54, 52]⟩) := (all_at hg 71).trans rfl
  have c2 : w1.cell? ⟨g, 72, none⟩ = some (.int .i64 10) := (all_at hg 72).trans rfl
  have c3 : w1.cell? ⟨g, 73, none⟩ = some (.int .i64 64) := (all_at hg 73).trans rfl
  have c4 : w1.cell? ⟨g, 74, none⟩ = some (.int .i64 16) := (all_at hg 74).trans rfl
  have c5 : w1.cell? ⟨g, 75, none⟩ = some (.int .i64 384) := (all_at hg 75).trans rfl
  have c6 : w1.cell? ⟨g, 76, none⟩ = some (.int .i64 (-398)) := (all_at hg 76).trans rfl
  have c7 : w1.cell? ⟨g, 77, none⟩ = some (.int .i64 369) := (all_at hg 77).trans rfl
  have c8 : w1.cell? ⟨g, 78, none⟩ = some (.int .i64 15) := (all_at hg 78).trans rfl
  have c9 : w1.cell? ⟨g, 79, none⟩ = some (.bool false) := (all_at hg 79).trans rfl
  have HR : w1.heap[w.heap.size]? = some (.cells inf0 88) := by
    rw [hb.block _ (by simp)]; exact heap_new _ _
  clear hg hgs
  go_wp2_with ((with_reducible refine gate_store 88 ?_); refine st_row 88 w.heap.size 88 HR Tryz.sizeInfo ?_)
  exact bodyPost_ret (results_ct rfl _ _ w.heap.size 88 _ _ _ rfl (setRow_heap _ _ _ _ _ _ HR) Tryz.underlying88 rfl Tryz.sizeInfo) rfl
    ⟨rfl, below_setRow ((Below.refl _ _).alloc (Nat.le_refl _) _ |>.trans (hb.mono (by simp))) (Nat.le_refl _) _⟩
set_option maxRecDepth 100000 in
set_option maxHeartbeats 1000000 in
theorem of_calls9 (w : World) :
    Calls Tryz.prog 104 #[.int .i64 9] w fun e w' => e = .returned (.tuple #[.agg (infF 9), .int .i64 0]) ∧ Below w.heap.size w w' := by
  go_enter Tryz.func104, Tryz.ntmps104
  go_wp2_with fail
  refine (all_calls _).mono ?_
  rintro e w1 ⟨⟨g, hgs, rfl, hg⟩, hb⟩
  have c0 : w1.cell? ⟨g, 80, none⟩ = some (.int .i64 9) := (all_at hg 80).trans rfl
  have c1 : w1.cell? ⟨g, 81, none⟩ = some (.string ⟨#[80, 108, 97, 105, 110, 49, 50, 56]⟩) := (all_at hg 81).trans rfl
  have c2 : w1.cell? ⟨g, 82, none⟩ = some (.int .i64 10) := (all_at hg 82).trans rfl
  have c3 : w1.cell? ⟨g, 83, none⟩ = some (.int .i64 128) := (all_at hg 83).trans rfl
  have c4 : w1.cell? ⟨g, 84, none⟩ = some (.int .i64 34) := (all_at hg 84).trans rfl
  have c5 : w1.cell? ⟨g, 85, none⟩ = some (.int .i64 6144) := (all_at hg 85).trans rfl
  have c6 : w1.cell? ⟨g, 86, none⟩ = some (.int .i64 (-6176)) := (all_at hg 86).trans rfl
  have c7 : w1.cell? ⟨g, 87, none⟩ = some (.int .i64 6111) := (all_at hg 87).trans rfl
  have c8 : w1.cell? ⟨g, 88, none⟩ = some (.int .i64 33) := (all_at hg 88).trans rfl
  have c9 : w1.cell? ⟨g, 89, none⟩ = some (.bool false) := (all_at hg 89).trans rfl
  have HR : w1.heap[w.heap.size]? = some (.cells inf0 88) := by
    rw [hb.block _ (by simp)]; exact heap_new _ _
  clear hg hgs
  go_wp2_with ((with_reducible refine gate_store 88 ?_); refine st_row 88 w.heap.size 88 HR Tryz.sizeInfo ?_)
  exact bodyPost_ret (results_ct rfl _ _ w.heap.size 88 _ _ _ rfl (setRow_heap _ _ _ _ _ _ HR) Tryz.underlying88 rfl Tryz.sizeInfo) rfl
    ⟨rfl, below_setRow ((Below.refl _ _).alloc (Nat.le_refl _) _ |>.trans (hb.mono (by simp))) (Nat.le_refl _) _⟩
set_option maxRecDepth 100000 in
set_option maxHeartbeats 1000000 in
theorem of_calls10 (w : World) :
    Calls Tryz.prog 104 #[.int .i64 10] w fun e w' => e = .returned (.tuple #[.agg (infF 10), .int .i64 0]) ∧ Below w.heap.size w w' := by
  go_enter Tryz.func104, Tryz.ntmps104
  go_wp2_with fail
  refine (all_calls _).mono ?_
  rintro e w1 ⟨⟨g, hgs, rfl, hg⟩, hb⟩
  have c0 : w1.cell? ⟨g, 90, none⟩ = some (.int .i64 10) := (all_at hg 90).trans rfl
  have c1 : w1.cell? ⟨g, 91, none⟩ = some (.string ⟨#[68, 101, 110, 115, 101, 51, 50]⟩) := (all_at hg 91).trans rfl
  have c2 : w1.cell? ⟨g, 92, none⟩ = some (.int .i64 10) := (all_at hg 92).trans rfl
  have c3 : w1.cell? ⟨g, 93, none⟩ = some (.int .i64 32) := (all_at hg 93).trans rfl
  have c4 : w1.cell? ⟨g, 94, none⟩ = some (.int .i64 7) := (all_at hg 94).trans rfl
  have c5 : w1.cell? ⟨g, 95, none⟩ = some (.int .i64 96) := (all_at hg 95).trans rfl
  have c6 : w1.cell? ⟨g, 96, none⟩ = some (.int .i64 (-101)) := (all_at hg 96).trans rfl
  have c7 : w1.cell? ⟨g, 97, none⟩ = some (.int .i64 90) := (all_at hg 97).trans rfl
  have c8 : w1.cell? ⟨g, 98, none⟩ = some (.int .i64 6) := (all_at hg 98).trans rfl
  have c9 : w1.cell? ⟨g, 99, none⟩ = some (.bool true) := (all_at hg 99).trans rfl
  have HR : w1.heap[w.heap.size]? = some (.cells inf0 88) := by
    rw [hb.block _ (by simp)]; exact heap_new _ _
  clear hg hgs
  go_wp2_with ((with_reducible refine gate_store 88 ?_); refine st_row 88 w.heap.size 88 HR Tryz.sizeInfo ?_)
  exact bodyPost_ret (results_ct rfl _ _ w.heap.size 88 _ _ _ rfl (setRow_heap _ _ _ _ _ _ HR) Tryz.underlying88 rfl Tryz.sizeInfo) rfl
    ⟨rfl, below_setRow ((Below.refl _ _).alloc (Nat.le_refl _) _ |>.trans (hb.mono (by simp))) (Nat.le_refl _) _⟩
set_option maxRecDepth 100000 in
set_option maxHeartbeats 1000000 in
theorem of_calls11 (w : World) :
    Calls Tryz.prog 104 #[.int .i64 11] w fun e w' => e = .returned (.tuple #[.agg (infF 11), .int .i64 0]) ∧ Below w.heap.size w w' := by
  go_enter Tryz.func104, Tryz.ntmps104
  go_wp2_with fail
  refine (all_calls _).mono ?_
  rintro e w1 ⟨⟨g, hgs, rfl, hg⟩, hb⟩
  have c0 : w1.cell? ⟨g, 100, none⟩ = some (.int .i64 11) := (all_at hg 100).trans rfl
  have c1 : w1.cell? ⟨g, 101, none⟩ = some (.string ⟨#[68, 101, 110, 115, 101, 54, 52]⟩) := (all_at hg 101).trans rfl
  have c2 : w1.cell? ⟨g, 102, none⟩ = some (.int .i64 10) := (all_at hg 102).trans rfl
  have c3 : w1.cell? ⟨g, 103, none⟩ = some (.int .i64 64) := (all_at hg 103).trans rfl
  have c4 : w1.cell? ⟨g, 104, none⟩ = some (.int .i64 16) := (all_at hg 104).trans rfl
  have c5 : w1.cell? ⟨g, 105, none⟩ = some (.int .i64 384) := (all_at hg 105).trans rfl
  have c6 : w1.cell? ⟨g, 106, none⟩ = some (.int .i64 (-398)) := (all_at hg 106).trans rfl
  have c7 : w1.cell? ⟨g, 107, none⟩ = some (.int .i64 369) := (all_at hg 107).trans rfl
  have c8 : w1.cell? ⟨g, 108, none⟩ = some (.int .i64 15) := (all_at hg 108).trans rfl
  have c9 : w1.cell? ⟨g, 109, none⟩ = some (.bool true) := (all_at hg 109).trans rfl
  have HR : w1.heap[w.heap.size]? = some (.cells inf0 88) := by
    rw [hb.block _ (by simp)]; exact heap_new _ _
  clear hg hgs
  go_wp2_with ((with_reducible refine gate_store 88 ?_); refine st_row 88 w.heap.size 88 HR Tryz.sizeInfo ?_)
  exact bodyPost_ret (results_ct rfl _ _ w.heap.size 88 _ _ _ rfl (setRow_heap _ _ _ _ _ _ HR) Tryz.underlying88 rfl Tryz.sizeInfo) rfl
    ⟨rfl, below_setRow ((Below.refl _ _).alloc (Nat.le_refl _) _ |>.trans (hb.mono (by simp))) (Nat.le_refl _) _⟩
set_option maxRecDepth 100000 in
set_option maxHeartbeats 1000000 in
theorem of_calls12 (w : World) :
    Calls Tryz.prog 104 #[.int .i64 12] w fun e w' => e = .returned (.tuple #[.agg (infF 12), .int .i64 0]) ∧ Below w.heap.size w w' := by
  go_enter Tryz.func104, Tryz.ntmps104
  go_wp2_with fail
  refine (all_calls _).mono ?_
  rintro e w1 ⟨⟨g, hgs, rfl, hg⟩, hb⟩
  have c0 : w1.cell? ⟨g, 110, none⟩ = some (.int .i64 12) := (all_at hg 110).trans rfl
  have c1 : w1.cell? ⟨g, 111, none⟩ = some (.string ⟨#[68, 101, 110, 115, 101, 49, 50, 56]⟩) := (all_at hg 111).trans rfl
  have c2 : w1.cell? ⟨g, 112, none⟩ = some (.int .i64 10) := (all_at hg 112).trans rfl
  have c3 : w1.cell? ⟨g, 113, none⟩ = some (.int .i64 128) := (all_at hg 113).trans rfl
  have c4 : w1.cell? ⟨g, 114, none⟩ = some (.int .i64 34) := (all_at hg 114).trans rfl
  have c5 : w1.cell? ⟨g, 115, none⟩ = some (.int .i64 6144) := (all_at hg 115).trans rfl
  have c6 : w1.cell? ⟨g, 116, none⟩ = some (.int .i64 (-6176)) := (all_at hg 116).trans rfl
  have c7 : w1.cell? ⟨g, 117, none⟩ = some (.int .i64 6111) := (all_at hg 117).trans rfl
  have c8 : w1.cell? ⟨g, 118, none⟩ = some (.int .i64 33) := (all_at hg 118).trans rfl
  have c9 : w1.cell? ⟨g, 119, none⟩ = some (.bool true) := (all_at hg 119).trans rfl
  have HR : w1.heap[w.heap.size]? = some (.cells inf0 88) := by
    rw [hb.block _ (by simp)]; exact heap_new _ _
  clear hg hgs
  go_wp2_with ((with_reducible refine gate_store 88 ?_); refine st_row 88 w.heap.size 88 HR Tryz.sizeInfo ?_)
  exact bodyPost_ret (results_ct rfl _ _ w.heap.size 88 _ _ _ rfl (setRow_heap _ _ _ _ _ _ HR) Tryz.underlying88 rfl Tryz.sizeInfo) rfl
    ⟨rfl, below_setRow ((Below.refl _ _).alloc (Nat.le_refl _) _ |>.trans (hb.mono (by simp))) (Nat.le_refl _) _⟩

theorem of_calls (n : Int) (w : World) (h1 : 1 ≤ n) (h2 : n ≤ 12) :
    Calls Tryz.prog 104 #[.int .i64 n] w fun e w' => e = .returned (.tuple #[.agg (infF n), .int .i64 0]) ∧ Below w.heap.size w w' := by
  rcases twelve h1 h2 with rfl | rfl | rfl | rfl | rfl | rfl | rfl | rfl | rfl | rfl | rfl | rfl
  · exact of_calls1 w
  · exact of_calls2 w
  · exact of_calls3 w
  · exact of_calls4 w
  · exact of_calls5 w
  · exact of_calls6 w
  · exact of_calls7 w
  · exact of_calls8 w
  · exact of_calls9 w
  · exact of_calls10 w
  · exact of_calls11 w
  · exact of_calls12 w

set_option maxHeartbeats 1000000 in
theorem of_none (n : Int) (w : World) (h : n < 1 ∨ 12 < n) :
    Calls Tryz.prog 104 #[.int .i64 n] w fun e w' => e = .returned (.tuple #[.agg inf0, .int .i64 1]) ∧ Below w.heap.size w w' := by
  have HR : ∀ W : World, (W.alloc (.cells inf0 88)).heap[W.heap.size]? = some (.cells inf0 88) := fun W => heap_new _ _
  rcases h with h | h
  · go_enter Tryz.func104, Tryz.ntmps104
    go_wp2_with ((with_reducible refine gate_store 88 ?_); refine st_row 88 w.heap.size 88 (HR w) Tryz.sizeInfo ?_)
    exact bodyPost_ret (results_ct rfl _ _ w.heap.size 88 _ _ _ rfl (setRow_heap _ _ _ _ _ _ (HR w)) Tryz.underlying88 rfl Tryz.sizeInfo) rfl
      ⟨rfl, below_setRow ((Below.refl _ _).alloc (Nat.le_refl _) _) (Nat.le_refl _) _⟩
  · have h' : ¬ n < 1 := by omega
    go_enter Tryz.func104, Tryz.ntmps104
    go_wp2_with ((with_reducible refine gate_store 88 ?_); refine st_row 88 w.heap.size 88 (HR w) Tryz.sizeInfo ?_)
    exact bodyPost_ret (results_ct rfl _ _ w.heap.size 88 _ _ _ rfl (setRow_heap _ _ _ _ _ _ (HR w)) Tryz.underlying88 rfl Tryz.sizeInfo) rfl
      ⟨rfl, below_setRow ((Below.refl _ _).alloc (Nat.le_refl _) _) (Nat.le_refl _) _⟩
end Go.Proofs.YtpodpdopgdkdkaaGreatDoor
