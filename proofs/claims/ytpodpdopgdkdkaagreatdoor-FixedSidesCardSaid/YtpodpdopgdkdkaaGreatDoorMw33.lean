/- FixedSides: the walk over the law. · FixedSides: the row's walk. -/
import Derived.Test.YtpodpdopgdkdkaaGreatDoorMw32
set_option linter.unusedVariables false
set_option linter.unusedSimpArgs false
namespace Go.Proofs.YtpodpdopgdkdkaaGreatDoor
set_option linter.unusedVariables false
set_option linter.unusedSimpArgs false
open Go.RowKit
/-- How far the loop has come: the counter, the texts laid. -/
def SideAt (SB : Nat → ByteArray) (ga : Nat) (i : Value) (w : World) : Prop :=
  (i = .int .i64 0 ∧ w.heap[ga]? = some (.cells #[.string ⟨#[]⟩, .string ⟨#[]⟩, .string ⟨#[]⟩, .string ⟨#[]⟩, .string ⟨#[]⟩] 44 (0, 0))) ∨
  (i = .int .i64 1 ∧ w.heap[ga]? = some (.cells #[.string (SB 0), .string ⟨#[]⟩, .string ⟨#[]⟩, .string ⟨#[]⟩, .string ⟨#[]⟩] 44 (0, 0))) ∨
  (i = .int .i64 2 ∧ w.heap[ga]? = some (.cells #[.string (SB 0), .string (SB 1), .string ⟨#[]⟩, .string ⟨#[]⟩, .string ⟨#[]⟩] 44 (0, 0))) ∨
  (i = .int .i64 3 ∧ w.heap[ga]? = some (.cells #[.string (SB 0), .string (SB 1), .string (SB 2), .string ⟨#[]⟩, .string ⟨#[]⟩] 44 (0, 0))) ∨
  (i = .int .i64 4 ∧ w.heap[ga]? = some (.cells #[.string (SB 0), .string (SB 1), .string (SB 2), .string (SB 3), .string ⟨#[]⟩] 44 (0, 0))) ∨
  (i = .int .i64 5 ∧ w.heap[ga]? = some (.cells #[.string (SB 0), .string (SB 1), .string (SB 2), .string (SB 3), .string (SB 4)] 44 (0, 0)))
theorem sides_ways {X Y : ByteArray} {u : Bool} {SB : ByteArray} (h : SB = if u then Y else X) : SB = X ∨ SB = Y := by
  cases u
  · exact .inl h
  · exact .inr h
set_option maxRecDepth 100000 in
set_option maxHeartbeats 8000000 in
theorem fixedSides_calls (n cnt : Int) (b0 b1 b2 b3 : Nat) (hb : W64 [b0, b1, b2, b3]) (hc0 : -9223372036854775808 ≤ cnt) (hc1 : cnt ≤ 9223372036854775807) (w : World) (hT : Tab10 w) :
    Calls Tryz.prog 5 #[.int .i64 n, .int .i64 cnt, bitsV b0 b1 b2 b3] w fun e w' => e = .returned (.bool true) ∧ Below w.heap.size w w' := by
  have HT := Lib.hid hT
  have HA := Lib.hid (fun W (hW : Below w.heap.size w W) => awake10_calls W (tabIs_below hT hW))
  have H1 := Lib.hid (fun (dir : Int) W (hW : Below w.heap.size w W) => write_calls n dir cnt b0 b1 b2 b3 hb hc0 hc1 W (tabIs_below hT hW))
  have H2 := Lib.hid (fun W => finite_calls n b0 b1 b2 b3 hb W)
  unfold bitsV at *
  clear hT hb
  go_enter Tryz.func5, Tryz.ntmps5
  go_wp2_with fail
  have HB0 := Lib.hid (below_alloc (Below.refl w.heap.size w) (.cells #[.int .u64 (b0 : Nat), .int .u64 (b1 : Nat), .int .u64 (b2 : Nat), .int .u64 (b3 : Nat)] 24))
  have HP0 : Hid ((w.alloc (.cells #[.int .u64 (b0 : Nat), .int .u64 (b1 : Nat), .int .u64 (b2 : Nat), .int .u64 (b3 : Nat)] 24)).heap[w.heap.size]? = _) := Lib.hid (heap_new w (.cells #[.int .u64 (b0 : Nat), .int .u64 (b1 : Nat), .int .u64 (b2 : Nat), .int .u64 (b3 : Nat)] 24))
  generalize (w.alloc (.cells #[.int .u64 (b0 : Nat), .int .u64 (b1 : Nat), .int .u64 (b2 : Nat), .int .u64 (b3 : Nat)] 24)) = v0 at HB0 HP0 ⊢
  refine (HA.out _ HB0.out).mono ?_
  rintro e w1 ⟨rfl, hb1⟩
  have HB1 := Lib.hid (below_then HB0.out hb1)
  have HP1 := Lib.hid (below_heap hb1 HP0.out)
  clear hb1 HP0 HA
  have d0 : w1.cell? ⟨w.heap.size, 0, none⟩ = some (.int .u64 (b0 : Nat)) := cell_of_heap HP1.out 0
  have d1 : w1.cell? ⟨w.heap.size, 1, none⟩ = some (.int .u64 (b1 : Nat)) := cell_of_heap HP1.out 1
  have d2 : w1.cell? ⟨w.heap.size, 2, none⟩ = some (.int .u64 (b2 : Nat)) := cell_of_heap HP1.out 2
  have d3 : w1.cell? ⟨w.heap.size, 3, none⟩ = some (.int .u64 (b3 : Nat)) := cell_of_heap HP1.out 3
  go_wp2_with fail
  refine (H2.out _).mono ?_
  intro e w2 hr
  have HB2 := Lib.hid (below_then HB1.out hr.1)
  have HP2 := Lib.hid (below_heap hr.1 HP1.out)
  obtain ⟨-, ⟨P, X, L, hI, hl, hv, c0, c1, c2, c3, hcw, hcv, rfl⟩ | ⟨-, k, sg, si, x, c0, c1, c2, c3, rfl⟩⟩ := hr
  · clear d0 d1 d2 d3 H2 HP1
    unfold datV
    by_cases hcn : 1 ≤ cnt ∧ cnt ≤ 100
    · obtain ⟨m, rfl⟩ : ∃ m : Nat, cnt = (m : Int) := ⟨cnt.toNat, by omega⟩
      obtain ⟨T, hT0, hT1, hT⟩ := live_tens hI hv
      have hwj := fun (dir : Int) (hd : 0 ≤ dir ∧ dir ≤ 4) W hW => (H1.out dir W hW).mono fun e w' h => write_live h hd (show 1 ≤ (m : Int) ∧ (m : Int) ≤ 800 by omega) rfl hI hl hv hT
      obtain ⟨x, hx⟩ : ∃ x, expF (val [b0, b1, b2, b3]) P X L = x := ⟨_, rfl⟩
      obtain ⟨sg, hsg⟩ : ∃ sg, sgF (val [b0, b1, b2, b3]) P X = sg := ⟨_, rfl⟩
      rw [hx, hsg] at hwj ⊢
      obtain ⟨A, hA⟩ : ∃ A, frN (coefF (val [b0, b1, b2, b3]) P X) x = A := ⟨_, rfl⟩
      obtain ⟨D, hD⟩ : ∃ D, frD x = D := ⟨_, rfl⟩
      rw [hA, hD] at hwj
      obtain ⟨SB, hSB⟩ : ∃ SB : Nat → ByteArray, SB = fun j => ⟨(wrText sg A D (j : Int) m T).toArray⟩ := ⟨_, rfl⟩
      obtain ⟨mo, hmo⟩ : ∃ mo, wrMore A D m T = mo := ⟨_, rfl⟩
      rw [hmo] at hwj
      have hwk : ∀ j : Nat, j < 5 → ∀ W, Below w.heap.size w W → Calls Tryz.prog 9 #[.int .i64 n, .int .i64 (j : Int), .int .i64 (m : Int), .agg #[.int .u64 (b0 : Nat), .int .u64 (b1 : Nat), .int .u64 (b2 : Nat), .int .u64 (b3 : Nat)]] W fun e w' => e = .returned (.tuple #[.string (SB j), .bool mo, .int .i64 0]) ∧ Below W.heap.size W w' := fun j hj W hW => by
        rw [hSB]
        exact hwj (j : Int) (by omega) W hW
      have HWJ := Lib.hid hwk
      obtain ⟨SX, hSX⟩ : ∃ SX : ByteArray, SX = ⟨(wtU sg A D false m T).toArray⟩ := ⟨_, rfl⟩
      obtain ⟨SY, hSY⟩ : ∃ SY : ByteArray, SY = ⟨(wtU sg A D true m T).toArray⟩ := ⟨_, rfl⟩
      have hu : ∀ j : Nat, SB j = if isUp (j : Int) sg (scN A (-(T - m + 1))) (scD D (-(T - m + 1))) then SY else SX := fun j => by
        rw [hSB, hSX, hSY]
        show (⟨(wrText sg A D (j : Int) m T).toArray⟩ : ByteArray) = _
        rw [wt_up]
        cases isUp (j : Int) sg (scN A (-(T - m + 1))) (scD D (-(T - m + 1))) <;> rfl
      have hU0 := sides_ways (hu 0)
      have hU1 := sides_ways (hu 1)
      have hU2 : SB 2 = SX := by rw [hu 2, show ((2 : Nat) : Int) = 2 from rfl, isUp2]; rfl
      have hU3 : SB 3 = if sg then SX else SY := by rw [hu 3, show ((3 : Nat) : Int) = 3 from rfl, isUp3]; cases sg <;> rfl
      have hU4 : SB 4 = if sg then SY else SX := by rw [hu 4, show ((4 : Nat) : Int) = 4 from rfl, isUp4]
      have HUU := Lib.hid (And.intro hU0 (And.intro hU1 (And.intro hU2 (And.intro hU3 hU4))))
      obtain ⟨hcn1, hcn2⟩ := hcn
      have hcd : (decide ((m : Int) < 1) || decide ((100 : Int) < (m : Int))) = false := by rw [decide_eq_false (by omega), decide_eq_false (by omega)]; rfl
      clear hU0 hU1 hU2 hU3 hU4 hu hSX hSY hwk hSB hmo hA hD hx hsg hwj hT hI hl hv hcw hcv H1
      go_wp2_with fail
      have HG2 := Lib.hid (heap_new w2 (.cells #[.int .i64 1, .bool sg, .bool false, .int .i64 x, .int .u64 (c0 : Nat), .int .u64 (c1 : Nat), .int .u64 (c2 : Nat), .int .u64 (c3 : Nat)] 31))
      have HB3 := Lib.hid (below_alloc HB2.out (.cells #[.int .i64 1, .bool sg, .bool false, .int .i64 x, .int .u64 (c0 : Nat), .int .u64 (c1 : Nat), .int .u64 (c2 : Nat), .int .u64 (c3 : Nat)] 31))
      have HP3 := Lib.hid ((heap_keep w2 (.cells #[.int .i64 1, .bool sg, .bool false, .int .i64 x, .int .u64 (c0 : Nat), .int .u64 (c1 : Nat), .int .u64 (c2 : Nat), .int .u64 (c3 : Nat)] 31) (lt_of_heap HP2.out)).trans HP2.out)
      have hs3 : (w2.alloc (.cells #[.int .i64 1, .bool sg, .bool false, .int .i64 x, .int .u64 (c0 : Nat), .int .u64 (c1 : Nat), .int .u64 (c2 : Nat), .int .u64 (c3 : Nat)] 31)).heap.size = w2.heap.size + 1 := by simp
      generalize (w2.alloc (.cells #[.int .i64 1, .bool sg, .bool false, .int .i64 x, .int .u64 (c0 : Nat), .int .u64 (c1 : Nat), .int .u64 (c2 : Nat), .int .u64 (c3 : Nat)] 31)) = w3 at HG2 HB3 HP3 hs3 ⊢
      have HA5 := Lib.hid (heap_new w3 (.cells #[.string ⟨#[]⟩, .string ⟨#[]⟩, .string ⟨#[]⟩, .string ⟨#[]⟩, .string ⟨#[]⟩] 44))
      have HP5 := Lib.hid ((heap_keep w3 (.cells #[.string ⟨#[]⟩, .string ⟨#[]⟩, .string ⟨#[]⟩, .string ⟨#[]⟩, .string ⟨#[]⟩] 44) (lt_of_heap HP3.out)).trans HP3.out)
      have HD5 := Lib.hid ((heap_keep w3 (.cells #[.string ⟨#[]⟩, .string ⟨#[]⟩, .string ⟨#[]⟩, .string ⟨#[]⟩, .string ⟨#[]⟩] 44) (lt_of_heap HG2.out)).trans HG2.out)
      have HB5 := Lib.hid (below_alloc HB3.out (.cells #[.string ⟨#[]⟩, .string ⟨#[]⟩, .string ⟨#[]⟩, .string ⟨#[]⟩, .string ⟨#[]⟩] 44))
      generalize (w3.alloc (.cells #[.string ⟨#[]⟩, .string ⟨#[]⟩, .string ⟨#[]⟩, .string ⟨#[]⟩, .string ⟨#[]⟩] 44)) = w5 at HA5 HP5 HD5 HB5 ⊢
      rw [hs3] at HA5
      obtain ⟨gd, hgd0⟩ : ∃ g, w2.heap.size = g := ⟨_, rfl⟩
      obtain ⟨ga, hga0⟩ : ∃ g, gd + 1 = g := ⟨_, rfl⟩
      have hga : w.heap.size < ga := by have := lt_of_heap HP2.out; omega
      have hgp : w.heap.size ≠ ga := by omega
      have hgd : gd ≠ ga := by omega
      rw [hgd0, hga0] at HA5
      rw [hgd0] at HD5
      rw [hgd0, hga0]
      clear hs3 hgd0 hga0 HP2 HB2 HP3 HG2 HB3 hcd
      go_loopw [34] (fun i wr => SideAt SB ga i wr ∧ wr.heap[w.heap.size]? = some (.cells #[.int .u64 (b0 : Nat), .int .u64 (b1 : Nat), .int .u64 (b2 : Nat), .int .u64 (b3 : Nat)] 24 (0, 0)) ∧ wr.heap[gd]? = some (.cells #[.int .i64 1, .bool sg, .bool false, .int .i64 x, .int .u64 (c0 : Nat), .int .u64 (c1 : Nat), .int .u64 (c2 : Nat), .int .u64 (c3 : Nat)] 31 (0, 0)) ∧ Below w.heap.size w wr) (fun i _ => (5 - intOf i).toNat)
      case atStart => exact ⟨.inl ⟨rfl, HA5.out⟩, HP5.out, HD5.out, HB5.out⟩
      case round =>
        obtain ⟨hrl, hp, hd, hb⟩ := hrel
        rcases hrl with ⟨rfl, ha⟩ | ⟨rfl, ha⟩ | ⟨rfl, ha⟩ | ⟨rfl, ha⟩ | ⟨rfl, ha⟩ | ⟨rfl, ha⟩
        · have HA := Lib.hid ha
          have HPB := Lib.hid hp
          have HDB := Lib.hid hd
          have HBW := Lib.hid hb
          clear ha hp hd hb
          have d0 : wr.cell? ⟨w.heap.size, 0, none⟩ = some (.int .u64 (b0 : Nat)) := cell_of_heap HPB.out 0
          have d1 : wr.cell? ⟨w.heap.size, 1, none⟩ = some (.int .u64 (b1 : Nat)) := cell_of_heap HPB.out 1
          have d2 : wr.cell? ⟨w.heap.size, 2, none⟩ = some (.int .u64 (b2 : Nat)) := cell_of_heap HPB.out 2
          have d3 : wr.cell? ⟨w.heap.size, 3, none⟩ = some (.int .u64 (b3 : Nat)) := cell_of_heap HPB.out 3
          go_wp2_with fail
          refine (HWJ.out 0 (by omega) _ HBW.out).mono ?_
          rintro e w4 ⟨rfl, hb4⟩
          have HA4 := Lib.hid (below_heap hb4 HA.out)
          have HP4 := Lib.hid (below_heap hb4 HPB.out)
          have HD4 := Lib.hid (below_heap hb4 HDB.out)
          have HB4 := Lib.hid (below_then HBW.out hb4)
          have y4 : w4.cell? ⟨ga, 0, none⟩ = some (.string ⟨#[]⟩) := cell_of_heap HA4.out 0
          have f4 : w4.frozen? ⟨ga, 0, none⟩ = false := free_of_heap HA4.out 0
          have HS4 := Lib.hid (heap_set HA4.out 0 (.string (SB 0)))
          clear hb4 d0 d1 d2 d3 HA HPB HDB
          go_wp2
          go_roundw
          case rel => exact ⟨.inr (.inl ⟨rfl, HS4.out⟩), (heap_set_other hgp 0 _).trans HP4.out, (heap_set_other hgd 0 _).trans HD4.out, HB4.out.setCell (Nat.le_of_lt hga) _⟩
          case measure => simp [intOf]
        · have HA := Lib.hid ha
          have HPB := Lib.hid hp
          have HDB := Lib.hid hd
          have HBW := Lib.hid hb
          clear ha hp hd hb
          have d0 : wr.cell? ⟨w.heap.size, 0, none⟩ = some (.int .u64 (b0 : Nat)) := cell_of_heap HPB.out 0
          have d1 : wr.cell? ⟨w.heap.size, 1, none⟩ = some (.int .u64 (b1 : Nat)) := cell_of_heap HPB.out 1
          have d2 : wr.cell? ⟨w.heap.size, 2, none⟩ = some (.int .u64 (b2 : Nat)) := cell_of_heap HPB.out 2
          have d3 : wr.cell? ⟨w.heap.size, 3, none⟩ = some (.int .u64 (b3 : Nat)) := cell_of_heap HPB.out 3
          go_wp2_with fail
          refine (HWJ.out 1 (by omega) _ HBW.out).mono ?_
          rintro e w4 ⟨rfl, hb4⟩
          have HA4 := Lib.hid (below_heap hb4 HA.out)
          have HP4 := Lib.hid (below_heap hb4 HPB.out)
          have HD4 := Lib.hid (below_heap hb4 HDB.out)
          have HB4 := Lib.hid (below_then HBW.out hb4)
          have y4 : w4.cell? ⟨ga, 1, none⟩ = some (.string ⟨#[]⟩) := cell_of_heap HA4.out 1
          have f4 : w4.frozen? ⟨ga, 1, none⟩ = false := free_of_heap HA4.out 1
          have HS4 := Lib.hid (heap_set HA4.out 1 (.string (SB 1)))
          clear hb4 d0 d1 d2 d3 HA HPB HDB
          go_wp2
          go_roundw
          case rel => exact ⟨.inr (.inr (.inl ⟨rfl, HS4.out⟩)), (heap_set_other hgp 1 _).trans HP4.out, (heap_set_other hgd 1 _).trans HD4.out, HB4.out.setCell (Nat.le_of_lt hga) _⟩
          case measure => simp [intOf]
        · have HA := Lib.hid ha
          have HPB := Lib.hid hp
          have HDB := Lib.hid hd
          have HBW := Lib.hid hb
          clear ha hp hd hb
          have d0 : wr.cell? ⟨w.heap.size, 0, none⟩ = some (.int .u64 (b0 : Nat)) := cell_of_heap HPB.out 0
          have d1 : wr.cell? ⟨w.heap.size, 1, none⟩ = some (.int .u64 (b1 : Nat)) := cell_of_heap HPB.out 1
          have d2 : wr.cell? ⟨w.heap.size, 2, none⟩ = some (.int .u64 (b2 : Nat)) := cell_of_heap HPB.out 2
          have d3 : wr.cell? ⟨w.heap.size, 3, none⟩ = some (.int .u64 (b3 : Nat)) := cell_of_heap HPB.out 3
          go_wp2_with fail
          refine (HWJ.out 2 (by omega) _ HBW.out).mono ?_
          rintro e w4 ⟨rfl, hb4⟩
          have HA4 := Lib.hid (below_heap hb4 HA.out)
          have HP4 := Lib.hid (below_heap hb4 HPB.out)
          have HD4 := Lib.hid (below_heap hb4 HDB.out)
          have HB4 := Lib.hid (below_then HBW.out hb4)
          have y4 : w4.cell? ⟨ga, 2, none⟩ = some (.string ⟨#[]⟩) := cell_of_heap HA4.out 2
          have f4 : w4.frozen? ⟨ga, 2, none⟩ = false := free_of_heap HA4.out 2
          have HS4 := Lib.hid (heap_set HA4.out 2 (.string (SB 2)))
          clear hb4 d0 d1 d2 d3 HA HPB HDB
          go_wp2
          go_roundw
          case rel => exact ⟨.inr (.inr (.inr (.inl ⟨rfl, HS4.out⟩))), (heap_set_other hgp 2 _).trans HP4.out, (heap_set_other hgd 2 _).trans HD4.out, HB4.out.setCell (Nat.le_of_lt hga) _⟩
          case measure => simp [intOf]
        · have HA := Lib.hid ha
          have HPB := Lib.hid hp
          have HDB := Lib.hid hd
          have HBW := Lib.hid hb
          clear ha hp hd hb
          have d0 : wr.cell? ⟨w.heap.size, 0, none⟩ = some (.int .u64 (b0 : Nat)) := cell_of_heap HPB.out 0
          have d1 : wr.cell? ⟨w.heap.size, 1, none⟩ = some (.int .u64 (b1 : Nat)) := cell_of_heap HPB.out 1
          have d2 : wr.cell? ⟨w.heap.size, 2, none⟩ = some (.int .u64 (b2 : Nat)) := cell_of_heap HPB.out 2
          have d3 : wr.cell? ⟨w.heap.size, 3, none⟩ = some (.int .u64 (b3 : Nat)) := cell_of_heap HPB.out 3
          go_wp2_with fail
          refine (HWJ.out 3 (by omega) _ HBW.out).mono ?_
          rintro e w4 ⟨rfl, hb4⟩
          have HA4 := Lib.hid (below_heap hb4 HA.out)
          have HP4 := Lib.hid (below_heap hb4 HPB.out)
          have HD4 := Lib.hid (below_heap hb4 HDB.out)
          have HB4 := Lib.hid (below_then HBW.out hb4)
          have y4 : w4.cell? ⟨ga, 3, none⟩ = some (.string ⟨#[]⟩) := cell_of_heap HA4.out 3
          have f4 : w4.frozen? ⟨ga, 3, none⟩ = false := free_of_heap HA4.out 3
          have HS4 := Lib.hid (heap_set HA4.out 3 (.string (SB 3)))
          clear hb4 d0 d1 d2 d3 HA HPB HDB
          go_wp2
          go_roundw
          case rel => exact ⟨.inr (.inr (.inr (.inr (.inl ⟨rfl, HS4.out⟩)))), (heap_set_other hgp 3 _).trans HP4.out, (heap_set_other hgd 3 _).trans HD4.out, HB4.out.setCell (Nat.le_of_lt hga) _⟩
          case measure => simp [intOf]
        · have HA := Lib.hid ha
          have HPB := Lib.hid hp
          have HDB := Lib.hid hd
          have HBW := Lib.hid hb
          clear ha hp hd hb
          have d0 : wr.cell? ⟨w.heap.size, 0, none⟩ = some (.int .u64 (b0 : Nat)) := cell_of_heap HPB.out 0
          have d1 : wr.cell? ⟨w.heap.size, 1, none⟩ = some (.int .u64 (b1 : Nat)) := cell_of_heap HPB.out 1
          have d2 : wr.cell? ⟨w.heap.size, 2, none⟩ = some (.int .u64 (b2 : Nat)) := cell_of_heap HPB.out 2
          have d3 : wr.cell? ⟨w.heap.size, 3, none⟩ = some (.int .u64 (b3 : Nat)) := cell_of_heap HPB.out 3
          go_wp2_with fail
          refine (HWJ.out 4 (by omega) _ HBW.out).mono ?_
          rintro e w4 ⟨rfl, hb4⟩
          have HA4 := Lib.hid (below_heap hb4 HA.out)
          have HP4 := Lib.hid (below_heap hb4 HPB.out)
          have HD4 := Lib.hid (below_heap hb4 HDB.out)
          have HB4 := Lib.hid (below_then HBW.out hb4)
          have y4 : w4.cell? ⟨ga, 4, none⟩ = some (.string ⟨#[]⟩) := cell_of_heap HA4.out 4
          have f4 : w4.frozen? ⟨ga, 4, none⟩ = false := free_of_heap HA4.out 4
          have HS4 := Lib.hid (heap_set HA4.out 4 (.string (SB 4)))
          clear hb4 d0 d1 d2 d3 HA HPB HDB
          go_wp2
          go_roundw
          case rel => exact ⟨.inr (.inr (.inr (.inr (.inr (⟨rfl, HS4.out⟩))))), (heap_set_other hgp 4 _).trans HP4.out, (heap_set_other hgd 4 _).trans HD4.out, HB4.out.setCell (Nat.le_of_lt hga) _⟩
          case measure => simp [intOf]
        · have HA := Lib.hid ha
          have HDB := Lib.hid hd
          have HBW := Lib.hid hb
          clear ha hp hd hb
          obtain ⟨h0, h1, h2, h3, h4⟩ := HUU.out
          have HAA := HA.out
          rw [h2, h3, h4] at HAA
          rcases h0 with h0 | h0 <;> rcases h1 with h1 | h1 <;> cases sg <;>
          · rw [h0, h1] at HAA
            have HAB := Lib.hid HAA
            clear HAA h0 h1 h2 h3 h4 HUU HWJ HA
            have y0 := cell_of_heap HAB.out 0
            have y1 := cell_of_heap HAB.out 1
            have y2 := cell_of_heap HAB.out 2
            have y3 := cell_of_heap HAB.out 3
            have y4 := cell_of_heap HAB.out 4
            have x1 := cell_of_heap HDB.out 1
            simp at y0 y1 y2 y3 y4 x1
            go_wp2
            go_quiet (fail)
            go_wp2
            all_goals
              go_ret
              exact ⟨by simp, below_drewN' HBW.out _⟩
    · have hcd : (decide (cnt < 1) || decide (100 < cnt)) = true := by
        by_cases h1 : cnt < 1
        · rw [decide_eq_true h1]; rfl
        · rw [decide_eq_true (show 100 < cnt by omega), Bool.or_true]
      by_cases h1 : cnt < 1
      · clear hcn hcd
        go_wp2
        go_ret
        exact ⟨rfl, below_alloc HB2.out _⟩
      · have h2 : 100 < cnt := by omega
        clear hcn hcd
        go_wp2
        go_ret
        exact ⟨rfl, below_alloc HB2.out _⟩
  · clear d0 d1 d2 d3 H2 HP1 H1
    unfold datV
    go_wp2
    go_ret
    exact ⟨rfl, below_alloc HB2.out _⟩
end Go.Proofs.YtpodpdopgdkdkaaGreatDoor
namespace Go.Proofs.YtpodpdopgdkdkaaGreatDoor
open Go.RowKit
theorem fixedSides_row (n cnt : Int) (v : Value) (w : World) (_ : (Lit.int .i64 n).wf = true) (hc : (Lit.int .i64 cnt).wf = true) (h : ∃ b0 b1 b2 b3 : Nat, v = bitsV b0 b1 b2 b3 ∧ W64 [b0, b1, b2, b3]) (hT : Tab10 w) :
    Calls Tryz.prog 5 #[.int .i64 n, .int .i64 cnt, v] w fun e w' => e = .returned (.bool true) ∧ Below w.heap.size w w' := by
  obtain ⟨b0, b1, b2, b3, rfl, hb⟩ := h
  have := fx_i64 hc
  exact fixedSides_calls n cnt b0 b1 b2 b3 hb (by omega) (by omega) w hT
end Go.Proofs.YtpodpdopgdkdkaaGreatDoor
