/- The reference's Free and Set. No conditions. -/
import Derived.Test.YtojbdaeidbmjgaaRf23b
namespace Go.Proofs.Ytojbdaeidbmjgaa
set_option linter.unusedVariables false
set_option linter.unusedSimpArgs false
open Go.RowKit Go.Maps
/-- The list where the entry under x is e, if x is taken. -/
def putIf (L : List RefEnt) (x : Int) (e : RefEnt) : List RefEnt := if thereL L x then L.set (x - 1).toNat e else L
theorem putIf_nat (L : List RefEnt) (i : Nat) (hi : i < L.length) (e : RefEnt) (ht : thereL L ((i + 1 : Nat) : Int) = true) : putIf L ((i + 1 : Nat) : Int) e = L.set i e := by
  unfold putIf
  have e1 : (((i + 1 : Nat) : Int) - 1).toNat = i := by omega
  rw [ht, if_pos rfl, e1]
theorem putIf_no (L : List RefEnt) (x : Int) (e : RefEnt) (ht : thereL L x = false) : putIf L x e = L := by
  unfold putIf
  rw [ht]; rfl
set_option maxRecDepth 10000 in
set_option maxHeartbeats 1600000 in
theorem refFree_calls (w0 w : World) (sb rb : Nat) (v : Value) (L : List RefEnt) (hR : RefIs w0 w sb rb v L) (x : Int) (hx : -9223372036854775808 ≤ x ∧ x ≤ 9223372036854775807) (hl : L.length ≤ 1000) :
    Calls Try.prog 18 #[.pointer (some ⟨rb, 0, none⟩), .int .i64 x] w fun e w' => e = .returned (.int .i64 (if thereL L x then 0 else 6)) ∧ (∃ v', RefIs w0 w' sb rb v' (putIf L x ⟨zeroE, false⟩)) ∧ KeepR sb rb w w' := by
  have HTH := Lib.hid (there_calls w0 w sb rb v L hR x hx hl)
  obtain ⟨th, hth⟩ : ∃ q, thereL L x = q := ⟨_, rfl⟩
  rw [hth] at HTH ⊢
  have HR := Lib.hid hR
  cases th
  · rw [putIf_no L x _ hth]
    clear hth hR
    go_enter Try.func18, Try.ntmps18
    go_wp2_with fail
    refine HTH.out.mono ?_
    rintro e w2 ⟨rfl, rfl⟩
    go_wp2
    go_ret
    exact ⟨rfl, ⟨v, HR.out⟩, KeepR.refl _ _ _⟩
  · rcases there_cases L x with ⟨i, hi, rfl, ht⟩ | ⟨ht, _⟩
    · rw [putIf_nat L i hi _ hth]
      obtain ⟨lb, cap, cur, rfl, _⟩ := hR.shape (by omega)
      have s := hR.six i hi
      have HS := Lib.hid s
      have HC0 : Hid (w.cell? ⟨rb, 0, none⟩ = some (.slice (some ⟨lb, 0, none⟩) L.length cap)) := Lib.hid (cell_of_heap hR.hd 0)
      have hq := st6 hR i hi ⟨zeroE, false⟩
      have e1 : ((i + 1 : Nat) : Int) = (i : Int) + 1 := by omega
      rw [e1] at HTH ⊢
      have hi0 : (0 : Int) ≤ (i : Int) := by omega
      have hin : (i : Int) < (L.length : Int) := by omega
      have HQ : Hid (∃ W', W' = (((((w.setCell ⟨lb, i * 6, none⟩ (.int .i64 0)).setCell ⟨lb, i * 6 + 1, none⟩ (.int .u64 0)).setCell ⟨lb, i * 6 + 2, none⟩ (.int .u64 0)).setCell ⟨lb, i * 6 + 3, none⟩ (.int .u64 0)).setCell ⟨lb, i * 6 + 4, none⟩ (.int .u64 0)).setCell ⟨lb, i * 6 + 5, none⟩ (.bool false) ∧
        (∃ v', RefIs w0 W' sb rb v' (L.set i ⟨zeroE, false⟩)) ∧ KeepR sb rb w W') := Lib.hid (by
          obtain ⟨W', h1, h2, h3⟩ := hq
          exact ⟨W', h1, ⟨_, h2⟩, h3⟩)
      generalize L[i] = en at HS s
      obtain ⟨L', hL'⟩ : ∃ l, L.set i ⟨zeroE, false⟩ = l := ⟨_, rfl⟩
      rw [hL'] at HQ ⊢
      obtain ⟨n, hn⟩ : ∃ n, L.length = n := ⟨_, rfl⟩
      rw [hn] at HC0 hin
      have hn2 : n ≤ 1000 := by omega
      clear ht hth hR HR s e1 hq hL' hn hi hl hx
      obtain ⟨⟨en, e0, e1, e2, e3⟩, tk⟩ := en
      go_enter Try.func18, Try.ntmps18
      go_wp2_with fail
      refine HTH.out.mono ?_
      rintro e w2 ⟨rfl, rfl⟩
      clear HTH
      have c0 := HC0.out
      have x0 := HS.out.c0
      have x1 := HS.out.c1
      have x2 := HS.out.c2
      have x3 := HS.out.c3
      have x4 := HS.out.c4
      have x5 := HS.out.c5
      have f0 := HS.out.f (i * 6)
      have f1 := HS.out.f (i * 6 + 1)
      have f2 := HS.out.f (i * 6 + 2)
      have f3 := HS.out.f (i * 6 + 3)
      have f4 := HS.out.f (i * 6 + 4)
      have f5 := HS.out.f (i * 6 + 5)
      simp only at x0 x1 x2 x3 x4 x5
      go_wp2
      obtain ⟨W', hW', hv', hk'⟩ := HQ.out
      rw [← hW']
      go_ret
      exact ⟨rfl, hv', hk'⟩
    · rw [hth] at ht
      cases ht
set_option maxRecDepth 10000 in
set_option maxHeartbeats 1600000 in
theorem refSet_calls (w0 w : World) (sb rb : Nat) (v : Value) (L : List RefEnt) (hR : RefIs w0 w sb rb v L) (x : Int) (hx : -9223372036854775808 ≤ x ∧ x ≤ 9223372036854775807) (hl : L.length ≤ 1000) (num : Int) (b0 b1 b2 b3 : Nat) (hb : W64 [b0, b1, b2, b3]) :
    Calls Try.prog 19 #[.pointer (some ⟨rb, 0, none⟩), .int .i64 x, .int .i64 num, bitsV b0 b1 b2 b3] w fun e w' =>
      e = .returned (.int .i64 (setErr (fitsF num b0 b1 b2 b3) (thereL L x))) ∧ (∃ v', RefIs w0 w' sb rb v' (if fitsF num b0 b1 b2 b3 then putIf L x ⟨⟨num, b0, b1, b2, b3⟩, true⟩ else L)) ∧ KeepR sb rb w w' := by
  obtain ⟨ft, hft⟩ : ∃ q, fitsF num b0 b1 b2 b3 = q := ⟨_, rfl⟩
  have HF := Lib.hid (fun w => refFits_calls num b0 b1 b2 b3 hb w)
  unfold bitsV at HF ⊢
  rw [hft] at HF
  rw [hft]
  have HR := Lib.hid hR
  have HLT := Lib.hid hl
  obtain ⟨th, hth⟩ : ∃ q, thereL L x = q := ⟨_, rfl⟩
  have HTHW := Lib.hid (fun W (h : RefIs w0 W sb rb v L) => there_calls w0 W sb rb v L h x hx hl)
  rw [hth] at HTHW ⊢
  have HTB := Lib.hid hth
  clear hft hb hR hl hth
  go_enter Try.func19, Try.ntmps19
  go_wp2_with fail
  have HB0 := Lib.hid (below_alloc (Below.refl w.heap.size w) (.cells #[.int .u64 (b0 : Nat), .int .u64 (b1 : Nat), .int .u64 (b2 : Nat), .int .u64 (b3 : Nat)] 31))
  have HX0 := Lib.hid (heap_new w (.cells #[.int .u64 (b0 : Nat), .int .u64 (b1 : Nat), .int .u64 (b2 : Nat), .int .u64 (b3 : Nat)] 31))
  generalize w.alloc (.cells #[.int .u64 (b0 : Nat), .int .u64 (b1 : Nat), .int .u64 (b2 : Nat), .int .u64 (b3 : Nat)] 31) = wa at HB0 HX0 ⊢
  refine (HF.out _).mono ?_
  rintro e w1 ⟨rfl, hb1⟩
  have HB1 := Lib.hid (below_then HB0.out hb1)
  have HX1 := Lib.hid (below_heap hb1 HX0.out)
  have HR1 := Lib.hid (HR.out.grow HB1.out)
  clear hb1 HB0 HX0 HF
  cases ft
  · go_wp2
    go_ret
    exact ⟨rfl, ⟨v, HR1.out⟩, KeepR.of_below HB1.out⟩
  have HTH := Lib.hid (HTHW.out w1 HR1.out)
  clear HTHW
  cases th
  · go_wp2_with fail
    refine HTH.out.mono ?_
    rintro e w2 ⟨rfl, rfl⟩
    go_wp2
    go_ret
    exact ⟨rfl, ⟨v, by rw [putIf_no L x _ HTB.out]; exact HR1.out⟩, KeepR.of_below HB1.out⟩
  · rcases there_cases L x with ⟨i, hi, rfl, ht⟩ | ⟨ht, _⟩
    · have HPI : Hid (putIf L ((i : Int) + 1) ⟨⟨num, b0, b1, b2, b3⟩, true⟩ = L.set i ⟨⟨num, b0, b1, b2, b3⟩, true⟩) := Lib.hid (by
        have := putIf_nat L i hi ⟨⟨num, b0, b1, b2, b3⟩, true⟩ HTB.out
        rw [show ((i + 1 : Nat) : Int) = (i : Int) + 1 by omega] at this
        exact this)
      obtain ⟨lb, cap, cur, rfl, _⟩ := HR1.out.shape (by omega)
      have HR2 := Lib.hid (HR1.out.grow (Below.refl w1.heap.size w1).drew)
      have s := HR2.out.six i hi
      have HS := Lib.hid s
      have HC0 : Hid (w1.cell? ⟨rb, 0, none⟩ = some (.slice (some ⟨lb, 0, none⟩) L.length cap)) := Lib.hid (cell_of_heap HR1.out.hd 0)
      have hq := st6 HR2.out i hi ⟨⟨num, b0, b1, b2, b3⟩, true⟩
      have e1 : ((i + 1 : Nat) : Int) = (i : Int) + 1 := by omega
      rw [e1] at HTH
      have hi0 : (0 : Int) ≤ (i : Int) := by omega
      have hin : (i : Int) < (L.length : Int) := by omega
      have HQ : Hid (∃ W', W' = (((((w1.drew.setCell ⟨lb, i * 6, none⟩ (.int .i64 num)).setCell ⟨lb, i * 6 + 1, none⟩ (.int .u64 b0)).setCell ⟨lb, i * 6 + 2, none⟩ (.int .u64 b1)).setCell ⟨lb, i * 6 + 3, none⟩ (.int .u64 b2)).setCell ⟨lb, i * 6 + 4, none⟩ (.int .u64 b3)).setCell ⟨lb, i * 6 + 5, none⟩ (.bool true) ∧
        (∃ v', RefIs w0 W' sb rb v' (L.set i ⟨⟨num, b0, b1, b2, b3⟩, true⟩)) ∧ KeepR sb rb w1.drew W') := Lib.hid (by
          obtain ⟨W', h1, h2, h3⟩ := hq
          exact ⟨W', h1, ⟨_, h2⟩, h3⟩)
      generalize L[i] = en at HS s
      obtain ⟨L', hL'⟩ : ∃ l, L.set i ⟨⟨num, b0, b1, b2, b3⟩, true⟩ = l := ⟨_, rfl⟩
      rw [hL'] at HQ HPI
      have hll := HLT.out
      obtain ⟨n, hn⟩ : ∃ n, L.length = n := ⟨_, rfl⟩
      rw [hn] at HC0 hin hll
      clear ht HR HR1 HR2 s e1 hq hL' hn hi hx HLT
      obtain ⟨⟨en, e0, e1, e2, e3⟩, tk⟩ := en
      go_wp2_with fail
      refine HTH.out.mono ?_
      rintro e w2 ⟨rfl, rfl⟩
      clear HTH
      have c0 := HC0.out
      have y0 : w1.cell? ⟨w.heap.size, 0, none⟩ = some (.int .u64 b0) := cell_of_heap HX1.out 0
      have y1 : w1.cell? ⟨w.heap.size, 1, none⟩ = some (.int .u64 b1) := cell_of_heap HX1.out 1
      have y2 : w1.cell? ⟨w.heap.size, 2, none⟩ = some (.int .u64 b2) := cell_of_heap HX1.out 2
      have y3 : w1.cell? ⟨w.heap.size, 3, none⟩ = some (.int .u64 b3) := cell_of_heap HX1.out 3
      have hwi : IntKind.i64.wrap (i : Int) = (i : Int) := IntWalk.i64_in _ (by omega)
      have hwi1 : IntKind.i64.wrap ((i : Int) + 1 - 1) = (i : Int) := by rw [show (i : Int) + 1 - 1 = i by omega]; exact hwi
      go_wp2_with fail
      go_still_tail 10, (by kernel_rfl)
      change wpList _ _ _ _ _ w1.drew
      have HD := Lib.hid (Below.refl w1.heap.size w1).drew
      clear c0 y0 y1 y2 y3 hwi hwi1 hi0 hin HC0 HX1
      have HB2 := Lib.hid (KeepR.trans (KeepR.of_below (sb := sb) (rb := rb) HB1.out) (KeepR.of_below HD.out))
      clear HD HB1
      generalize w1.drew = wd at *
      have x0 := HS.out.c0
      have x1 := HS.out.c1
      have x2 := HS.out.c2
      have x3 := HS.out.c3
      have x4 := HS.out.c4
      have x5 := HS.out.c5
      have f0 := HS.out.f (i * 6)
      have f1 := HS.out.f (i * 6 + 1)
      have f2 := HS.out.f (i * 6 + 2)
      have f3 := HS.out.f (i * 6 + 3)
      have f4 := HS.out.f (i * 6 + 4)
      have f5 := HS.out.f (i * 6 + 5)
      simp only at x0 x1 x2 x3 x4 x5
      go_wp2
      obtain ⟨W', hW', hv', hk'⟩ := HQ.out
      rw [← hW']
      go_ret
      exact ⟨rfl, (by rw [HPI.out]; exact hv'), HB2.out.trans hk'⟩
    · rw [HTB.out] at ht
      cases ht
end Go.Proofs.Ytojbdaeidbmjgaa
