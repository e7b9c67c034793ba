/- The contract of grammar.Cut at a number. -/
import Derived.Test.YtiocdgehpiagjaaDoorGrCut
namespace Go.Proofs.YtiocdgehpiagjaaDoor
open Go.RowKit
theorem dot_pure (r : List UInt8) : (Lib.hasPrefix r [46] = true → dotL r = runL (Lib.trimPrefix r [46])) ∧ (Lib.hasPrefix r [46] = false → dotL r = ([], r)) := by
  cases r with
  | nil => exact ⟨fun h => (by cases h), fun _ => rfl⟩
  | cons c u =>
    rw [pre_one, trim_one]
    by_cases hc : c = 46
    · subst hc
      exact ⟨fun _ => rfl, fun h => by cases h⟩
    · refine ⟨fun h => absurd (by simpa using h : 46 = c).symm hc, fun _ => ?_⟩
      unfold dotL
      simp only [if_neg hc]
theorem clamp_minmax (x : Int) : clampE x = min (max x (-1000000000)) 1000000000 := by
  unfold clampE
  split
  · omega
  · split <;> omega
theorem exp_in {l : List UInt8} {e : Int} (h : expL l = some e) : -2000000000 ≤ e ∧ e ≤ 2000000000 := by
  have hc : ∀ l, 0 ≤ clipE l ∧ clipE l ≤ 2000000000 := fun l => by unfold clipE; split <;> omega
  unfold expL at h
  split at h
  · cases h
  · simp only [Option.some.injEq] at h
    have := hc (signL l).2
    split at h <;> omega
theorem tail_in {l : List UInt8} {e : Int} (h : tailL l = some e) : -2000000000 ≤ e ∧ e ≤ 2000000000 := by
  unfold tailL at h
  split at h
  · cases h; decide
  · split at h
    · exact exp_in h
    · cases h
theorem run_len (l : List UInt8) : (runL l).1.length ≤ l.length ∧ (runL l).2.length ≤ l.length := by
  have : (runL l).1 ++ (runL l).2 = l := List.takeWhile_append_dropWhile
  have := congrArg List.length this
  rw [List.length_append] at this
  omega
set_option maxRecDepth 10000 in
set_option maxHeartbeats 4000000 in
theorem cut_fin' (t : ByteArray) (l : List UInt8) (h : t.data.toList = l) (hl : l.length ≤ 4000) (w : World) (hT : ∀ W, Below w.heap.size w W → Lib.Utf8Tabs 2 3 W) (hp : wordL (signL l).2 = none)
    (neg : Bool) (r whole r1 part rest : List UInt8) (e1 : signL l = (neg, r)) (e2 : runL r = (whole, r1)) (e3 : dotL r1 = (part, rest)) :
    Calls Tryd.prog 9 #[.string t] w fun e w' => e = .returned (.tuple #[.agg (partsV (finL neg whole part rest).1), .int .i64 (finL neg whole part rest).2]) ∧ Below w.heap.size w w' := by
  have hs := str_size h
  have lr : r.length ≤ 4000 := by
    have : r.length ≤ l.length := by have := sign_len l; rw [e1] at this; exact this
    omega
  have lr1 : r1.length ≤ 4000 := by
    have : r1.length ≤ r.length := by have := (run_len r).2; rw [e2] at this; exact this
    omega
  have lw : whole.length ≤ 4000 := by
    have : whole.length ≤ r.length := by have := (run_len r).1; rw [e2] at this; exact this
    omega
  have K1 := fun w => sign_calls t l h w
  have K2 := fun W hT => word_calls ⟨r.toArray⟩ r rfl lr W hT
  have K3 := fun W => run_calls ⟨r.toArray⟩ r rfl (by omega) W
  have K4 := fun W => Tryd.strings_CutPrefix ⟨r1.toArray⟩ ⟨#[46]⟩ W
  have e5 : (⟨r1.toArray⟩ : ByteArray).data.toList = r1 := rfl
  have e6 : (⟨#[46]⟩ : ByteArray).data.toList = [46] := rfl
  rw [e5, e6] at K4
  have lx : (Lib.trimPrefix r1 [46]).length ≤ r1.length := by unfold Lib.trimPrefix; split <;> simp
  have K5 := fun W => run_calls ⟨(Lib.trimPrefix r1 [46]).toArray⟩ (Lib.trimPrefix r1 [46]) rfl (by omega) W
  obtain ⟨dp1, dp2⟩ := dot_pure r1
  rw [e3] at dp1 dp2
  unfold wordR at K2
  rw [e1] at hp K1
  simp only [hp] at K2
  simp only [Option.getD_none, Option.isSome_none] at K2
  rw [e2] at K3
  simp only [] at K1 K3
  have hT1 := Lib.hid hT
  have J1 := Lib.hid K1
  have J2 := Lib.hid K2
  have J3 := Lib.hid K3
  generalize Lib.hasPrefix r1 [46] = ok at K4 dp1 dp2
  generalize Lib.trimPrefix r1 [46] = x at K4 K5 dp1 lx
  have J4 := Lib.hid K4
  have J5 := Lib.hid K5
  have HD := Lib.hid (And.intro dp1 dp2)
  have h2 : t.size ≤ 4000 := by omega
  have lrest : rest.length ≤ 4000 ∧ part.length ≤ 4000 := by
    cases ok
    · have := dp2 rfl
      simp only [Prod.mk.injEq] at this
      rw [this.1, this.2]
      exact ⟨lr1, by simp⟩
    · have := dp1 rfl
      have h3 := run_len x
      rw [← this] at h3
      simp only [] at h3
      omega
  obtain ⟨n, hn⟩ : ∃ n, t.size = n := ⟨_, rfl⟩
  rw [hn] at h2
  obtain ⟨b, hb⟩ : ∃ b, w.heap.size = b := ⟨_, rfl⟩
  have HBB : Hid (w.heap.size ≤ b) := Lib.hid (by rw [hb]; exact Nat.le_refl _)
  obtain ⟨WB, hWB⟩ : ∃ q : ByteArray, (⟨whole.toArray⟩ : ByteArray) = q := ⟨_, rfl⟩
  obtain ⟨PB, hPB⟩ : ∃ q : ByteArray, (⟨part.toArray⟩ : ByteArray) = q := ⟨_, rfl⟩
  obtain ⟨RB, hRB⟩ : ∃ q : ByteArray, (⟨rest.toArray⟩ : ByteArray) = q := ⟨_, rfl⟩
  have HW : Hid (WB.data.toList = whole) := Lib.hid (by rw [← hWB])
  have HPB : Hid (PB.data.toList = part ∧ (⟨part.toArray⟩ : ByteArray) = PB) := Lib.hid ⟨by rw [← hPB], hPB⟩
  have HRB : Hid (RB.data.toList = rest ∧ (⟨rest.toArray⟩ : ByteArray) = RB) := Lib.hid ⟨by rw [← hRB], hRB⟩
  rw [hWB] at J3
  clear h hl hs hT hp K1 K2 K3 K4 K5 dp1 dp2 e1 e2 e3 e5 e6 lr lr1 lx hWB hPB hRB
  go_enter Tryd.func9, Tryd.ntmps9
  go_wp2_with fail
  refine (J1.out _).mono ?_
  rintro e w1 ⟨rfl, rfl⟩
  have HB1 := Lib.hid (below_alloc (Below.refl w.heap.size w) (.cells #[.int .i64 0, .bool false, .bool false, .string ⟨#[]⟩, .int .i64 0] 24))
  have HX1 : Hid ((w.alloc (.cells #[.int .i64 0, .bool false, .bool false, .string ⟨#[]⟩, .int .i64 0] 24)).heap[b]? = some (.cells #[.int .i64 0, .bool false, .bool false, .string ⟨#[]⟩, .int .i64 0] 24 (0, 0))) := Lib.hid (by rw [← hb]; exact heap_new _ _)
  have HT1 : Hid (∀ W, Below (w.alloc (.cells #[.int .i64 0, .bool false, .bool false, .string ⟨#[]⟩, .int .i64 0] 24)).heap.size (w.alloc (.cells #[.int .i64 0, .bool false, .bool false, .string ⟨#[]⟩, .int .i64 0] 24)) W → Lib.Utf8Tabs 2 3 W) := Lib.hid (fun W hW => hT1.out W (below_then HB1.out hW))
  generalize w.alloc (.cells #[.int .i64 0, .bool false, .bool false, .string ⟨#[]⟩, .int .i64 0] 24) = w1 at *
  clear hb hT1
  go_wp2_with fail
  refine (J2.out _ HT1.out).mono ?_
  rintro e w2 ⟨rfl, hb2⟩
  have HB2 := Lib.hid (below_then HB1.out hb2)
  have HX2 := Lib.hid (below_heap hb2 HX1.out)
  clear hb2 HB1 HX1 HT1 J1 J2
  go_wp2_with (first
    | ((with_reducible refine gate_store 24 ?_); refine st_box 24 24 (w0 := w) HB2.out parts_info (fun W3 hb3 hk3 hX3 => ?_) (hn := rfl) (h1 := partsV_one noParts); have HY3 := Lib.hid (below_heap hk3 HX2.out); have HB3 := Lib.hid hb3; clear hb3 hk3 hX3)
    | ((with_reducible refine gate_store 24 ?_); refine st_box 24 24 (w0 := w) HB3.out parts_info (fun W4 hb4 hk4 hX4 => ?_) (hn := rfl); have HZ4 := Lib.hid hX4; have HY4 := Lib.hid (below_heap hk4 HY3.out); have HB4 := Lib.hid hb4; clear hb4 hk4 hX4)
    | fail)
  have HZ4' : Hid (Box5 W4 W3.heap.size 1 neg false ⟨#[]⟩ 0) := HZ4
  have HB8 : Hid (w.heap.size ≤ W3.heap.size ∧ b ≠ W3.heap.size) := Lib.hid ⟨HB3.out.size, by have := lt_of_heap HY3.out; omega⟩
  clear HZ4
  refine (J3.out _).mono ?_
  rintro e w5 ⟨rfl, hb5⟩
  have HB5 := Lib.hid (below_then HB4.out hb5)
  have HY5 := Lib.hid (below_heap hb5 HY4.out)
  have HZ5 : Hid (Box5 w5 W3.heap.size 1 neg false ⟨#[]⟩ 0) := Lib.hid (below_heap hb5 HZ4'.out)
  clear hb5 HB4 HY4 HZ4' HB2 HX2 HY3 HB3 J3
  generalize W3.heap.size = b8 at *
  go_wp2_with fail
  refine (J4.out _).mono ?_
  rintro e w6 ⟨rfl, rfl⟩
  go_upto_if 44 with fail
  go_cut [10, 5] (fun s10 s5 wx => s10 = .string PB ∧ s5 = .string RB ∧ Below w6.heap.size w6 wx)
  case first =>
    cases ok
    · have hd := HD.out.2 rfl
      simp only [Prod.mk.injEq] at hd
      have HE : Hid ((⟨#[]⟩ : ByteArray) = PB ∧ (⟨r1.toArray⟩ : ByteArray) = RB) := Lib.hid ⟨by rw [← HPB.out.2, hd.1], by rw [← HRB.out.2, hd.2]⟩
      clear hd
      go_wp2
      go_meet
      exact ⟨by rw [← HE.out.1], by rw [← HE.out.2], Below.refl _ _⟩
    · have hd := HD.out.1 rfl
      have K5 := J5.out w6
      rw [← hd] at K5
      simp only [] at K5
      rw [HPB.out.2, HRB.out.2] at K5
      have K5 := Lib.hid K5
      clear hd
      go_wp2_with fail
      refine K5.out.mono ?_
      rintro e w7 ⟨rfl, hb7⟩
      have HB7 := Lib.hid hb7
      clear hb7
      go_wp2
      go_meet
      exact ⟨rfl, rfl, HB7.out⟩
  case rest =>
  obtain ⟨rfl, rfl, hbc⟩ := hcut
  have HBC := Lib.hid (below_then HB5.out hbc)
  have HYC := Lib.hid (below_heap hbc HY5.out)
  have HZC : Hid (Box5 wc b8 1 neg false ⟨#[]⟩ 0) := Lib.hid (below_heap hbc HZ5.out)
  clear hbc HB5 HY5 HZ5 J4 J5 HD
  obtain ⟨e0, he0⟩ : ∃ q, (WB ++ PB).toList.isEmpty = q := ⟨_, rfl⟩
  have hE0 : (whole ++ part).isEmpty = e0 := by
    rw [← he0]
    refine (isEmpty_of ?_).symm
    rw [ByteArray.data_append, Array.toList_append, HW.out, HPB.out.1]
  have HE0 := Lib.hid hE0
  clear hE0
  have hcat : WB.size + PB.size ≤ 8000 := by rw [str_size HW.out, str_size HPB.out.1]; omega
  cases e0
  · have hne : Hid (¬ whole ++ part = []) := Lib.hid (by simpa using HE0.out)
    clear HE0
    have c4 : wc.cell? ⟨b8, 4, none⟩ = some (.int .i64 0) := HZC.out.cell 4
    have z4 : wc.frozen? ⟨b8, 4, none⟩ = false := free_of_heap HZC.out 4
    have HRL := Lib.hid lrest
    clear lrest
    obtain ⟨re, hre⟩ : ∃ q, RB.toList.isEmpty = q := ⟨_, rfl⟩
    go_upto_if 56 with fail
    go_cut [13] (fun s13 wx => ∃ e : Int, tailL rest = some e ∧ Box5 wx b8 1 neg false ⟨#[]⟩ e ∧ wx.heap[b]? = some (.cells #[.int .i64 0, .bool false, .bool false, .string ⟨#[]⟩, .int .i64 0] 24 (0, 0)) ∧ Below w.heap.size w wx)
    case first =>
      cases hrest : rest with
      | nil =>
        obtain rfl : re = true := by rw [← hre, isEmpty_of HRB.out.1, hrest]; rfl
        have HTL : Hid (tailL rest = some 0) := Lib.hid (by rw [hrest]; rfl)
        clear hrest
        go_wp2
        go_meet
        exact ⟨0, HTL.out, HZC.out, HYC.out, HBC.out⟩
      | cons c u =>
        obtain rfl : re = false := by rw [← hre, isEmpty_of HRB.out.1, hrest]; rfl
        have hsz : RB.size = u.length + 1 := by rw [str_size HRB.out.1, hrest]; simp
        have h0 : 0 < RB.size := by omega
        have hb0 : RB[0]'h0 = c := by
          have h1 : RB.data.toList[0]'(by rw [HRB.out.1, hrest]; simp) = c := by
            simp only [HRB.out.1, hrest, List.getElem_cons_zero]
          have h2 : RB.data[0]'h0 = c := by simpa using h1
          exact h2
        have hx : (RB.extract 1 RB.size).data.toList = u := by
          rw [ByteArray.data_extract, Array.toList_extract, HRB.out.1, hsz, hrest]
          simp
        have hul : u.length ≤ 4000 := by have := HRL.out.1; rw [hrest] at this; simp at this; omega
        have HEX := Lib.hid (exp_calls (RB.extract 1 RB.size) u hx hul wc)
        have hsz2 : (1 : Int) ≤ (RB.size : Int) := by omega
        have hsz3 : RB.size ≤ 5000 := by omega
        have HTL : Hid (tailL rest = if c = 101 ∨ c = 69 then expL u else none) := Lib.hid (by rw [hrest]; rfl)
        clear hsz hx hul hrest
        by_cases hc1 : c = 101
        · have HTL2 : Hid (tailL rest = expL u) := Lib.hid (by rw [HTL.out, if_pos (.inl hc1)])
          have q1 : ((((RB[0]'h0).toNat : Nat) : Int) == 101) = true := by rw [hb0]; subst hc1; rfl
          cases hexp : expL u with
          | none =>
            have HE2 : Hid (∀ w' : World, True) := Lib.hid (fun _ => trivial)
            have HFI : Hid (finL neg whole part rest = (noParts, 2)) := Lib.hid (by unfold finL; rw [if_neg hne.out, HTL2.out, hexp])
            have HX := HEX.out
            rw [hexp] at HX
            have HX := Lib.hid HX
            clear hexp HEX HTL2 HTL
            go_wp2_with fail
            refine HX.out.mono ?_
            rintro e w7 ⟨rfl, hb7⟩
            have HB7 := Lib.hid (below_then HBC.out hb7)
            have HY7 := Lib.hid (below_heap hb7 HYC.out)
            have HZ7 : Hid (Box5 w7 b8 1 neg false ⟨#[]⟩ 0) := Lib.hid (below_heap hb7 HZC.out)
            have d4 : w7.cell? ⟨b8, 4, none⟩ = some (.int .i64 0) := HZ7.out.cell 4
            have y4 : w7.frozen? ⟨b8, 4, none⟩ = false := free_of_heap HZ7.out 4
            clear hb7 HBC HYC HZC
            have hexv : expV none = .tuple #[.int .i64 0, .bool false] := rfl
            rw [hexv]
            clear hexv
            go_wp2_with ((with_reducible refine gate_store 24 ?_); refine st_row 24 b 24 ((heap_set_other HB8.out.2 4 (.int .i64 0)).trans HY7.out) parts_info ?_)
            exact bodyPost_ret (results_ct rfl _ _ b 24 (partsV noParts) _ _ rfl (setRow_heap _ _ _ _ _ _ ((heap_set_other HB8.out.2 4 (.int .i64 0)).trans HY7.out)) Tryd.underlying24 rfl parts_info) rfl
              ⟨by rw [HFI.out]; rfl, below_setRow (HB7.out.setCell HB8.out.1 _) HBB.out _⟩
          | some v =>
            have HX := HEX.out
            rw [hexp] at HX
            have HX := Lib.hid HX
            have HTV : Hid (tailL rest = some v) := Lib.hid (by rw [HTL2.out, hexp])
            clear hexp HEX HTL2 HTL
            go_wp2_with fail
            refine HX.out.mono ?_
            rintro e w7 ⟨rfl, hb7⟩
            have HB7 := Lib.hid (below_then HBC.out hb7)
            have HY7 := Lib.hid (below_heap hb7 HYC.out)
            have HZ7 : Hid (Box5 w7 b8 1 neg false ⟨#[]⟩ 0) := Lib.hid (below_heap hb7 HZC.out)
            have d4 : w7.cell? ⟨b8, 4, none⟩ = some (.int .i64 0) := HZ7.out.cell 4
            have y4 : w7.frozen? ⟨b8, 4, none⟩ = false := free_of_heap HZ7.out 4
            clear hb7 HBC HYC HZC
            have hexv : expV (some v) = .tuple #[.int .i64 v, .bool true] := rfl
            rw [hexv]
            clear hexv
            go_wp2
            go_meet
            exact ⟨v, HTV.out, heap_set HZ7.out 4 _, (heap_set_other HB8.out.2 4 _).trans HY7.out, HB7.out.setCell HB8.out.1 _⟩
        · by_cases hc2 : c = 69
          · have HTL2 : Hid (tailL rest = expL u) := Lib.hid (by rw [HTL.out, if_pos (.inr hc2)])
            have q1 : ((((RB[0]'h0).toNat : Nat) : Int) == 101) = false := by rw [hb0]; exact beq_eq_false_iff_ne.2 (fun e => hc1 (UInt8.toNat_inj.1 (by show c.toNat = 101; omega)))
            have q2 : ((((RB[0]'h0).toNat : Nat) : Int) == 69) = true := by rw [hb0]; subst hc2; rfl
            cases hexp : expL u with
            | none =>
              have HE2 : Hid (∀ w' : World, True) := Lib.hid (fun _ => trivial)
              have HFI : Hid (finL neg whole part rest = (noParts, 2)) := Lib.hid (by unfold finL; rw [if_neg hne.out, HTL2.out, hexp])
              have HX := HEX.out
              rw [hexp] at HX
              have HX := Lib.hid HX
              clear hexp HEX HTL2 HTL
              go_wp2_with fail
              refine HX.out.mono ?_
              rintro e w7 ⟨rfl, hb7⟩
              have HB7 := Lib.hid (below_then HBC.out hb7)
              have HY7 := Lib.hid (below_heap hb7 HYC.out)
              have HZ7 : Hid (Box5 w7 b8 1 neg false ⟨#[]⟩ 0) := Lib.hid (below_heap hb7 HZC.out)
              have d4 : w7.cell? ⟨b8, 4, none⟩ = some (.int .i64 0) := HZ7.out.cell 4
              have y4 : w7.frozen? ⟨b8, 4, none⟩ = false := free_of_heap HZ7.out 4
              clear hb7 HBC HYC HZC
              have hexv : expV none = .tuple #[.int .i64 0, .bool false] := rfl
              rw [hexv]
              clear hexv
              go_wp2_with ((with_reducible refine gate_store 24 ?_); refine st_row 24 b 24 ((heap_set_other HB8.out.2 4 (.int .i64 0)).trans HY7.out) parts_info ?_)
              exact bodyPost_ret (results_ct rfl _ _ b 24 (partsV noParts) _ _ rfl (setRow_heap _ _ _ _ _ _ ((heap_set_other HB8.out.2 4 (.int .i64 0)).trans HY7.out)) Tryd.underlying24 rfl parts_info) rfl
                ⟨by rw [HFI.out]; rfl, below_setRow (HB7.out.setCell HB8.out.1 _) HBB.out _⟩
            | some v =>
              have HX := HEX.out
              rw [hexp] at HX
              have HX := Lib.hid HX
              have HTV : Hid (tailL rest = some v) := Lib.hid (by rw [HTL2.out, hexp])
              clear hexp HEX HTL2 HTL
              go_wp2_with fail
              refine HX.out.mono ?_
              rintro e w7 ⟨rfl, hb7⟩
              have HB7 := Lib.hid (below_then HBC.out hb7)
              have HY7 := Lib.hid (below_heap hb7 HYC.out)
              have HZ7 : Hid (Box5 w7 b8 1 neg false ⟨#[]⟩ 0) := Lib.hid (below_heap hb7 HZC.out)
              have d4 : w7.cell? ⟨b8, 4, none⟩ = some (.int .i64 0) := HZ7.out.cell 4
              have y4 : w7.frozen? ⟨b8, 4, none⟩ = false := free_of_heap HZ7.out 4
              clear hb7 HBC HYC HZC
              have hexv : expV (some v) = .tuple #[.int .i64 v, .bool true] := rfl
              rw [hexv]
              clear hexv
              go_wp2
              go_meet
              exact ⟨v, HTV.out, heap_set HZ7.out 4 _, (heap_set_other HB8.out.2 4 _).trans HY7.out, HB7.out.setCell HB8.out.1 _⟩
          · have HFI : Hid (finL neg whole part rest = (noParts, 2)) := Lib.hid (by unfold finL; rw [if_neg hne.out, HTL.out, if_neg (by rintro (h | h); exact hc1 h; exact hc2 h)])
            have q1 : (((c.toNat : Nat) : Int) == 101) = false := by exact beq_eq_false_iff_ne.2 (fun e => hc1 (UInt8.toNat_inj.1 (by show c.toNat = 101; omega)))
            have q2 : (((c.toNat : Nat) : Int) == 69) = false := by exact beq_eq_false_iff_ne.2 (fun e => hc2 (UInt8.toNat_inj.1 (by show c.toNat = 69; omega)))
            clear HTL HEX
            go_wp2_with ((with_reducible refine gate_store 24 ?_); refine st_row 24 b 24 HYC.out parts_info ?_)
            exact bodyPost_ret (results_ct rfl _ _ b 24 (partsV noParts) _ _ rfl (setRow_heap _ _ _ _ _ _ HYC.out) Tryd.underlying24 rfl parts_info) rfl
              ⟨by rw [HFI.out]; rfl, below_setRow HBC.out HBB.out _⟩
    case rest =>
    obtain ⟨ev, hte, hZ, hY, hB⟩ := hcut
    have HZD := Lib.hid hZ
    have HYD := Lib.hid hY
    have HBD := Lib.hid hB
    have hev := tail_in hte
    have HTE := Lib.hid hte
    have hpl : PB.size = part.length := str_size HPB.out.1
    have HFI : Hid (finL neg whole part rest = (⟨1, neg, false, bareL (whole ++ part), clampE (ev - (part.length : Int))⟩, 0)) := Lib.hid (by unfold finL; rw [if_neg hne.out, HTE.out])
    have hpl4 := HRL.out.2
    have KB := Lib.hid (bare_calls (WB ++ PB) (whole ++ part) (by rw [ByteArray.data_append, Array.toList_append, HW.out, HPB.out.1]) wc)
    have k3 : wc.cell? ⟨b8, 3, none⟩ = some (.string ⟨#[]⟩) := HZD.out.cell 3
    have k4 : wc.cell? ⟨b8, 4, none⟩ = some (.int .i64 ev) := HZD.out.cell 4
    have y3 : wc.frozen? ⟨b8, 3, none⟩ = false := free_of_heap HZD.out 3
    have y4 : wc.frozen? ⟨b8, 4, none⟩ = false := free_of_heap HZD.out 4
    generalize part.length = pl at *
    clear hZ hY hB hte HZC HYC HBC c4 z4 hre
    go_wp2_with fail
    refine KB.out.mono ?_
    rintro e w8 ⟨rfl, rfl⟩
    have HM1 : Hid (((w8.setCell ⟨b8, 3, none⟩ (.string ⟨(bareL (whole ++ part)).toArray⟩)).setCell ⟨b8, 4, none⟩ (.int .i64 (min (max (ev - (pl : Nat)) (-1000000000)) 1000000000))).heap[b8]? = some (.cells (partsV ⟨1, neg, false, bareL (whole ++ part), min (max (ev - (pl : Nat)) (-1000000000)) 1000000000⟩) 24 (0, 0))) := Lib.hid (heap_set (heap_set HZD.out 3 (.string ⟨(bareL (whole ++ part)).toArray⟩)) 4 (.int .i64 (min (max (ev - (pl : Nat)) (-1000000000)) 1000000000)))
    have HM2 : Hid (((w8.setCell ⟨b8, 3, none⟩ (.string ⟨(bareL (whole ++ part)).toArray⟩)).setCell ⟨b8, 4, none⟩ (.int .i64 (min (max (ev - (pl : Nat)) (-1000000000)) 1000000000))).heap[b]? = some (.cells #[.int .i64 0, .bool false, .bool false, .string ⟨#[]⟩, .int .i64 0] 24 (0, 0))) := Lib.hid ((heap_set_other HB8.out.2 4 (.int .i64 (min (max (ev - (pl : Nat)) (-1000000000)) 1000000000))).trans ((heap_set_other HB8.out.2 3 (.string ⟨(bareL (whole ++ part)).toArray⟩)).trans HYD.out))
    have HM3 : Hid (Below w.heap.size w ((w8.setCell ⟨b8, 3, none⟩ (.string ⟨(bareL (whole ++ part)).toArray⟩)).setCell ⟨b8, 4, none⟩ (.int .i64 (min (max (ev - (pl : Nat)) (-1000000000)) 1000000000)))) := Lib.hid ((HBD.out.setCell HB8.out.1 (.string ⟨(bareL (whole ++ part)).toArray⟩)).setCell HB8.out.1 (.int .i64 (min (max (ev - (pl : Nat)) (-1000000000)) 1000000000)))
    clear HZD HYD HBD
    go_wp2_with (first
      | ((with_reducible refine gate_load 24 ?_); refine ld_row 24 b8 24 HM1.out Tryd.underlying24 parts_info ?_)
      | ((with_reducible refine gate_store 24 ?_); refine st_row 24 b 24 HM2.out parts_info ?_ (h1 := partsV_one _))
      | fail)
    exact bodyPost_ret (results_ct rfl _ _ b 24 _ _ _ rfl (setRow_heap _ _ _ _ _ _ HM2.out) Tryd.underlying24 rfl parts_info) rfl
      ⟨by rw [HFI.out, clamp_minmax]; rfl, below_setRow HM3.out HBB.out _⟩
  · have hfin : Hid (finL neg whole part rest = (noParts, 2)) := Lib.hid (by unfold finL; rw [if_pos (by simpa using HE0.out)])
    clear HE0
    go_wp2_with ((with_reducible refine gate_store 24 ?_); refine st_row 24 b 24 HYC.out parts_info ?_)
    exact bodyPost_ret (results_ct rfl _ _ b 24 (partsV noParts) _ _ rfl (setRow_heap _ _ _ _ _ _ HYC.out) Tryd.underlying24 rfl parts_info) rfl
      ⟨by rw [hfin.out]; rfl, below_setRow HBC.out HBB.out _⟩
def cutV (r : PartsL × Int) : Value := .tuple #[.agg (partsV r.1), .int .i64 r.2]
theorem cut_calls (t : ByteArray) (l : List UInt8) (h : t.data.toList = l) (hm : l.length ≤ 140737488351232) (w : World) (hT : ∀ W, Below w.heap.size w W → Lib.Utf8Tabs 2 3 W) :
    Calls Tryd.prog 9 #[.string t] w fun e w' => e = .returned (cutV (cutL l)) ∧ Below w.heap.size w w' := by
  unfold cutL
  by_cases hl : 4000 < l.length
  · rw [if_pos hl]
    exact cut_long t l h hl hm w
  · rw [if_neg hl]
    unfold bodyL
    cases hp : wordL (signL l).2 with
    | some p => exact cut_word t l h (by omega) w hT p hp
    | none => exact cut_fin' t l h (by omega) w hT hp (signL l).1 (signL l).2 _ _ _ _ rfl rfl rfl
end Go.Proofs.YtiocdgehpiagjaaDoor
