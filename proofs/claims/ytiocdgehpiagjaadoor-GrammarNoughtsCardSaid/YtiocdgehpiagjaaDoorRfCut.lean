/- The contract of the reference's Cut. -/
import Derived.Test.YtiocdgehpiagjaaDoorRfWord
namespace Go.Proofs.YtiocdgehpiagjaaDoor
open Go.RowKit
set_option maxRecDepth 10000 in
set_option maxHeartbeats 2000000 in
theorem rcut_long (t : ByteArray) (l : List UInt8) (h : t.data.toList = l) (hl : 4000 < l.length) (hm : l.length ≤ 140737488351232) (w : World) :
    Calls Tryd.prog 10 #[.string t] w fun e w' => e = .returned (.tuple #[.agg (partsV noParts), .int .i64 4]) ∧ Below w.heap.size w w' := by
  have hs := str_size h
  have h1 : 4000 < t.size := by omega
  have h2 : t.size ≤ 140737488351232 := by omega
  obtain ⟨n, hn⟩ : ∃ n, t.size = n := ⟨_, rfl⟩
  rw [hn] at h1 h2
  clear h hl hm hs
  go_enter Tryd.func10, Tryd.ntmps10
  go_wp2_with ((with_reducible refine gate_store 28 ?_); refine st_row 28 w.heap.size 28 (heap_new w (.cells #[.int .i64 0, .bool false, .bool false, .string ⟨#[]⟩, .int .i64 0] 28)) rparts_info ?_)
  exact bodyPost_ret (results_ct rfl _ _ w.heap.size 28 _ _ _ rfl (setRow_heap _ _ _ _ _ _ (heap_new w _)) Tryd.underlying28 rfl rparts_info) rfl
    ⟨rfl, below_setRow (below_alloc (Below.refl _ _) _) (Nat.le_refl _) _⟩
set_option maxRecDepth 10000 in
set_option maxHeartbeats 2000000 in
theorem rcut_word (t : ByteArray) (l : List UInt8) (h : t.data.toList = l) (hl : l.length ≤ 4000) (w : World) (p : PartsL) (hp : wordL (signL l).2 = some p) :
    Calls Tryd.prog 10 #[.string t] w fun e w' => e = .returned (.tuple #[.agg (partsV { p with sign := (signL l).1 }), .int .i64 0]) ∧ Below w.heap.size w w' := by
  have hs := str_size h
  have K1 := Lib.hid (fun w => refSign_calls t l h (by omega) w)
  have K2 := fun W => refWord_calls ⟨(signL l).2.toArray⟩ (signL l).2 rfl (Nat.le_trans (sign_len l) hl) W
  unfold wordR at K2
  rw [hp] at K2
  simp only [Option.getD_some, Option.isSome_some] at K2
  have J2 := Lib.hid K2
  generalize (signL l).1 = neg at K1 ⊢
  generalize (⟨(signL l).2.toArray⟩ : ByteArray) = r at K1 J2
  have h2 : t.size ≤ 4000 := by omega
  obtain ⟨n, hn⟩ : ∃ n, t.size = n := ⟨_, rfl⟩
  rw [hn] at h2
  obtain ⟨b, hb⟩ : ∃ b, w.heap.size = b := ⟨_, rfl⟩
  have HBB : Hid (w.heap.size ≤ b) := Lib.hid (by rw [hb]; exact Nat.le_refl _)
  clear h hl hs hp K2
  go_enter Tryd.func10, Tryd.ntmps10
  go_wp2_with fail
  refine (K1.out _).mono ?_
  rintro e w1 ⟨rfl, hb1⟩
  have HB1 := Lib.hid (below_then (below_alloc (Below.refl w.heap.size w) _) hb1)
  have HX1 : Hid (w1.heap[b]? = some (.cells #[.int .i64 0, .bool false, .bool false, .string ⟨#[]⟩, .int .i64 0] 28 (0, 0))) := Lib.hid (below_heap hb1 (by rw [← hb]; exact heap_new _ _))
  clear hb1 hb K1
  go_wp2_with fail
  refine (J2.out _).mono ?_
  rintro e w2 ⟨rfl, hb2⟩
  have HB2 := Lib.hid (below_then HB1.out hb2)
  have HX2 := Lib.hid (below_heap hb2 HX1.out)
  clear hb2 HB1 HX1 J2
  have HB6 : Hid (w.heap.size ≤ w2.heap.size ∧ b ≠ w2.heap.size) := Lib.hid ⟨HB2.out.size, by have := lt_of_heap HX2.out; omega⟩
  go_wp2_with (first
    | ((with_reducible refine gate_store 28 ?_); refine st_box 28 28 (w0 := w) HB2.out rparts_info (fun W3 hb3 hk3 hX3 => ?_) (hn := rfl) (h1 := partsV_one p); have c1 : W3.cell? ⟨w2.heap.size, 1, none⟩ = some (.bool p.sign) := cell_of_heap hX3 1; have z1 : W3.frozen? ⟨w2.heap.size, 1, none⟩ = false := free_of_heap hX3 1; have HX3 := Lib.hid hX3; have HY3 := Lib.hid (below_heap hk3 HX2.out); have HB3 := Lib.hid hb3; clear hb3 hk3 hX3)
    | ((with_reducible refine gate_load 28 ?_); refine ld_row 28 w2.heap.size 28 (heap_set HX3.out 1 (.bool neg)) Tryd.underlying28 rparts_info ?_)
    | ((with_reducible refine gate_store 28 ?_); refine st_row 28 b 28 ((heap_set_other HB6.out.2 1 (.bool neg)).trans HY3.out) rparts_info ?_ (h1 := partsV_one { p with sign := neg }))
    | fail)
  exact bodyPost_ret (results_ct rfl _ _ b 28 _ _ _ rfl (setRow_heap _ _ _ _ _ _ ((heap_set_other HB6.out.2 1 (.bool neg)).trans HY3.out)) Tryd.underlying28 rfl rparts_info) rfl
    ⟨rfl, below_setRow (HB3.out.setCell HB6.out.1 _) HBB.out _⟩
end Go.Proofs.YtiocdgehpiagjaaDoor
