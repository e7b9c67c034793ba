/- The contract of grammar.word. -/
import Derived.Test.YtiocdgehpiagjaaDoorGrWalk1
namespace Go.Proofs.YtiocdgehpiagjaaDoor
open Go.RowKit
def sv (l : List UInt8) : Value := .string ⟨l.toArray⟩
/-- A text's parts as the program has them. -/
def partsV (p : PartsL) : Array Value := #[.int .i64 p.cls, .bool p.sign, .bool p.sig, sv p.digits, .int .i64 p.exp]
def wordR (l : List UInt8) : PartsL := (wordL l).getD noParts
theorem row5 {W : World} {b t : Nat} {cs : Array Value} (h : W.heap[b]? = some (.cells cs t (0, 0))) (hs : cs.size = 5) (v0 v1 v2 v3 v4 : Value) :
    (((((W.setCell ⟨b, 0, none⟩ v0).setCell ⟨b, 1, none⟩ v1).setCell ⟨b, 2, none⟩ v2).setCell ⟨b, 3, none⟩ v3).setCell ⟨b, 4, none⟩ v4).heap[b]? = some (.cells #[v0, v1, v2, v3, v4] t (0, 0)) := by
  have h0 := heap_set h 0 v0
  generalize W.setCell ⟨b, 0, none⟩ v0 = W0 at h0 ⊢
  have h1 := heap_set h0 1 v1
  generalize W0.setCell ⟨b, 1, none⟩ v1 = W1 at h1 ⊢
  have h2 := heap_set h1 2 v2
  generalize W1.setCell ⟨b, 2, none⟩ v2 = W2 at h2 ⊢
  have h3 := heap_set h2 3 v3
  generalize W2.setCell ⟨b, 3, none⟩ v3 = W3 at h3 ⊢
  rw [heap_set h3 4 v4]
  obtain ⟨l⟩ := cs
  match l, hs with
  | [a0, a1, a2, a3, a4], _ => simp
theorem below5 {w W : World} (hb : Below w.heap.size w W) {b : Nat} (hB : w.heap.size ≤ b) (v0 v1 v2 v3 v4 : Value) :
    Below w.heap.size w (((((W.setCell ⟨b, 0, none⟩ v0).setCell ⟨b, 1, none⟩ v1).setCell ⟨b, 2, none⟩ v2).setCell ⟨b, 3, none⟩ v3).setCell ⟨b, 4, none⟩ v4) :=
  ((((hb.setCell hB _).setCell hB _).setCell hB _).setCell hB _).setCell hB _
theorem parts_info : (Tryd.prog.info? 24).map (·.size) = some 5 := by kernel_rfl
/-- Parts in block b, in plain words. -/
def Box5 (w : World) (b : Nat) (c : Int) (s g : Bool) (d : ByteArray) (x : Int) : Prop := w.heap[b]? = some (.cells #[.int .i64 c, .bool s, .bool g, .string d, .int .i64 x] 24 (0, 0))
theorem Box5.cell {w : World} {b : Nat} {c : Int} {s g : Bool} {d : ByteArray} {x : Int} (h : Box5 w b c s g d x) (i : Nat) : w.cell? ⟨b, i, none⟩ = (#[.int .i64 c, .bool s, .bool g, .string d, .int .i64 x] : Array Value)[i]? := cell_of_heap h i
set_option maxRecDepth 10000 in
set_option maxHeartbeats 1000000 in
theorem wordInf (t : ByteArray) (hs : t.size ≤ 4000) (w : World) (hT : ∀ W, Below w.heap.size w W → Lib.Utf8Tabs 2 3 W) (S : List UInt8) (hS : Lib.mapD lowF t.data.toList = S) (hI : S = infS ∨ S = infinityS) :
    Calls Tryd.prog 17 #[.string t] w fun e w' => e = .returned (.tuple #[.agg (partsV ⟨2, false, false, [], 0⟩), .bool true]) ∧ Below w.heap.size w w' := by
  have K1 := Lib.hid (lower_calls t (w.alloc (.cells #[.int .i64 0, .bool false, .bool false, .string ⟨#[]⟩, .int .i64 0] 24)) (by omega) (hT _ (below_alloc (Below.refl _ _) _)))
  have e1 : (⟨S.toArray⟩ : ByteArray).toList = S := Lib.toList_data _
  rw [hS] at K1
  generalize (⟨S.toArray⟩ : ByteArray) = T at K1 e1
  obtain ⟨q, hq⟩ : ∃ q, (T.toList == [105, 110, 102]) = q := ⟨_, rfl⟩
  have hq2 : q = false → (T.toList == [105, 110, 102, 105, 110, 105, 116, 121]) = true := fun h => by
    rw [e1] at hq ⊢
    rcases hI with rfl | rfl
    · rw [← hq] at h; cases h
    · rfl
  have HQ2 := Lib.hid hq2
  clear hS hI e1 hT hq2
  obtain ⟨b, hbb⟩ : ∃ b, w.heap.size = b := ⟨_, rfl⟩
  have HBB := Lib.hid hbb
  cases q
  · have e2 := HQ2.out rfl
    clear HQ2
    go_enter Tryd.func17, Tryd.ntmps17
    go_wp2_with fail
    refine K1.out.mono ?_
    rintro e w1 ⟨rfl, hb⟩
    have HP : Box5 w1 b 0 false false ⟨#[]⟩ 0 := below_heap hb (by rw [← hbb]; exact heap_new _ _)
    have c0 : w1.cell? ⟨b, 0, none⟩ = some (.int .i64 0) := HP.cell 0
    have c1 : w1.cell? ⟨b, 1, none⟩ = some (.bool false) := HP.cell 1
    have c2 : w1.cell? ⟨b, 2, none⟩ = some (.bool false) := HP.cell 2
    have c3 : w1.cell? ⟨b, 3, none⟩ = some (.string ⟨#[]⟩) := HP.cell 3
    have c4 : w1.cell? ⟨b, 4, none⟩ = some (.int .i64 0) := HP.cell 4
    have z0 := free_of_heap HP 0
    have z1 := free_of_heap HP 1
    have z2 := free_of_heap HP 2
    have z3 := free_of_heap HP 3
    have z4 := free_of_heap HP 4
    have HH := Lib.hid HP
    have HB : Hid (Below w.heap.size w w1) := Lib.hid (below_then (below_alloc (Below.refl _ _) _) hb)
    clear hb HP hbb K1
    go_wp2
    exact bodyPost_ret (results_ct rfl _ _ b 24 _ _ _ rfl (row5 (heap_set HH.out 0 _) rfl _ _ _ _ _) Tryd.underlying24 rfl parts_info) rfl
      ⟨rfl, below5 (HB.out.setCell (by rw [HBB.out]; exact Nat.le_refl _) _) (by rw [HBB.out]; exact Nat.le_refl _) _ _ _ _ _⟩
  · clear HQ2
    go_enter Tryd.func17, Tryd.ntmps17
    go_wp2_with fail
    refine K1.out.mono ?_
    rintro e w1 ⟨rfl, hb⟩
    have HP : Box5 w1 b 0 false false ⟨#[]⟩ 0 := below_heap hb (by rw [← hbb]; exact heap_new _ _)
    have c0 : w1.cell? ⟨b, 0, none⟩ = some (.int .i64 0) := HP.cell 0
    have c1 : w1.cell? ⟨b, 1, none⟩ = some (.bool false) := HP.cell 1
    have c2 : w1.cell? ⟨b, 2, none⟩ = some (.bool false) := HP.cell 2
    have c3 : w1.cell? ⟨b, 3, none⟩ = some (.string ⟨#[]⟩) := HP.cell 3
    have c4 : w1.cell? ⟨b, 4, none⟩ = some (.int .i64 0) := HP.cell 4
    have z0 := free_of_heap HP 0
    have z1 := free_of_heap HP 1
    have z2 := free_of_heap HP 2
    have z3 := free_of_heap HP 3
    have z4 := free_of_heap HP 4
    have HH := Lib.hid HP
    have HB : Hid (Below w.heap.size w w1) := Lib.hid (below_then (below_alloc (Below.refl _ _) _) hb)
    clear hb HP hbb K1
    go_wp2
    exact bodyPost_ret (results_ct rfl _ _ b 24 _ _ _ rfl (row5 (heap_set HH.out 0 _) rfl _ _ _ _ _) Tryd.underlying24 rfl parts_info) rfl
      ⟨rfl, below5 (HB.out.setCell (by rw [HBB.out]; exact Nat.le_refl _) _) (by rw [HBB.out]; exact Nat.le_refl _) _ _ _ _ _⟩
end Go.Proofs.YtiocdgehpiagjaaDoor
