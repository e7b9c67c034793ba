/- '[]byte(s)' in memory, byte by byte; the reference's IsDigits. -/
import Derived.Test.YtiocdgehpiagjaaDoorGrCut2
import Derived.Lib.ConvBytes
import Derived.Laws.IdiomStrings
namespace Go.Proofs.YtiocdgehpiagjaaDoor
open Go.RowKit
/-- The bytes l lie in block g from its begin. -/
structure BRow (W : World) (g : Nat) (l : List UInt8) : Prop where
  cell : ∀ j (hj : j < l.length), W.cell? ⟨g, j, none⟩ = some (.int .u8 (l[j].toNat : Int))
  free : ∀ j, j < l.length → W.frozen? ⟨g, j, none⟩ = false
theorem brow_new (w : World) (e : TypeId) (s : ByteArray) : BRow (Lib.bytesWorld w e s) w.heap.size s.data.toList := by
  have hs : s.size = s.data.toList.length := by simp
  constructor
  · intro j hj
    rw [Lib.bytesWorld_cell w e s j (by omega)]
    simp [List.getD_eq_getElem?_getD, List.getElem?_eq_getElem hj]
  · intro j hj
    have h1 : s.size ≤ (Lib.bytesCells w e s).size := by unfold Lib.bytesCells; simp
    simp only [World.frozen?, Lib.bytesWorld_at_new]
    simp
    omega
theorem cell_set_other (W : World) (g i j : Nat) (v : Value) (h : j ≠ i) : (W.setCell ⟨g, i, none⟩ v).cell? ⟨g, j, none⟩ = W.cell? ⟨g, j, none⟩ :=
  World.cell?_setCell_other W ⟨g, i, none⟩ ⟨g, j, none⟩ v (by first | (simp; done) | (simp; omega))
theorem BRow.set {W : World} {g : Nat} {l : List UInt8} (h : BRow W g l) (i : Nat) (hi : i < l.length) (c : UInt8) (z : Int) (hz : z = (c.toNat : Int)) : BRow (W.setCell ⟨g, i, none⟩ (.int .u8 z)) g (l.set i c) := by
  subst hz
  constructor
  · intro j hj
    rw [List.length_set] at hj
    by_cases e : i = j
    · subst e
      rw [World.cell?_setCell_same W ⟨g, i, none⟩ _ (h.cell i hi)]
      simp
    · rw [cell_set_other W g i j _ (fun e' => e e'.symm), h.cell j hj, List.getElem_set_ne e]
  · intro j hj
    rw [List.length_set] at hj
    rw [World.frozen?_setCell]
    exact h.free j hj
theorem take_snoc' (s : ByteArray) (k : Nat) (h : k < s.size) : s.data.toList.take (k + 1) = s.data.toList.take k ++ [s[k]] := by
  rw [List.take_succ_eq_append_getElem (by simpa using h)]; rfl
theorem digs_no {l : List UInt8} {k : Nat} {c : UInt8} (hc : l.take (k + 1) = l.take k ++ [c]) (h : isDig c = false) : digs l = false := by
  rcases hd : digs l with _ | _
  · rfl
  · have h1 := digs_take hd (k + 1)
    rw [hc] at h1
    have h2 := (digs_append.1 h1).2
    have h3 := (digs_cons.1 h2).1
    rw [h] at h3
    cases h3
set_option maxRecDepth 10000 in
set_option maxHeartbeats 1000000 in
theorem isDigits_calls (s : ByteArray) (w : World) (hs : s.size ≤ 140737488351232) :
    Calls Tryd.prog 37 #[.string s] w fun e w' => e = .returned (.bool (decide (0 < s.size) && digs s.data.toList)) ∧ w' = w := by
  go_enter Tryd.func37, Tryd.ntmps37
  go_wp2
  go_loop [3] (fun i => ∃ k : Nat, k ≤ s.size ∧ i = .int .i64 k ∧ digs (s.data.toList.take k) = true) (fun i => s.size - (intOf i).toNat)
  case atStart => exact ⟨0, Nat.zero_le _, rfl, rfl⟩
  case round =>
    obtain ⟨k, hk, rfl, hd⟩ := hrel
    have HD := Lib.hid hd
    clear hd
    by_cases hlt : k < s.size
    · have HTS := Lib.hid (take_snoc' s k hlt)
      rcases hc : isDig s[k] with _ | _
      · have HN := Lib.hid (digs_no HTS.out hc)
        have hc2 : ¬ (48 ≤ s[k].toNat ∧ s[k].toNat ≤ 57) := fun h => by rw [isDig_iff.2 h] at hc; cases hc
        have HF : Hid ((decide (0 < s.size) && digs s.data.toList) = false) := Lib.hid (by rw [HN.out, Bool.and_false])
        by_cases h1 : s[k].toNat < 48
        · clear hc hc2
          have h1i : (s[k].toNat : Int) < 48 := by omega
          go_wp2
          go_ret
          exact ⟨by rw [HF.out]; rfl, rfl⟩
        · have h2i : (57 : Int) < (s[k].toNat : Int) := by omega
          have h1i : ¬ (s[k].toNat : Int) < 48 := by omega
          clear hc hc2 h1
          go_wp2
          go_ret
          exact ⟨by rw [HF.out]; rfl, rfl⟩
      · obtain ⟨h1, h2⟩ := isDig_iff.1 hc
        have HC := Lib.hid hc
        clear hc
        go_wp2
        go_round
        case rel => exact ⟨k + 1, by omega, by go_num, by rw [HTS.out]; exact digs_append.2 ⟨HD.out, digs_cons.2 ⟨HC.out, rfl⟩⟩⟩
        case measure => simp [intOf]; omega
    · have hke : s.size = k := by omega
      have HF : Hid (digs s.data.toList = true) := Lib.hid (by have := HD.out; rw [← hke, List.take_of_length_le (by simp)] at this; exact this)
      clear hke
      go_wp2
      go_ret
      exact ⟨by rw [HF.out, Bool.and_true]; congr 2, rfl⟩
end Go.Proofs.YtiocdgehpiagjaaDoor
