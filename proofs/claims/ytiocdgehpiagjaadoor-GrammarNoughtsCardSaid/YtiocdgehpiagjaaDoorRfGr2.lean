/- The reference's Small. -/
import Derived.Test.YtiocdgehpiagjaaDoorRfGr1
import Derived.WalkSpells
namespace Go.Proofs.YtiocdgehpiagjaaDoor
open Go.RowKit
/-- A fold over the bytes, done up to k. -/
def upTo (f : UInt8 → UInt8) (l : List UInt8) (k : Nat) : List UInt8 := (l.take k).map f ++ l.drop k
theorem upTo_len (f : UInt8 → UInt8) (l : List UInt8) (k : Nat) : (upTo f l k).length = l.length := by unfold upTo; simp; omega
theorem upTo_get (f : UInt8 → UInt8) {l : List UInt8} {k : Nat} (hk : k < l.length) : (upTo f l k)[k]'(by rw [upTo_len]; exact hk) = l[k]'hk := by
  unfold upTo
  rw [List.getElem_append_right (by simp; omega)]
  simp [Nat.min_eq_left (Nat.le_of_lt hk)]
theorem upTo_step (f : UInt8 → UInt8) {l : List UInt8} {k : Nat} (hk : k < l.length) : (upTo f l k).set k (f (l[k]'hk)) = upTo f l (k + 1) := by
  unfold upTo
  rw [List.set_append_right k _ (by simp; omega), List.take_succ_eq_append_getElem hk, List.map_append, List.append_assoc]
  simp [Nat.min_eq_left (Nat.le_of_lt hk)]
  rw [List.drop_eq_getElem_cons hk, List.set_cons_zero]
theorem upTo_same (f : UInt8 → UInt8) {l : List UInt8} {k : Nat} (hk : k < l.length) (h : f (l[k]'hk) = l[k]'hk) : upTo f l k = upTo f l (k + 1) := by
  rw [← upTo_step f hk, h]
  have := upTo_get f hk
  conv => rhs; rw [← this]
  rw [List.set_getElem_self]
theorem upTo_end (f : UInt8 → UInt8) (l : List UInt8) : upTo f l l.length = l.map f := by unfold upTo; simp
theorem back_run {W : World} {g : Nat} {l : List UInt8} (h : BRow W g l) {n : Nat} (hn : l.length = n) (cap : Nat) :
    (convert 34 9 (.slice (some ⟨g, 0, none⟩) n cap)).run Tryd.prog W = .ok (.string ⟨l.toArray⟩) W := by
  subst hn
  refine run_convert_bytes_back W 34 9 5 ⟨g, 0, none⟩ cap l Tryd.underlying34 Tryd.underlying5 Tryd.underlying9 fun j hj => ?_
  rw [Addr.add_mid, Nat.zero_add]
  exact h.cell j hj
theorem low_up {c : UInt8} (h1 : 65 ≤ c.toNat) (h2 : c.toNat ≤ 90) : (c.toNat : Int) + 32 = ((lowC c).toNat : Int) := by
  rw [low_toNat, if_pos ⟨h1, h2⟩]
  omega
set_option maxRecDepth 10000 in
set_option maxHeartbeats 2000000 in
theorem small_calls (t : ByteArray) (l : List UInt8) (h : t.data.toList = l) (hm : l.length ≤ 140737488351232) (w : World) :
    Calls Tryd.prog 36 #[.string t] w fun e w' => e = .returned (.string ⟨(l.map lowC).toArray⟩) ∧ Below w.heap.size w w' := by
  have hsz := str_size h
  obtain ⟨n, hn⟩ : ∃ n, l.length = n := ⟨_, rfl⟩
  rw [hn] at hsz hm
  have hcv := Lib.run_convert_string_bytes (P := Tryd.prog) w 9 34 5 t Tryd.underlying9 Tryd.underlying34 Tryd.underlying5
  have hrow := brow_new w 5 t
  rw [h] at hrow
  have HROW := Lib.hid hrow
  have HBL := Lib.hid (below_bytes w 5 t)
  rw [hsz] at hcv
  generalize grownCap w n 0 5 = cap at hcv
  generalize Lib.bytesWorld w 5 t = w1 at *
  obtain ⟨g, hg⟩ : ∃ g, w.heap.size = g := ⟨_, rfl⟩
  have HG := Lib.hid (Nat.le_of_eq hg)
  rw [hg] at hcv HROW
  have HN := Lib.hid hn
  clear h hn hrow hg
  go_enter Tryd.func36, Tryd.ntmps36
  go_wp2
  go_loopw [9] (fun i wr => ∃ k : Nat, k ≤ n ∧ i = .int .i64 k ∧ BRow wr g (upTo lowC l k) ∧ Below w.heap.size w wr) (fun i _ => n - (intOf i).toNat)
  case atStart => exact ⟨0, Nat.zero_le _, rfl, HROW.out, HBL.out⟩
  case round =>
    obtain ⟨k, hk, rfl, hr, hb⟩ := hrel
    have HR := Lib.hid hr
    have HB := Lib.hid hb
    clear hr hb hcv
    by_cases hlt : k < n
    · have hkl : k < l.length := by rw [HN.out]; exact hlt
      have hku : k < (upTo lowC l k).length := by rw [upTo_len]; exact hkl
      have c0 := HR.out.cell k hku
      have z0 := HR.out.free k hku
      rw [upTo_get lowC hkl] at c0
      have HST := Lib.hid (upTo_step lowC hkl)
      have HSM := Lib.hid (upTo_same lowC hkl)
      obtain ⟨c, hc⟩ : ∃ c, l[k]'hkl = c := ⟨_, rfl⟩
      rw [hc] at c0 HST HSM
      clear hc
      by_cases h1 : 65 ≤ c.toNat
      · by_cases h2 : c.toNat ≤ 90
        · have HU := Lib.hid (low_up h1 h2)
          have h1i : (65 : Int) ≤ (c.toNat : Int) := by omega
          have h2i : (c.toNat : Int) ≤ 90 := by omega
          clear h1 h2
          go_wp2
          go_roundw
          case rel => exact ⟨k + 1, by omega, by go_num, by rw [← HST.out]; exact HR.out.set k hku _ _ HU.out, HB.out.setCell HG.out _⟩
          case measure => simp [intOf]; omega
        · have HS : Hid (lowC c = c) := Lib.hid (by unfold lowC; rw [if_neg (by omega)])
          have h1i : (65 : Int) ≤ (c.toNat : Int) := by omega
          have h2i : (90 : Int) < (c.toNat : Int) := by omega
          clear h1 h2
          go_wp2
          go_roundw
          case rel => exact ⟨k + 1, by omega, by go_num, by rw [← HSM.out HS.out]; exact HR.out, HB.out⟩
          case measure => simp [intOf]; omega
      · have HS : Hid (lowC c = c) := Lib.hid (by unfold lowC; rw [if_neg (by omega)])
        have h1i : (c.toNat : Int) < 65 := by omega
        clear h1
        go_wp2
        go_roundw
        case rel => exact ⟨k + 1, by omega, by go_num, by rw [← HSM.out HS.out]; exact HR.out, HB.out⟩
        case measure => simp [intOf]; omega
    · obtain rfl : n = k := by omega
      have hbr : BRow wr g (l.map lowC) := by
        have := HR.out
        rw [← HN.out, upTo_end] at this
        exact this
      have hcb := back_run hbr (n := n) (by rw [List.length_map]; exact HN.out) cap
      clear hbr
      go_wp2
      go_ret
      exact ⟨rfl, HB.out⟩
end Go.Proofs.YtiocdgehpiagjaaDoor
