/- The reference's Handles. No conditions. -/
import Derived.Test.YtojbdaeidbmjgaaRf23d
namespace Go.Proofs.Ytojbdaeidbmjgaa
set_option linter.unusedVariables false
set_option linter.unusedSimpArgs false
open Go.RowKit Go.Maps
theorem int_info : (Try.prog.info? 3).map (fun i => (i.zero, i.size, i.bytes)) = some (some (.int .i64 0), 1, 8) := by kernel_rfl
section
variable {ops : Array Oper} {rest : List Oper} {Q : Exit → Act → World → Prop} {a : Act} {w : World} {d : Option Tmp} {x y : Operand} {T : TypeId} {pos : String} {af : Array Edge}
/-- append(out, n). -/
theorem app_int {w0 : World} (hB : Below w0.heap.size w0 w) {v : Value} {n g : Nat} {xs : List Value} (z : Int) (hs : w.ownsRow w0.heap.size 3 1 v n xs) (hx : w.cell? ⟨g, 0, none⟩ = some (.int .i64 z)) (hlen : n + 1 ≤ 1000000)
    (h : ∀ (W : World) (v' : Value), Below w0.heap.size w0 W → W.ownsRow w0.heap.size 3 1 v' (n + 1) (xs ++ [.int .i64 z]) → wpList Try.prog ops Q rest (a.put d v') W)
    (he : a.eval x = v := by rfl) (hf : a.eval y = .slice (some ⟨g, 0, none⟩) 1 1 := by rfl) :
    wpList Try.prog ops Q ({ dst := d, op := .call { callee := .builtin .append, args := #[x, y], argTypes := #[65, 65] }, type := T, pos := pos, after := af, guard := none } :: rest) a w := by
  obtain ⟨i0, hi, hz0, hz1, hz2⟩ := info_parts int_info
  refine wpList_append_own _ rfl x y 65 rfl w0.heap.size 3 i0 (.int .i64 0) 1 8 Try.underlying65 hi hz0 hz1 hz2 rfl (by omega) v n _ he hs ⟨g, 0, none⟩ 1 1 [.int .i64 z] hf rfl ?_ (by simp [Value.oneCell']) (by unfold maxLen; omega) (by omega) hB.size ?_
  · intro j u hu
    cases j with
    | zero =>
      cases hu
      rw [Addr.add_mid]
      exact hx
    | succ j => simp at hu
  · intro v' W ho hg _
    exact h W v' (hB.grown hg hB.size fun k hk => (World.ownsRow.lt hs k hk).1) ho
end
theorem hdls_take (L : List RefEnt) (k : Nat) (hk : k < L.length) : hdlsFrom 0 (L.take (k + 1)) = hdlsFrom 0 (L.take k) ++ (if L[k].taken then [((k + 1 : Nat) : Int)] else []) := by
  rw [List.take_succ_eq_append_getElem hk, hdls_snoc, List.length_take, Nat.min_eq_left (by omega)]
  simp
set_option maxRecDepth 10000 in
set_option maxHeartbeats 3200000 in
theorem refHandles_calls (w0 w : World) (sb rb : Nat) (v : Value) (L : List RefEnt) (hR : RefIs w0 w sb rb v L) (hl : L.length ≤ 1000) :
    Calls Try.prog 29 #[.pointer (some ⟨rb, 0, none⟩)] w fun e w' => (∃ v, e = .returned v ∧ w'.ownsRow w.heap.size 3 1 v (hdlsFrom 0 L).length ((hdlsFrom 0 L).map (Value.int .i64))) ∧ Below w.heap.size w w' := by
  have HR := Lib.hid hR
  have hv : ∃ ao cap, v = .slice ao L.length cap ∧ (0 < L.length → ∃ lb, ao = some ⟨lb, 0, none⟩) := by
    rcases hR.row.2 with ⟨rfl, h0⟩ | ⟨g, cap, cur, hv, _⟩
    · exact ⟨none, 0, by rw [h0], fun h => by omega⟩
    · exact ⟨_, cap, hv, fun _ => ⟨g, rfl⟩⟩
  obtain ⟨ao, cap, rfl, hao⟩ := hv
  have HAO := Lib.hid hao
  have HC0 : Hid (w.cell? ⟨rb, 0, none⟩ = some (.slice ao L.length cap)) := Lib.hid (cell_of_heap hR.hd 0)
  obtain ⟨n, hn⟩ : ∃ n, L.length = n := ⟨_, rfl⟩
  have HN := Lib.hid hn
  rw [hn] at HC0 HAO
  have hn2 : n ≤ 1000 := by rw [← hn]; exact hl
  clear hao hn hR hl
  have c0 := HC0.out
  go_enter Try.func29, Try.ntmps29
  go_wp2_with fail
  go_loopw [3, 10] (fun o i wr => ∃ (k m : Nat), k ≤ n ∧ i = .int .i64 k ∧ m ≤ k ∧ Hid ((hdlsFrom 0 (L.take k)).length = m) ∧ Hid (wr.ownsRow w.heap.size 3 1 o m ((hdlsFrom 0 (L.take k)).map (Value.int .i64))) ∧ Hid (Below w.heap.size w wr)) (fun _ i _ => n - (intOf i).toNat)
  case atStart => exact ⟨0, 0, by omega, rfl, by omega, Lib.hid rfl, Lib.hid (World.ownsRow_nil _ _ _ _), Lib.hid (Below.refl _ _)⟩
  case round =>
    obtain ⟨k, m, hk, rfl, hm, HM, HO, HB⟩ := hrel
    by_cases hlt : k < n
    · obtain ⟨lb, rfl⟩ := HAO.out (by omega)
      have hkl : k < L.length := by have := HN.out; omega
      have s := (HR.out.grow HB.out).six k hkl
      have HT := Lib.hid (hdls_take L k hkl)
      obtain ⟨tk, htk⟩ : ∃ q, L[k].taken = q := ⟨_, rfl⟩
      have x5 := s.c5
      rw [htk] at x5 HT
      have c1 := below_cell HB.out c0
      clear htk s
      cases tk
      · go_wp2
        go_roundw
        case rel => exact ⟨k + 1, m, by omega, by go_num, by omega, Lib.hid (by rw [HT.out]; simpa using HM.out), Lib.hid (by rw [HT.out]; simpa using HO.out), HB⟩
        case measure => simp [intOf]; omega
      · have hba := below_alloc HB.out (.cells #[.int .i64 ((k : Int) + 1)] 3)
        have HBA := Lib.hid hba
        have HXA : Hid ((wr.alloc (.cells #[.int .i64 ((k : Int) + 1)] 3)).cell? ⟨wr.heap.size, 0, none⟩ = some (.int .i64 ((k : Int) + 1))) := Lib.hid (cell_of_heap (heap_new _ _) 0)
        clear hba
        go_wp2_with (at_builtin; refine app_int HBA.out _ (HO.out.alloc _) HXA.out (by omega) (fun W v' hbW hoW => ?_); have HBW := Lib.hid hbW; have HOW := Lib.hid hoW; clear hbW hoW)
        go_roundw
        case rel => exact ⟨k + 1, m + 1, by omega, by go_num, by omega, Lib.hid (by rw [HT.out]; simpa using HM.out), Lib.hid (by rw [HT.out]; simpa using HOW.out), HBW⟩
        case measure => simp [intOf]; omega
    · obtain rfl : k = n := by omega
      have HTA : Hid (L.take k = L) := Lib.hid (List.take_of_length_le (by have := HN.out; omega))
      go_wp2
      go_ret
      exact ⟨⟨_, rfl, by have h1 := HO.out; have h2 := HM.out; rw [HTA.out] at h1 h2; rw [h2]; exact h1⟩, HB.out⟩
end Go.Proofs.Ytojbdaeidbmjgaa
