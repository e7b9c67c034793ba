/- The reference's Sign, Run, Bare, Small, tail. -/
import Derived.Test.YtiocdgehpiagjaaDoorGrBytes
import Derived.Deep.QuietTactic
import Derived.BigQuiet
namespace Go.Proofs.YtiocdgehpiagjaaDoor
open Go.RowKit
theorem ext_drop {t : ByteArray} {l : List UInt8} (h : t.data.toList = l) (k : Nat) : t.extract k t.size = ⟨(l.drop k).toArray⟩ := by
  apply bytes_of
  rw [ByteArray.data_extract, Array.toList_extract, h, str_size h]
  simp [List.take_of_length_le]
theorem below_drewN' {B : Nat} {a w : World} (h : Below B a w) (n : Nat) : Below B a (w.drewN n) := ⟨h.os, h.tape, h.output, h.size, h.block⟩
theorem ext_take {t : ByteArray} {l : List UInt8} (h : t.data.toList = l) (k : Nat) : t.extract 0 k = ⟨(l.take k).toArray⟩ := by
  apply bytes_of
  rw [ByteArray.data_extract, Array.toList_extract, h]
  simp
theorem get_of {t : ByteArray} {l : List UInt8} (h : t.data.toList = l) {k : Nat} (hk : k < t.size) (hk2 : k < l.length) : t[k]'hk = l[k]'hk2 := by
  subst h
  show t.data[k]'hk = _
  simp
set_option maxRecDepth 10000 in
set_option maxHeartbeats 1000000 in
theorem refSign_calls (t : ByteArray) (l : List UInt8) (h : t.data.toList = l) (hm : l.length ≤ 140737488351232) (w : World) :
    Calls Tryd.prog 22 #[.string t] w fun e w' => e = .returned (.tuple #[.bool (signL l).1, .string ⟨(signL l).2.toArray⟩]) ∧ Below w.heap.size w w' := by
  have hsz := str_size h
  cases l with
  | nil =>
    have h0 : t.size = 0 := by rw [hsz]; rfl
    obtain rfl : t = ⟨#[]⟩ := bytes_of h
    go_enter Tryd.func22, Tryd.ntmps22
    go_wp2
    go_ret2
    exact ⟨rfl, Below.refl _ _⟩
  | cons c u =>
    have hs1 : t.size = u.length + 1 := by rw [hsz]; rfl
    have h0 : 0 < t.size := by omega
    have hg : t[0]'h0 = c := get_of h h0 (by simp)
    have HX := Lib.hid (ext_drop h 1)
    have hs2 : (1 : Int) ≤ (t.size : Int) := by omega
    have hs3 : t.size ≤ 140737488351233 := by omega
    have h0i : (0 : Int) < (t.size : Int) := by omega
    by_cases h45 : c = 45
    · subst h45
      have HS : Hid (signL (45 :: u) = (true, u)) := Lib.hid rfl
      clear hsz h hs1 hm
      go_enter Tryd.func22, Tryd.ntmps22
      go_wp2_with fail
      go_quiet (fail)
      go_wp2
      go_ret2
      exact ⟨by rw [HS.out, HX.out]; rfl, below_drewN' (Below.refl _ _) nq⟩
    · by_cases h43 : c = 43
      · subst h43
        have HS : Hid (signL (43 :: u) = (false, u)) := Lib.hid rfl
        clear hsz h hs1 hm
        go_enter Tryd.func22, Tryd.ntmps22
        go_wp2_with fail
        go_quiet (fail)
        go_wp2
        go_ret2
        exact ⟨by rw [HS.out, HX.out]; rfl, below_drewN' (Below.refl _ _) nq⟩
      · have HS : Hid (signL (c :: u) = (false, c :: u)) := Lib.hid (sign_other h45 h43)
        have q1 : (((c.toNat : Nat) : Int) == 45) = false := beq_eq_false_iff_ne.2 (fun e => h45 (UInt8.toNat_inj.1 (by show c.toNat = 45; omega)))
        have q2 : (((c.toNat : Nat) : Int) == 43) = false := beq_eq_false_iff_ne.2 (fun e => h43 (UInt8.toNat_inj.1 (by show c.toNat = 43; omega)))
        have HT := Lib.hid (bytes_of h)
        clear hsz h hs1 hm h45 h43
        go_enter Tryd.func22, Tryd.ntmps22
        go_wp2
        go_ret2
        exact ⟨by rw [HS.out, ← HT.out]; rfl, Below.refl _ _⟩
theorem run_at {l : List UInt8} {k : Nat} (hd : digs (l.take k) = true) (he : k = l.length ∨ ∃ hk : k < l.length, isDig (l[k]'hk) = false) : runL l = (l.take k, l.drop k) := by
  have h := run_split (d := l.take k) (e := l.drop k) hd (fun c t e => by
    rcases he with rfl | ⟨hk, hn⟩
    · rw [List.drop_length] at e; cases e
    · rw [List.drop_eq_getElem_cons hk] at e
      cases e
      exact hn)
  rw [List.take_append_drop] at h
  exact h
set_option maxRecDepth 10000 in
set_option maxHeartbeats 2000000 in
theorem refRun_calls (t : ByteArray) (l : List UInt8) (h : t.data.toList = l) (hm : l.length ≤ 140737488351232) (w : World) :
    Calls Tryd.prog 24 #[.string t] w fun e w' => e = .returned (.tuple #[.string ⟨(runL l).1.toArray⟩, .string ⟨(runL l).2.toArray⟩]) ∧ Below w.heap.size w w' := by
  have hsz := str_size h
  obtain ⟨n, hn⟩ : ∃ n, l.length = n := ⟨_, rfl⟩
  rw [hn] at hsz hm
  have HH := Lib.hid h
  have HN := Lib.hid hn
  clear h hn
  go_enter Tryd.func24, Tryd.ntmps24
  go_wp2
  go_loop [4] (fun i => ∃ k : Nat, k ≤ n ∧ i = .int .i64 k ∧ digs (l.take k) = true) (fun i => n - (intOf i).toNat)
  case atStart => exact ⟨0, Nat.zero_le _, rfl, rfl⟩
  case round =>
    obtain ⟨k, hk, rfl, hd⟩ := hrel
    have HD := Lib.hid hd
    clear hd
    by_cases hlt : k < n
    · have hkl : k < l.length := by rw [HN.out]; exact hlt
      have hkt : k < t.size := by omega
      have HG := Lib.hid (get_of HH.out hkt hkl)
      obtain ⟨c, hc⟩ : ∃ c, t[k]'hkt = c := ⟨_, rfl⟩
      have HC : Hid (l[k]'hkl = c) := Lib.hid (by rw [← HG.out, hc])
      clear HG
      by_cases h1 : c.toNat < 48
      · have h1i : (c.toNat : Int) < 48 := by omega
        have HR : Hid (runL l = (l.take k, l.drop k)) := Lib.hid (run_at HD.out (.inr ⟨by rw [HN.out]; exact hlt, by rw [HC.out]; unfold isDig; simp; omega⟩))
        have HX : Hid (t.extract k n = ⟨(l.drop k).toArray⟩) := Lib.hid (by rw [← hsz]; exact ext_drop HH.out k)
        have HY := Lib.hid (ext_take HH.out k)
        clear h1
        go_wp2
        go_quiet (fail)
        go_wp2
        go_ret2
        exact ⟨by rw [HR.out, HX.out, HY.out]; rfl, below_drewN' (Below.refl _ _) nq⟩
      · have h1i : ¬ (c.toNat : Int) < 48 := by omega
        have h1j : (48 : Int) ≤ (c.toNat : Int) := by omega
        by_cases h2 : 57 < c.toNat
        · have h2i : (57 : Int) < (c.toNat : Int) := by omega
          have HR : Hid (runL l = (l.take k, l.drop k)) := Lib.hid (run_at HD.out (.inr ⟨by rw [HN.out]; exact hlt, by rw [HC.out]; unfold isDig; simp; omega⟩))
          have HX : Hid (t.extract k n = ⟨(l.drop k).toArray⟩) := Lib.hid (by rw [← hsz]; exact ext_drop HH.out k)
          have HY := Lib.hid (ext_take HH.out k)
          clear h1 h2
          go_wp2
          go_quiet (fail)
          go_wp2
          go_ret2
          exact ⟨by rw [HR.out, HX.out, HY.out]; rfl, below_drewN' (Below.refl _ _) nq⟩
        · have h2i : (c.toNat : Int) ≤ 57 := by omega
          have HE : Hid (digs (l.take (k + 1)) = true) := Lib.hid (by
            rw [List.take_succ_eq_append_getElem (by rw [HN.out]; exact hlt)]
            exact digs_append.2 ⟨HD.out, digs_cons.2 ⟨by rw [HC.out]; exact isDig_iff.2 ⟨by omega, by omega⟩, rfl⟩⟩)
          clear h1 h2
          go_wp2
          go_round
          case rel => exact ⟨k + 1, by omega, by go_num, HE.out⟩
          case measure => simp [intOf]; omega
    · obtain rfl : n = k := by omega
      have HR : Hid (runL l = (l.take n, l.drop n)) := Lib.hid (run_at HD.out (.inl HN.out.symm))
      have HX : Hid (ByteArray.empty = ⟨(l.drop n).toArray⟩) := Lib.hid (by rw [List.drop_of_length_le (by rw [HN.out]; exact Nat.le_refl _)]; rfl)
      have HY := Lib.hid (ext_take HH.out n)
      go_wp2
      go_quiet (fail)
      go_wp2
      go_ret2
      exact ⟨by rw [HR.out, HX.out, HY.out]; rfl, below_drewN' (Below.refl _ _) nq⟩
def strLen : Value → Nat
  | .string s => s.size
  | _ => 0
set_option maxRecDepth 10000 in
set_option maxHeartbeats 2000000 in
theorem refBare_calls (t : ByteArray) (l : List UInt8) (h : t.data.toList = l) (hm : l.length ≤ 140737488351232) (w : World) :
    Calls Tryd.prog 26 #[.string t] w fun e w' => e = .returned (.string ⟨(bareL l).toArray⟩) ∧ w' = w := by
  have HT := Lib.hid (bytes_of h)
  clear h
  go_enter Tryd.func26, Tryd.ntmps26
  go_wp2
  go_loop [0] (fun s => ∃ (B : ByteArray) (m : List UInt8), B.data.toList = m ∧ s = .string B ∧ m.length ≤ 140737488351232 ∧ bareL l = bareL m) (fun s => strLen s)
  case atStart => exact ⟨t, l, by rw [HT.out], rfl, hm, rfl⟩
  case round =>
    obtain ⟨B, m, hB, rfl, hml, hbm⟩ := hrel
    have hsz := str_size hB
    have HBM := Lib.hid hbm
    have HB := Lib.hid hB
    clear hbm hB
    cases m with
    | nil =>
      have h0 : B.size = 0 := by rw [hsz]; rfl
      have hBe : B = ⟨#[]⟩ := bytes_of HB.out
      subst hBe
      clear h0 hsz
      go_wp2
      go_ret
      exact ⟨by rw [HBM.out]; rfl, rfl⟩
    | cons c u =>
      have hs1 : B.size = u.length + 1 := by rw [hsz]; rfl
      have h0 : 0 < B.size := by omega
      have hg : B[0]'h0 = c := get_of HB.out h0 (by simp)
      have HX := Lib.hid (ext_drop HB.out 1)
      have hs2 : (1 : Int) ≤ (B.size : Int) := by omega
      have hs3 : B.size ≤ 140737488351233 := by omega
      have h0i : (0 : Int) < (B.size : Int) := by omega
      have hul : u.length ≤ 140737488351232 := by omega
      by_cases h48 : c = 48
      · subst h48
        have HU : Hid (bareL l = bareL u) := Lib.hid (by rw [HBM.out]; unfold bareL; rw [List.dropWhile_cons, if_pos (by rfl)])
        have HS1 := Lib.hid hs1
        clear hsz hs1 hml
        go_wp2
        go_round
        case rel => exact ⟨_, u, by rw [HX.out]; rfl, rfl, hul, HU.out⟩
        case measure => rw [HX.out]; show (List.drop 1 (48 :: u)).toArray.size < B.size; rw [HS1.out]; simp
      · have q1 : (((c.toNat : Nat) : Int) == 48) = false := beq_eq_false_iff_ne.2 (fun e => h48 (UInt8.toNat_inj.1 (by show c.toNat = 48; omega)))
        have HU : Hid (bareL l = c :: u) := Lib.hid (by rw [HBM.out]; exact bare_same (by simpa using h48))
        have HBe := Lib.hid (bytes_of HB.out)
        clear hsz hs1 hml h48
        go_wp2
        go_ret
        exact ⟨by rw [HU.out, ← HBe.out]; rfl, rfl⟩
theorem dval_take {l : List UInt8} {k : Nat} (hk : k < l.length) : dval (l.take (k + 1)) = 10 * dval (l.take k) + ((l[k]'hk).toNat - 48) := by
  rw [List.take_succ_eq_append_getElem hk, dval_snoc]
theorem dval_take_lt {l : List UInt8} (h : digs l = true) (k : Nat) (hk : k ≤ 18) : dval (l.take k) < 10 ^ 18 := by
  have h1 := dval_lt (digs_take h k)
  have h2 : 10 ^ (l.take k).length ≤ 10 ^ 18 := Nat.pow_le_pow_right (by decide) (by simp; omega)
  omega
set_option maxRecDepth 10000 in
set_option maxHeartbeats 2000000 in
theorem tail_calls (t : ByteArray) (l : List UInt8) (h : t.data.toList = l) (hd : digs l = true) (hm : l.length ≤ 17) (w : World) :
    Calls Tryd.prog 38 #[.string t] w fun e w' => e = .returned (.int .i64 (dval l : Nat)) ∧ w' = w := by
  have hsz := str_size h
  obtain ⟨n, hn⟩ : ∃ n, l.length = n := ⟨_, rfl⟩
  rw [hn] at hsz hm
  have HH := Lib.hid h
  have HN := Lib.hid hn
  have HD := Lib.hid hd
  clear h hn hd
  go_enter Tryd.func38, Tryd.ntmps38
  go_wp2
  go_loop [3, 4] (fun v i => ∃ (k x : Nat), k ≤ n ∧ i = .int .i64 k ∧ v = .int .i64 x ∧ x = dval (l.take k)) (fun _ i => n - (intOf i).toNat)
  case atStart => exact ⟨0, 0, Nat.zero_le _, rfl, rfl, rfl⟩
  case round =>
    obtain ⟨k, x, hk, rfl, rfl, hx⟩ := hrel
    have HX := Lib.hid hx
    have hxb : x < 1000000000000000000 := by rw [hx]; exact dval_take_lt HD.out k (by omega)
    clear hx
    by_cases hlt : k < n
    · have hkl : k < l.length := by rw [HN.out]; exact hlt
      have hkt : k < t.size := by omega
      have hg := get_of HH.out hkt hkl
      have hdk := isDig_iff.1 (List.all_eq_true.1 HD.out _ (List.getElem_mem hkl))
      have hst := dval_take hkl
      rw [← HX.out] at hst
      have hyb : dval (l.take (k + 1)) < 1000000000000000000 := dval_take_lt HD.out (k + 1) (by omega)
      obtain ⟨c, hc⟩ : ∃ c, l[k]'hkl = c := ⟨_, rfl⟩
      rw [hc] at hg hdk hst
      have h1 : (48 : Int) ≤ (c.toNat : Int) := by omega
      have h2 : (c.toNat : Int) ≤ 57 := by omega
      have h3 : 10 * (x : Int) ≤ 10000000000000000000 := by omega
      have HST := Lib.hid hst
      have hyb2 : 10 * x + (c.toNat - 48) < 1000000000000000000 := by omega
      clear hst hyb hdk hc
      go_wp2
      go_round
      case rel => exact ⟨k + 1, 10 * x + (c.toNat - 48), by omega, by go_num, by congr 1; omega, by rw [HST.out]⟩
      case measure => simp [intOf]; omega
    · obtain rfl : k = n := by omega
      have HF : Hid (x = dval l) := Lib.hid (by rw [HX.out, List.take_of_length_le (by rw [HN.out]; exact Nat.le_refl _)])
      go_wp2
      go_ret
      exact ⟨by rw [← HF.out]; rfl, rfl⟩
end Go.Proofs.YtiocdgehpiagjaaDoor
