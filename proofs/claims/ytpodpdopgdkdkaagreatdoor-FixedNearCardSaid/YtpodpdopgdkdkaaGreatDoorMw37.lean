/- The reference's Sign, Run, Bare, Small, tail. · The reference's Small. · The reference's Exponent. · The reference's Exponent: the good way. -/
import Derived.Test.YtpodpdopgdkdkaaGreatDoorMw36
import Derived.Deep.QuietTactic
import Derived.BigQuiet
import Derived.WalkSpells
set_option linter.unusedVariables false
set_option linter.unusedSimpArgs false
namespace Go.Proofs.YtpodpdopgdkdkaaGreatDoor
open Go.RowKit
theorem ext_drop {t : ByteArray} {l : List UInt8} (h : t.data.toList = l) (k : Nat) : t.extract k t.size = ⟨(l.drop k).toArray⟩ := by
  apply bytes_of
  rw [ByteArray.data_extract, Array.toList_extract, h, str_size h]
  simp [List.take_of_length_le]
theorem below_drewG {B : Nat} {a w : World} (h : Below B a w) (n : Nat) : Below B a (w.drewN n) := ⟨h.os, h.tape, h.output, h.size, h.block⟩
theorem ext_take {t : ByteArray} {l : List UInt8} (h : t.data.toList = l) (k : Nat) : t.extract 0 k = ⟨(l.take k).toArray⟩ := by
  apply bytes_of
  rw [ByteArray.data_extract, Array.toList_extract, h]
  simp
theorem get_of {t : ByteArray} {l : List UInt8} (h : t.data.toList = l) {k : Nat} (hk : k < t.size) (hk2 : k < l.length) : t[k]'hk = l[k]'hk2 := by
  subst h
  show t.data[k]'hk = _
  simp
set_option maxRecDepth 10000 in
set_option maxHeartbeats 1000000 in
theorem refSign_calls (t : ByteArray) (l : List UInt8) (h : t.data.toList = l) (hm : l.length ≤ 140737488351232) (w : World) :
    Calls Tryz.prog 38 #[.string t] w fun e w' => e = .returned (.tuple #[.bool (signL l).1, .string ⟨(signL l).2.toArray⟩]) ∧ Below w.heap.size w w' := by
  have hsz := str_size h
  cases l with
  | nil =>
    have h0 : t.size = 0 := by rw [hsz]; rfl
    obtain rfl : t = ⟨#[]⟩ := bytes_of h
    go_enter Tryz.func38, Tryz.ntmps38
    go_wp2
    go_ret2
    exact ⟨rfl, Below.refl _ _⟩
  | cons c u =>
    have hs1 : t.size = u.length + 1 := by rw [hsz]; rfl
    have h0 : 0 < t.size := by omega
    have hg : t[0]'h0 = c := get_of h h0 (by simp)
    have HX := Lib.hid (ext_drop h 1)
    have hs2 : (1 : Int) ≤ (t.size : Int) := by omega
    have hs3 : t.size ≤ 140737488351233 := by omega
    have h0i : (0 : Int) < (t.size : Int) := by omega
    by_cases h45 : c = 45
    · subst h45
      have HS : Hid (signL (45 :: u) = (true, u)) := Lib.hid rfl
      clear hsz h hs1 hm
      go_enter Tryz.func38, Tryz.ntmps38
      go_wp2_with fail
      go_quiet (fail)
      go_wp2
      go_ret2
      exact ⟨by rw [HS.out, HX.out]; rfl, below_drewG (Below.refl _ _) nq⟩
    · by_cases h43 : c = 43
      · subst h43
        have HS : Hid (signL (43 :: u) = (false, u)) := Lib.hid rfl
        clear hsz h hs1 hm
        go_enter Tryz.func38, Tryz.ntmps38
        go_wp2_with fail
        go_quiet (fail)
        go_wp2
        go_ret2
        exact ⟨by rw [HS.out, HX.out]; rfl, below_drewG (Below.refl _ _) nq⟩
      · have HS : Hid (signL (c :: u) = (false, c :: u)) := Lib.hid (sign_other h45 h43)
        have q1 : (((c.toNat : Nat) : Int) == 45) = false := beq_eq_false_iff_ne.2 (fun e => h45 (UInt8.toNat_inj.1 (by show c.toNat = 45; omega)))
        have q2 : (((c.toNat : Nat) : Int) == 43) = false := beq_eq_false_iff_ne.2 (fun e => h43 (UInt8.toNat_inj.1 (by show c.toNat = 43; omega)))
        have HT := Lib.hid (bytes_of h)
        clear hsz h hs1 hm h45 h43
        go_enter Tryz.func38, Tryz.ntmps38
        go_wp2
        go_ret2
        exact ⟨by rw [HS.out, ← HT.out]; rfl, Below.refl _ _⟩
theorem run_at {l : List UInt8} {k : Nat} (hd : digs (l.take k) = true) (he : k = l.length ∨ ∃ hk : k < l.length, isDig (l[k]'hk) = false) : runL l = (l.take k, l.drop k) := by
  have h := run_split (d := l.take k) (e := l.drop k) hd (fun c t e => by
    rcases he with rfl | ⟨hk, hn⟩
    · rw [List.drop_length] at e; cases e
    · rw [List.drop_eq_getElem_cons hk] at e
      cases e
      exact hn)
  rw [List.take_append_drop] at h
  exact h
set_option maxRecDepth 10000 in
set_option maxHeartbeats 2000000 in
theorem refRun_calls (t : ByteArray) (l : List UInt8) (h : t.data.toList = l) (hm : l.length ≤ 140737488351232) (w : World) :
    Calls Tryz.prog 94 #[.string t] w fun e w' => e = .returned (.tuple #[.string ⟨(runL l).1.toArray⟩, .string ⟨(runL l).2.toArray⟩]) ∧ Below w.heap.size w w' := by
  have hsz := str_size h
  obtain ⟨n, hn⟩ : ∃ n, l.length = n := ⟨_, rfl⟩
  rw [hn] at hsz hm
  have HH := Lib.hid h
  have HN := Lib.hid hn
  clear h hn
  go_enter Tryz.func94, Tryz.ntmps94
  go_wp2
  go_loop [4] (fun i => ∃ k : Nat, k ≤ n ∧ i = .int .i64 k ∧ digs (l.take k) = true) (fun i => n - (intOf i).toNat)
  case atStart => exact ⟨0, Nat.zero_le _, rfl, rfl⟩
  case round =>
    obtain ⟨k, hk, rfl, hd⟩ := hrel
    have HD := Lib.hid hd
    clear hd
    by_cases hlt : k < n
    · have hkl : k < l.length := by rw [HN.out]; exact hlt
      have hkt : k < t.size := by omega
      have HG := Lib.hid (get_of HH.out hkt hkl)
      obtain ⟨c, hc⟩ : ∃ c, t[k]'hkt = c := ⟨_, rfl⟩
      have HC : Hid (l[k]'hkl = c) := Lib.hid (by rw [← HG.out, hc])
      clear HG
      by_cases h1 : c.toNat < 48
      · have h1i : (c.toNat : Int) < 48 := by omega
        have HR : Hid (runL l = (l.take k, l.drop k)) := Lib.hid (run_at HD.out (.inr ⟨by rw [HN.out]; exact hlt, by rw [HC.out]; unfold isDig; simp; omega⟩))
        have HX : Hid (t.extract k n = ⟨(l.drop k).toArray⟩) := Lib.hid (by rw [← hsz]; exact ext_drop HH.out k)
        have HY := Lib.hid (ext_take HH.out k)
        clear h1
        go_wp2
        go_quiet (fail)
        go_wp2
        go_ret2
        exact ⟨by rw [HR.out, HX.out, HY.out]; rfl, below_drewG (Below.refl _ _) nq⟩
      · have h1i : ¬ (c.toNat : Int) < 48 := by omega
        have h1j : (48 : Int) ≤ (c.toNat : Int) := by omega
        by_cases h2 : 57 < c.toNat
        · have h2i : (57 : Int) < (c.toNat : Int) := by omega
          have HR : Hid (runL l = (l.take k, l.drop k)) := Lib.hid (run_at HD.out (.inr ⟨by rw [HN.out]; exact hlt, by rw [HC.out]; unfold isDig; simp; omega⟩))
          have HX : Hid (t.extract k n = ⟨(l.drop k).toArray⟩) := Lib.hid (by rw [← hsz]; exact ext_drop HH.out k)
          have HY := Lib.hid (ext_take HH.out k)
          clear h1 h2
          go_wp2
          go_quiet (fail)
          go_wp2
          go_ret2
          exact ⟨by rw [HR.out, HX.out, HY.out]; rfl, below_drewG (Below.refl _ _) nq⟩
        · have h2i : (c.toNat : Int) ≤ 57 := by omega
          have HE : Hid (digs (l.take (k + 1)) = true) := Lib.hid (by
            rw [List.take_succ_eq_append_getElem (by rw [HN.out]; exact hlt)]
            exact digs_append.2 ⟨HD.out, digs_cons.2 ⟨by rw [HC.out]; exact isDig_iff.2 ⟨by omega, by omega⟩, rfl⟩⟩)
          clear h1 h2
          go_wp2
          go_round
          case rel => exact ⟨k + 1, by omega, by go_num, HE.out⟩
          case measure => simp [intOf]; omega
    · obtain rfl : n = k := by omega
      have HR : Hid (runL l = (l.take n, l.drop n)) := Lib.hid (run_at HD.out (.inl HN.out.symm))
      have HX : Hid (ByteArray.empty = ⟨(l.drop n).toArray⟩) := Lib.hid (by rw [List.drop_of_length_le (by rw [HN.out]; exact Nat.le_refl _)]; rfl)
      have HY := Lib.hid (ext_take HH.out n)
      go_wp2
      go_quiet (fail)
      go_wp2
      go_ret2
      exact ⟨by rw [HR.out, HX.out, HY.out]; rfl, below_drewG (Below.refl _ _) nq⟩
def strLenG : Value → Nat
  | .string s => s.size
  | _ => 0
set_option maxRecDepth 10000 in
set_option maxHeartbeats 2000000 in
theorem refBare_calls (t : ByteArray) (l : List UInt8) (h : t.data.toList = l) (hm : l.length ≤ 140737488351232) (w : World) :
    Calls Tryz.prog 40 #[.string t] w fun e w' => e = .returned (.string ⟨(bareL l).toArray⟩) ∧ w' = w := by
  have HT := Lib.hid (bytes_of h)
  clear h
  go_enter Tryz.func40, Tryz.ntmps40
  go_wp2
  go_loop [0] (fun s => ∃ (B : ByteArray) (m : List UInt8), B.data.toList = m ∧ s = .string B ∧ m.length ≤ 140737488351232 ∧ bareL l = bareL m) (fun s => strLenG s)
  case atStart => exact ⟨t, l, by rw [HT.out], rfl, hm, rfl⟩
  case round =>
    obtain ⟨B, m, hB, rfl, hml, hbm⟩ := hrel
    have hsz := str_size hB
    have HBM := Lib.hid hbm
    have HB := Lib.hid hB
    clear hbm hB
    cases m with
    | nil =>
      have h0 : B.size = 0 := by rw [hsz]; rfl
      have hBe : B = ⟨#[]⟩ := bytes_of HB.out
      subst hBe
      clear h0 hsz
      go_wp2
      go_ret
      exact ⟨by rw [HBM.out]; rfl, rfl⟩
    | cons c u =>
      have hs1 : B.size = u.length + 1 := by rw [hsz]; rfl
      have h0 : 0 < B.size := by omega
      have hg : B[0]'h0 = c := get_of HB.out h0 (by simp)
      have HX := Lib.hid (ext_drop HB.out 1)
      have hs2 : (1 : Int) ≤ (B.size : Int) := by omega
      have hs3 : B.size ≤ 140737488351233 := by omega
      have h0i : (0 : Int) < (B.size : Int) := by omega
      have hul : u.length ≤ 140737488351232 := by omega
      by_cases h48 : c = 48
      · subst h48
        have HU : Hid (bareL l = bareL u) := Lib.hid (by rw [HBM.out]; unfold bareL; rw [List.dropWhile_cons, if_pos (by rfl)])
        have HS1 := Lib.hid hs1
        clear hsz hs1 hml
        go_wp2
        go_round
        case rel => exact ⟨_, u, by rw [HX.out]; rfl, rfl, hul, HU.out⟩
        case measure => rw [HX.out]; show (List.drop 1 (48 :: u)).toArray.size < B.size; rw [HS1.out]; simp
      · have q1 : (((c.toNat : Nat) : Int) == 48) = false := beq_eq_false_iff_ne.2 (fun e => h48 (UInt8.toNat_inj.1 (by show c.toNat = 48; omega)))
        have HU : Hid (bareL l = c :: u) := Lib.hid (by rw [HBM.out]; exact bare_same (by simpa using h48))
        have HBe := Lib.hid (bytes_of HB.out)
        clear hsz hs1 hml h48
        go_wp2
        go_ret
        exact ⟨by rw [HU.out, ← HBe.out]; rfl, rfl⟩
theorem dval_take {l : List UInt8} {k : Nat} (hk : k < l.length) : dval (l.take (k + 1)) = 10 * dval (l.take k) + ((l[k]'hk).toNat - 48) := by
  rw [List.take_succ_eq_append_getElem hk, dval_snoc]
theorem dval_take_lt {l : List UInt8} (h : digs l = true) (k : Nat) (hk : k ≤ 18) : dval (l.take k) < 10 ^ 18 := by
  have h1 := dval_lt (digs_take h k)
  have h2 : 10 ^ (l.take k).length ≤ 10 ^ 18 := Nat.pow_le_pow_right (by decide) (by simp; omega)
  omega
set_option maxRecDepth 10000 in
set_option maxHeartbeats 2000000 in
theorem tail_calls (t : ByteArray) (l : List UInt8) (h : t.data.toList = l) (hd : digs l = true) (hm : l.length ≤ 17) (w : World) :
    Calls Tryz.prog 41 #[.string t] w fun e w' => e = .returned (.int .i64 (dval l : Nat)) ∧ w' = w := by
  have hsz := str_size h
  obtain ⟨n, hn⟩ : ∃ n, l.length = n := ⟨_, rfl⟩
  rw [hn] at hsz hm
  have HH := Lib.hid h
  have HN := Lib.hid hn
  have HD := Lib.hid hd
  clear h hn hd
  go_enter Tryz.func41, Tryz.ntmps41
  go_wp2
  go_loop [3, 4] (fun v i => ∃ (k x : Nat), k ≤ n ∧ i = .int .i64 k ∧ v = .int .i64 x ∧ x = dval (l.take k)) (fun _ i => n - (intOf i).toNat)
  case atStart => exact ⟨0, 0, Nat.zero_le _, rfl, rfl, rfl⟩
  case round =>
    obtain ⟨k, x, hk, rfl, rfl, hx⟩ := hrel
    have HX := Lib.hid hx
    have hxb : x < 1000000000000000000 := by rw [hx]; exact dval_take_lt HD.out k (by omega)
    clear hx
    by_cases hlt : k < n
    · have hkl : k < l.length := by rw [HN.out]; exact hlt
      have hkt : k < t.size := by omega
      have hg := get_of HH.out hkt hkl
      have hdk := isDig_iff.1 (List.all_eq_true.1 HD.out _ (List.getElem_mem hkl))
      have hst := dval_take hkl
      rw [← HX.out] at hst
      have hyb : dval (l.take (k + 1)) < 1000000000000000000 := dval_take_lt HD.out (k + 1) (by omega)
      obtain ⟨c, hc⟩ : ∃ c, l[k]'hkl = c := ⟨_, rfl⟩
      rw [hc] at hg hdk hst
      have h1 : (48 : Int) ≤ (c.toNat : Int) := by omega
      have h2 : (c.toNat : Int) ≤ 57 := by omega
      have h3 : 10 * (x : Int) ≤ 10000000000000000000 := by omega
      have HST := Lib.hid hst
      have hyb2 : 10 * x + (c.toNat - 48) < 1000000000000000000 := by omega
      clear hst hyb hdk hc
      go_wp2
      go_round
      case rel => exact ⟨k + 1, 10 * x + (c.toNat - 48), by omega, by go_num, by congr 1; omega, by rw [HST.out]⟩
      case measure => simp [intOf]; omega
    · obtain rfl : k = n := by omega
      have HF : Hid (x = dval l) := Lib.hid (by rw [HX.out, List.take_of_length_le (by rw [HN.out]; exact Nat.le_refl _)])
      go_wp2
      go_ret
      exact ⟨by rw [← HF.out]; rfl, rfl⟩
end Go.Proofs.YtpodpdopgdkdkaaGreatDoor
namespace Go.Proofs.YtpodpdopgdkdkaaGreatDoor
open Go.RowKit
/-- A fold over the bytes, done up to k. -/
def upTo (f : UInt8 → UInt8) (l : List UInt8) (k : Nat) : List UInt8 := (l.take k).map f ++ l.drop k
theorem upTo_len (f : UInt8 → UInt8) (l : List UInt8) (k : Nat) : (upTo f l k).length = l.length := by unfold upTo; simp; omega
theorem upTo_get (f : UInt8 → UInt8) {l : List UInt8} {k : Nat} (hk : k < l.length) : (upTo f l k)[k]'(by rw [upTo_len]; exact hk) = l[k]'hk := by
  unfold upTo
  rw [List.getElem_append_right (by simp; omega)]
  simp [Nat.min_eq_left (Nat.le_of_lt hk)]
theorem upTo_step (f : UInt8 → UInt8) {l : List UInt8} {k : Nat} (hk : k < l.length) : (upTo f l k).set k (f (l[k]'hk)) = upTo f l (k + 1) := by
  unfold upTo
  rw [List.set_append_right k _ (by simp; omega), List.take_succ_eq_append_getElem hk, List.map_append, List.append_assoc]
  simp [Nat.min_eq_left (Nat.le_of_lt hk)]
  rw [List.drop_eq_getElem_cons hk, List.set_cons_zero]
theorem upTo_same (f : UInt8 → UInt8) {l : List UInt8} {k : Nat} (hk : k < l.length) (h : f (l[k]'hk) = l[k]'hk) : upTo f l k = upTo f l (k + 1) := by
  rw [← upTo_step f hk, h]
  have := upTo_get f hk
  conv => rhs; rw [← this]
  rw [List.set_getElem_self]
theorem upTo_end (f : UInt8 → UInt8) (l : List UInt8) : upTo f l l.length = l.map f := by unfold upTo; simp
theorem back_run {W : World} {g : Nat} {l : List UInt8} (h : BRow W g l) {n : Nat} (hn : l.length = n) (cap : Nat) :
    (convert 100 9 (.slice (some ⟨g, 0, none⟩) n cap)).run Tryz.prog W = .ok (.string ⟨l.toArray⟩) W := by
  subst hn
  refine run_convert_bytes_back W 100 9 5 ⟨g, 0, none⟩ cap l Tryz.underlying100 Tryz.underlying5 Tryz.underlying9 fun j hj => ?_
  rw [Addr.add_mid, Nat.zero_add]
  exact h.cell j hj
theorem low_up {c : UInt8} (h1 : 65 ≤ c.toNat) (h2 : c.toNat ≤ 90) : (c.toNat : Int) + 32 = ((lowC c).toNat : Int) := by
  rw [low_toNat, if_pos ⟨h1, h2⟩]
  omega
set_option maxRecDepth 10000 in
set_option maxHeartbeats 2000000 in
theorem small_calls (t : ByteArray) (l : List UInt8) (h : t.data.toList = l) (hm : l.length ≤ 140737488351232) (w : World) :
    Calls Tryz.prog 123 #[.string t] w fun e w' => e = .returned (.string ⟨(l.map lowC).toArray⟩) ∧ Below w.heap.size w w' := by
  have hsz := str_size h
  obtain ⟨n, hn⟩ : ∃ n, l.length = n := ⟨_, rfl⟩
  rw [hn] at hsz hm
  have hcv := Lib.run_convert_string_bytes (P := Tryz.prog) w 9 100 5 t Tryz.underlying9 Tryz.underlying100 Tryz.underlying5
  have hrow := brow_new w 5 t
  rw [h] at hrow
  have HROW := Lib.hid hrow
  have HBL := Lib.hid (below_bytesG w 5 t)
  rw [hsz] at hcv
  generalize grownCap w n 0 5 = cap at hcv
  generalize Lib.bytesWorld w 5 t = w1 at *
  obtain ⟨g, hg⟩ : ∃ g, w.heap.size = g := ⟨_, rfl⟩
  have HG := Lib.hid (Nat.le_of_eq hg)
  rw [hg] at hcv HROW
  have HN := Lib.hid hn
  clear h hn hrow hg
  go_enter Tryz.func123, Tryz.ntmps123
  go_wp2
  go_loopw [9] (fun i wr => ∃ k : Nat, k ≤ n ∧ i = .int .i64 k ∧ BRow wr g (upTo lowC l k) ∧ Below w.heap.size w wr) (fun i _ => n - (intOf i).toNat)
  case atStart => exact ⟨0, Nat.zero_le _, rfl, HROW.out, HBL.out⟩
  case round =>
    obtain ⟨k, hk, rfl, hr, hb⟩ := hrel
    have HR := Lib.hid hr
    have HB := Lib.hid hb
    clear hr hb hcv
    by_cases hlt : k < n
    · have hkl : k < l.length := by rw [HN.out]; exact hlt
      have hku : k < (upTo lowC l k).length := by rw [upTo_len]; exact hkl
      have c0 := HR.out.cell k hku
      have z0 := HR.out.free k hku
      rw [upTo_get lowC hkl] at c0
      have HST := Lib.hid (upTo_step lowC hkl)
      have HSM := Lib.hid (upTo_same lowC hkl)
      obtain ⟨c, hc⟩ : ∃ c, l[k]'hkl = c := ⟨_, rfl⟩
      rw [hc] at c0 HST HSM
      clear hc
      by_cases h1 : 65 ≤ c.toNat
      · by_cases h2 : c.toNat ≤ 90
        · have HU := Lib.hid (low_up h1 h2)
          have h1i : (65 : Int) ≤ (c.toNat : Int) := by omega
          have h2i : (c.toNat : Int) ≤ 90 := by omega
          clear h1 h2
          go_wp2
          go_roundw
          case rel => exact ⟨k + 1, by omega, by go_num, by rw [← HST.out]; exact HR.out.set k hku _ _ HU.out, HB.out.setCell HG.out _⟩
          case measure => simp [intOf]; omega
        · have HS : Hid (lowC c = c) := Lib.hid (by unfold lowC; rw [if_neg (by omega)])
          have h1i : (65 : Int) ≤ (c.toNat : Int) := by omega
          have h2i : (90 : Int) < (c.toNat : Int) := by omega
          clear h1 h2
          go_wp2
          go_roundw
          case rel => exact ⟨k + 1, by omega, by go_num, by rw [← HSM.out HS.out]; exact HR.out, HB.out⟩
          case measure => simp [intOf]; omega
      · have HS : Hid (lowC c = c) := Lib.hid (by unfold lowC; rw [if_neg (by omega)])
        have h1i : (c.toNat : Int) < 65 := by omega
        clear h1
        go_wp2
        go_roundw
        case rel => exact ⟨k + 1, by omega, by go_num, by rw [← HSM.out HS.out]; exact HR.out, HB.out⟩
        case measure => simp [intOf]; omega
    · obtain rfl : n = k := by omega
      have hbr : BRow wr g (l.map lowC) := by
        have := HR.out
        rw [← HN.out, upTo_end] at this
        exact this
      have hcb := back_run hbr (n := n) (by rw [List.length_map]; exact HN.out) cap
      clear hbr
      go_wp2
      go_ret
      exact ⟨rfl, HB.out⟩
end Go.Proofs.YtpodpdopgdkdkaaGreatDoor
namespace Go.Proofs.YtpodpdopgdkdkaaGreatDoor
open Go.RowKit
def ten2 : List UInt8 := [50, 48, 48, 48, 48, 48, 48, 48, 48, 48]
theorem dval_cons (c : UInt8) (t : List UInt8) : dval (c :: t) = (c.toNat - 48) * 10 ^ t.length + dval t := by
  have h := dval_append [c] t
  have e : dval [c] = c.toNat - 48 := by show 10 * 0 + (c.toNat - 48) = _; omega
  rw [e] at h
  exact h
/-- Digits of one length: less as texts, less as numbers. -/
theorem less_digs : ∀ (a b : List UInt8), digs a = true → digs b = true → a.length = b.length → Op.bytesLess a b = decide (dval a < dval b)
  | [], [], _, _, _ => by simp [Op.bytesLess, dval, dvalFrom]
  | [], _ :: _, _, _, h => by simp at h
  | _ :: _, [], _, _, h => by simp at h
  | c :: t, e :: u, ha, hb, h => by
    obtain ⟨h1, h2⟩ := digs_cons.1 ha
    obtain ⟨k1, k2⟩ := digs_cons.1 hb
    have hl : t.length = u.length := by simpa using h
    have ih := less_digs t u h2 k2 hl
    have a1 := isDig_iff.1 h1
    have a2 := isDig_iff.1 k1
    have b1 := dval_lt h2
    have b2 := dval_lt k2
    rw [dval_cons, dval_cons, hl]
    rw [hl] at b1
    unfold Op.bytesLess
    generalize 10 ^ u.length = P at b1 b2 ⊢
    by_cases hlt : c.toNat < e.toNat
    · have e1 : c.toNat - 48 + 1 ≤ e.toNat - 48 := by omega
      have := Nat.mul_le_mul_right P e1
      rw [Nat.add_mul, Nat.one_mul] at this
      have e2 : c < e := hlt
      have e4 : (c.toNat - 48) * P + dval t < (e.toNat - 48) * P + dval u := by omega
      rw [decide_eq_true e4]
      simp [e2]
    · by_cases heq : c = e
      · subst heq
        have e2 : ¬ c < c := fun h => Nat.lt_irrefl _ h
        simp [e2, ih]
      · have hgt : e.toNat < c.toNat := by
          have : c.toNat ≠ e.toNat := fun h => heq (UInt8.toNat_inj.1 h)
          omega
        have e1 : e.toNat - 48 + 1 ≤ c.toNat - 48 := by omega
        have := Nat.mul_le_mul_right P e1
        rw [Nat.add_mul, Nat.one_mul] at this
        have e2 : ¬ c < e := hlt
        have e3 : e < c := hgt
        have e4 : ¬ (c.toNat - 48) * P + dval t < (e.toNat - 48) * P + dval u := by omega
        rw [decide_eq_false e4]
        simp [e2, heq]
/-- Ten digits, the first no nought. -/
theorem less_ten {d : List UInt8} (hd : digs d = true) (h0 : d.head? ≠ some 48) (hl : d.length = 10) :
    (Op.bytesLess d ten2 = true ∧ dval d < 2000000000 ∧ ∃ c u, d = 49 :: c :: u ∧ dval d = 1000000000 + (c.toNat - 48) * 100000000 + dval u ∧ u.length = 8 ∧ digs u = true ∧ 48 ≤ c.toNat ∧ c.toNat ≤ 57) ∨ (Op.bytesLess d ten2 = false ∧ 2000000000 ≤ dval d) := by
  have ht : dval ten2 = 2000000000 := by decide
  have h := less_digs d ten2 hd (by decide) (by rw [hl]; rfl)
  rw [ht] at h
  by_cases hv : dval d < 2000000000
  · left
    rw [decide_eq_true hv] at h
    refine ⟨h, hv, ?_⟩
    match d, hl with
    | a :: c :: u, hl =>
      have hlu : u.length = 8 := by simpa using hl
      obtain ⟨d1, d2⟩ := digs_cons.1 hd
      obtain ⟨d3, d4⟩ := digs_cons.1 d2
      have a1 := isDig_iff.1 d1
      have a3 := isDig_iff.1 d3
      have e1 := dval_cons a (c :: u)
      have e2 := dval_cons c u
      rw [List.length_cons, hlu] at e1
      rw [hlu] at e2
      have hne : a.toNat ≠ 48 := fun e => h0 (by simp; exact UInt8.toNat_inj.1 e)
      have ha : a.toNat = 49 := by
        by_cases hb : 50 ≤ a.toNat
        · have : 2 ≤ a.toNat - 48 := by omega
          have := Nat.mul_le_mul_right (10 ^ (8 + 1)) this
          omega
        · omega
      have : a = 49 := UInt8.toNat_inj.1 ha
      subst this
      refine ⟨c, u, rfl, ?_, hlu, d4, a3.1, a3.2⟩
      rw [e1, e2]
      show (49 - 48) * 10 ^ 9 + _ = _
      omega
  · right
    rw [decide_eq_false hv] at h
    exact ⟨h, by omega⟩
theorem is_digs (t : ByteArray) (l : List UInt8) (h : t.data.toList = l) (hm : l.length ≤ 140737488351232) (w : World) :
    Calls Tryz.prog 39 #[.string t] w fun e w' => e = .returned (.bool (!l.isEmpty && digs l)) ∧ w' = w := by
  have hs := str_size h
  have := isDigitsG_calls t w (by omega)
  rw [h] at this
  have e : decide (0 < t.size) = !l.isEmpty := by
    rw [hs]
    cases l with
    | nil => rfl
    | cons c u => simp
  rw [e] at this
  exact this
set_option maxRecDepth 10000 in
set_option maxHeartbeats 2000000 in
theorem refExp_bad (t : ByteArray) (l : List UInt8) (h : t.data.toList = l) (hl : l.length ≤ 4000) (w : World) (hb : (signL l).2 = [] ∨ digs (signL l).2 = false) :
    Calls Tryz.prog 12 #[.string t] w fun e w' => e = .returned (.tuple #[.int .i64 0, .bool false]) ∧ Below w.heap.size w w' := by
  have K1 := Lib.hid (refSign_calls t l h (by omega) w)
  have hsl := sign_len l
  generalize (signL l).1 = neg at K1
  generalize (signL l).2 = r at K1 hb hsl
  have K2 := fun w => is_digs (⟨r.toArray⟩ : ByteArray) r rfl (by omega) w
  have e : (!r.isEmpty && digs r) = false := by
    rcases hb with rfl | hb
    · rfl
    · rw [hb, Bool.and_false]
  rw [e] at K2
  have K2' := Lib.hid K2
  clear K2 e hb h hsl hl
  go_enter Tryz.func12, Tryz.ntmps12
  go_wp2_with fail
  refine K1.out.mono ?_
  rintro e w1 ⟨rfl, hb⟩
  have HB := Lib.hid hb
  clear hb
  go_wp2_with fail
  refine (K2'.out _).mono ?_
  rintro e w2 ⟨rfl, rfl⟩
  go_wp2
  go_ret2
  exact ⟨rfl, HB.out⟩
/-- What the exponent's digits come to, in the three ways that the reference goes. -/
theorem exp_ways {r : List UInt8} (hd : digs r = true) {n : Int} (hn : clipE r = n) :
    ((bareL r).length ≤ 9 ∧ n = (dval (bareL r) : Int)) ∨
    ((bareL r).length = 10 ∧ Op.bytesLess (bareL r) ten2 = true ∧ ∃ c u, bareL r = 49 :: c :: u ∧ n = 1000000000 + ((c.toNat : Int) - 48) * 100000000 + (dval u : Int) ∧ u.length = 8 ∧ digs u = true ∧ 48 ≤ c.toNat ∧ c.toNat ≤ 57) ∨
    ((bareL r).length = 10 ∧ Op.bytesLess (bareL r) ten2 = false ∧ n = 2000000000) ∨ (10 < (bareL r).length ∧ n = 2000000000) := by
  have hb := bare_digs hd
  have hv := dval_bare r
  unfold clipE at hn
  by_cases h9 : (bareL r).length ≤ 9
  · left
    have := dval_lt hb
    have h2 : 10 ^ (bareL r).length ≤ 10 ^ 9 := Nat.pow_le_pow_right (by decide) h9
    have h3 : (10 : Nat) ^ 9 = 1000000000 := by decide
    rw [if_pos (by omega)] at hn
    exact ⟨h9, by omega⟩
  · right
    by_cases h10 : (bareL r).length = 10
    · rcases less_ten hb (bare_head r) h10 with ⟨h1, h2, c, u, h3, h4, h5, h6, h7, h8⟩ | ⟨h1, h2⟩
      · left
        rw [if_pos (by omega)] at hn
        exact ⟨h10, h1, c, u, h3, by omega, h5, h6, h7, h8⟩
      · right; left
        refine ⟨h10, h1, ?_⟩
        split at hn <;> omega
    · right; right
      refine ⟨by omega, ?_⟩
      have : 10 ^ 10 ≤ dval (bareL r) := by
        have hh := bare_head r
        cases e : bareL r with
        | nil => rw [e] at h9; simp at h9
        | cons c u =>
          rw [e] at hb hh h9 h10
          have g := dval_ge (t := u) (digs_cons.1 hb).1 (by simpa using hh)
          have g2 : 10 ^ 10 ≤ 10 ^ u.length := Nat.pow_le_pow_right (by decide) (by simp at h9 h10; omega)
          omega
      have h3 : (10 : Nat) ^ 10 = 10000000000 := by decide
      rw [if_neg (by omega)] at hn
      exact hn.symm
end Go.Proofs.YtpodpdopgdkdkaaGreatDoor
namespace Go.Proofs.YtpodpdopgdkdkaaGreatDoor
open Go.RowKit
set_option maxRecDepth 10000 in
set_option maxHeartbeats 4000000 in
theorem refExp_good (t : ByteArray) (l : List UInt8) (h : t.data.toList = l) (hl : l.length ≤ 4000) (w : World) (h0 : (signL l).2 ≠ []) (hd : digs (signL l).2 = true) :
    Calls Tryz.prog 12 #[.string t] w fun e w' => e = .returned (.tuple #[.int .i64 (if (signL l).1 then - clipE (signL l).2 else clipE (signL l).2), .bool true]) ∧ Below w.heap.size w w' := by
  have K1 := Lib.hid (refSign_calls t l h (by omega) w)
  have hsl := sign_len l
  generalize (signL l).1 = neg at K1 ⊢
  generalize (signL l).2 = r at K1 h0 hd hsl ⊢
  have K2 := fun w => is_digs (⟨r.toArray⟩ : ByteArray) r rfl (by omega) w
  have e : (!r.isEmpty && digs r) = true := by rw [hd]; simpa using h0
  rw [e] at K2
  have J2 := Lib.hid K2
  have K3 := Lib.hid (fun w => refBare_calls (⟨r.toArray⟩ : ByteArray) r rfl (by omega) w)
  obtain ⟨n, hn⟩ : ∃ n, clipE r = n := ⟨_, rfl⟩
  have hn0 : 0 ≤ n ∧ n ≤ 2000000000 := by rw [← hn]; unfold clipE; split <;> omega
  have hdb := bare_digs hd
  have hways := exp_ways hd hn
  have hbl : (bareL r).length ≤ r.length := by
    obtain ⟨k, hk⟩ := bare_split r
    have := congrArg List.length hk
    simp at this
    omega
  rw [hn]
  generalize bareL r = D at K3 hdb hways hbl
  obtain ⟨DB, hDB⟩ : ∃ q : ByteArray, (⟨D.toArray⟩ : ByteArray) = q := ⟨_, rfl⟩
  have HL : Hid (DB.data.toList = D) := Lib.hid (by rw [← hDB])
  rw [hDB] at K3
  have hsz := str_size HL.out
  obtain ⟨q, hq⟩ : ∃ q, D.length = q := ⟨_, rfl⟩
  rw [hq] at hsz hways hbl
  have HQ := Lib.hid hq
  have HW := Lib.hid hways
  have HDD := Lib.hid hdb
  have hq4 : q ≤ 4000 := by omega
  clear K2 e h0 hd hn hways hdb hDB hq h hsl hbl hl
  go_enter Tryz.func12, Tryz.ntmps12
  go_wp2_with fail
  refine K1.out.mono ?_
  rintro e w1 ⟨rfl, hb⟩
  have HB := Lib.hid hb
  clear hb
  go_wp2_with fail
  refine (J2.out _).mono ?_
  rintro e w2 ⟨rfl, rfl⟩
  go_wp2_with fail
  refine (K3.out _).mono ?_
  rintro e w2 ⟨rfl, rfl⟩
  go_upto_if 20 with fail
  go_cut [6] (fun s6 wx => s6 = .int .i64 n ∧ Below w2.heap.size w2 wx)
  case first =>
    rcases HW.out with ⟨h9, hv⟩ | ⟨h10, hls, c, u, hD, hv, hu, hud, hc1, hc2⟩ | ⟨h10, hls, hv⟩ | ⟨h10, hv⟩
    · have HV := Lib.hid hv
      clear hv HW
      go_wp2
      go_loop [6, 7] (fun v i => ∃ (k x : Nat), k ≤ q ∧ i = .int .i64 k ∧ v = .int .i64 x ∧ x = dval (D.take k)) (fun _ i => q - (intOf i).toNat)
      case atStart => exact ⟨0, 0, Nat.zero_le _, rfl, rfl, rfl⟩
      case round =>
        obtain ⟨k, x, hk, rfl, rfl, hx⟩ := hrel
        have HX := Lib.hid hx
        have hxb : x < 1000000000000000000 := by rw [hx]; exact dval_take_lt HDD.out k (by omega)
        clear hx
        by_cases hlt : k < q
        · have hkl : k < D.length := by rw [HQ.out]; exact hlt
          have hkt : k < DB.size := by omega
          have hg := get_of HL.out hkt hkl
          have hdk := isDig_iff.1 (List.all_eq_true.1 HDD.out _ (List.getElem_mem hkl))
          have hst := dval_take hkl
          rw [← HX.out] at hst
          have hyb : dval (D.take (k + 1)) < 1000000000000000000 := dval_take_lt HDD.out (k + 1) (by omega)
          obtain ⟨c, hc⟩ : ∃ c, D[k]'hkl = c := ⟨_, rfl⟩
          rw [hc] at hg hdk hst
          have h1 : (48 : Int) ≤ (c.toNat : Int) := by omega
          have h2 : (c.toNat : Int) ≤ 57 := by omega
          have h3 : 10 * (x : Int) ≤ 10000000000000000000 := by omega
          have HST := Lib.hid hst
          have hyb2 : 10 * x + (c.toNat - 48) < 1000000000000000000 := by omega
          clear hst hyb hdk hc
          go_wp2
          go_round
          case rel => exact ⟨k + 1, 10 * x + (c.toNat - 48), by omega, by go_num, by congr 1; omega, by rw [HST.out]⟩
          case measure => simp [intOf]; omega
        · obtain rfl : k = q := by omega
          have HF : Hid ((x : Int) = n) := Lib.hid (by rw [HV.out, HX.out, List.take_of_length_le (by rw [HQ.out]; exact Nat.le_refl _)])
          go_wp2
          go_meet
          exact ⟨by rw [HF.out], Below.refl _ _⟩
    · have HV := Lib.hid hv
      have HTL : Hid (Op.bytesLess DB.toList [50, 48, 48, 48, 48, 48, 48, 48, 48, 48] = true) := Lib.hid (by rw [Lib.toList_data, HL.out]; exact hls)
      have h1t : 1 < DB.size := by omega
      have hg := get_of HL.out h1t (show 1 < D.length by rw [HQ.out]; omega)
      have hg2 : DB[1]'h1t = c := by rw [hg]; simp [hD]
      have hx : (DB.extract 2 10).data.toList = u := by
        rw [ByteArray.data_extract, Array.toList_extract, HL.out, hD]
        simp [List.take_of_length_le, hu]
      have KT := Lib.hid (fun w => tail_calls (DB.extract 2 10) u hx hud (by omega) w)
      have hub : (dval u : Int) < 100000000 := by
        have := dval_lt hud
        rw [hu] at this
        have h3 : (10 : Nat) ^ 8 = 100000000 := by decide
        omega
      obtain ⟨du, hdu⟩ : ∃ du : Nat, dval u = du := ⟨_, rfl⟩
      rw [hdu] at hub
      have KT' := KT.out
      rw [hdu] at KT'
      have KT2 := Lib.hid KT'
      have HV2 : Hid (n = 1000000000 + ((c.toNat : Int) - 48) * 100000000 + (du : Nat)) := Lib.hid (by rw [HV.out, hdu])
      have hc1i : (48 : Int) ≤ (c.toNat : Int) := by omega
      have hc2i : (c.toNat : Int) ≤ 57 := by omega
      have hdu0 : (0 : Int) ≤ (du : Int) := by omega
      have htl := HTL.out
      clear hv HW hls hD hg hx KT KT' hdu hu hud HV HTL hc1 hc2
      have HUB := Lib.hid (And.intro hub (And.intro hc1i (And.intro hc2i (And.intro hg2 hdu0))))
      clear hub hc1i hc2i hg2 hdu0
      go_wp2_with fail
      obtain ⟨hub, hc1i, hc2i, hg2, hdu0⟩ := HUB.out
      go_quiet ((go_at_call 41; exact Calls.quiet_of_same (KT2.out _)))
      go_wp2
      go_meet
      exact ⟨by rw [HV2.out], below_drewG (Below.refl _ _) nq⟩
    · have HV := Lib.hid hv
      have htl : Op.bytesLess DB.toList [50, 48, 48, 48, 48, 48, 48, 48, 48, 48] = false := by rw [Lib.toList_data, HL.out]; exact hls
      clear hv HW hls
      go_wp2
      go_meet
      exact ⟨by rw [HV.out], Below.refl _ _⟩
    · have HV := Lib.hid hv
      have hqi : (10 : Int) < (q : Int) := by omega
      have q1 : ((q : Int) == 10) = false := beq_eq_false_iff_ne.2 (by omega)
      clear hv HW
      go_wp2
      go_meet
      exact ⟨by rw [HV.out], Below.refl _ _⟩
  case rest =>
  obtain ⟨rfl, hbc⟩ := hcut
  have HBC := Lib.hid (below_then HB.out hbc)
  clear hbc HW
  cases neg
  · go_wp2
    go_ret2
    exact ⟨rfl, HBC.out⟩
  · have hw := IntWalk.wrap64_in (-n) (by omega)
    go_wp2
    go_ret2
    exact ⟨rfl, HBC.out⟩
theorem refExp_calls (t : ByteArray) (l : List UInt8) (h : t.data.toList = l) (hl : l.length ≤ 4000) (w : World) :
    Calls Tryz.prog 12 #[.string t] w fun e w' => e = .returned (expV (expL l)) ∧ Below w.heap.size w w' := by
  unfold expL
  by_cases hb : (signL l).2 = [] ∨ digs (signL l).2 = false
  · rw [if_pos hb]
    exact refExp_bad t l h hl w hb
  · rw [if_neg hb]
    exact refExp_good t l h hl w (fun e => hb (.inl e)) (by simpa using fun e => hb (.inr e))
end Go.Proofs.YtpodpdopgdkdkaaGreatDoor
