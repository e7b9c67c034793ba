/- The contract of grammar.Exponent. -/
import Derived.Test.YtiocdgehpiagjaaDoorGrWord3
import Derived.Deep.DeepCutAuto
import Derived.IntWalk
namespace Go.Proofs.YtiocdgehpiagjaaDoor
open Go.RowKit
theorem decFrom_digs : ∀ (l : List UInt8) (a : Nat), digs l = true → Lib.decFrom a l = some (dvalFrom a l)
  | [], _, _ => rfl
  | c :: t, a, h => by
    obtain ⟨h1, h2⟩ := digs_cons.1 h
    have hc := isDig_iff.1 h1
    have e : Lib.digitVal c = some (c.toNat - 48) := by unfold Lib.digitVal; rw [if_pos hc]
    unfold Lib.decFrom
    rw [e]
    simp only []
    rw [decFrom_digs t _ h2]
    show some (dvalFrom (a * 10 + (c.toNat - 48)) t) = some (dvalFrom (10 * a + (c.toNat - 48)) t)
    rw [Nat.mul_comm]
theorem atoi_digs {d : List UInt8} (h : digs d = true) : Lib.atoi (48 :: d) = some (dval d : Int) := by
  have h1 : digs (48 :: d) = true := digs_cons.2 ⟨by decide, h⟩
  have e : Lib.atoi (48 :: d) = (Lib.decNat (48 :: d)).map fun (m : Nat) => (m : Int) := rfl
  rw [e]
  unfold Lib.decNat
  rw [if_neg (by simp), decFrom_digs _ _ h1]
  have := dval_noughts 1 d
  simp only [List.replicate_one, List.singleton_append] at this
  rw [← this]
  rfl
theorem bare_split (l : List UInt8) : ∃ k, l = List.replicate k 48 ++ bareL l := by
  induction l with
  | nil => exact ⟨0, rfl⟩
  | cons c t ih =>
    by_cases h : c = 48
    · subst h
      obtain ⟨k, hk⟩ := ih
      refine ⟨k + 1, ?_⟩
      have e : bareL (48 :: t) = bareL t := by unfold bareL; rw [List.dropWhile_cons, if_pos (by rfl)]
      rw [e, List.replicate_succ, List.cons_append, ← hk]
    · refine ⟨0, ?_⟩
      have e : bareL (c :: t) = c :: t := bare_same (by simpa using h)
      rw [e]
      rfl
theorem dval_bare (l : List UInt8) : dval (bareL l) = dval l := by
  obtain ⟨k, hk⟩ := bare_split l
  conv => rhs; rw [hk]
  rw [dval_noughts]
theorem dval_ge {c : UInt8} {t : List UInt8} (h : isDig c = true) (h0 : c ≠ 48) : 10 ^ t.length ≤ dval (c :: t) := by
  have e : dval (c :: t) = dval [c] * 10 ^ t.length + dval t := by
    have := dval_append [c] t
    simpa using this
  have h1 : 1 ≤ dval [c] := by
    have hc := isDig_iff.1 h
    have : c.toNat ≠ 48 := fun e => h0 (UInt8.toNat_inj.1 e)
    show 1 ≤ 10 * 0 + (c.toNat - 48)
    omega
  rw [e]
  have := Nat.mul_le_mul_right (10 ^ t.length) h1
  omega
/-- Twelve digits or more, the first no nought, are too many. -/
theorem clip_long {l : List UInt8} (h : digs l = true) (hl : 12 ≤ (bareL l).length) : clipE l = 2000000000 := by
  have h1 := dval_bare l
  have hd := bare_digs h
  have hh := bare_head l
  cases e : bareL l with
  | nil => rw [e] at hl; simp at hl
  | cons c t =>
    rw [e] at hl h1 hd hh
    have := dval_ge (t := t) (digs_cons.1 hd).1 (by simpa using hh)
    have h2 : 10 ^ 11 ≤ 10 ^ t.length := Nat.pow_le_pow_right (by decide) (by simp at hl; omega)
    have h3 : (10 : Nat) ^ 11 = 100000000000 := by decide
    unfold clipE
    rw [if_neg (by omega)]
theorem below_bytes (w : World) (e : TypeId) (s : ByteArray) : Below w.heap.size w (Lib.bytesWorld w e s) := Lib.bytesWorld_below w e s
theorem atoi_calls (s : ByteArray) (d : List UInt8) (hs : s.data.toList = 48 :: d) (hd : digs d = true) (hl : d.length ≤ 11) (w : World) :
    Calls Tryd.prog 35 #[.string s] w fun e w' => e = .returned (.tuple #[.int .i64 (dval d : Nat), .nilIface]) ∧ Below w.heap.size w w' := by
  have hsz : s.size = s.data.toList.length := by simp
  refine (Tryd.strconv_Atoi s (dval d : Nat) (by rw [hsz, hs]; simp; omega) (by rw [hs]; exact atoi_digs hd) w).mono ?_
  rintro e w' ⟨rfl, t, rfl⟩
  exact ⟨rfl, below_bytes _ _ _⟩
set_option maxRecDepth 10000 in
set_option maxHeartbeats 2000000 in
theorem exp_bad (t : ByteArray) (l : List UInt8) (h : t.data.toList = l) (hl : l.length ≤ 4000) (w : World) (hb : (signL l).2 = [] ∨ digs (signL l).2 = false) :
    Calls Tryd.prog 20 #[.string t] w fun e w' => e = .returned (.tuple #[.int .i64 0, .bool false]) ∧ Below w.heap.size w w' := by
  have K1 := Lib.hid (sign_calls t l h w)
  have hsl : (signL l).2.length ≤ 4000 := by
    unfold signL
    split
    · simp
    · split
      · simp at hl ⊢; omega
      · split
        · simp at hl ⊢; omega
        · exact hl
  generalize (signL l).1 = neg at K1
  generalize (signL l).2 = r at K1 hb hsl
  have K2 := Lib.hid (run_calls (⟨r.toArray⟩ : ByteArray) r rfl (by omega) w)
  have hb2 : (runL r).1.isEmpty = true ∨ ((runL r).1.isEmpty = false ∧ (runL r).2.isEmpty = false) := by
    rcases hb with rfl | hb
    · exact .inl rfl
    · cases he : (runL r).1.isEmpty with
      | true => exact .inl rfl
      | false =>
        refine .inr ⟨rfl, ?_⟩
        cases hf : (runL r).2 with
        | nil => rw [(digs_run r).1 hf] at hb; cases hb
        | cons c u => rfl
  have eA : (⟨(runL r).1.toArray⟩ : ByteArray).toList.isEmpty = (runL r).1.isEmpty := isEmpty_of rfl
  have eB : (⟨(runL r).2.toArray⟩ : ByteArray).toList.isEmpty = (runL r).2.isEmpty := isEmpty_of rfl
  generalize (⟨(runL r).1.toArray⟩ : ByteArray) = A at K2 eA
  generalize (⟨(runL r).2.toArray⟩ : ByteArray) = B at K2 eB
  rw [← eA, ← eB] at hb2
  clear eA eB hb h hsl hl
  have HB2 := Lib.hid hb2
  clear hb2
  rcases HB2.out with hA | ⟨hA, hB⟩
  · clear HB2
    go_enter Tryd.func20, Tryd.ntmps20
    go_wp2_with fail
    refine K1.out.mono ?_
    rintro e w1 ⟨rfl, rfl⟩
    go_wp2_with fail
    refine K2.out.mono ?_
    rintro e w2 ⟨rfl, hb⟩
    have HB := Lib.hid hb
    clear hb
    go_wp2
    go_ret2
    exact ⟨rfl, HB.out⟩
  · clear HB2
    go_enter Tryd.func20, Tryd.ntmps20
    go_wp2_with fail
    refine K1.out.mono ?_
    rintro e w1 ⟨rfl, rfl⟩
    go_wp2_with fail
    refine K2.out.mono ?_
    rintro e w2 ⟨rfl, hb⟩
    have HB := Lib.hid hb
    clear hb
    go_wp2
    go_ret2
    exact ⟨rfl, HB.out⟩
set_option maxRecDepth 10000 in
set_option maxHeartbeats 2000000 in
theorem exp_good (t : ByteArray) (l : List UInt8) (h : t.data.toList = l) (hl : l.length ≤ 4000) (w : World) (h0 : (signL l).2 ≠ []) (hd : digs (signL l).2 = true) :
    Calls Tryd.prog 20 #[.string t] w fun e w' => e = .returned (.tuple #[.int .i64 (if (signL l).1 then - clipE (signL l).2 else clipE (signL l).2), .bool true]) ∧ Below w.heap.size w w' := by
  have K1 := Lib.hid (sign_calls t l h w)
  have hsl : (signL l).2.length ≤ 4000 := by
    unfold signL
    split
    · simp
    · split
      · simp at hl ⊢; omega
      · split
        · simp at hl ⊢; omega
        · exact hl
  generalize (signL l).1 = neg at K1 ⊢
  generalize (signL l).2 = r at K1 h0 hd hsl ⊢
  have K2 := run_calls (⟨r.toArray⟩ : ByteArray) r rfl (by omega) w
  rw [run_digs hd, (digs_run r).2 hd] at K2
  have K2 := Lib.hid K2
  have K3 := Lib.hid (fun w => bare_calls (⟨r.toArray⟩ : ByteArray) r rfl w)
  have eA : (⟨r.toArray⟩ : ByteArray).toList.isEmpty = false := by rw [isEmpty_of (l := r) rfl]; simpa using h0
  have eB : (⟨#[]⟩ : ByteArray).toList.isEmpty = true := by rw [isEmpty_of (l := []) rfl]; rfl
  generalize (⟨r.toArray⟩ : ByteArray) = A at K1 K2 K3 eA
  obtain ⟨n, hn⟩ : ∃ n, clipE r = n := ⟨_, rfl⟩
  have hn0 : 0 ≤ n ∧ n ≤ 2000000000 := by rw [← hn]; unfold clipE; split <;> omega
  have hdb := bare_digs hd
  have hcase : ∃ v1 : Int, ((bareL r).length ≤ 11 ∧ (dval (bareL r) : Int) = v1 ∧ (v1 ≤ 2000000000 ∧ v1 = n ∨ 2000000000 < v1 ∧ n = 2000000000)) ∨ (12 ≤ (bareL r).length ∧ v1 = 2000000000 ∧ n = 2000000000) := by
    by_cases hl2 : (bareL r).length ≤ 11
    · refine ⟨_, .inl ⟨hl2, rfl, ?_⟩⟩
      rw [dval_bare]
      unfold clipE at hn
      split at hn
      · left; omega
      · right; omega
    · exact ⟨2000000000, .inr ⟨by omega, rfl, by rw [← hn]; exact clip_long hd (by omega)⟩⟩
  obtain ⟨v1, hcase⟩ := hcase
  rw [hn]
  generalize hD : bareL r = D at K3 hdb hcase
  have hsz : (⟨D.toArray⟩ : ByteArray).size = D.length := by show D.toArray.size = _; simp
  have K4 := Lib.hid (fun (s : ByteArray) w hs (hl : D.length ≤ 11) => atoi_calls s D hs hdb hl w)
  have hDs : (⟨D.toArray⟩ : ByteArray).data.toList = D := rfl
  generalize (⟨D.toArray⟩ : ByteArray) = DB at K3 hsz hDs
  generalize (dval D : Int) = v at hcase K4
  generalize D.length = q at hsz hcase K4
  have HC := Lib.hid hcase
  have HS := Lib.hid hsz
  have HDS := Lib.hid hDs
  clear hcase hD hn h0 hd hdb hsl h hl hsz hDs
  go_enter Tryd.func20, Tryd.ntmps20
  go_wp2_with fail
  refine K1.out.mono ?_
  rintro e w1 ⟨rfl, rfl⟩
  go_wp2_with fail
  refine K2.out.mono ?_
  rintro e w2 ⟨rfl, hb⟩
  have HB := Lib.hid hb
  clear hb
  go_wp2_with fail
  refine (K3.out _).mono ?_
  rintro e w3 ⟨rfl, rfl⟩
  have hsz := HS.out
  have hq0 : (0 : Int) ≤ (q : Int) := by omega
  go_upto_if 28 with fail
  go_cut [7] (fun s7 wx => s7 = .int .i64 v1 ∧ Below w3.heap.size w3 wx)
  case first =>
    rcases HC.out with ⟨hq, hv⟩ | ⟨hq, hv⟩
    · have HV := Lib.hid hv.1
      clear hv HC
      go_wp2_with fail
      refine (K4.out _ _ (by rw [ByteArray.data_append, Array.toList_append, HDS.out]; rfl) hq).mono ?_
      rintro e w4 ⟨rfl, hb4⟩
      have HB4 := Lib.hid hb4
      clear hb4
      go_wp2
      go_meet
      exact ⟨by rw [HV.out], HB4.out⟩
    · have HV := Lib.hid hv
      clear hv HC
      go_wp2
      go_meet
      exact ⟨by rw [HV.out.1], Below.refl _ _⟩
  case rest =>
  obtain ⟨rfl, hbc⟩ := hcut
  have HBC := Lib.hid (below_then HB.out hbc)
  clear hbc
  have HMIN : Hid (min v1 2000000000 = n) := Lib.hid (by rcases HC.out with ⟨_, h, a | a⟩ | ⟨_, h, a⟩ <;> omega)
  clear HC
  cases neg
  · go_wp2
    go_ret2
    exact ⟨by rw [← HMIN.out]; rfl, HBC.out⟩
  · have hw := IntWalk.wrap64_in (-n) (by omega)
    have HW := Lib.hid hw
    clear hw
    go_wp2
    go_ret2
    refine ⟨?_, HBC.out⟩
    rw [HMIN.out, HW.out]
    rfl
def expV (o : Option Int) : Value := .tuple #[.int .i64 (o.getD 0), .bool o.isSome]
theorem exp_calls (t : ByteArray) (l : List UInt8) (h : t.data.toList = l) (hl : l.length ≤ 4000) (w : World) :
    Calls Tryd.prog 20 #[.string t] w fun e w' => e = .returned (expV (expL l)) ∧ Below w.heap.size w w' := by
  unfold expL
  by_cases hb : (signL l).2 = [] ∨ digs (signL l).2 = false
  · rw [if_pos hb]
    exact exp_bad t l h hl w hb
  · rw [if_neg hb]
    exact exp_good t l h hl w (fun e => hb (.inl e)) (by simpa using fun e => hb (.inr e))
end Go.Proofs.YtiocdgehpiagjaaDoor
