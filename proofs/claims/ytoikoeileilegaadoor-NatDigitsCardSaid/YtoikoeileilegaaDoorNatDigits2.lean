/- The contracts of the reference's Digits and Read; NatDigits: the walk over the law. -/
import Derived.Test.YtoikoeileilegaaDoorRefDec
namespace Go.Proofs.YtoikoeileilegaaDoor
open Go.RowKit
theorem natRes2_slw {w w' : World} {n bd : Nat} {v : Value} {e : Ending} (h : NatRes2 w n bd v e w') : ∃ a c zs, e = .returned (.tuple #[.slice a zs.length c, v]) ∧ SlW w' a zs.length c zs ∧ val zs = n ∧ sz zs = zs.length ∧ zs.length ≤ bd ∧ Below w.heap.size w w' := by
  obtain ⟨a, c, zs, rfl, r1, r2, r3, r4, r5⟩ := h
  exact ⟨a, c, zs, rfl, r1.sl, r2, r3, r4, r5⟩
theorem digVal_zero {xs : List Nat} (h : sz xs = 0) : digVal xs = [48] := by
  unfold digVal
  rw [if_neg (by omega), sz_zero.1 h]
  exact Lib.decDigits_one (by decide)
set_option maxRecDepth 10000 in
set_option maxHeartbeats 2000000 in
theorem refDigits_calls (w : World) (a : Option Addr) (la ca : Nat) (xs : List Nat) (ha : SlW w a la ca xs) (pa : Plain a) (sa : la ≤ 10000) :
    Calls Tryd.prog 37 #[.slice a la ca] w fun e w' => e = .returned (.tuple #[.string ⟨(digVal xs).toArray⟩, .int .i64 (digErr xs)]) ∧ Below w.heap.size w w' := by
  have HS := Lib.hid (refSize_calls w a la ca xs ha)
  by_cases h0 : sz xs = 0
  · rw [digVal_zero h0, show digErr xs = 0 from if_neg (by omega)]
    rw [h0] at HS
    clear h0
    go_enter Tryd.func37, Tryd.ntmps37
    go_wp2_with fail
    refine HS.out.mono ?_
    rintro e w' ⟨rfl, rfl⟩
    go_wp2_with fail
    refine HS.out.mono ?_
    rintro e w' ⟨rfl, rfl⟩
    go_wp2
    go_ret2
    exact ⟨rfl, Below.refl _ _⟩
  · by_cases hb : 2000 < sz xs
    · rw [show digVal xs = [] from if_pos hb, show digErr xs = 4 from if_pos hb]
      generalize sz xs = k at HS hb
      have hbi : (2000 : Int) < (k : Nat) := by omega
      clear h0
      go_enter Tryd.func37, Tryd.ntmps37
      go_wp2_with fail
      refine HS.out.mono ?_
      rintro e w' ⟨rfl, rfl⟩
      go_wp2
      go_ret2
      exact ⟨rfl, Below.refl _ _⟩
    · have hv : digVal xs = Lib.decDigits (val xs) := if_neg hb
      rw [hv, show digErr xs = 0 from if_neg hb]
      have HD := Lib.hid (decimal_calls w a la ca xs ha pa sa (Nat.pos_of_ne_zero fun e => h0 (sz_zero.2 e)))
      generalize sz xs = k at HS hb h0
      have hk0 : ((k : Int) == 0) = false := by simp; omega
      clear hv h0
      go_enter Tryd.func37, Tryd.ntmps37
      go_wp2_with fail
      refine HS.out.mono ?_
      rintro e w' ⟨rfl, rfl⟩
      go_wp2_with fail
      refine HS.out.mono ?_
      rintro e w' ⟨rfl, rfl⟩
      go_wp2_with fail
      refine HD.out.mono ?_
      rintro e w1 ⟨rfl, hb1⟩
      have HB1 := Lib.hid hb1
      clear hb1
      go_wp2
      go_ret2
      exact ⟨rfl, HB1.out⟩
set_option maxRecDepth 10000 in
set_option maxHeartbeats 2000000 in
theorem refRead_calls (w : World) (s : ByteArray) (hs : s.size ≤ 140737488351232) :
    Calls Tryd.prog 39 #[.string s] w (NatRes2 w (readVal s.data.toList) (s.size + 2) (.int .i64 (readErr s.data.toList))) := by
  have hi := fun w => isDigits_calls s w hs
  have hl : s.data.toList.length = s.size := by simp
  have he : s.data.toList = [] ↔ s.size = 0 := by rw [← List.length_eq_zero_iff, hl]
  unfold readVal readErr
  by_cases hg : s.data.toList = [] ∨ digs s.data.toList = false
  · rw [if_pos hg, if_pos hg]
    have hb : (decide (0 < s.size) && digs s.data.toList) = false := by
      rcases hg with h | h
      · rw [decide_eq_false (by have := he.1 h; omega), Bool.false_and]
      · rw [h, Bool.and_false]
    rw [hb] at hi
    have HI := Lib.hid hi
    clear hi hb hg hl he
    go_enter Tryd.func39, Tryd.ntmps39
    go_wp2_with fail
    refine (HI.out _).mono ?_
    rintro e w' ⟨rfl, rfl⟩
    go_wp2
    go_ret2
    exact (natRes_nil _ (Below.refl _ _)).two
  · have hd : digs s.data.toList = true := by
      rcases h : digs s.data.toList with _ | _
      · exact absurd (.inr h) hg
      · rfl
    have h0 : 0 < s.size := Nat.pos_of_ne_zero fun e => hg (.inl (he.2 e))
    rw [if_neg hg, if_neg hg]
    rw [hd, decide_eq_true h0, Bool.true_and] at hi
    have HI := Lib.hid hi
    rw [hl]
    by_cases hlen : 12000 < s.size
    · rw [if_pos hlen, if_pos hlen]
      have hlen' : (12000 : Int) < (s.size : Nat) := by omega
      clear hi hg hl he hd h0
      go_enter Tryd.func39, Tryd.ntmps39
      go_wp2_with fail
      refine (HI.out _).mono ?_
      rintro e w' ⟨rfl, rfl⟩
      go_wp2
      go_ret2
      exact (natRes_nil _ (Below.refl _ _)).two
    · rw [if_neg hlen, if_neg hlen]
      have HN := Lib.hid (fun w => number_calls s w hd (by omega))
      clear hi hg hl he hd h0
      go_enter Tryd.func39, Tryd.ntmps39
      go_wp2_with fail
      refine (HI.out _).mono ?_
      rintro e w' ⟨rfl, rfl⟩
      go_wp2_with fail
      refine (HN.out _).mono ?_
      rintro e w1 ⟨a1, c1, xs, rfl, r⟩
      have R := Lib.hid r
      clear r
      go_wp2
      go_ret2
      exact NatRes.two ⟨a1, c1, xs, rfl, R.out⟩
theorem dig_words {n L : Nat} (h : n < B64 ^ L) (hL : 0 < L) : Lib.nDigits n ≤ 20 * L := by
  refine nDigits_le ?_ (by omega)
  rw [Nat.pow_mul]
  exact Nat.lt_of_lt_of_le h (Nat.pow_le_pow_left (by decide) L)
theorem read_back {xs : List Nat} {L : Nat} (hx : W64 xs) (hl : xs.length = L) (hL : L ≤ 400) : readVal ([48, 48, 48] ++ digVal xs) = val xs ∧ readErr ([48, 48, 48] ++ digVal xs) = 0 := by
  have hv : digVal xs = Lib.decDigits (val xs) := if_neg (by have := sz_le xs; omega)
  have hd : digs ([48, 48, 48] ++ Lib.decDigits (val xs)) = true := digs_append.2 ⟨rfl, decDigits_digs _⟩
  have hn : ¬ ([48, 48, 48] ++ digVal xs = [] ∨ digs ([48, 48, 48] ++ digVal xs) = false) := by
    rw [hv, hd]
    simp
  have hb : Lib.nDigits (val xs) ≤ 20 * (L + 1) := by
    refine dig_words ?_ (by omega)
    have h1 := val_lt hx
    rw [hl] at h1
    exact Nat.lt_of_lt_of_le h1 (Nat.pow_le_pow_right (by decide) (by omega))
  have hlen : ¬ 12000 < ([48, 48, 48] ++ digVal xs).length := by
    rw [hv, List.length_append, dec_length]
    simp
    omega
  unfold readVal readErr
  rw [if_neg hn, if_neg hn, if_neg hlen, if_neg hlen, hv]
  exact ⟨by rw [show ([48, 48, 48] : List UInt8) = List.replicate 3 48 from rfl, dval_noughts, dval_dec], rfl⟩
theorem read_list (w : World) (l : List UInt8) (h : l.length ≤ 140737488351232) : Calls Tryd.prog 38 #[.string ⟨l.toArray⟩] w (NatRes2 w (readVal l) (l.length + 2) (.int .i64 (readErr l))) := read_calls w ⟨l.toArray⟩ h
theorem cat_noughts (l : List UInt8) : (⟨#[48, 48, 48]⟩ : ByteArray) ++ ⟨l.toArray⟩ = ⟨([48, 48, 48] ++ l).toArray⟩ := by
  apply ByteArray.ext
  simp
set_option maxRecDepth 10000 in
set_option maxHeartbeats 4000000 in
theorem natDigits_calls (w : World) (a : Option Addr) (la ca : Nat) (xs : List Nat) (s : ByteArray) (hs : s.size ≤ 140737488351232) (ha : SlW w a la ca xs) (pa : Plain a) (htab : Tab10 w) :
    Calls Tryd.prog 10 #[.slice a la ca, .string s] w fun e w' => e = .returned (.bool true) ∧ Below w.heap.size w w' := by
  have HA := Lib.hid ha
  have HT := Lib.hid htab
  have HAW := Lib.hid (awake_calls w htab)
  clear htab ha
  by_cases hfew : la ≤ 400 ∧ s.size ≤ 13000
  · obtain ⟨hla, hsl⟩ := hfew
    have hrb := read_back HA.out.hw HA.out.hlen hla
    have hcat := cat_noughts (digVal xs)
    have hdl : ([48, 48, 48] ++ digVal xs).length ≤ 140737488351232 := by
      have h1 : digVal xs = Lib.decDigits (val xs) := if_neg (by have := HA.out.sz_le; omega)
      have h2 : Lib.nDigits (val xs) ≤ 20 * (la + 1) := by
        refine dig_words ?_ (by omega)
        have h1 := val_lt HA.out.hw
        rw [HA.out.hlen] at h1
        exact Nat.lt_of_lt_of_le h1 (Nat.pow_le_pow_right (by decide) (by omega))
      rw [h1, List.length_append, dec_length]
      simp
      omega
    have hDL : (digVal xs).length ≤ 140737488351229 := by
      rw [List.length_append] at hdl
      simp at hdl
      omega
    have HR3 := Lib.hid (fun w => read_list w _ hdl)
    rw [hrb.1, hrb.2] at HR3
    generalize ([48, 48, 48] ++ digVal xs) = D3 at hcat HR3
    have hde : digErr xs = 0 := if_neg (by have := HA.out.sz_le; omega)
    have HD1 := Lib.hid (fun W (hW : Below w.heap.size w W) => digits_calls W a la ca xs (HA.out.below hW) pa (by omega) (tabIs_below HT.out hW))
    have HD2 := Lib.hid (fun W (hW : Below w.heap.size w W) => refDigits_calls W a la ca xs (HA.out.below hW) pa (by omega))
    have HR1 := Lib.hid (fun w => read_calls w s hs)
    have HR2 := Lib.hid (fun w => refRead_calls w s hs)
    generalize readVal s.data.toList = V at HR1 HR2
    generalize readErr s.data.toList = E at HR1 HR2
    rw [hde] at HD1 HD2
    generalize digVal xs = D at HD1 HD2 hcat hDL
    clear hrb hdl hde
    go_enter Tryd.func10, Tryd.ntmps10
    go_wp2_with fail
    refine HAW.out.mono ?_
    rintro e w1 ⟨rfl, hb1⟩
    have HB1 := Lib.hid hb1
    clear hb1
    go_wp2_with fail
    refine (HD1.out _ HB1.out).mono ?_
    rintro e w2 ⟨rfl, hb2⟩
    have HB2 := Lib.hid (below_then HB1.out hb2)
    clear hb2
    go_wp2_with fail
    refine (HD2.out _ HB2.out).mono ?_
    rintro e w3 ⟨rfl, hb3⟩
    have HB3 := Lib.hid (below_then HB2.out hb3)
    clear hb3
    go_wp2_with fail
    refine (HR1.out _).mono ?_
    rintro e w4 hp
    obtain ⟨a1, c1, z1, rfl, r1, r2, r3, -, r5⟩ := natRes2_slw hp
    have R1 := Lib.hid (And.intro r1 (And.intro r2 (And.intro r3 r5)))
    clear r1 r2 r3 r5 hp
    go_wp2_with fail
    refine (HR2.out _).mono ?_
    rintro e w5 hp
    obtain ⟨a2, c2, z2, rfl, r1, r2, r3, -, r5⟩ := natRes2_slw hp
    have R2 := Lib.hid (And.intro r1 (And.intro r2 (And.intro r3 r5)))
    clear r1 r2 r3 r5 hp
    go_wp2_with fail
    refine (HR3.out _).mono ?_
    rintro e w6 hp
    obtain ⟨a3, c3, z3, rfl, r1, r2, r3, -, r5⟩ := natRes2_slw hp
    have HB6 := Lib.hid (below_then (below_then (below_then HB3.out R1.out.2.2.2) R2.out.2.2.2) r5)
    have HS1 := Lib.hid (same_calls w6 _ _ _ _ _ _ _ _ ((R1.out.1.below R2.out.2.2.2).below r5) (R2.out.1.below r5) (by rw [R1.out.2.1, R2.out.2.1]) R1.out.2.2.1)
    have HS2 := Lib.hid (same_calls w6 _ _ _ _ _ _ _ _ r1 (HA.out.below HB6.out) r2 r3)
    clear r1 r2 r3 r5 hp
    go_wp2_with fail
    refine HS1.out.mono ?_
    rintro e w7 ⟨rfl, rfl⟩
    go_wp2_with fail
    refine HS2.out.mono ?_
    rintro e w7 ⟨rfl, rfl⟩
    go_wp2
    go_ret
    exact ⟨rfl, HB6.out⟩
  · go_enter Tryd.func10, Tryd.ntmps10
    go_wp2_with fail
    refine HAW.out.mono ?_
    rintro e w1 ⟨rfl, hb1⟩
    have HB1 := Lib.hid hb1
    have HAW2 := Lib.hid (awake_calls w1 (tabIs_below HT.out hb1))
    clear hb1
    by_cases hla : la ≤ 400
    · have hsl : (13000 : Int) < (s.size : Int) := by omega
      clear hfew
      go_wp2_with fail
      refine HAW2.out.mono ?_
      rintro e w2 ⟨rfl, hb2⟩
      have HB2 := Lib.hid hb2
      clear hb2
      go_wp2
      go_ret
      exact ⟨rfl, below_then HB1.out HB2.out⟩
    · have hla' : (400 : Int) < (la : Int) := by omega
      clear hfew hla
      go_wp2_with fail
      refine HAW2.out.mono ?_
      rintro e w2 ⟨rfl, hb2⟩
      have HB2 := Lib.hid hb2
      clear hb2
      go_wp2
      go_ret
      exact ⟨rfl, below_then HB1.out HB2.out⟩
theorem natDigits_row (a0 : Option Addr) (len0 cap0 : Nat) (z0 : List Int) (a1 : ByteArray) (W : World) (w0 : RowAt .u64 W a0 len0 cap0 z0) (_ : len0 * 8 ≤ 140737488351232) (p0 : Plain a0) (w1 : a1.size ≤ 140737488351232) (hT : Tab10 W) :
    Calls Tryd.prog 10 #[.slice a0 len0 cap0, .string a1] W fun e w' => e = .returned (.bool true) ∧ Below W.heap.size W w' :=
  natDigits_calls W a0 len0 cap0 _ a1 w1 (w0.slW p0) p0 hT
end Go.Proofs.YtoikoeileilegaaDoor
