/- The contract of nat.Read. -/
import Derived.Test.YtoikoeileilegaaDoorReadMath
import Derived.Test.YtoikoeileilegaaDoorNatDigits
import Derived.Test.YtoikoeileilegaaDoorNatLaws
import Derived.Shelf.Strings.SlTrimAscii
import Derived.Lib.AtoiErrMem
namespace Go.Proofs.YtoikoeileilegaaDoor
open Go.RowKit
theorem trimDigits_calls (s : ByteArray) (w : World) (hs : s.size ≤ 9223372036854775807) :
    Calls Tryd.prog 64 #[.string s, .string ⟨#[48, 49, 50, 51, 52, 53, 54, 55, 56, 57]⟩] w fun e w' => e = .returned (.string ⟨(Lib.trimS s.data.toList tenDigits).toArray⟩) ∧ Below w.heap.size w w' :=
  Any.strings_Trim_laid Tryd.lays160 (by kernel_rfl) s ⟨#[48, 49, 50, 51, 52, 53, 54, 55, 56, 57]⟩ w hs (by decide) (ascii_of_all (by decide))
theorem below_bytes (w : World) (e : TypeId) (s : ByteArray) : Below w.heap.size w (Lib.bytesWorld w e s) := Lib.bytesWorld_below w e s
set_option maxRecDepth 10000 in
set_option maxHeartbeats 2000000 in
theorem parseUint_calls (s : ByteArray) (w : World) (hd : digs s.data.toList = true) (h0 : 0 < s.size) (hl : s.size ≤ 19) :
    Calls Tryd.prog 65 #[.string s, .int .i64 10, .int .i64 64] w fun e w' => e = .returned (.tuple #[.int .u64 (dval s.data.toList : Nat), .nilIface]) ∧ Below w.heap.size w w' := by
  have hb : dval s.data.toList < 10 ^ 19 := Nat.lt_of_lt_of_le (dval_lt hd) (Nat.pow_le_pow_right (by decide) (by simpa using hl))
  have hp := parse_digs s.data.toList 0 hd hb
  have hc := Tryd.internal_strconv_ParseUint_10_b64 s (by omega) (by omega) w
  rw [hp] at hc
  have HC := Lib.hid hc
  clear hc hp hb hd
  go_enter Tryd.func65, Tryd.ntmps65
  go_wp2_with fail
  refine HC.out.mono ?_
  rintro e w' ⟨rfl, rfl⟩
  unfold Lib.uintTuple
  go_wp2
  go_ret2
  exact ⟨rfl, below_bytes _ _ _⟩
theorem extract_take (r : List UInt8) (q : Nat) : (⟨r.toArray⟩ : ByteArray).extract 0 q = ⟨(r.take q).toArray⟩ := by
  apply ByteArray.ext
  simp
theorem extract_drop (r : List UInt8) (q : Nat) : (⟨r.toArray⟩ : ByteArray).extract q r.length = ⟨(r.drop q).toArray⟩ := by
  apply ByteArray.ext
  simp [List.take_of_length_le]
theorem product19_calls (w : World) (a : Option Addr) (la ca : Nat) (xs : List Nat) (ha : SlW w a la ca xs) (sa : la ≤ 4398046511104) (g : Nat) (hg : w.heap.size = g) :
    Calls Tryd.prog 41 #[.slice a la ca, .slice (some ⟨g, 0, none⟩) 1 1] (w.alloc (.cells #[.int .u64 10000000000000000000] 46)) (NatRes (w.alloc (.cells #[.int .u64 10000000000000000000] 46)) (val xs * 10 ^ 19) (la + 1)) := by
  subst hg
  have h := product_calls (w.alloc (.cells #[.int .u64 (TEN19 : Nat)] 46)) a (some ⟨w.heap.size, 0, none⟩) la ca 1 1 xs [TEN19] (ha.below ((Below.refl _ _).alloc (Nat.le_refl _) _)) ((one_word w TEN19).slAll (N := 1) (w64_one (by decide)) rfl (by omega)) sa (by omega)
  rw [val_one, ← ten19] at h
  exact h
theorem ten_words (n : Nat) : 10 ^ n < B64 ^ (n / 19 + 1) := by
  have h1 : (10 : Nat) ^ n ≤ 10 ^ (19 * (n / 19 + 1)) := Nat.pow_le_pow_right (by decide) (by omega)
  rw [Nat.pow_mul] at h1
  have h2 : ((10 : Nat) ^ 19) ^ (n / 19 + 1) < B64 ^ (n / 19 + 1) := Nat.pow_lt_pow_left (by decide) (by omega)
  exact Nat.lt_of_le_of_lt h1 h2
theorem dval_words {l : List UInt8} (h : digs l = true) {n : Nat} (hn : l.length ≤ n) : dval l < B64 ^ (n + 1) :=
  Nat.lt_of_lt_of_le (dval_lt h) (Nat.le_trans (Nat.le_of_lt (ten_words l.length)) (Nat.pow_le_pow_right (by decide) (by omega)))
/-- One chunk of digits. -/
theorem read_step {l : List UInt8} {i q n : Nat} (hv : n = dval (l.take i)) (hm : i = 0 ∨ q = 19) (hq : i + q ≤ l.length) : n * 10 ^ 19 + dval ((l.drop i).take q) = dval (l.take (i + q)) := by
  rw [List.take_add, dval_append, ← hv, List.length_take, List.length_drop, Nat.min_eq_left (by omega)]
  rcases hm with rfl | rfl
  · rw [hv]
    simp [dval_nil]
  · rfl
def readErr (l : List UInt8) : Int := if l = [] ∨ digs l = false then 2 else if 12000 < l.length then 4 else 0
def readVal (l : List UInt8) : Nat := if l = [] ∨ digs l = false then 0 else if 12000 < l.length then 0 else dval l
set_option maxRecDepth 10000 in
set_option maxHeartbeats 2000000 in
theorem read_calls (w : World) (s : ByteArray) (hs : s.size ≤ 140737488351232) :
    Calls Tryd.prog 38 #[.string s] w (NatRes2 w (readVal s.data.toList) (s.size + 2) (.int .i64 (readErr s.data.toList))) := by
  unfold readVal readErr
  have HTR := Lib.hid (fun w => trimDigits_calls s w (by omega))
  obtain ⟨l, rfl⟩ : ∃ l : List UInt8, s = ⟨l.toArray⟩ := ⟨s.data.toList, by simp⟩
  by_cases h0 : l = []
  · subst h0
    rw [if_pos (.inl rfl), if_pos (.inl rfl)]
    go_enter Tryd.func38, Tryd.ntmps38
    go_wp2
    go_ret2
    exact (natRes_nil _ (Below.refl _ _)).two
  · have hle : l.isEmpty = false := by cases l <;> simp_all
    by_cases hd : digs l = true
    · have htr : Lib.trimS l tenDigits = [] := (trim_digs l).2 hd
      have hne : ¬ (l = [] ∨ digs l = false) := by simp [h0, hd]
      rw [if_neg hne, if_neg hne]
      simp only [htr] at HTR
      have hsl : (⟨l.toArray⟩ : ByteArray).size = l.length := by simp [ByteArray.size]
      rw [hsl] at hs ⊢
      by_cases hlen : 12000 < l.length
      · rw [if_pos hlen, if_pos hlen]
        have hlen' : (12000 : Int) < (l.length : Int) := by omega
        clear hne
        go_enter Tryd.func38, Tryd.ntmps38
        go_wp2_with fail
        refine (HTR.out _).mono ?_
        rintro e w1 ⟨rfl, hb1⟩
        have HB1 := Lib.hid hb1
        clear hb1
        go_wp2
        go_ret2
        exact (natRes_nil _ HB1.out).two
      · rw [if_neg hlen, if_neg hlen]
        clear hne
        go_enter Tryd.func38, Tryd.ntmps38
        go_wp2_with fail
        refine (HTR.out _).mono ?_
        rintro e w1 ⟨rfl, hb1⟩
        have HB1 := Lib.hid hb1
        clear hb1
        go_wp2_with fail
        go_loopw [0, 4] (fun sv ov wr => ∃ (i : Nat) (a : Option Addr) (c : Nat) (zs : List Nat), i ≤ l.length ∧ sv = .string ⟨(l.drop i).toArray⟩ ∧ ov = .slice a zs.length c ∧ OwnW w.heap.size wr a zs.length c zs ∧ sz zs = zs.length ∧ val zs = dval (l.take i) ∧ (i = 0 ∨ (l.length - i) % 19 = 0) ∧ Below w.heap.size w wr) (fun sv _ _ => match sv with | .string b => b.size | _ => 0)
        case atStart => exact ⟨0, none, 0, [], by omega, rfl, rfl, ownW_nil _ _, rfl, rfl, .inl rfl, HB1.out⟩
        case round =>
          obtain ⟨i, a, c, zs, hi, rfl, rfl, ho, hz, hv, hm, hb⟩ := hrel
          have HO := Lib.hid ho
          have HZ := Lib.hid hz
          have HV := Lib.hid hv
          have HBR := Lib.hid hb
          have hzl : zs.length ≤ l.length + 1 := len_of_val hz (by rw [hv]; exact dval_words (digs_take hd i) (by rw [List.length_take]; omega))
          clear ho hz hv hb
          by_cases hlt : i < l.length
          · obtain ⟨r, hr⟩ : ∃ r, l.drop i = r := ⟨_, rfl⟩
            have hrl : r.length = l.length - i := by rw [← hr, List.length_drop]
            obtain ⟨q0, hq0⟩ : ∃ q, (r.length - 1) % 19 = q := ⟨_, rfl⟩
            obtain ⟨q, hq⟩ : ∃ q, q0 + 1 = q := ⟨_, rfl⟩
            have hqi0 : ((r.length : Int) - 1) % 19 = (q0 : Nat) := by omega
            have hqi : (q0 : Int) + 1 = (q : Nat) := by omega
            have hqr : q ≤ r.length := by omega
            have hq19 : q ≤ 19 := by omega
            have hrp : 0 < r.length := by omega
            have HM := Lib.hid (show i = 0 ∨ q = 19 by rcases hm with h | h; exact .inl h; exact .inr (by omega))
            have HN := Lib.hid (read_step HV.out HM.out (show i + q ≤ l.length by omega))
            have HMM := Lib.hid (show i + q = 0 ∨ (l.length - (i + q)) % 19 = 0 from .inr (by omega))
            have hq1 : 0 < q := by omega
            have hdr : digs (r.take q) = true := by rw [← hr]; exact digs_take (digs_drop hd i) q
            have hx1 := extract_take r q
            have hx2 := extract_drop r q
            have HPU := Lib.hid (fun w => parseUint_calls ⟨(r.take q).toArray⟩ w (by simpa using hdr) (by simp [ByteArray.size]; omega) (by simp [ByteArray.size]; omega))
            rw [hr] at HN
            have hxb : dval (r.take q) < B64 := Nat.lt_of_lt_of_le (dval_lt hdr) (Nat.le_trans (Nat.pow_le_pow_right (by decide) (show (r.take q).length ≤ 19 by rw [List.length_take]; omega)) (by decide))
            have HXB := Lib.hid hxb
            have HDD : Hid (l.drop (i + q) = r.drop q) := Lib.hid (by rw [← hr, List.drop_drop])
            have hil : i + q ≤ l.length := by omega
            have HR := Lib.hid hr
            have hr12 : r.length ≤ 12000 := by omega
            rw [hr]
            clear hrl hm hdr hxb hr
            go_wp2_with fail
            refine (HPU.out _).mono ?_
            rintro e w2 ⟨rfl, hb2⟩
            have HB2 := Lib.hid (below_then HBR.out hb2)
            have HO2 := Lib.hid (HO.out.keep hb2)
            clear hb2
            go_wp2_with fail
            refine (product19_calls w2 a _ c zs HO2.out.sl (by omega) _ rfl).mono ?_
            rintro e w3 hp
            have hp2 := natRes_trans (HB2.out.alloc HB2.out.size _) hp
            obtain ⟨a3, c3, us, rfl, r1, r2, r3, hul, r5⟩ := hp2
            have R3 := Lib.hid (And.intro r1 (And.intro r2 (And.intro r3 r5)))
            clear r1 r2 r3 r5 hp
            go_wp2_with fail
            refine (add_calls _ a3 _ _ c3 1 1 us [dval (r.take q)] (R3.out.1.keep ((Below.refl _ _).alloc (Nat.le_refl _) _)).sl ((one_word w3 (dval (r.take q))).slAll (N := 1) (w64_one HXB.out) rfl (by omega)) (by omega) (by omega)).mono ?_
            rintro e w4 hp
            rw [R3.out.2.1, val_one, HN.out] at hp
            have hp2 := natRes_trans (R3.out.2.2.2.alloc R3.out.2.2.2.size _) hp
            obtain ⟨a4, c4, vs, rfl, r1, r2, r3, -, r5⟩ := hp2
            have R4 := Lib.hid (And.intro r1 (And.intro r2 (And.intro r3 r5)))
            clear r1 r2 r3 r5 hp
            go_wp2
            go_roundw
            case rel => exact ⟨i + q, a4, c4, vs, hil, by rw [HDD.out], rfl, R4.out.1, R4.out.2.2.1, R4.out.2.1, HMM.out, R4.out.2.2.2⟩
            case measure => simp [ByteArray.size]; omega
          · have hie : i = l.length := by omega
            subst hie
            have HE : Hid (val zs = dval l) := Lib.hid (by rw [HV.out, List.take_length])
            have hdr : l.drop l.length = [] := List.drop_length
            rw [hdr]
            go_wp2
            go_ret2
            exact NatRes.two ⟨a, c, zs, rfl, HO.out, HE.out, HZ.out, by omega, HBR.out⟩
    · have hd' : digs l = false := by simpa using hd
      have htr : Lib.trimS l tenDigits ≠ [] := fun e => hd ((trim_digs l).1 e)
      rw [if_pos (.inr hd'), if_pos (.inr hd')]
      generalize Lib.trimS l tenDigits = t at HTR htr
      have hte : t.isEmpty = false := by cases t <;> simp_all
      go_enter Tryd.func38, Tryd.ntmps38
      go_wp2_with fail
      refine (HTR.out _).mono ?_
      rintro e w1 ⟨rfl, hb1⟩
      have HB1 := Lib.hid hb1
      clear hb1
      go_wp2
      go_ret2
      exact (natRes_nil _ HB1.out).two
end Go.Proofs.YtoikoeileilegaaDoor
