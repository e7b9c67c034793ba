/- Rows of bytes of the call's own; the plain laws of Decimal. · The contracts of the reference's Decimal and Digits. · The contracts of the reference's Digits and Read; NatDigits: the walk over the law. -/
import Derived.Test.YtpodpdopgdkdkaaGreatDoorMw23
import Derived.Laws.IdiomStrings
set_option linter.unusedVariables false
set_option linter.unusedSimpArgs false
namespace Go.Proofs.YtpodpdopgdkdkaaGreatDoor
open Go.RowKit
def bv (b : UInt8) : Value := .int .u8 (b.toNat : Int)
theorem u8_info : (Tryz.prog.info? 5).map (fun i => (i.zero, i.size, i.bytes)) = some (some (.int .u8 0), 1, 1) := by kernel_rfl
/-- A slice of bytes in memory of the call's own. -/
def OwnY (B : Nat) (w : World) (a : Option Addr) (len cap : Nat) (l : List UInt8) : Prop := w.ownsRow B 5 1 (.slice a len cap) len (l.map bv)
theorem OwnY.keep {B : Nat} {w w' : World} {a : Option Addr} {len cap : Nat} {l : List UInt8} (h : OwnY B w a len cap l) (hb : Below w.heap.size w w') : OwnY B w' a len cap l := by
  obtain ⟨h1, h2⟩ := h
  refine ⟨h1, ?_⟩
  rcases h2 with h2 | ⟨g, c, cur, hv, hB, hg, r⟩
  · exact .inl h2
  · exact .inr ⟨g, c, cur, hv, hB, below_heap hb hg, r⟩
theorem OwnY.len {B : Nat} {w : World} {a : Option Addr} {len cap : Nat} {l : List UInt8} (h : OwnY B w a len cap l) : l.length = len := by simpa using h.1
theorem ownY_nil (B : Nat) (w : World) : OwnY B w none 0 0 [] := ⟨rfl, .inl ⟨rfl, rfl⟩⟩
theorem OwnY.lt {B : Nat} {w : World} {ad : Addr} {len cap : Nat} {l : List UInt8} (h : OwnY B w (some ad) len cap l) : B ≤ ad.block ∧ ad.block < w.heap.size := World.ownsRow.lt h _ rfl
theorem OwnY.grown {B : Nat} {w W : World} {a : Option Addr} {len cap : Nat} {l : List UInt8} (h : OwnY B w a len cap l) {row : Option Nat} (hg : w.grownBy W row) (hne : ∀ ad, a = some ad → some ad.block ≠ row) : OwnY B W a len cap l := by
  obtain ⟨h1, h2⟩ := h
  refine ⟨h1, ?_⟩
  rcases h2 with h2 | ⟨g, c, cur, hv, hB, hg', r⟩
  · exact .inl h2
  · refine .inr ⟨g, c, cur, hv, hB, ?_, r⟩
    simp only [Value.slice.injEq] at hv
    rw [hg.block g (Array.getElem?_eq_some_iff.1 hg').1 (hne ⟨g, 0, none⟩ hv.1)]
    exact hg'
theorem OwnY.cell {B : Nat} {w : World} {a : Option Addr} {len cap : Nat} {l : List UInt8} (h : OwnY B w a len cap l) (i : Nat) (hi : i < l.length) : ∃ g, a = some ⟨g, 0, none⟩ ∧ w.cell? ⟨g, i, none⟩ = some (.int .u8 (l[i].toNat : Int)) := by
  have hl := h.len
  obtain ⟨h1, h2⟩ := h
  rcases h2 with ⟨hv, hn⟩ | ⟨g, c, cur, hv, _, hg, hle, hm, hs, ht⟩
  · omega
  · simp only [Value.slice.injEq] at hv
    obtain ⟨rfl, _, rfl⟩ := hv
    refine ⟨g, rfl, ?_⟩
    rw [cell_of_heap hg]
    have e1 : (cur.toList.take (len * 1))[i]? = some (bv l[i]) := by
      rw [ht, List.getElem?_map, List.getElem?_eq_getElem hi]
      rfl
    rw [List.getElem?_take] at e1
    simp only [Nat.mul_one] at e1
    rw [if_pos (by omega)] at e1
    simpa [bv] using e1
theorem OwnY.bounds {B : Nat} {w : World} {a : Option Addr} {len cap : Nat} {l : List UInt8} (h : OwnY B w a len cap l) : len ≤ cap ∧ cap ≤ 9223372036854775807 := by
  obtain ⟨h1, h2⟩ := h
  rcases h2 with ⟨hv, hn⟩ | ⟨g, c, cur, hv, _, hg, hle, hm, hs, ht⟩
  · simp only [Value.slice.injEq] at hv
    omega
  · simp only [Value.slice.injEq] at hv
    unfold maxLen at hm
    omega
section
variable {ops : Array Oper} {rest : List Oper} {Q : Exit → Act → World → Prop} {a : Act} {w : World} {d : Option Tmp} {x y : Operand} {T : TypeId} {pos : String} {af : Array Edge}
/-- append(out, b). -/
theorem app_byte {w0 : World} (hB : Below w0.heap.size w0 w) {sa : Option Addr} {sl sc g : Nat} {l : List UInt8} (b : UInt8) (hs : OwnY w0.heap.size w sa sl sc l) (hx : w.cell? ⟨g, 0, none⟩ = some (bv b)) (hlen : sl + 1 ≤ 1000000000)
    (h : ∀ (W : World) (a' : Option Addr) (c' : Nat), Below w0.heap.size w0 W → OwnY w0.heap.size W a' (sl + 1) c' (l ++ [b]) → w.grownBy W (sa.map (·.block)) → wpList Tryz.prog ops Q rest (a.put d (.slice a' (sl + 1) c')) W)
    (he : a.eval x = .slice sa sl sc := by rfl) (hf : a.eval y = .slice (some ⟨g, 0, none⟩) 1 1 := by rfl) :
    wpList Tryz.prog ops Q ({ dst := d, op := .call { callee := .builtin .append, args := #[x, y], argTypes := #[100, 100] }, type := T, pos := pos, after := af, guard := none } :: rest) a w := by
  obtain ⟨i0, hi, hz0, hz1, hz2⟩ := info_parts u8_info
  refine wpList_append_own _ rfl x y 100 rfl w0.heap.size 5 i0 (.int .u8 0) 1 1 Tryz.underlying100 hi hz0 hz1 hz2 rfl (by omega) _ sl _ he hs ⟨g, 0, none⟩ 1 1 [bv b] hf rfl ?_ (by simp [Value.oneCell', bv]) (by unfold maxLen; omega) (by omega) hB.size ?_
  · intro j u hu
    cases j with
    | zero =>
      cases hu
      rw [Addr.add_mid]
      exact hx
    | succ j => simp at hu
  · intro v' W ho hg _
    have e : (Value.slice sa sl sc).ownBlock = sa.map (·.block) := by cases sa <;> rfl
    have hbel : Below w0.heap.size w0 W := hB.grown hg hB.size fun k hk => (World.ownsRow.lt hs k hk).1
    obtain ⟨a', c', rfl⟩ : ∃ a' c', v' = .slice a' (sl + 1) c' := by
      rcases ho.2 with ⟨rfl, h0⟩ | ⟨g, c, cur, rfl, _⟩
      · omega
      · exact ⟨_, _, rfl⟩
    rw [e] at hg
    refine h W a' c' hbel ?_ hg
    unfold OwnY
    rw [List.map_append]
    exact ho
end
/-- string(b). -/
theorem run_string_own {B : Nat} {w : World} {a : Option Addr} {len cap : Nat} {l : List UInt8} (h : OwnY B w a len cap l) (h0 : 0 < len) : (convert 100 9 (.slice a len cap)).run Tryz.prog w = .ok (.string ⟨l.toArray⟩) w := by
  have hl := h.len
  obtain ⟨g, rfl, _⟩ := h.cell 0 (by omega)
  rw [← hl]
  refine run_convert_bytes_back w 100 9 5 ⟨g, 0, none⟩ cap l Tryz.underlying100 Tryz.underlying5 Tryz.underlying9 fun j hj => ?_
  obtain ⟨g', e, hc⟩ := h.cell j hj
  cases e
  rw [Addr.add_mid, Nat.zero_add]
  exact hc
/-! ### Decimal -/
/-- The k lowest digits, the lowest first. -/
def lowK (k n : Nat) : List UInt8 := (digK k n).reverse
theorem lowK_length (k n : Nat) : (lowK k n).length = k := by unfold lowK; rw [List.length_reverse, digK_length]
theorem lowK_succ (k : Nat) : ∀ n, lowK (k + 1) n = lowK k n ++ [UInt8.ofNat (48 + n / 10 ^ k % 10)] := by
  induction k with
  | zero => intro n; simp [lowK, digK]
  | succ k ih =>
    intro n
    have h1 : lowK (k + 1 + 1) n = UInt8.ofNat (48 + n % 10) :: lowK (k + 1) (n / 10) := by unfold lowK; rw [digK, List.reverse_append]; rfl
    have h2 : lowK (k + 1) n = UInt8.ofNat (48 + n % 10) :: lowK k (n / 10) := by unfold lowK; rw [digK, List.reverse_append]; rfl
    rw [h1, ih, h2, Nat.div_div_eq_div_mul, ← Nat.pow_succ']
    rfl
theorem digit_mod {x t : Nat} (ht : t < 18) : x % 10 ^ 18 / 10 ^ t % 10 = x / 10 ^ t % 10 := by
  have e : (10 : Nat) ^ 18 = 10 ^ t * (10 * 10 ^ (17 - t)) := by rw [← Nat.pow_succ', ← Nat.pow_add]; congr 1; omega
  rw [e, Nat.mod_mul_right_div_self, Nat.mod_mul_right_mod]
theorem lowK_all {A m : Nat} (h : A < 10 ^ m) (hm : 0 < m) : lowK m A = (Lib.decDigits A).reverse ++ List.replicate (m - Lib.nDigits A) 48 := by
  unfold lowK
  rw [digK_pad m A (nDigits_le h hm), List.reverse_append, List.reverse_replicate]
theorem dec_length (n : Nat) : (Lib.decDigits n).length = Lib.nDigits n := by
  induction n using Nat.strongRecOn with
  | ind n ih =>
    rw [Lib.decDigits, Lib.nDigits]
    split
    · rfl
    · rename_i h
      rw [List.length_append, ih (n / 10) (by omega)]
      rfl
theorem dec_head {n : Nat} (h : 0 < n) : ∃ c t, Lib.decDigits n = c :: t ∧ c ≠ 48 := by
  induction n using Nat.strongRecOn with
  | ind n ih =>
    rw [Lib.decDigits]
    split
    · rename_i h1
      refine ⟨_, [], rfl, fun e => ?_⟩
      have h2 := congrArg UInt8.toNat e
      have : (48 + n) % 256 = 48 + n := Nat.mod_eq_of_lt (by omega)
      simp [this] at h2
      omega
    · rename_i h1
      obtain ⟨c, t, e, hc⟩ := ih (n / 10) (by omega) (by omega)
      exact ⟨c, t ++ [UInt8.ofNat (48 + n % 10)], by rw [e]; rfl, hc⟩
theorem own_ne {B B' : Nat} {w : World} {a a' : Option Addr} {len cap len' cap' : Nat} {xs : List Nat} {l : List UInt8} (h : OwnW B w a len cap xs) (k : OwnY B' w a' len' cap' l) : ∀ ad ad', a = some ad → a' = some ad' → ad.block ≠ ad'.block := by
  rintro ad ad' rfl rfl he
  obtain ⟨⟨_, h2⟩, _, _⟩ := h
  obtain ⟨_, k2⟩ := k
  rcases h2 with ⟨hv, _⟩ | ⟨g, c, cur, hv, _, hg, _⟩
  · simp at hv
  rcases k2 with ⟨kv, _⟩ | ⟨g', c', cur', kv, _, kg, _⟩
  · simp at kv
  simp only [Value.slice.injEq, Option.some.injEq] at hv kv
  obtain ⟨rfl, _, _⟩ := hv
  obtain ⟨rfl, _, _⟩ := kv
  simp only at he
  subst he
  rw [hg] at kg
  simp at kg
theorem OwnY.cellD {B : Nat} {w : World} {a : Option Addr} {len cap : Nat} {l : List UInt8} (h : OwnY B w a len cap l) (i : Nat) (hi : i < len) : ∃ g, a = some ⟨g, 0, none⟩ ∧ w.cell? ⟨g, i, none⟩ = some (.int .u8 ((l.getD i 0).toNat : Int)) := by
  have hl := h.len
  obtain ⟨g, e, hc⟩ := h.cell i (by omega)
  refine ⟨g, e, ?_⟩
  rw [hc, List.getD_eq_getElem?_getD, List.getElem?_eq_getElem (by omega)]
  rfl
theorem byte_of {b : Nat} (h : b < 256) : Value.int .u8 (b : Nat) = bv (UInt8.ofNat b) := by
  unfold bv
  have : (UInt8.ofNat b).toNat = b := Nat.mod_eq_of_lt h
  rw [this]
theorem strip1 {A m i : Nat} (h : A < 10 ^ m) (hi : Lib.nDigits A ≤ i) (hm : i < m) : (lowK m A).getD i 0 = 48 := by
  rw [lowK_all h (by omega), List.getD_eq_getElem?_getD, List.getElem?_append_right (by simp [dec_length]; exact hi)]
  simp only [List.length_reverse, dec_length]
  rw [List.getElem?_replicate, if_pos (by omega)]
  rfl
theorem strip3 {A m j : Nat} (h : A < 10 ^ m) (hj : j < Lib.nDigits A) (hm : 0 < m) : (lowK m A).getD (Lib.nDigits A - 1 - j) 0 = (Lib.decDigits A).getD j 0 := by
  rw [lowK_all h hm, List.getD_eq_getElem?_getD, List.getElem?_append_left (by simp [dec_length]; omega), List.getElem?_reverse (by simp [dec_length]; omega), dec_length, List.getD_eq_getElem?_getD]
  congr 2
  omega
theorem strip2 {A m : Nat} (h : A < 10 ^ m) (h0 : 0 < A) (hm : 0 < m) : (lowK m A).getD (Lib.nDigits A - 1) 0 ≠ 48 := by
  have h1 := strip3 (j := 0) h (Lib.nDigits_pos A) hm
  rw [Nat.sub_zero] at h1
  rw [h1]
  obtain ⟨c, t, e, hc⟩ := dec_head h0
  rw [e]
  exact hc
theorem take_getD {l : List UInt8} {j : Nat} (h : j < l.length) : l.take (j + 1) = l.take j ++ [l.getD j 0] := by
  rw [List.take_succ_eq_append_getElem h, List.getD_eq_getElem?_getD, List.getElem?_eq_getElem h]
  rfl
end Go.Proofs.YtpodpdopgdkdkaaGreatDoor
namespace Go.Proofs.YtpodpdopgdkdkaaGreatDoor
open Go.RowKit
theorem small18_calls (w : World) (a : Option Addr) (la ca : Nat) (xs : List Nat) (ha : SlW w a la ca xs) (sa : la ≤ 4398046511104) :
    Calls Tryz.prog 92 #[.slice a la ca, .int .u64 1000000000000000000] w (NatPair w (val xs / 10 ^ 18) (val xs % 10 ^ 18) la 1) := refSmall_calls w a la ca xs 1000000000000000000 ha sa (by decide) (by decide)
theorem val_word {zs : List Nat} (h : zs.length ≤ 1) : val zs = wd zs 0 := by
  rw [← valTo_all 1 h, valTo_wd]
  simp [valTo]
theorem chunk_bound {A L m a : Nat} (hA : A < B64 ^ L) (ha : A / 10 ^ m = a) (h0 : 0 < a) : m ≤ 64 * L := by
  have h1 : 10 ^ m ≤ A := by
    rcases Nat.lt_or_ge A (10 ^ m) with h | h
    · rw [Nat.div_eq_of_lt h] at ha
      omega
    · exact h
  have h2 : 2 ^ m ≤ 10 ^ m := Nat.pow_le_pow_left (by decide) m
  rw [B64_pow] at hA
  have h3 := (Nat.pow_lt_pow_iff_right (a := 2) (by decide)).1 (Nat.lt_of_le_of_lt (Nat.le_trans h2 h1) hA)
  omega
set_option maxRecDepth 10000 in
set_option maxHeartbeats 4000000 in
theorem decimal_calls (w : World) (a : Option Addr) (la ca : Nat) (xs : List Nat) (ha : SlW w a la ca xs) (pa : Plain a) (sa : la ≤ 10000) (h0 : 0 < val xs) :
    Calls Tryz.prog 36 #[.slice a la ca] w fun e w' => e = .returned (.string ⟨(Lib.decDigits (val xs)).toArray⟩) ∧ Below w.heap.size w w' := by
  have hAb : val xs < B64 ^ la := by have := val_lt ha.hw; rw [ha.hlen] at this; exact this
  have HT := Lib.hid (refTrim_calls w a la ca xs ha pa (by omega))
  obtain ⟨A, hA⟩ : ∃ A, val xs = A := ⟨_, rfl⟩
  rw [hA] at hAb HT h0 ⊢
  have HAB := Lib.hid hAb
  have HA0 := Lib.hid h0
  clear ha hAb hA h0
  go_enter Tryz.func36, Tryz.ntmps36
  go_wp2_with fail
  refine HT.out.mono ?_
  rintro e w1 ⟨a1, c1, rs, rfl, r1, r2, r3, r4, r5⟩
  have R := Lib.hid (And.intro r1 (And.intro r2 (And.intro r3 r5)))
  clear r1 r2 r3 r5
  go_wp2_with fail
  go_loopw [0, 3] (fun av ov wr => ∃ (m : Nat) (a o : Option Addr) (c oc : Nat) (zs : List Nat), av = .slice a zs.length c ∧ ov = .slice o m oc ∧ OwnW w.heap.size wr a zs.length c zs ∧ sz zs = zs.length ∧ zs.length ≤ la ∧ val zs = A / 10 ^ m ∧ m ≤ 64 * la + 18 ∧ OwnY w.heap.size wr o m oc (lowK m A) ∧ Below w.heap.size w wr) (fun _ ov _ => 64 * la + 19 - lenOf ov)
  case atStart => exact ⟨0, a1, none, c1, 0, rs, rfl, rfl, R.out.1, R.out.2.2.1, r4, by rw [R.out.2.1, Nat.pow_zero, Nat.div_one], by omega, ownY_nil _ _, R.out.2.2.2⟩
  case round =>
    clear R r4
    obtain ⟨m, a, o, c, oc, zs, rfl, rfl, hz, hzz, hzl, hv, hm, ho, hb⟩ := hrel
    have HZ := Lib.hid hz
    have HZZ := Lib.hid hzz
    have HV := Lib.hid hv
    have HO := Lib.hid ho
    have HBR := Lib.hid hb
    clear hz hzz hv ho hb
    by_cases hz0 : 0 < zs.length
    · have hvz : 0 < A / 10 ^ m := by
        rw [← HV.out]
        exact Nat.pos_of_ne_zero fun e => by have := sz_zero.2 e; rw [HZZ.out] at this; omega
      have hmb := chunk_bound HAB.out rfl hvz
      have HS := Lib.hid (small18_calls wr a _ c zs HZ.out.sl (by omega))
      rw [HV.out] at HS
      clear hvz
      go_wp2_with fail
      refine HS.out.mono ?_
      rintro e w2 ⟨a2, c2, qs, a3, c3, ts, rfl, ⟨q1, q2, q3, q4⟩, ⟨t1, t2, t3, t4⟩, hb2⟩
      have HQ := Lib.hid (And.intro (q1.mono HBR.out.size) (And.intro q2 q3))
      have HB2 := Lib.hid (below_then HBR.out hb2)
      have HO2 := Lib.hid (HO.out.keep hb2)
      have hw := word_of t1.sl 0
      rw [← val_word t4, t2] at hw
      have HW := Lib.hid hw
      have hql : qs.length ≤ la := by omega
      obtain ⟨r, hr⟩ : ∃ r, A / 10 ^ m % 10 ^ 18 = r := ⟨_, rfl⟩
      rw [hr] at HW
      have HR := Lib.hid hr
      clear q1 q2 q3 q4 t1 t2 t3 t4 hb2 hw hr
      go_wp2_with fail
      refine HW.out.mono ?_
      rintro e w2 ⟨rfl, rfl⟩
      go_wp2_with fail
      go_loopw [22, 3, 6] (fun iv ov nv wr => ∃ (t u : Nat) (o : Option Addr) (oc n : Nat), t ≤ 18 ∧ m + t = u ∧ iv = .int .i64 t ∧ ov = .slice o u oc ∧ nv = .int .u64 (n : Nat) ∧ n = r / 10 ^ t ∧ OwnY w.heap.size wr o u oc (lowK u A) ∧ OwnW w.heap.size wr a2 qs.length c2 qs ∧ Below w.heap.size w wr) (fun iv _ _ _ => 18 - (intOf iv).toNat)
      case atStart => exact ⟨0, m, o, oc, r, by omega, by omega, rfl, rfl, rfl, by rw [Nat.pow_zero, Nat.div_one], HO2.out, HQ.out.1, HB2.out⟩
      case round =>
        clear HO2 HB2 HO HBR
        obtain ⟨t, u, o, oc, n, ht, hu, rfl, rfl, rfl, hn, ho, hq, hb⟩ := hrel
        have HO := Lib.hid ho
        have HQ1 := Lib.hid hq
        have HBR := Lib.hid hb
        have HN := Lib.hid hn
        clear hn ho hq hb
        by_cases hlt : t < 18
        · obtain ⟨dg, hdg⟩ : ∃ d, n % 10 = d := ⟨_, rfl⟩
          obtain ⟨b, hb⟩ : ∃ b, 48 + dg = b := ⟨_, rfl⟩
          obtain ⟨n2, hn2⟩ : ∃ d, n / 10 = d := ⟨_, rfl⟩
          have hdgi : (n : Int) % 10 = (dg : Nat) := by omega
          have hbi : (48 : Int) + (dg : Int) = (b : Nat) := by omega
          have hn2i : (n : Int) / 10 = (n2 : Nat) := by omega
          have hb2 : b < 256 := by omega
          have hwb : IntKind.u8.wrap (b : Int) = (b : Nat) := by rw [IntKind.wrap_u8]; omega
          have hwb2 : IntKind.u64.wrap (b : Int) = (b : Nat) := wrapS (by unfold B64; omega)
          have HLS : Hid (lowK (u + 1) A = lowK u A ++ [UInt8.ofNat b]) := Lib.hid (by
            rw [lowK_succ, ← hu, ← hb, ← hdg, HN.out, ← HR.out, digit_mod hlt, Nat.div_div_eq_div_mul, ← Nat.pow_add])
          have HN2 : Hid (n2 = r / 10 ^ (t + 1)) := Lib.hid (by rw [← hn2, HN.out, Nat.div_div_eq_div_mul, ← Nat.pow_succ])
          have HBO := Lib.hid (byte_of hb2)
          have hub : u ≤ 640036 := by omega
          have hwn : IntKind.u64.wrap (n2 : Int) = (n2 : Nat) := wrapS (by
            have h1 : n ≤ r := by rw [HN.out]; exact Nat.div_le_self _ _
            have h2 : r < 10 ^ 18 := by rw [← HR.out]; exact Nat.mod_lt _ (by decide)
            unfold B64
            omega)
          clear hdg hb hn2
          go_wp2_with ((with_reducible refine gate_append 100 ?_); go_must (refine app_byte (w0 := w) (HBR.out.alloc HBR.out.size _) (UInt8.ofNat b) (HO.out.keep ((Below.refl _ _).alloc (Nat.le_refl _) _)) (by rw [World.cell?_alloc_new]; exact congrArg some HBO.out) (by omega) (fun W a' c' hbW hoW hgW => ?_)); have HBW := Lib.hid hbW; have HOW := Lib.hid hoW; have HGW := Lib.hid hgW; clear hbW hoW hgW)
          rw [← HLS.out] at HOW
          have HQ2 := Lib.hid ((HQ1.out.keep ((Below.refl _ _).alloc (Nat.le_refl _) _)).grown HGW.out (fun ad e he => by
            cases o with
            | none => cases he
            | some ad' => exact own_ne HQ1.out HO.out ad ad' e rfl (by simpa using he)))
          go_wp2
          go_roundw
          case rel => exact ⟨t + 1, u + 1, a', c', n2, by omega, by omega, by go_num, rfl, rfl, HN2.out, HOW.out, HQ2.out, HBW.out⟩
          case measure => simp [intOf]; omega
        · have ht18 : t = 18 := by omega
          have HV2 : Hid (val qs = A / 10 ^ u) := Lib.hid (by rw [HQ.out.2.1, Nat.div_div_eq_div_mul, ← Nat.pow_add, ← hu, ht18])
          have huu : u = m + 18 := by omega
          clear ht18 hu
          go_wp2
          go_roundw
          case rel => exact ⟨u, a2, o, c2, oc, qs, rfl, rfl, HQ1.out, HQ.out.2.2, hql, HV2.out, by omega, HO.out, HBR.out⟩
          case measure => simp [lenOf]; omega
    · have hz1 : zs = [] := List.eq_nil_of_length_eq_zero (by omega)
      subst hz1
      have hlt0 : A < 10 ^ m := by
        have h1 : A / 10 ^ m = 0 := HV.out.symm
        rcases Nat.lt_or_ge A (10 ^ m) with h | h
        · exact h
        · have := Nat.div_pos h (Nat.pow_pos (show 0 < 10 by decide))
          omega
      have hm1 : 0 < m := by
        rcases Nat.eq_zero_or_pos m with h | h
        · subst h
          have := HA0.out
          rw [Nat.pow_zero] at hlt0
          omega
        · exact h
      have HLT := Lib.hid hlt0
      have hnd := nDigits_le hlt0 hm1
      have hnp := Lib.nDigits_pos A
      obtain ⟨nd, hnde⟩ : ∃ k, Lib.nDigits A = k := ⟨_, rfl⟩
      have HND := Lib.hid hnde
      rw [hnde] at hnd hnp
      have hob := HO.out.bounds
      clear hlt0 hnde hz0 hzl
      go_wp2_with fail
      go_loop [7] (fun kv => ∃ k : Nat, nd ≤ k ∧ k ≤ m ∧ kv = .int .i64 k) (fun kv => (intOf kv).toNat)
      case atStart => exact ⟨m, hnd, Nat.le_refl _, rfl⟩
      case round =>
        obtain ⟨k, hk1, hk2, rfl⟩ := hrel
        obtain ⟨k1, hk1e⟩ : ∃ j, k - 1 = j := ⟨_, rfl⟩
        have hki : (k : Int) - 1 = (k1 : Nat) := by omega
        have hk0 : 0 < k := by omega
        have hk1m : k1 < m := by omega
        obtain ⟨g, rfl, hc⟩ := HO.out.cellD k1 hk1m
        by_cases hgt : nd < k
        · have h48 := strip1 HLT.out (i := k1) (by rw [HND.out]; omega) hk1m
          rw [h48] at hc
          have hc' : wr.cell? ⟨g, k1, none⟩ = some (.int .u8 48) := hc
          clear hc h48
          go_wp2
          go_round
          case rel => exact ⟨k1, by omega, by omega, rfl⟩
          case measure => simp [intOf]; omega
        · have hke : k = nd := by omega
          have h48 := strip2 HLT.out HA0.out hm1
          rw [HND.out, ← hke, hk1e] at h48
          have HD3 := Lib.hid (fun j (hj : j < nd) => strip3 (j := j) HLT.out (by rw [HND.out]; exact hj) hm1)
          rw [HND.out] at HD3
          obtain ⟨y, hy⟩ : ∃ y, ((lowK m A).getD k1 0).toNat = y := ⟨_, rfl⟩
          have hy48 : ((y : Int) == 48) = false := by
            simp
            intro e
            exact h48 (UInt8.toNat_inj.1 (by rw [hy, show (48 : UInt8).toNat = 48 from rfl]; omega))
          rw [hy] at hc
          have HDL : Hid ((Lib.decDigits A).length = nd) := Lib.hid (by rw [dec_length, HND.out])
          subst hke
          clear h48 hy hgt
          obtain ⟨w5, rfl⟩ : ∃ x, x = wr := ⟨_, rfl⟩
          go_wp2_with fail
          go_loopw [50, 8] (fun iv sv wq => ∃ (i : Nat) (sa : Option Addr) (sc : Nat), i ≤ k ∧ iv = .int .i64 i ∧ sv = .slice sa i sc ∧ OwnY w5.heap.size wq sa i sc ((Lib.decDigits A).take i) ∧ Below w5.heap.size w5 wq) (fun iv _ _ => k - (intOf iv).toNat)
          case atStart => exact ⟨0, none, 0, by omega, rfl, rfl, ownY_nil _ _, Below.refl _ _⟩
          case round =>
            obtain ⟨i, sa, sc, hi, rfl, rfl, hs, hbq⟩ := hrel
            have HS := Lib.hid hs
            have HBQ := Lib.hid hbq
            clear hs hbq
            by_cases hlt : i < k
            · obtain ⟨j, hj⟩ : ∃ j, k1 - i = j := ⟨_, rfl⟩
              have hji : (k1 : Int) - (i : Int) = (j : Nat) := by omega
              have hjm : j < m := by omega
              obtain ⟨g', e, hcj⟩ := HO.out.cellD j hjm
              cases e
              have h3 := HD3.out i hlt
              rw [show k - 1 - i = j by omega] at h3
              rw [h3] at hcj
              have hcq : wr.cell? ⟨g, j, none⟩ = some (.int .u8 (((Lib.decDigits A).getD i 0).toNat : Int)) := by rw [HBQ.out.cell (World.block_lt_of_cell? w5 _ hcj)]; exact hcj
              have HTK := Lib.hid (take_getD (l := Lib.decDigits A) (j := i) (by rw [HDL.out]; exact hlt))
              clear hcj h3 hj hc
              go_wp2_with ((with_reducible refine gate_append 100 ?_); go_must (refine app_byte (w0 := w5) (HBQ.out.alloc HBQ.out.size _) ((Lib.decDigits A).getD i 0) (HS.out.keep ((Below.refl _ _).alloc (Nat.le_refl _) _)) (by rw [World.cell?_alloc_new]; rfl) (by omega) (fun W a' c' hbW hoW _ => ?_)); have HBW := Lib.hid hbW; have HOW := Lib.hid hoW; clear hbW hoW)
              go_roundw
              case rel => exact ⟨i + 1, a', c', by omega, by go_num, rfl, by rw [HTK.out]; exact HOW.out, HBW.out⟩
              case measure => simp [intOf]; omega
            · have hie : i = k := by omega
              subst hie
              have hst := run_string_own HS.out (by omega)
              have HTA : Hid ((Lib.decDigits A).take i = Lib.decDigits A) := Lib.hid (List.take_of_length_le (by rw [HDL.out]; exact Nat.le_refl _))
              rw [HTA.out] at hst
              go_wp2
              go_ret
              exact ⟨rfl, below_then HBR.out HBQ.out⟩
end Go.Proofs.YtpodpdopgdkdkaaGreatDoor
namespace Go.Proofs.YtpodpdopgdkdkaaGreatDoor
open Go.RowKit
theorem natRes2_slw {w w' : World} {n bd : Nat} {v : Value} {e : Ending} (h : NatRes2 w n bd v e w') : ∃ a c zs, e = .returned (.tuple #[.slice a zs.length c, v]) ∧ SlW w' a zs.length c zs ∧ val zs = n ∧ sz zs = zs.length ∧ zs.length ≤ bd ∧ Below w.heap.size w w' := by
  obtain ⟨a, c, zs, rfl, r1, r2, r3, r4, r5⟩ := h
  exact ⟨a, c, zs, rfl, r1.sl, r2, r3, r4, r5⟩
theorem digVal_zero {xs : List Nat} (h : sz xs = 0) : digVal xs = [48] := by
  unfold digVal
  rw [if_neg (by omega), sz_zero.1 h]
  exact Lib.decDigits_one (by decide)
theorem dig_words {n L : Nat} (h : n < B64 ^ L) (hL : 0 < L) : Lib.nDigits n ≤ 20 * L := by
  refine nDigits_le ?_ (by omega)
  rw [Nat.pow_mul]
  exact Nat.lt_of_lt_of_le h (Nat.pow_le_pow_left (by decide) L)
theorem read_back {xs : List Nat} {L : Nat} (hx : W64 xs) (hl : xs.length = L) (hL : L ≤ 400) : readVal ([48, 48, 48] ++ digVal xs) = val xs ∧ readErr ([48, 48, 48] ++ digVal xs) = 0 := by
  have hv : digVal xs = Lib.decDigits (val xs) := if_neg (by have := sz_le xs; omega)
  have hd : digs ([48, 48, 48] ++ Lib.decDigits (val xs)) = true := digs_append.2 ⟨rfl, decDigits_digs _⟩
  have hn : ¬ ([48, 48, 48] ++ digVal xs = [] ∨ digs ([48, 48, 48] ++ digVal xs) = false) := by
    rw [hv, hd]
    simp
  have hb : Lib.nDigits (val xs) ≤ 20 * (L + 1) := by
    refine dig_words ?_ (by omega)
    have h1 := val_lt hx
    rw [hl] at h1
    exact Nat.lt_of_lt_of_le h1 (Nat.pow_le_pow_right (by decide) (by omega))
  have hlen : ¬ 12000 < ([48, 48, 48] ++ digVal xs).length := by
    rw [hv, List.length_append, dec_length]
    simp
    omega
  unfold readVal readErr
  rw [if_neg hn, if_neg hn, if_neg hlen, if_neg hlen, hv]
  exact ⟨by rw [show ([48, 48, 48] : List UInt8) = List.replicate 3 48 from rfl, dval_noughts, dval_dec], rfl⟩
theorem cat_noughts (l : List UInt8) : (⟨#[48, 48, 48]⟩ : ByteArray) ++ ⟨l.toArray⟩ = ⟨([48, 48, 48] ++ l).toArray⟩ := by
  apply ByteArray.ext
  simp
end Go.Proofs.YtpodpdopgdkdkaaGreatDoor
