/- strings.TrimRight of noughts: the walk. No conditions. · The reference's Exact. No conditions. · What fixed.Exact makes: plain laws. No conditions. -/
import Derived.Test.YtpodpdopgdkdkaaGreatDoorMw27
set_option linter.unusedVariables false
set_option linter.unusedSimpArgs false
namespace Go.Proofs.YtpodpdopgdkdkaaGreatDoor
set_option linter.unusedVariables false
set_option linter.unusedSimpArgs false
open Go.RowKit
theorem dw_head (l : List UInt8) : ∀ c r, l.dropWhile (· == (48 : UInt8)) = c :: r → c ≠ 48 := by
  induction l with
  | nil => intro c r h; simp at h
  | cons a l ih =>
    intro c r h
    rw [List.dropWhile_cons] at h
    by_cases ha : a = 48
    · rw [if_pos (by simp [ha])] at h; exact ih c r h
    · rw [if_neg (by simp [ha])] at h
      cases h; exact ha
/-- A text that does not end in a nought. -/
def NoZ (p : List UInt8) : Prop := ∀ c, p.getLast? = some c → c ≠ 48
theorem strip_noZ (l : List UInt8) : NoZ (stripZ l) := by
  intro c h
  unfold stripZ at h
  rw [List.getLast?_reverse] at h
  cases hd : l.reverse.dropWhile (· == (48 : UInt8)) with
  | nil => rw [hd] at h; simp at h
  | cons a r => rw [hd] at h; simp at h; subst h; exact dw_head _ _ _ hd
theorem strip_ne {N : Nat} (h : 0 < N) : stripZ (Lib.decDigits N) ≠ [] := by
  intro e
  have h1 := strip_split (Lib.decDigits N)
  rw [e, List.nil_append] at h1
  have h2 := dval_dec N
  rw [h1] at h2
  have h3 := dval_noughts (endZ (Lib.decDigits N)) []
  rw [List.append_nil] at h3
  rw [h3] at h2
  exact absurd h2 (by rw [dval_nil]; omega)
theorem tail_at {S : ByteArray} {p : List UInt8} {m k : Nat} (hS : S.data.toList = p ++ List.replicate m 48) (hk : S.size = k + 1) (hm : 0 < m) : ((S[k]'(by omega)).toNat : Int) = 48 := by
  have hl := wr_size hS
  have e : S[k]'(by omega) = S.data.toList[k]'(by have := wr_size (rfl : S.data.toList = S.data.toList); omega) := by simp; rfl
  rw [e]
  have e2 : S.data.toList[k]? = some 48 := by
    rw [hS, List.getElem?_append_right (by simp at hl; omega), List.getElem?_replicate, if_pos (by simp at hl; omega)]
  have e3 : S.data.toList[k]'(by have := wr_size (rfl : S.data.toList = S.data.toList); omega) = 48 := by
    have := List.getElem?_eq_some_iff.1 e2
    exact this.2
  rw [e3]; rfl
theorem tail_not {S : ByteArray} {p : List UInt8} {k : Nat} (hS : S.data.toList = p) (hk : S.size = k + 1) (hp : NoZ p) : ((S[k]'(by omega)).toNat : Int) ≠ 48 := by
  subst hS
  have e : S[k]'(by omega) = S.data.toList[k]'(by have := wr_size (rfl : S.data.toList = S.data.toList); omega) := by simp; rfl
  rw [e]
  have e2 : S.data.toList.getLast? = some (S.data.toList[k]'(by have := wr_size (rfl : S.data.toList = S.data.toList); omega)) := by
    rw [List.getLast?_eq_getElem?, show S.data.toList.length - 1 = k by have := wr_size (rfl : S.data.toList = S.data.toList); omega]
    exact List.getElem?_eq_getElem _
  have e3 := hp _ e2
  intro h
  apply e3
  have : (S.data.toList[k]'(by have := wr_size (rfl : S.data.toList = S.data.toList); omega)).toNat = 48 := by omega
  exact UInt8.toNat_inj.1 this
theorem tail_cut {S : ByteArray} {p : List UInt8} {m k : Nat} (hS : S.data.toList = p ++ List.replicate m 48) (hk : S.size = k + 1) (hm : 0 < m) : (S.extract 0 k).data.toList = p ++ List.replicate (m - 1) 48 := by
  have hl := wr_size hS
  rw [wr_take hS k]
  obtain ⟨j, rfl⟩ : ∃ j, m = j + 1 := ⟨m - 1, by omega⟩
  rw [List.replicate_succ', ← List.append_assoc, List.take_append_of_le_length (by simp at hl ⊢; omega), List.take_of_length_le (by simp at hl ⊢; omega)]
  rfl
def strLen : Value → Nat
  | .string S => S.size
  | _ => 0
set_option maxRecDepth 100000 in
set_option maxHeartbeats 2000000 in
theorem trimRB_calls (w : World) (S : ByteArray) (p : List UInt8) (m : Nat) (hS : S.data.toList = p ++ List.replicate m 48) (hp : NoZ p) (hs : S.size ≤ 1000000) :
    Calls Tryz.prog 99 #[.string S, .int .u8 48] w fun e w' => e = .returned (.string ⟨p.toArray⟩) ∧ w' = w := by
  have HS := Lib.hid hS
  have HP := Lib.hid hp
  clear hS hp
  go_enter Tryz.func99, Tryz.ntmps99
  go_wp2_with fail
  go_loop [0] (fun v => ∃ (S : ByteArray) (m : Nat), v = .string S ∧ S.size ≤ 1000000 ∧ S.data.toList = p ++ List.replicate m 48) (fun v => strLen v)
  case atStart => exact ⟨S, m, rfl, hs, HS.out⟩
  case round =>
    obtain ⟨T, q, rfl, ht, hT⟩ := hrel
    have HTT := Lib.hid hT
    clear hT HS hs
    by_cases h0 : T.size = 0
    · have hq : p = [] ∧ q = 0 := by
        have := wr_size HTT.out
        rw [h0, List.length_append, List.length_replicate] at this
        exact ⟨List.eq_nil_of_length_eq_zero (by omega), by omega⟩
      have HQ := Lib.hid hq
      clear hq
      go_wp2
      go_ret
      refine ⟨wr_ret ?_, rfl⟩
      rw [HTT.out, HQ.out.2, List.replicate_zero, List.append_nil]
    · obtain ⟨k, hk⟩ : ∃ k, T.size = k + 1 := ⟨T.size - 1, by omega⟩
      have hkl : k < T.size := by omega
      by_cases hq : 0 < q
      · have hc := tail_at HTT.out hk hq
        have HCT := Lib.hid (tail_cut HTT.out hk hq)
        have HK := Lib.hid hk
        clear h0
        go_wp2
        go_round
        case rel => exact ⟨T.extract 0 k, q - 1, rfl, by rw [wr_size HCT.out]; have h2 := wr_size HTT.out; rw [List.length_append, List.length_replicate] at h2 ⊢; omega, HCT.out⟩
        case measure =>
          have h1 := wr_size HCT.out
          have h2 := wr_size HTT.out
          rw [List.length_append, List.length_replicate] at h1 h2
          show (T.extract 0 k).size < T.size
          omega
      · obtain rfl : q = 0 := by omega
        have hT2 : T.data.toList = p := by rw [HTT.out, List.replicate_zero, List.append_nil]
        have hc := tail_not hT2 hk HP.out
        have hcb : (((T[k]'hkl).toNat : Int) == 48) = false := by simpa using hc
        have HT2 := Lib.hid hT2
        clear h0 hT2 hq hc
        go_wp2
        go_ret
        exact ⟨wr_ret HT2.out, rfl⟩
theorem ex_empty {s : ByteArray} {l : List UInt8} (h : s.data.toList = l) : s.toList.isEmpty = l.isEmpty := by
  rw [Lib.toList_data, h]
set_option maxRecDepth 100000 in
set_option maxHeartbeats 2000000 in
theorem trimRight_calls (w : World) (S : ByteArray) (p : List UInt8) (m : Nat) (hS : S.data.toList = p ++ List.replicate m 48) (hp : NoZ p) (hs : S.size ≤ 1000000) (h0 : p ≠ []) :
    Calls Tryz.prog 56 #[.string S, .string ⟨#[48]⟩] w fun e w' => e = .returned (.string ⟨p.toArray⟩) ∧ w' = w := by
  have he : S.toList.isEmpty = false := by rw [ex_empty hS]; cases p with | nil => exact absurd rfl h0 | cons a r => rfl
  have HB := Lib.hid (trimRB_calls w S p m hS hp hs)
  clear hS hp h0
  go_enter Tryz.func56, Tryz.ntmps56
  go_wp2_with fail
  refine HB.out.mono ?_
  rintro e w' ⟨rfl, rfl⟩
  go_wp2
  go_ret
  exact ⟨rfl, rfl⟩
end Go.Proofs.YtpodpdopgdkdkaaGreatDoor
namespace Go.Proofs.YtpodpdopgdkdkaaGreatDoor
set_option linter.unusedVariables false
set_option linter.unusedSimpArgs false
open Go.RowKit
theorem keepN {w W W' : World} {a : Addr} {v : Value} {n : Nat} {s : Value} (h : W.cell? a = some v ∧ NatAt W n s ∧ Below w.heap.size w W) (hb : Below W.heap.size W W') : W'.cell? a = some v ∧ NatAt W' n s ∧ Below w.heap.size w W' :=
  ⟨below_cell hb h.1, h.2.1.below hb, below_then h.2.2 hb⟩
theorem five_any (n : Nat) (hn : n ≤ 17000) : ∃ l, l ≤ 640 ∧ 5 ^ n < B64 ^ l := ⟨n / 27 + 1, by omega, five_words n⟩
theorem ex_main {V P X : Nat} {L : Int} {F : Nat} {x : Int} {N : Nat} {a : Int} {p : List UInt8} {z : Nat} (hE : V / 2 ^ (P - 1) % 2 ^ X < 2 ^ X - 1) (hF : coefF V P X = F) (h0 : F ≠ 0) (hx : expF V P X L = x) (hN : exN F x = N) (ha : exAt x = a)
    (hp : stripZ (Lib.decDigits N) = p) (hz : endZ (Lib.decDigits N) = z) : exV V P X L = .tuple #[.string ⟨p.toArray⟩, .int .i64 (a + (z : Nat)), .int .i64 0] := by
  unfold exV
  rw [if_pos hE, hF, if_neg h0, hx]
  unfold exOut
  rw [hN, ha, hp, hz]
set_option maxRecDepth 100000 in
set_option maxHeartbeats 4000000 in
theorem rexact_calls (n : Int) (b0 b1 b2 b3 : Nat) (hb : W64 [b0, b1, b2, b3]) (w : World) :
    Calls Tryz.prog 20 #[.int .i64 n, bitsV b0 b1 b2 b3] w (ExIs n b0 b1 b2 b3 w) := by
  have HU := Lib.hid (fun W => runpack_calls n b0 b1 b2 b3 hb W)
  unfold bitsV at *
  clear hb
  go_enter Tryz.func20, Tryz.ntmps20
  go_wp2_with fail
  have HB0 := Lib.hid (below_alloc (Below.refl w.heap.size w) (.cells #[.int .u64 (b0 : Nat), .int .u64 (b1 : Nat), .int .u64 (b2 : Nat), .int .u64 (b3 : Nat)] 24))
  have HP0 : Hid ((w.alloc (.cells #[.int .u64 (b0 : Nat), .int .u64 (b1 : Nat), .int .u64 (b2 : Nat), .int .u64 (b3 : Nat)] 24)).heap[w.heap.size]? = _) := Lib.hid (heap_new w (.cells #[.int .u64 (b0 : Nat), .int .u64 (b1 : Nat), .int .u64 (b2 : Nat), .int .u64 (b3 : Nat)] 24))
  generalize (w.alloc (.cells #[.int .u64 (b0 : Nat), .int .u64 (b1 : Nat), .int .u64 (b2 : Nat), .int .u64 (b3 : Nat)] 24)) = v0 at HB0 HP0 ⊢
  refine (HU.out _).mono ?_
  intro e w1 hr
  rcases hr with ⟨P, X, L, H, hlen, hb1, hfin, hinf⟩ | ⟨hbad, rfl, hb1⟩
  · have HB1 := Lib.hid (below_then HB0.out hb1)
    have HP1 := Lib.hid (below_heap hb1 HP0.out)
    have HH := Lib.hid (And.intro H hlen)
    clear hb1 HB0 HP0 HU
    by_cases hE : val [b0, b1, b2, b3] / 2 ^ (P - 1) % 2 ^ X < 2 ^ X - 1
    · obtain ⟨c0, c1, c2, c3, hcw, hcv, rfl⟩ := hfin hE
      have HC := Lib.hid (And.intro hcw hcv)
      have HE := Lib.hid hE
      obtain ⟨sg, hsg⟩ : ∃ sg : Bool, (((val [b0, b1, b2, b3] / 2 ^ (P + X - 1) % 2 : Nat) : Int) == 1) = sg := ⟨_, rfl⟩
      obtain ⟨x, hx⟩ : ∃ x, L + max (((val [b0, b1, b2, b3] / 2 ^ (P - 1) % 2 ^ X : Nat) : Int) - 1) 0 = x := ⟨_, rfl⟩
      rw [hsg, hx]
      have HX := Lib.hid hx
      clear hsg hx hcw hcv hfin hinf H hlen hE
      by_cases hz : c0 = 0 ∧ c1 = 0 ∧ c2 = 0 ∧ c3 = 0
      · obtain ⟨rfl, rfl, rfl, rfl⟩ := hz
        have heq := fun W => bits_eqIn W 0 0 0 0 0 0 0 0
        simp only [beq_self_eq_true, Bool.and_self] at heq
        go_wp2
        go_ret3
        exact ⟨below_alloc HB1.out _, .inl ⟨P, X, L, HH.out.1, HH.out.2, by unfold exV; rw [if_pos HE.out, if_pos (show coefF (val [b0, b1, b2, b3]) P X = 0 from HC.out.2.symm.trans (show val [0, 0, 0, 0] = 0 from rfl))]; rfl⟩⟩
      · have hF0 : val [c0, c1, c2, c3] ≠ 0 := fun h => hz (val4_zero h)
        have heq := fun W => bits_eqIn W (c0 : Nat) (c1 : Nat) (c2 : Nat) (c3 : Nat) 0 0 0 0
        rw [four_ne hz] at heq
        have hxe : expF (val [b0, b1, b2, b3]) P X L = x := HX.out
        have hFe : coefF (val [b0, b1, b2, b3]) P X = val [c0, c1, c2, c3] := HC.out.2.symm
        have hxr := exp_rng HH.out.1 HE.out
        rw [hxe] at hxr
        have hFk := val4_lt HC.out.1
        have HN := Lib.hid (fun W => rnat_calls W c0 c1 c2 c3 HC.out.1)
        unfold bitsV at HN
        obtain ⟨F, hF⟩ : ∃ F, val [c0, c1, c2, c3] = F := ⟨_, rfl⟩
        rw [hF] at hF0 hFe hFk HN
        obtain ⟨N, hN⟩ : ∃ N, exN F x = N := ⟨_, rfl⟩
        obtain ⟨p, hp⟩ : ∃ p, stripZ (Lib.decDigits N) = p := ⟨_, rfl⟩
        obtain ⟨z, hz2⟩ : ∃ z, endZ (Lib.decDigits N) = z := ⟨_, rfl⟩
        have hNp : 0 < N := by
          rw [← hN]; unfold exN
          split <;> exact Nat.mul_pos (Nat.pos_of_ne_zero hF0) (Nat.pow_pos (by decide))
        have HNZ := Lib.hid (by have h := strip_noZ (Lib.decDigits N); rw [hp] at h; exact h)
        have hpl : 0 < p.length := by rw [← hp]; exact List.length_pos_iff.2 (strip_ne hNp)
        have HPL := Lib.hid hpl
        obtain ⟨S, hS⟩ : ∃ S : ByteArray, S = ⟨(Lib.decDigits N).toArray⟩ := ⟨_, rfl⟩
        have hSS : S.data.toList = p ++ List.replicate z 48 := by
          rw [hS, ← hp, ← hz2]; exact strip_split (Lib.decDigits N)
        have HSS := Lib.hid hSS
        have hSz : S.size = p.length + z := by rw [wr_size hSS, List.length_append, List.length_replicate]
        have hSd : S.size = (Lib.decDigits N).length := by rw [hS]; exact wr_size rfl
        by_cases hx0 : 0 ≤ x
        · have hv := ex_main HE.out hFe hF0 hxe hN (show exAt x = 0 from if_pos hx0) hp hz2
          rw [Int.zero_add] at hv
          have HV := Lib.hid hv
          clear hv
          obtain ⟨m, rfl⟩ : ∃ m : Nat, x = (m : Int) := ⟨x.toNat, by omega⟩
          have hNe : F * 2 ^ m = N := by rw [← hN]; unfold exN; rw [if_pos hx0, Int.toNat_natCast]
          have HLF := Lib.hid (fun W u (hu : NatAt W F u) => refLeft_at W m hu hFk (by omega) (by omega))
          rw [hNe] at HLF
          have hNk : N < B64 ^ (4 + (m / 64 + 1)) := by
            rw [← hNe, Nat.pow_add]
            refine Nat.mul_lt_mul'' hFk ?_
            rw [B64_pow]
            exact Nat.pow_lt_pow_right (by decide) (by omega)
          have hdl := dig_len hNk (by omega)
          have HZL : Hid (z ≤ 1000000) := Lib.hid (by omega)
          have HDC := Lib.hid (fun W u (hu : NatAt W N u) => decimal_at W hu hNk (by omega) hNp)
          rw [← hS] at HDC
          have hSb : S.size ≤ 1000000 := by omega
          have HNP := Lib.hid hNp
          clear hz hF0 hxe hFe hxr hFk hF hN hp hz2 hNp hpl hS hSS hSz hSd hNe hNk hdl
          go_wp2_with fail
          have HG2 := Lib.hid (heap_new w1 (.cells #[.int .i64 1, .bool sg, .bool false, .int .i64 (m : Int), .int .u64 (c0 : Nat), .int .u64 (c1 : Nat), .int .u64 (c2 : Nat), .int .u64 (c3 : Nat)] 31))
          have HB2 := Lib.hid (below_alloc HB1.out (.cells #[.int .i64 1, .bool sg, .bool false, .int .i64 (m : Int), .int .u64 (c0 : Nat), .int .u64 (c1 : Nat), .int .u64 (c2 : Nat), .int .u64 (c3 : Nat)] 31))
          generalize (w1.alloc (.cells #[.int .i64 1, .bool sg, .bool false, .int .i64 (m : Int), .int .u64 (c0 : Nat), .int .u64 (c1 : Nat), .int .u64 (c2 : Nat), .int .u64 (c3 : Nat)] 31)) = v2 at HG2 HB2 ⊢
          clear heq
          refine (HN.out _).mono ?_
          intro e w3 hr
          obtain ⟨u, rfl, hu, hb3⟩ := hr.at
          have HG3 := Lib.hid (below_heap hb3 HG2.out)
          have HB3 := Lib.hid (below_then HB2.out hb3)
          have HL3 := Lib.hid (HLF.out _ _ hu)
          have d3 : w3.cell? ⟨w1.heap.size, 3, none⟩ = some (.int .i64 (m : Int)) := cell_of_heap HG3.out 3
          clear hu hb3 HG2 hr HN HLF
          go_wp2_with fail
          refine HL3.out.mono ?_
          rintro e w4 ⟨v, rfl, hv, hb4⟩
          have HB4 := Lib.hid (below_then HB3.out hb4)
          have HDC := Lib.hid (fun W (hW : Below w.heap.size w W) => HDC.out _ _ hv)
          clear hv hb4 HL3 d3
          go_wp2_with fail
          refine (HDC.out _ HB4.out).mono ?_
          rintro e w6 ⟨rfl, hb6⟩
          have HB6 := Lib.hid (below_then HB4.out hb6)
          clear hb6
          go_wp2_with fail
          go_loopw [10, 11] (fun a s wr => ∃ (T : ByteArray) (q : Nat), s = .string T ∧ T.size ≤ 1000000 ∧ T.data.toList = p ++ List.replicate q 48 ∧ q ≤ z ∧ a = .int .i64 ((z - q : Nat) : Int) ∧ wr = w6) (fun _ s _ => strLen s)
          case atStart => exact ⟨S, z, rfl, by omega, HSS.out, Nat.le_refl _, by rw [Nat.sub_self]; rfl, rfl⟩
          case round =>
            obtain ⟨T, q, rfl, ht, hT, hq, rfl, rfl⟩ := hrel
            have hts : T.size = p.length + q := by rw [wr_size hT, List.length_append, List.length_replicate]
            obtain ⟨k, hk⟩ : ∃ k, T.size = k + 1 := ⟨T.size - 1, by have := HPL.out; omega⟩
            have hkl : k < T.size := by omega
            have HTT := Lib.hid hT
            by_cases hq0 : 0 < q
            · have hc := tail_at hT hk hq0
              have HCT := Lib.hid (tail_cut hT hk hq0)
              have HK := Lib.hid hk
              have HTS := Lib.hid hts
              have hqz : ((z - q : Nat) : Int) ≤ 1000000 := by have := HZL.out; omega
              obtain ⟨zq, hzq⟩ : ∃ zq, z - q = zq := ⟨_, rfl⟩
              rw [hzq] at hqz ⊢
              have HZQ := Lib.hid hzq
              have HQ := Lib.hid (And.intro hq hq0)
              clear hT hts hzq hq hq0
              go_wp2
              go_roundw
              case rel => exact ⟨T.extract 0 k, q - 1, rfl, by rw [wr_size HCT.out, List.length_append, List.length_replicate]; have := HTS.out; omega, HCT.out, by have := HQ.out; omega, by have := HQ.out; have := HZQ.out; rw [show z - (q - 1) = zq + 1 by omega]; exact congrArg (Value.int IntKind.i64) (by omega), trivial⟩
              case measure =>
                show (T.extract 0 k).size < T.size
                rw [wr_size HCT.out, List.length_append, List.length_replicate]
                have := HTS.out
                have := HQ.out
                omega
            · obtain rfl : q = 0 := by omega
              have hT2 : T.data.toList = p := by rw [HTT.out, List.replicate_zero, List.append_nil]
              have hc := tail_not hT2 hk HNZ.out
              have hcb : (((T[k]'hkl).toNat : Int) == 48) = false := by simpa using hc
              have HT2 := Lib.hid hT2
              have hzz : (z : Int) ≤ 1000000 := by have := HZL.out; omega
              rw [Nat.sub_zero]
              clear hT hT2 hc hts hq hq0
              go_wp2
              go_ret3
              exact ⟨HB6.out, .inl ⟨P, X, L, HH.out.1, HH.out.2, by rw [HV.out]; exact congrArg (fun B => Ending.returned (.tuple #[.string B, .int .i64 ((z : Nat) : Int), .int .i64 0])) (wr_bytes HT2.out)⟩⟩
        · have HV := Lib.hid (ex_main HE.out hFe hF0 hxe hN (show exAt x = x from if_neg hx0) hp hz2)
          obtain ⟨m, hm⟩ : ∃ m : Nat, (m : Int) = -x := ⟨(-x).toNat, by omega⟩
          have hNe : F * 5 ^ m = N := by rw [← hN]; unfold exN; rw [if_neg hx0, ← hm, Int.toNat_natCast]
          obtain ⟨l5, hl5, hf5⟩ := five_any m (by omega)
          have hPW : ∀ W, Calls Tryz.prog 58 #[.int .u64 5, .int .i64 (-x)] W (NatOne W (5 ^ m)) := fun W => by have h := refPow_at W 5 (by decide) (by decide) m (by omega); rw [hm] at h; exact h
          have HPW := Lib.hid hPW
          have HTM := Lib.hid (fun W u v (hu : NatAt W F u) (hv : NatAt W (5 ^ m) v) => times_at W hu hv hFk hf5 (by omega) (by omega))
          rw [hNe] at HTM
          have hNk : N < B64 ^ (4 + l5) := by
            rw [← hNe, Nat.pow_add]
            exact Nat.mul_lt_mul'' hFk hf5
          have hdl := dig_len hNk (by omega)
          have HZL : Hid (z ≤ 1000000) := Lib.hid (by omega)
          have HDC := Lib.hid (fun W u (hu : NatAt W N u) => decimal_at W hu hNk (by omega) hNp)
          rw [← hS] at HDC
          have hSb : S.size ≤ 1000000 := by omega
          have HNP := Lib.hid hNp
          have hlt : x < 0 := by omega
          obtain ⟨hxr1, hxr2⟩ := hxr
          have hwr : IntKind.i64.wrap (-x) = -x := wrapI (by omega) (by omega)
          clear hz hF0 hxe hFe hFk hF hN hp hz2 hNp hpl hS hSS hSz hSd hNe hNk hdl hm hPW hf5 hx0
          go_wp2_with fail
          have HG2 := Lib.hid (heap_new w1 (.cells #[.int .i64 1, .bool sg, .bool false, .int .i64 x, .int .u64 (c0 : Nat), .int .u64 (c1 : Nat), .int .u64 (c2 : Nat), .int .u64 (c3 : Nat)] 31))
          have HB2 := Lib.hid (below_alloc HB1.out (.cells #[.int .i64 1, .bool sg, .bool false, .int .i64 x, .int .u64 (c0 : Nat), .int .u64 (c1 : Nat), .int .u64 (c2 : Nat), .int .u64 (c3 : Nat)] 31))
          generalize (w1.alloc (.cells #[.int .i64 1, .bool sg, .bool false, .int .i64 x, .int .u64 (c0 : Nat), .int .u64 (c1 : Nat), .int .u64 (c2 : Nat), .int .u64 (c3 : Nat)] 31)) = v2 at HG2 HB2 ⊢
          clear heq
          refine (HN.out _).mono ?_
          intro e w3 hr
          obtain ⟨u, rfl, hu, hb3⟩ := hr.at
          have HG3 := Lib.hid (below_heap hb3 HG2.out)
          have HB3 := Lib.hid (below_then HB2.out hb3)
          have d3 : w3.cell? ⟨w1.heap.size, 3, none⟩ = some (.int .i64 x) := cell_of_heap HG3.out 3
          have hB3 := HB3.out
          clear hb3 HG2 hr HN
          go_wp2_with fail
          go_region_held3 (fun w' => w'.cell? ⟨w1.heap.size, 3, none⟩ = some (.int .i64 x) ∧ NatAt w' F u ∧ Below w.heap.size w w')
            (first | exact ⟨d3, hu.drew, hB3.drew⟩ | exact keepN (by assumption) hb | assumption)
            (first | (go_at_call 58; (with_reducible refine (HPW.out _).mono ?_); rintro e w' ⟨v5, rfl, hv5, hb⟩) | (go_at_call 15; (with_reducible refine (HTM.out _ _ _ (‹_ ∧ NatAt _ F u ∧ _›).2.1 hv5).mono ?_); rintro e w' ⟨vn, rfl, hvn, hb⟩))
          all_goals
            have HB4 := Lib.hid (‹_ ∧ NatAt _ F u ∧ Below w.heap.size w _›).2.2
            have HDC := Lib.hid (fun W (hW : Below w.heap.size w W) => HDC.out _ _ hvn)
            clear hwr d3 hB3 hu HPW HTM
            go_wp2_with fail
            refine (HDC.out _ HB4.out).mono ?_
            rintro e w6 ⟨rfl, hb6⟩
            have HB6 := Lib.hid (below_then HB4.out hb6)
            clear hb6
            go_wp2_with fail
            go_loopw [10, 11] (fun a s wr => ∃ (T : ByteArray) (q : Nat), s = .string T ∧ T.size ≤ 1000000 ∧ T.data.toList = p ++ List.replicate q 48 ∧ q ≤ z ∧ a = .int .i64 (x + ((z - q : Nat) : Int)) ∧ wr = w6) (fun _ s _ => strLen s)
            case atStart => exact ⟨S, z, rfl, by omega, HSS.out, Nat.le_refl _, by rw [Nat.sub_self]; exact congrArg (Value.int IntKind.i64) (by omega), rfl⟩
            case round =>
              obtain ⟨T, q, rfl, ht, hT, hq, rfl, rfl⟩ := hrel
              have hts : T.size = p.length + q := by rw [wr_size hT, List.length_append, List.length_replicate]
              obtain ⟨k, hk⟩ : ∃ k, T.size = k + 1 := ⟨T.size - 1, by have := HPL.out; omega⟩
              have hkl : k < T.size := by omega
              have HTT := Lib.hid hT
              by_cases hq0 : 0 < q
              · have hc := tail_at hT hk hq0
                have HCT := Lib.hid (tail_cut hT hk hq0)
                have HK := Lib.hid hk
                have HTS := Lib.hid hts
                have hqz : ((z - q : Nat) : Int) ≤ 1000000 := by have := HZL.out; omega
                obtain ⟨zq, hzq⟩ : ∃ zq, z - q = zq := ⟨_, rfl⟩
                rw [hzq] at hqz ⊢
                have HZQ := Lib.hid hzq
                have HQ := Lib.hid (And.intro hq hq0)
                clear hT hts hzq hq hq0
                go_wp2
                go_roundw
                case rel => exact ⟨T.extract 0 k, q - 1, rfl, by rw [wr_size HCT.out, List.length_append, List.length_replicate]; have := HTS.out; omega, HCT.out, by have := HQ.out; omega, by have := HQ.out; have := HZQ.out; rw [show z - (q - 1) = zq + 1 by omega]; exact congrArg (Value.int IntKind.i64) (by omega), trivial⟩
                case measure =>
                  show (T.extract 0 k).size < T.size
                  rw [wr_size HCT.out, List.length_append, List.length_replicate]
                  have := HTS.out
                  have := HQ.out
                  omega
              · obtain rfl : q = 0 := by omega
                have hT2 : T.data.toList = p := by rw [HTT.out, List.replicate_zero, List.append_nil]
                have hc := tail_not hT2 hk HNZ.out
                have hcb : (((T[k]'hkl).toNat : Int) == 48) = false := by simpa using hc
                have HT2 := Lib.hid hT2
                have hzz : (z : Int) ≤ 1000000 := by have := HZL.out; omega
                rw [Nat.sub_zero]
                clear hT hT2 hc hts hq hq0
                go_wp2
                go_ret3
                exact ⟨HB6.out, .inl ⟨P, X, L, HH.out.1, HH.out.2, by rw [HV.out]; exact congrArg (fun B => Ending.returned (.tuple #[.string B, .int .i64 (x + ((z : Nat) : Int)), .int .i64 0])) (wr_bytes HT2.out)⟩⟩
    · obtain ⟨k, sg, si, c0, c1, c2, c3, hk, rfl⟩ := hinf hE
      have HE := Lib.hid hE
      clear hfin hinf H hlen hE
      have hk1 : ¬ k = 1 := by omega
      have hk2 : (k != 1) = true := by simp [hk1]
      have hk3 : (k == 1) = false := by simp [hk1]
      clear hk hk1
      go_wp2
      go_ret3
      exact ⟨below_alloc HB1.out _, .inl ⟨P, X, L, HH.out.1, HH.out.2, by unfold exV; rw [if_neg HE.out]; rfl⟩⟩
  · have HB1 := Lib.hid (below_then HB0.out hb1)
    have HBAD := Lib.hid hbad
    clear hb1 HB0 HP0 HU hbad
    unfold datum0
    go_wp2
    go_ret3
    exact ⟨below_alloc HB1.out _, .inr ⟨HBAD.out, rfl⟩⟩
end Go.Proofs.YtpodpdopgdkdkaaGreatDoor
namespace Go.Proofs.YtpodpdopgdkdkaaGreatDoor
set_option linter.unusedVariables false
set_option linter.unusedSimpArgs false
open Go.RowKit
/-- A number that the call has made, in blocks from B on. -/
def NatOwn (B : Nat) (w : World) (n : Nat) (s : Value) : Prop := ∃ a c zs, s = .slice a zs.length c ∧ OwnW B w a zs.length c zs ∧ val zs = n ∧ sz zs = zs.length
theorem NatOwn.at {B : Nat} {w : World} {n : Nat} {s : Value} (h : NatOwn B w n s) : NatAt w n s := by
  obtain ⟨a, c, zs, rfl, r1, r2, r3⟩ := h
  exact ⟨a, c, zs, rfl, r1.sl, r2, r3, r1.plain⟩
theorem NatOwn.below {B : Nat} {w w' : World} {n : Nat} {s : Value} (h : NatOwn B w n s) (hb : Below w.heap.size w w') : NatOwn B w' n s := by
  obtain ⟨a, c, zs, rfl, r1, r2⟩ := h
  exact ⟨a, c, zs, rfl, r1.keep hb, r2⟩
theorem NatOwn.set {B : Nat} {w : World} {n : Nat} {s : Value} (h : NatOwn B w n s) {g : Nat} (hg : g < B) (i : Nat) (v : Value) : NatOwn B (w.setCell ⟨g, i, none⟩ v) n s := by
  obtain ⟨a, c, zs, rfl, r1, r2⟩ := h
  exact ⟨a, c, zs, rfl, r1.other (g := g) (fun k hk => heap_set_other hk _ _) (r1.off hg), r2⟩
theorem NatRes2.own {w w' : World} {n bd : Nat} {v : Value} {e : Ending} (h : NatRes2 w n bd v e w') {B : Nat} (hB : B ≤ w.heap.size) : ∃ s, e = .returned (.tuple #[s, v]) ∧ NatOwn B w' n s ∧ Below w.heap.size w w' := by
  obtain ⟨a, c, zs, rfl, r1, r2, r3, r4, r5⟩ := h
  exact ⟨_, rfl, ⟨a, c, zs, rfl, r1.mono hB, r2, r3⟩, r5⟩
theorem trim_own (w : World) (a : Option Addr) (len cap : Nat) (xs : List Nat) (h : SlW w a len cap xs) (hp : Plain a) (hs : len ≤ 17592186044416) :
    Calls Tryz.prog 51 #[.slice a len cap] w fun e w' => ∃ s, e = .returned s ∧ NatOwn w.heap.size w' (val xs) s ∧ Below w.heap.size w w' :=
  (trim_calls w a len cap xs h hp hs).mono fun e w' ⟨a', c', he, ho, hb⟩ => by
    have hl : (xs.take (sz xs)).length = sz xs := by rw [List.length_take]; have := sz_le xs; omega
    refine ⟨_, he, ⟨a', c', xs.take (sz xs), by rw [hl], ?_, val_take_sz xs, ?_⟩, hb⟩
    · rw [hl]; exact ho
    · rw [sz_take_sz, hl]
theorem shr1_own (w : World) {s : Value} {m k B : Nat} (hs : NatAt w m s) (hm : m < B64 ^ k) (hk : k ≤ 1000000) (hB : B ≤ w.heap.size) :
    Calls Tryz.prog 52 #[s, .int .i64 1] w fun e w' => ∃ u g, e = .returned (.tuple #[u, .bool g]) ∧ NatOwn B w' (m / 2) u ∧ Below w.heap.size w w' := by
  obtain ⟨a, c, xs, rfl, a1, rfl, a3, a4⟩ := hs
  have l1 := val_len a1.hw a3 rfl hm
  refine (shr_calls w a _ c xs 1 (by omega) (by omega) a1 a4 (by omega)).mono fun e w' h => ?_
  obtain ⟨u, rfl, hu, hb⟩ := h.own hB
  exact ⟨u, _, rfl, hu, hb⟩
theorem NatOwn.lenPos {B : Nat} {w : World} {n : Nat} {s : Value} (h : NatOwn B w n s) (h0 : 0 < n) : ∃ b c zs, s = .slice (some ⟨b, 0, none⟩) zs.length c ∧ SlW w (some ⟨b, 0, none⟩) zs.length c zs ∧ val zs = n ∧ 0 < zs.length := by
  obtain ⟨a, c, zs, rfl, r1, r2, r3⟩ := h
  have hp : 0 < zs.length := by
    rw [← r3]; exact Nat.pos_of_ne_zero fun e => by have := sz_zero.1 e; omega
  rcases r1.words with ⟨rfl, h1, -, -⟩ | ⟨g, rfl, -, -⟩
  · omega
  · exact ⟨g, c, zs, rfl, r1.sl, r2, hp⟩
/-- Behind the loop: c times 2^j is the coefficient; y = x + j. -/
theorem ex_back {V P X : Nat} {L : Int} {F c j N : Nat} {x y : Int} (hE : V / 2 ^ (P - 1) % 2 ^ X < 2 ^ X - 1) (hF : coefF V P X = F) (h0 : F ≠ 0) (hx : expF V P X L = x) (hx0 : x < 0) (hc : F = c * 2 ^ j) (hj : (j : Int) ≤ -x)
    (hN : c * 5 ^ ((-x).toNat - j) = N) (hy : x + j = y) :
    exV V P X L = .tuple #[.string ⟨(stripZ (Lib.decDigits N)).toArray⟩, .int .i64 (y + (endZ (Lib.decDigits N) : Nat)), .int .i64 0] := by
  have hNp : 0 < N := by
    rw [← hN]
    refine Nat.mul_pos (Nat.pos_of_ne_zero fun e => h0 ?_) (Nat.pow_pos (by decide))
    rw [hc, e, Nat.zero_mul]
  have e1 : exN F x = N * 10 ^ j := by
    unfold exN
    rw [if_neg (by omega), hc, ← hN]
    exact half_tens c j _ (by omega)
  have e2 := strip_tens N j hNp
  refine (ex_main hE hF h0 hx e1 (show exAt x = x from if_neg (by omega)) e2.1 e2.2).trans ?_
  rw [← hy]
  have : x + ((endZ (Lib.decDigits N) + j : Nat) : Int) = x + (j : Int) + (endZ (Lib.decDigits N) : Nat) := by omega
  rw [this]
theorem half_pow {F c j : Nat} (h : F = c * 2 ^ j) (he : c % 2 = 0) : F = c / 2 * 2 ^ (j + 1) := by
  rw [h, Nat.pow_succ, Nat.mul_comm (2 ^ j) 2, ← Nat.mul_assoc]
  congr 1
  omega
def expOf (w : World) (g : Nat) : Int := match w.cell? ⟨g, 3, none⟩ with
  | some (.int _ n) => n
  | _ => 0
theorem expOf_is {w : World} {g : Nat} {y : Int} (h : w.cell? ⟨g, 3, none⟩ = some (.int .i64 y)) : expOf w g = y := by unfold expOf; rw [h]
/-- A datum's box. -/
def DatBox (w : World) (g : Nat) (sg : Bool) (y : Int) (c0 c1 c2 c3 : Nat) : Prop := w.heap[g]? = some (.cells (datV 1 sg false y c0 c1 c2 c3) 31 (0, 0))
theorem DatBox.exp {w : World} {g : Nat} {sg : Bool} {y : Int} {c0 c1 c2 c3 : Nat} (h : DatBox w g sg y c0 c1 c2 c3) : w.cell? ⟨g, 3, none⟩ = some (.int .i64 y) := cell_of_heap h 3
theorem DatBox.free {w : World} {g : Nat} {sg : Bool} {y : Int} {c0 c1 c2 c3 : Nat} (h : DatBox w g sg y c0 c1 c2 c3) (i : Nat) : w.frozen? ⟨g, i, none⟩ = false := free_of_heap h i
theorem DatBox.set {w : World} {g : Nat} {sg : Bool} {y : Int} {c0 c1 c2 c3 : Nat} (h : DatBox w g sg y c0 c1 c2 c3) (z : Int) : DatBox (w.setCell ⟨g, 3, none⟩ (.int .i64 z)) g sg z c0 c1 c2 c3 := by
  have := heap_set h 3 (.int .i64 z)
  unfold DatBox
  rw [this]
  rfl
theorem DatBox.below {w w' : World} {g : Nat} {sg : Bool} {y : Int} {c0 c1 c2 c3 : Nat} (h : DatBox w g sg y c0 c1 c2 c3) (hb : Below w.heap.size w w') : DatBox w' g sg y c0 c1 c2 c3 := below_heap hb h
end Go.Proofs.YtpodpdopgdkdkaaGreatDoor
