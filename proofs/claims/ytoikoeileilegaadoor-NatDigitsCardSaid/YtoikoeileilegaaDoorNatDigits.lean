/- The contract of nat.Digits. -/
import Derived.Test.YtoikoeileilegaaDoorStrs
namespace Go.Proofs.YtoikoeileilegaaDoor
open Go.RowKit Go.Sort
theorem tabIs_below {P : Program} {w w' : World} {name : String} {k : IntKind} {zs : List Int} (h : Lib.TabIs P w name k zs) (hb : Below w.heap.size w w') : Lib.TabIs P w' name k zs := by
  unfold Lib.TabIs World.var? at *
  cases hg : P.globalNamed name with
  | none => simp [hg] at h
  | some g =>
    simp only [hg, Option.bind_some] at h ⊢
    have hlt : g < w.heap.size := by
      rcases Nat.lt_or_ge g w.heap.size with h' | h'
      · exact h'
      · rw [Array.getElem?_eq_none h'] at h; simp at h
    rw [hb.block g hlt]
    exact h
/-- What the digits' walks hold on to: the table of powers of ten. -/
abbrev Tab10 (w : World) : Prop := Lib.TabIs Tryd.prog w "internal/strconv.uint64pow10" .u64 Lib.pow10Tab
def digVal (xs : List Nat) : List UInt8 := if 2000 < sz xs then [] else Lib.decDigits (val xs)
def digErr (xs : List Nat) : Int := if 2000 < sz xs then 4 else 0
def lenOf : Value → Nat
  | .slice _ n _ => n
  | _ => 0
theorem parts_bound {n0 m L : Nat} {ps : List (List UInt8)} (h : PartsOf n0 m ps) (hm : 0 < m) (hn : n0 < B64 ^ L) : ps.length < 64 * L := by
  have h1 := (h.1 hm).1
  have h2 : 10 ^ (19 * ps.length) ≤ n0 := by
    rcases Nat.lt_or_ge n0 (10 ^ (19 * ps.length)) with hlt | hge
    · rw [Nat.div_eq_of_lt hlt] at h1; omega
    · exact hge
  have h3 : 2 ^ ps.length ≤ 10 ^ (19 * ps.length) := Nat.le_trans (Nat.pow_le_pow_right (by decide) (by omega)) (Nat.pow_le_pow_left (by decide) _)
  rw [B64_pow] at hn
  exact (Nat.pow_lt_pow_iff_right (by decide)).1 (Nat.lt_of_le_of_lt h3 (Nat.lt_of_le_of_lt h2 hn))
theorem nDigits_bound {n L : Nat} (h : n < B64 ^ L) (hL : 0 < L) : Lib.nDigits n ≤ 64 * L := by
  refine nDigits_le ?_ (by omega)
  rw [B64_pow] at h
  exact Nat.lt_of_lt_of_le h (Nat.pow_le_pow_left (by decide) _)
theorem word19_calls (w : World) (a : Option Addr) (la ca : Nat) (xs : List Nat) (ha : SlW w a la ca xs) (sa : la ≤ 4398046511104) :
    Calls Tryd.prog 58 #[.slice a la ca, .int .u64 10000000000000000000] w (NatRes2 w (val xs / TEN19) la (.int .u64 (val xs % TEN19 : Nat))) := word_calls w a la ca xs TEN19 ha sa (by decide) (by decide)
theorem repeat0_calls (c : Nat) (hc : c ≤ 19) (w : World) : Calls Tryd.prog 60 #[.string ⟨#[48]⟩, .int .i64 (c : Nat)] w fun e w' => e = .returned (.string ⟨(List.replicate c 48).toArray⟩) ∧ Below w.heap.size w w' := by
  have h := Tryd.strings_Repeat ⟨#[48]⟩ c w (by omega) (by show 1 * c ≤ _; omega)
  have e : Lib.repeatL (⟨#[48]⟩ : ByteArray).data.toList c = List.replicate c 48 := repeatL_zero c
  rw [e] at h
  exact h
theorem OwnW.lt {B : Nat} {w : World} {ad : Addr} {len cap : Nat} {xs : List Nat} (h : OwnW B w (some ad) len cap xs) : B ≤ ad.block ∧ ad.block < w.heap.size := World.ownsRow.lt h.own _ rfl
theorem OwnW.grown {B : Nat} {w W : World} {a : Option Addr} {len cap : Nat} {xs : List Nat} (h : OwnW B w a len cap xs) {row : Option Nat} (hg : w.grownBy W row) (hne : ∀ ad, a = some ad → some ad.block ≠ row) : OwnW B W a len cap xs :=
  ⟨h.own.kept hg (by cases a with
    | none => exact .inl rfl
    | some ad => exact .inr (hne ad rfl)), h.hlen, h.hw⟩
theorem pad_eq (q : Nat) (l : List UInt8) {D : ByteArray} (hD : (⟨l.toArray⟩ : ByteArray) = D) : ((⟨Array.replicate q 48⟩ : ByteArray) ++ D) = ⟨(List.replicate q 48 ++ l).toArray⟩ := by
  subst hD
  apply ByteArray.ext
  rw [ByteArray.data_append]
  apply Array.ext'
  simp
theorem new_str {w : World} {D : ByteArray} {s : List UInt8} (h : D = ⟨s.toArray⟩) : (w.alloc (.cells #[.string D] 9)).cell? ⟨w.heap.size, 0, none⟩ = some (encStr s) := by
  subst h
  rw [World.cell?_alloc_new]
  rfl
set_option maxRecDepth 10000 in
set_option maxHeartbeats 2000000 in
theorem digits_calls (w : World) (a : Option Addr) (la ca : Nat) (xs : List Nat) (ha : SlW w a la ca xs) (pa : Plain a) (sa : la ≤ 4398046511104) (htab : Tab10 w) :
    Calls Tryd.prog 36 #[.slice a la ca] w fun e w' => e = .returned (.tuple #[.string ⟨(digVal xs).toArray⟩, .int .i64 (digErr xs)]) ∧ Below w.heap.size w w' := by
  have HT := Lib.hid (trim_calls w a la ca xs ha pa (by omega))
  have HV := Lib.hid (val_take_sz xs)
  have HZ := Lib.hid (sz_take_sz xs)
  have HB := Lib.hid htab
  unfold digVal digErr
  clear ha htab
  obtain ⟨ts, hts⟩ : ∃ ts, xs.take (sz xs) = ts := ⟨_, rfl⟩
  obtain ⟨k, hk⟩ : ∃ k, sz xs = k := ⟨_, rfl⟩
  obtain ⟨n0, hn0⟩ : ∃ n, val xs = n := ⟨_, rfl⟩
  rw [hts] at HT HV HZ
  rw [hk] at HT HZ ⊢
  rw [hn0] at HV ⊢
  clear hts hk hn0 sa pa
  by_cases hbig : 2000 < k
  · rw [if_pos hbig, if_pos hbig]
    go_enter Tryd.func36, Tryd.ntmps36
    go_wp2_with fail
    refine HT.out.mono ?_
    rintro e W ⟨a1, c1, rfl, ho, hb⟩
    have HB1 := Lib.hid hb
    clear ho hb
    go_wp2
    go_ret2
    exact ⟨rfl, HB1.out⟩
  · rw [if_neg hbig, if_neg hbig]
    go_enter Tryd.func36, Tryd.ntmps36
    go_wp2_with fail
    refine HT.out.mono ?_
    rintro e W ⟨a1, c1, rfl, ho, hb⟩
    have HO := Lib.hid ho
    have HB1 := Lib.hid hb
    have HL := Lib.hid ho.hlen
    obtain ⟨L, hL⟩ : ∃ L, L = 2000 := ⟨_, rfl⟩
    have HN : Hid (n0 < B64 ^ L) := Lib.hid (by rw [← HV.out]; exact val_lt' ho.hw (by rw [ho.hlen, hL]; omega))
    have HL2 := Lib.hid hL
    clear hL
    clear ho hb
    go_wp2_with fail
    go_loopw [0, 4] (fun va vp wr => ∃ (a : Option Addr) (c : Nat) (zs : List Nat) (p : Option Addr) (pc : Nat) (ps : List (List UInt8)), va = .slice a zs.length c ∧ vp = .slice p ps.length pc ∧ OwnW w.heap.size wr a zs.length c zs ∧ sz zs = zs.length ∧ zs.length ≤ 2000 ∧ OwnS w.heap.size wr p ps.length pc ps ∧ PartsOf n0 (val zs) ps ∧ (n0 = 0 → ps = []) ∧ ps.length ≤ 128000 ∧ Below w.heap.size w wr) (fun _ vp _ => 128001 - lenOf vp)
    case atStart => exact ⟨a1, c1, ts, none, 0, [], by rw [HL.out], rfl, by rw [HL.out]; exact HO.out, by rw [HZ.out, HL.out], by rw [HL.out]; omega, ownS_nil _ _, by rw [HV.out]; exact parts_start n0, fun _ => rfl, Nat.zero_le _, HB1.out⟩
    case round =>
      obtain ⟨a, c, zs, p, pc, ps, rfl, rfl, ho, hz, hl, hp, hq, h0, hk, hb⟩ := hrel
      have HO2 := Lib.hid ho
      have HZ2 := Lib.hid hz
      have HP := Lib.hid hp
      have HQ := Lib.hid hq
      have H0 := Lib.hid h0
      have HBR := Lib.hid hb
      by_cases hlen : 0 < zs.length
      · have hvp : 0 < val zs := by
          rcases Nat.eq_zero_or_pos (val zs) with h | h
          · have := sz_zero.2 h; omega
          · exact h
        have HN0 : Hid (0 < n0) := Lib.hid (by
          rcases Nat.eq_zero_or_pos n0 with h | h
          · have h1 := (hq.1 hvp).1
            rw [h, Nat.zero_div] at h1
            omega
          · exact h)
        have hkb : ps.length < 128000 := by
          have h1 := parts_bound hq hvp HN.out
          have h2 := HL2.out
          omega
        have HW := Lib.hid (word19_calls wr a zs.length c zs ho.sl (by omega))
        have hrlt : val zs % TEN19 < TEN19 := Nat.mod_lt _ (by decide)
        have hnd : Lib.nDigits (val zs % TEN19) ≤ 19 := nDigits_le (by rw [ten19]; exact hrlt) (by decide)
        have HS := Lib.hid (fun s hs => parts_step hq hvp (s := s) hs)
        obtain ⟨r, hr⟩ : ∃ r, val zs % TEN19 = r := ⟨_, rfl⟩
        obtain ⟨m, hm⟩ : ∃ m, val zs / TEN19 = m := ⟨_, rfl⟩
        obtain ⟨lz, hlz⟩ : ∃ l, zs.length = l := ⟨_, rfl⟩
        obtain ⟨np, hnp⟩ : ∃ l, ps.length = l := ⟨_, rfl⟩
        rw [hr] at HW HS hrlt hnd
        rw [hm] at HW HS
        rw [hlz] at HW hlen hl ⊢
        rw [hnp] at hkb hk HP ⊢
        have HF := Lib.hid (formatUint_calls r (Nat.lt_trans hrlt (by decide)))
        have hDl : (⟨(Lib.decDigits r).toArray⟩ : ByteArray).size = Lib.nDigits r := by
          show (Lib.decDigits r).toArray.size = _
          rw [List.size_toArray, Lib.decDigits_length]
        obtain ⟨D, hD⟩ : ∃ D : ByteArray, (⟨(Lib.decDigits r).toArray⟩ : ByteArray) = D := ⟨_, rfl⟩
        obtain ⟨nd, hnde⟩ : ∃ n, Lib.nDigits r = n := ⟨_, rfl⟩
        rw [hD] at HF hDl
        rw [hnde] at hDl hnd HS
        have HD := Lib.hid hD
        have HNP := Lib.hid hnp
        have HLZ := Lib.hid hlz
        clear hr hm hlz hnp hD hnde ho hz hp hq h0 hb hvp hrlt hk
        go_wp2_with fail
        refine HW.out.mono ?_
        rintro e w2 ⟨a2, c2, us, rfl, t1, t2, t3, t4, t5⟩
        have U := Lib.hid (And.intro t1 (And.intro t2 (And.intro t3 t5)))
        obtain ⟨lu, hlu⟩ : ∃ l, us.length = l := ⟨_, rfl⟩
        rw [hlu] at t4 U ⊢
        have HLU := Lib.hid hlu
        clear t1 t2 t3 t5 hlu
        go_wp2_with fail
        have HB2 := Lib.hid (below_then HBR.out U.out.2.2.2)
        refine (HF.out w2 (tabIs_below HB.out HB2.out)).mono ?_
        rintro e w3 ⟨rfl, hb3⟩
        have HB3 := Lib.hid hb3
        clear hb3
        by_cases hu : 0 < lu
        · obtain ⟨q, hq⟩ : ∃ q : Nat, (19 : Int) - (nd : Int) = (q : Nat) := ⟨19 - nd, by omega⟩
          have hq19 : q ≤ 19 := by omega
          go_wp2_with fail
          refine (repeat0_calls q hq19 w3).mono ?_
          rintro e w4 ⟨rfl, hb4⟩
          have HB4 := Lib.hid hb4
          clear hb4
          have HBA := Lib.hid ((below_then (below_then HB2.out HB3.out) HB4.out).alloc (below_then (below_then HB2.out HB3.out) HB4.out).size (.cells #[.string ((⟨Array.replicate q 48⟩ : ByteArray) ++ D)] 9))
          have b24 := below_then HB3.out HB4.out
          have HPA := Lib.hid (((HP.out.keep U.out.2.2.2).keep b24).keep ((Below.refl _ _).alloc (Nat.le_refl _) (.cells #[.string ((⟨Array.replicate q 48⟩ : ByteArray) ++ D)] 9)))
          have HUA := Lib.hid ((U.out.1.keep b24).keep ((Below.refl _ _).alloc (Nat.le_refl _) (.cells #[.string ((⟨Array.replicate q 48⟩ : ByteArray) ++ D)] 9)))
          have hdis : ∀ ad, a2 = some ad → some ad.block ≠ p.map (·.block) := by
            rintro ad rfl
            have h1 := U.out.1.lt
            cases p with
            | none => simp
            | some pd => have h2 := HP.out.lt; simp; omega
          have HDis := Lib.hid hdis
          clear b24 hdis
          go_wp2_with ((with_reducible refine gate_append 57 ?_); refine app_str (w0 := w) HBA.out (List.replicate q 48 ++ Lib.decDigits r) HPA.out (new_str (pad_eq q _ HD.out)) (by omega) (fun W3 a' c' hbW hoW hgW => ?_); have HBW := Lib.hid hbW; have HOW := Lib.hid hoW; have HGW := Lib.hid hgW; clear hbW hoW hgW)
          go_roundw
          case rel =>
            have hm0 : 0 < m := by
              rcases Nat.eq_zero_or_pos m with h | h
              · have h1 := U.out.2.2.1
                rw [sz_zero.2 (by rw [U.out.2.1, h])] at h1
                omega
              · exact h
            refine ⟨a2, c2, us, a', c', ps ++ [List.replicate q 48 ++ Lib.decDigits r], by rw [HLU.out], by rw [List.length_append, HNP.out]; rfl, ?_, by rw [U.out.2.2.1, HLU.out], by rw [HLU.out]; omega, ?_, ?_, ?_, ?_, HBW.out⟩
            · rw [HLU.out]
              exact (HUA.out.grown HGW.out HDis.out).mono HBR.out.size
            · rw [List.length_append, HNP.out]
              exact HOW.out
            · rw [U.out.2.1]
              refine HS.out _ ?_
              rw [if_pos hm0, show 19 - nd = q by omega]
            · intro h
              exact absurd h (by have := HN0.out; omega)
            · rw [List.length_append, HNP.out]; simp; omega
          case measure => simp [lenOf]; omega
        · have hlu0 : lu = 0 := by omega
          have HLU0 := Lib.hid hlu0
          subst hlu0
          have HBA := Lib.hid ((below_then HB2.out HB3.out).alloc (below_then HB2.out HB3.out).size (.cells #[.string D] 9))
          have b24 := HB3.out
          have HPA := Lib.hid (((HP.out.keep U.out.2.2.2).keep b24).keep ((Below.refl _ _).alloc (Nat.le_refl _) (.cells #[.string D] 9)))
          have HUA := Lib.hid ((U.out.1.keep b24).keep ((Below.refl _ _).alloc (Nat.le_refl _) (.cells #[.string D] 9)))
          have hdis : ∀ ad, a2 = some ad → some ad.block ≠ p.map (·.block) := by
            rintro ad rfl
            have h1 := U.out.1.lt
            cases p with
            | none => simp
            | some pd => have h2 := HP.out.lt; simp; omega
          have HDis := Lib.hid hdis
          clear b24 hdis
          go_wp2_with ((with_reducible refine gate_append 57 ?_); refine app_str (w0 := w) HBA.out (Lib.decDigits r) HPA.out (new_str HD.out.symm) (by omega) (fun W3 a' c' hbW hoW hgW => ?_); have HBW := Lib.hid hbW; have HOW := Lib.hid hoW; have HGW := Lib.hid hgW; clear hbW hoW hgW)
          go_roundw
          case rel =>
            have hm0 : m = 0 := by
              have h1 := U.out.2.2.1
              rw [← U.out.2.1]
              exact sz_zero.1 (by omega)
            refine ⟨a2, c2, us, a', c', ps ++ [Lib.decDigits r], by rw [HLU.out], by rw [List.length_append, HNP.out]; rfl, ?_, by rw [U.out.2.2.1, HLU.out], by rw [HLU.out]; omega, ?_, ?_, ?_, ?_, HBW.out⟩
            · rw [HLU.out]
              exact (HUA.out.grown HGW.out HDis.out).mono HBR.out.size
            · rw [List.length_append, HNP.out]
              exact HOW.out
            · rw [U.out.2.1]
              refine HS.out _ ?_
              rw [if_neg (by omega)]
            · intro h
              exact absurd h (by have := HN0.out; omega)
            · rw [List.length_append, HNP.out]; simp; omega
          case measure => simp [lenOf]; omega
      · have hz0 : zs.length = 0 := by omega
        have hv0 : val zs = 0 := sz_zero.1 (by omega)
        rw [hv0] at hq
        have HQ3 := Lib.hid hq.2
        by_cases hps : ps.length = 0
        · have hn00 : n0 = 0 := by
            rcases Nat.eq_zero_or_pos n0 with h | h
            · exact h
            · have h1 := (hq.2 rfl h).1
              exact absurd (List.eq_nil_of_length_eq_zero hps) h1
          rw [hz0, hps]
          clear ho hz hl hp hq h0 hk hb hlen hv0 hz0 hps
          subst hn00
          go_wp2
          go_ret2
          refine ⟨?_, HBR.out⟩
          rw [Lib.decDigits_one (by omega)]
          rfl
        · have hn0 : 0 < n0 := by
            rcases Nat.eq_zero_or_pos n0 with h | h
            · rw [h0 h] at hps; exact absurd rfl hps
            · exact h
          have HF := Lib.hid (HQ3.out rfl hn0).2
          obtain ⟨g, rfl, hg1, hg2, _⟩ := hp.some (by omega)
          have HRV := Lib.hid (rev_calls hp (by omega))
          have HLen : Hid (ps.reverse.flatten.length ≤ 140737488355328) := Lib.hid (by
            rw [HF.out, Lib.decDigits_length]
            have h1 := HL2.out
            have := nDigits_bound HN.out (by omega)
            omega)
          obtain ⟨np, hnp⟩ : ∃ l, ps.length = l := ⟨_, rfl⟩
          rw [hnp] at HRV hps hk ⊢
          rw [hz0]
          clear ho hz hl hp hq h0 hb hlen hv0 hz0 hn0 hnp
          go_wp2_with fail
          refine HRV.out.mono ?_
          rintro e w2 ⟨rfl, hs2, hb2⟩
          have HB2 := Lib.hid (hb2 w HBR.out)
          have HJ := Lib.hid (join_calls hs2 (by omega) HLen.out (by omega))
          clear hs2 hb2
          go_wp2_with fail
          refine HJ.out.mono ?_
          rintro e w3 ⟨rfl, hb3⟩
          have HB3 := Lib.hid hb3
          clear hb3
          go_wp2
          go_ret2
          rw [HF.out]
          exact ⟨rfl, below_then HB2.out HB3.out⟩
end Go.Proofs.YtoikoeileilegaaDoor
