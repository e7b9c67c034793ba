/- Rows of strings of the call's own; slices.Reverse and strings.Join on them. · The contract of nat.Digits. · The contract of the reference's Over. -/
import Derived.Test.YtpodpdopgdkdkaaGreatDoorMw18
import Derived.Lib.OwnBridge
set_option linter.unusedVariables false
set_option linter.unusedSimpArgs false
namespace Go.Proofs.YtpodpdopgdkdkaaGreatDoor
open Go.RowKit Go.Sort
theorem str_info : (Tryz.prog.info? 9).map (fun i => (i.zero, i.size, i.bytes)) = some (some (.string ⟨#[]⟩), 1, 16) := by kernel_rfl
/-- A slice of strings in memory of the call's own. -/
def OwnS (B : Nat) (w : World) (a : Option Addr) (len cap : Nat) (ss : List (List UInt8)) : Prop := w.ownsRow B 9 1 (.slice a len cap) len (ss.map encStr)
theorem OwnS.keep {B : Nat} {w w' : World} {a : Option Addr} {len cap : Nat} {ss : List (List UInt8)} (h : OwnS B w a len cap ss) (hb : Below w.heap.size w w') : OwnS B w' a len cap ss := by
  obtain ⟨h1, h2⟩ := h
  refine ⟨h1, ?_⟩
  rcases h2 with h2 | ⟨g, c, cur, hv, hB, hg, r⟩
  · exact .inl h2
  · exact .inr ⟨g, c, cur, hv, hB, below_heap hb hg, r⟩
theorem OwnS.len {B : Nat} {w : World} {a : Option Addr} {len cap : Nat} {ss : List (List UInt8)} (h : OwnS B w a len cap ss) : ss.length = len := by simpa using h.1
theorem ownS_nil (B : Nat) (w : World) : OwnS B w none 0 0 [] := ⟨rfl, .inl ⟨rfl, rfl⟩⟩
theorem OwnS.lt {B : Nat} {w : World} {ad : Addr} {len cap : Nat} {ss : List (List UInt8)} (h : OwnS B w (some ad) len cap ss) : B ≤ ad.block ∧ ad.block < w.heap.size := World.ownsRow.lt h _ rfl
theorem SlW.grown {w W : World} {a : Option Addr} {len cap : Nat} {xs : List Nat} (h : SlW w a len cap xs) {row : Option Nat} (hg : w.grownBy W row) (hne : ∀ ad, a = some ad → some ad.block ≠ row) : SlW W a len cap xs :=
  ⟨h.hlen, h.hle, h.hmax, h.hw, h.hnil, fun i hi => by
    obtain ⟨b, off, e, hc⟩ := h.hcell i hi
    exact ⟨b, off, e, hg.cell hc (hne ⟨b, off, none⟩ e)⟩⟩
section
variable {ops : Array Oper} {rest : List Oper} {Q : Exit → Act → World → Prop} {a : Act} {w : World} {d : Option Tmp} {x y : Operand} {T : TypeId} {pos : String} {af : Array Edge}
/-- append(parts, s). -/
theorem app_str {w0 : World} (hB : Below w0.heap.size w0 w) {sa : Option Addr} {sl sc g : Nat} {ss : List (List UInt8)} (s : List UInt8) (hs : OwnS w0.heap.size w sa sl sc ss) (hx : w.cell? ⟨g, 0, none⟩ = some (encStr s)) (hlen : sl + 1 ≤ 1000000)
    (h : ∀ (W : World) (a' : Option Addr) (c' : Nat), Below w0.heap.size w0 W → OwnS w0.heap.size W a' (sl + 1) c' (ss ++ [s]) → w.grownBy W (sa.map (·.block)) → wpList Tryz.prog ops Q rest (a.put d (.slice a' (sl + 1) c')) W)
    (he : a.eval x = .slice sa sl sc := by rfl) (hf : a.eval y = .slice (some ⟨g, 0, none⟩) 1 1 := by rfl) :
    wpList Tryz.prog ops Q ({ dst := d, op := .call { callee := .builtin .append, args := #[x, y], argTypes := #[116, 116] }, type := T, pos := pos, after := af, guard := none } :: rest) a w := by
  obtain ⟨i0, hi, hz0, hz1, hz2⟩ := info_parts str_info
  refine wpList_append_own _ rfl x y 116 rfl w0.heap.size 9 i0 (.string ⟨#[]⟩) 1 16 Tryz.underlying116 hi hz0 hz1 hz2 rfl (by omega) _ sl _ he hs ⟨g, 0, none⟩ 1 1 [encStr s] hf rfl ?_ (by simp [Value.oneCell']) (by unfold maxLen; omega) (by omega) hB.size ?_
  · intro j u hu
    cases j with
    | zero =>
      cases hu
      rw [Addr.add_mid]
      exact hx
    | succ j => simp at hu
  · intro v' W ho hg _
    have e : (Value.slice sa sl sc).ownBlock = sa.map (·.block) := by cases sa <;> rfl
    have hbel : Below w0.heap.size w0 W := hB.grown hg hB.size fun k hk => (World.ownsRow.lt hs k hk).1
    obtain ⟨a', c', rfl⟩ : ∃ a' c', v' = .slice a' (sl + 1) c' := by
      rcases ho.2 with ⟨rfl, h0⟩ | ⟨g, c, cur, rfl, _⟩
      · omega
      · exact ⟨_, _, rfl⟩
    rw [e] at hg
    refine h W a' c' hbel ?_ hg
    unfold OwnS
    rw [List.map_append]
    exact ho
end
theorem OwnS.some {B : Nat} {w : World} {a : Option Addr} {len cap : Nat} {ss : List (List UInt8)} (h : OwnS B w a len cap ss) (hl : 0 < len) : ∃ g, a = some ⟨g, 0, none⟩ ∧ B ≤ g ∧ g < w.heap.size ∧ len ≤ cap ∧ cap ≤ maxLen ∧ Holds encStr w g 0 ss.toArray := by
  obtain ⟨g, c, hv, h1, h2, h3, h4, _, h5⟩ := Lib.holds_of_ownsRow h (by intro e; injection e with e1 e2 e3; omega)
  injection hv with e1 _ e3
  subst e3
  exact ⟨g, e1, h1, h2, h3, h4, h5⟩
theorem rev_calls {B : Nat} {w : World} {g n c : Nat} {ss : List (List UInt8)} (h : OwnS B w (some ⟨g, 0, none⟩) n c ss) (hn : 0 < n) :
    Calls Tryz.prog 81 #[.slice (some ⟨g, 0, none⟩) n c] w fun e w' => e = .returned (.tuple #[]) ∧ OwnS B w' (some ⟨g, 0, none⟩) n c ss.reverse ∧ ∀ w0, Below B w0 w → Below B w0 w' := by
  obtain ⟨g', e, h1, h2, h3, h4, h5⟩ := h.some hn
  cases e
  have hl := h.len
  have hr := Tryz.slices_Reverse_string g 0 c ss w h5 (by unfold maxLen at h4; omega)
  rw [hl] at hr
  refine hr.mono ?_
  rintro e w' ⟨rfl, m, rfl⟩
  refine ⟨rfl, ?_, fun w0 hb => Lib.below_putRow hb h1⟩
  have := Lib.ownsRow_putRow (q := m) (k := n) (ys := ss.reverse) h (by simp [hl]) (Nat.le_refl _)
  rw [List.take_of_length_le (by simp [hl])] at this
  exact this
theorem join_calls {B : Nat} {w : World} {g n c : Nat} {ss : List (List UInt8)} (h : OwnS B w (some ⟨g, 0, none⟩) n c ss) (hn : 0 < n) (hlen : ss.flatten.length ≤ 140737488355328) (hm : n ≤ 1000000) :
    Calls Tryz.prog 82 #[.slice (some ⟨g, 0, none⟩) n c, .string ⟨#[]⟩] w fun e w' => e = .returned (.string ⟨ss.flatten.toArray⟩) ∧ Below w.heap.size w w' := by
  obtain ⟨g', e, h1, h2, h3, h4, h5⟩ := h.some hn
  cases e
  have hl := h.len
  have hmap : (ss.map fun l => (⟨l.toArray⟩ : ByteArray)).map (fun x => x.data.toList) = ss := by simp [Function.comp_def]
  have hj := Tryz.strings_Join g 0 c (ss.map fun l => ⟨l.toArray⟩) ⟨#[]⟩ w (fun j x hx => by
    rw [List.getElem?_map] at hx
    cases hq : ss[j]? with
    | none => rw [hq] at hx; cases hx
    | some l =>
      rw [hq] at hx
      cases hx
      have hjl := (List.getElem?_eq_some_iff.1 hq).1
      have := (h5 j (by simpa using hjl)).1
      rw [this]
      simp [getElem!_pos, hjl, encStr]
      rw [← (List.getElem?_eq_some_iff.1 hq).2]) h2 (by simp; omega) (by simp; omega) (by rw [hmap, join_empty]; exact hlen)
  rw [hmap, join_empty] at hj
  simp only [List.length_map, hl] at hj
  exact hj
end Go.Proofs.YtpodpdopgdkdkaaGreatDoor
namespace Go.Proofs.YtpodpdopgdkdkaaGreatDoor
open Go.RowKit Go.Sort
theorem tabIs_below {P : Program} {w w' : World} {name : String} {k : IntKind} {zs : List Int} (h : Lib.TabIs P w name k zs) (hb : Below w.heap.size w w') : Lib.TabIs P w' name k zs := by
  unfold Lib.TabIs World.var? at *
  cases hg : P.globalNamed name with
  | none => simp [hg] at h
  | some g =>
    simp only [hg, Option.bind_some] at h ⊢
    have hlt : g < w.heap.size := by
      rcases Nat.lt_or_ge g w.heap.size with h' | h'
      · exact h'
      · rw [Array.getElem?_eq_none h'] at h; simp at h
    rw [hb.block g hlt]
    exact h
/-- What the digits' walks hold on to: the table of powers of ten. -/
abbrev Tab10 (w : World) : Prop := Lib.TabIs Tryz.prog w "internal/strconv.uint64pow10" .u64 Lib.pow10Tab
def digVal (xs : List Nat) : List UInt8 := if 2000 < sz xs then [] else Lib.decDigits (val xs)
def digErr (xs : List Nat) : Int := if 2000 < sz xs then 4 else 0
def lenOf : Value → Nat
  | .slice _ n _ => n
  | _ => 0
theorem parts_bound {n0 m L : Nat} {ps : List (List UInt8)} (h : PartsOf n0 m ps) (hm : 0 < m) (hn : n0 < B64 ^ L) : ps.length < 64 * L := by
  have h1 := (h.1 hm).1
  have h2 : 10 ^ (19 * ps.length) ≤ n0 := by
    rcases Nat.lt_or_ge n0 (10 ^ (19 * ps.length)) with hlt | hge
    · rw [Nat.div_eq_of_lt hlt] at h1; omega
    · exact hge
  have h3 : 2 ^ ps.length ≤ 10 ^ (19 * ps.length) := Nat.le_trans (Nat.pow_le_pow_right (by decide) (by omega)) (Nat.pow_le_pow_left (by decide) _)
  rw [B64_pow] at hn
  exact (Nat.pow_lt_pow_iff_right (by decide)).1 (Nat.lt_of_le_of_lt h3 (Nat.lt_of_le_of_lt h2 hn))
theorem nDigits_bound {n L : Nat} (h : n < B64 ^ L) (hL : 0 < L) : Lib.nDigits n ≤ 64 * L := by
  refine nDigits_le ?_ (by omega)
  rw [B64_pow] at h
  exact Nat.lt_of_lt_of_le h (Nat.pow_le_pow_left (by decide) _)
theorem word19_calls (w : World) (a : Option Addr) (la ca : Nat) (xs : List Nat) (ha : SlW w a la ca xs) (sa : la ≤ 4398046511104) :
    Calls Tryz.prog 79 #[.slice a la ca, .int .u64 10000000000000000000] w (NatRes2 w (val xs / TEN19) la (.int .u64 (val xs % TEN19 : Nat))) := word_calls w a la ca xs TEN19 ha sa (by decide) (by decide)
theorem repeat0_calls (c : Nat) (hc : c ≤ 19) (w : World) : Calls Tryz.prog 26 #[.string ⟨#[48]⟩, .int .i64 (c : Nat)] w fun e w' => e = .returned (.string ⟨(List.replicate c 48).toArray⟩) ∧ Below w.heap.size w w' := by
  have h := Tryz.strings_Repeat ⟨#[48]⟩ c w (by omega) (by show 1 * c ≤ _; omega)
  have e : Lib.repeatL (⟨#[48]⟩ : ByteArray).data.toList c = List.replicate c 48 := repeatL_zero c
  rw [e] at h
  exact h
theorem OwnW.lt {B : Nat} {w : World} {ad : Addr} {len cap : Nat} {xs : List Nat} (h : OwnW B w (some ad) len cap xs) : B ≤ ad.block ∧ ad.block < w.heap.size := World.ownsRow.lt h.own _ rfl
theorem OwnW.grown {B : Nat} {w W : World} {a : Option Addr} {len cap : Nat} {xs : List Nat} (h : OwnW B w a len cap xs) {row : Option Nat} (hg : w.grownBy W row) (hne : ∀ ad, a = some ad → some ad.block ≠ row) : OwnW B W a len cap xs :=
  ⟨h.own.kept hg (by cases a with
    | none => exact .inl rfl
    | some ad => exact .inr (hne ad rfl)), h.hlen, h.hw⟩
theorem pad_eq (q : Nat) (l : List UInt8) {D : ByteArray} (hD : (⟨l.toArray⟩ : ByteArray) = D) : ((⟨Array.replicate q 48⟩ : ByteArray) ++ D) = ⟨(List.replicate q 48 ++ l).toArray⟩ := by
  subst hD
  apply ByteArray.ext
  rw [ByteArray.data_append]
  apply Array.ext'
  simp
theorem new_str {w : World} {D : ByteArray} {s : List UInt8} (h : D = ⟨s.toArray⟩) : (w.alloc (.cells #[.string D] 9)).cell? ⟨w.heap.size, 0, none⟩ = some (encStr s) := by
  subst h
  rw [World.cell?_alloc_new]
  rfl
set_option maxRecDepth 10000 in
set_option maxHeartbeats 2000000 in
theorem digits_calls (w : World) (a : Option Addr) (la ca : Nat) (xs : List Nat) (ha : SlW w a la ca xs) (pa : Plain a) (sa : la ≤ 4398046511104) (htab : Tab10 w) :
    Calls Tryz.prog 31 #[.slice a la ca] w fun e w' => e = .returned (.tuple #[.string ⟨(digVal xs).toArray⟩, .int .i64 (digErr xs)]) ∧ Below w.heap.size w w' := by
  have HT := Lib.hid (trim_calls w a la ca xs ha pa (by omega))
  have HV := Lib.hid (val_take_sz xs)
  have HZ := Lib.hid (sz_take_sz xs)
  have HB := Lib.hid htab
  unfold digVal digErr
  clear ha htab
  obtain ⟨ts, hts⟩ : ∃ ts, xs.take (sz xs) = ts := ⟨_, rfl⟩
  obtain ⟨k, hk⟩ : ∃ k, sz xs = k := ⟨_, rfl⟩
  obtain ⟨n0, hn0⟩ : ∃ n, val xs = n := ⟨_, rfl⟩
  rw [hts] at HT HV HZ
  rw [hk] at HT HZ ⊢
  rw [hn0] at HV ⊢
  clear hts hk hn0 sa pa
  by_cases hbig : 2000 < k
  · rw [if_pos hbig, if_pos hbig]
    go_enter Tryz.func31, Tryz.ntmps31
    go_wp2_with fail
    refine HT.out.mono ?_
    rintro e W ⟨a1, c1, rfl, ho, hb⟩
    have HB1 := Lib.hid hb
    clear ho hb
    go_wp2
    go_ret2
    exact ⟨rfl, HB1.out⟩
  · rw [if_neg hbig, if_neg hbig]
    go_enter Tryz.func31, Tryz.ntmps31
    go_wp2_with fail
    refine HT.out.mono ?_
    rintro e W ⟨a1, c1, rfl, ho, hb⟩
    have HO := Lib.hid ho
    have HB1 := Lib.hid hb
    have HL := Lib.hid ho.hlen
    obtain ⟨L, hL⟩ : ∃ L, L = 2000 := ⟨_, rfl⟩
    have HN : Hid (n0 < B64 ^ L) := Lib.hid (by rw [← HV.out]; exact val_lt' ho.hw (by rw [ho.hlen, hL]; omega))
    have HL2 := Lib.hid hL
    clear hL
    clear ho hb
    go_wp2_with fail
    go_loopw [0, 4] (fun va vp wr => ∃ (a : Option Addr) (c : Nat) (zs : List Nat) (p : Option Addr) (pc : Nat) (ps : List (List UInt8)), va = .slice a zs.length c ∧ vp = .slice p ps.length pc ∧ OwnW w.heap.size wr a zs.length c zs ∧ sz zs = zs.length ∧ zs.length ≤ 2000 ∧ OwnS w.heap.size wr p ps.length pc ps ∧ PartsOf n0 (val zs) ps ∧ (n0 = 0 → ps = []) ∧ ps.length ≤ 128000 ∧ Below w.heap.size w wr) (fun _ vp _ => 128001 - lenOf vp)
    case atStart => exact ⟨a1, c1, ts, none, 0, [], by rw [HL.out], rfl, by rw [HL.out]; exact HO.out, by rw [HZ.out, HL.out], by rw [HL.out]; omega, ownS_nil _ _, by rw [HV.out]; exact parts_start n0, fun _ => rfl, Nat.zero_le _, HB1.out⟩
    case round =>
      obtain ⟨a, c, zs, p, pc, ps, rfl, rfl, ho, hz, hl, hp, hq, h0, hk, hb⟩ := hrel
      have HO2 := Lib.hid ho
      have HZ2 := Lib.hid hz
      have HP := Lib.hid hp
      have HQ := Lib.hid hq
      have H0 := Lib.hid h0
      have HBR := Lib.hid hb
      by_cases hlen : 0 < zs.length
      · have hvp : 0 < val zs := by
          rcases Nat.eq_zero_or_pos (val zs) with h | h
          · have := sz_zero.2 h; omega
          · exact h
        have HN0 : Hid (0 < n0) := Lib.hid (by
          rcases Nat.eq_zero_or_pos n0 with h | h
          · have h1 := (hq.1 hvp).1
            rw [h, Nat.zero_div] at h1
            omega
          · exact h)
        have hkb : ps.length < 128000 := by
          have h1 := parts_bound hq hvp HN.out
          have h2 := HL2.out
          omega
        have HW := Lib.hid (word19_calls wr a zs.length c zs ho.sl (by omega))
        have hrlt : val zs % TEN19 < TEN19 := Nat.mod_lt _ (by decide)
        have hnd : Lib.nDigits (val zs % TEN19) ≤ 19 := nDigits_le (by rw [ten19]; exact hrlt) (by decide)
        have HS := Lib.hid (fun s hs => parts_step hq hvp (s := s) hs)
        obtain ⟨r, hr⟩ : ∃ r, val zs % TEN19 = r := ⟨_, rfl⟩
        obtain ⟨m, hm⟩ : ∃ m, val zs / TEN19 = m := ⟨_, rfl⟩
        obtain ⟨lz, hlz⟩ : ∃ l, zs.length = l := ⟨_, rfl⟩
        obtain ⟨np, hnp⟩ : ∃ l, ps.length = l := ⟨_, rfl⟩
        rw [hr] at HW HS hrlt hnd
        rw [hm] at HW HS
        rw [hlz] at HW hlen hl ⊢
        rw [hnp] at hkb hk HP ⊢
        have HF := Lib.hid (formatUint_calls r (Nat.lt_trans hrlt (by decide)))
        have hDl : (⟨(Lib.decDigits r).toArray⟩ : ByteArray).size = Lib.nDigits r := by
          show (Lib.decDigits r).toArray.size = _
          rw [List.size_toArray, Lib.decDigits_length]
        obtain ⟨D, hD⟩ : ∃ D : ByteArray, (⟨(Lib.decDigits r).toArray⟩ : ByteArray) = D := ⟨_, rfl⟩
        obtain ⟨nd, hnde⟩ : ∃ n, Lib.nDigits r = n := ⟨_, rfl⟩
        rw [hD] at HF hDl
        rw [hnde] at hDl hnd HS
        have HD := Lib.hid hD
        have HNP := Lib.hid hnp
        have HLZ := Lib.hid hlz
        clear hr hm hlz hnp hD hnde ho hz hp hq h0 hb hvp hrlt hk
        go_wp2_with fail
        refine HW.out.mono ?_
        rintro e w2 ⟨a2, c2, us, rfl, t1, t2, t3, t4, t5⟩
        have U := Lib.hid (And.intro t1 (And.intro t2 (And.intro t3 t5)))
        obtain ⟨lu, hlu⟩ : ∃ l, us.length = l := ⟨_, rfl⟩
        rw [hlu] at t4 U ⊢
        have HLU := Lib.hid hlu
        clear t1 t2 t3 t5 hlu
        go_wp2_with fail
        have HB2 := Lib.hid (below_then HBR.out U.out.2.2.2)
        refine (HF.out w2 (tabIs_below HB.out HB2.out)).mono ?_
        rintro e w3 ⟨rfl, hb3⟩
        have HB3 := Lib.hid hb3
        clear hb3
        by_cases hu : 0 < lu
        · obtain ⟨q, hq⟩ : ∃ q : Nat, (19 : Int) - (nd : Int) = (q : Nat) := ⟨19 - nd, by omega⟩
          have hq19 : q ≤ 19 := by omega
          go_wp2_with fail
          refine (repeat0_calls q hq19 w3).mono ?_
          rintro e w4 ⟨rfl, hb4⟩
          have HB4 := Lib.hid hb4
          clear hb4
          have HBA := Lib.hid ((below_then (below_then HB2.out HB3.out) HB4.out).alloc (below_then (below_then HB2.out HB3.out) HB4.out).size (.cells #[.string ((⟨Array.replicate q 48⟩ : ByteArray) ++ D)] 9))
          have b24 := below_then HB3.out HB4.out
          have HPA := Lib.hid (((HP.out.keep U.out.2.2.2).keep b24).keep ((Below.refl _ _).alloc (Nat.le_refl _) (.cells #[.string ((⟨Array.replicate q 48⟩ : ByteArray) ++ D)] 9)))
          have HUA := Lib.hid ((U.out.1.keep b24).keep ((Below.refl _ _).alloc (Nat.le_refl _) (.cells #[.string ((⟨Array.replicate q 48⟩ : ByteArray) ++ D)] 9)))
          have hdis : ∀ ad, a2 = some ad → some ad.block ≠ p.map (·.block) := by
            rintro ad rfl
            have h1 := U.out.1.lt
            cases p with
            | none => simp
            | some pd => have h2 := HP.out.lt; simp; omega
          have HDis := Lib.hid hdis
          clear b24 hdis
          go_wp2_with ((with_reducible refine gate_append 116 ?_); refine app_str (w0 := w) HBA.out (List.replicate q 48 ++ Lib.decDigits r) HPA.out (new_str (pad_eq q _ HD.out)) (by omega) (fun W3 a' c' hbW hoW hgW => ?_); have HBW := Lib.hid hbW; have HOW := Lib.hid hoW; have HGW := Lib.hid hgW; clear hbW hoW hgW)
          go_roundw
          case rel =>
            have hm0 : 0 < m := by
              rcases Nat.eq_zero_or_pos m with h | h
              · have h1 := U.out.2.2.1
                rw [sz_zero.2 (by rw [U.out.2.1, h])] at h1
                omega
              · exact h
            refine ⟨a2, c2, us, a', c', ps ++ [List.replicate q 48 ++ Lib.decDigits r], by rw [HLU.out], by rw [List.length_append, HNP.out]; rfl, ?_, by rw [U.out.2.2.1, HLU.out], by rw [HLU.out]; omega, ?_, ?_, ?_, ?_, HBW.out⟩
            · rw [HLU.out]
              exact (HUA.out.grown HGW.out HDis.out).mono HBR.out.size
            · rw [List.length_append, HNP.out]
              exact HOW.out
            · rw [U.out.2.1]
              refine HS.out _ ?_
              rw [if_pos hm0, show 19 - nd = q by omega]
            · intro h
              exact absurd h (by have := HN0.out; omega)
            · rw [List.length_append, HNP.out]; simp; omega
          case measure => simp [lenOf]; omega
        · have hlu0 : lu = 0 := by omega
          have HLU0 := Lib.hid hlu0
          subst hlu0
          have HBA := Lib.hid ((below_then HB2.out HB3.out).alloc (below_then HB2.out HB3.out).size (.cells #[.string D] 9))
          have b24 := HB3.out
          have HPA := Lib.hid (((HP.out.keep U.out.2.2.2).keep b24).keep ((Below.refl _ _).alloc (Nat.le_refl _) (.cells #[.string D] 9)))
          have HUA := Lib.hid ((U.out.1.keep b24).keep ((Below.refl _ _).alloc (Nat.le_refl _) (.cells #[.string D] 9)))
          have hdis : ∀ ad, a2 = some ad → some ad.block ≠ p.map (·.block) := by
            rintro ad rfl
            have h1 := U.out.1.lt
            cases p with
            | none => simp
            | some pd => have h2 := HP.out.lt; simp; omega
          have HDis := Lib.hid hdis
          clear b24 hdis
          go_wp2_with ((with_reducible refine gate_append 116 ?_); refine app_str (w0 := w) HBA.out (Lib.decDigits r) HPA.out (new_str HD.out.symm) (by omega) (fun W3 a' c' hbW hoW hgW => ?_); have HBW := Lib.hid hbW; have HOW := Lib.hid hoW; have HGW := Lib.hid hgW; clear hbW hoW hgW)
          go_roundw
          case rel =>
            have hm0 : m = 0 := by
              have h1 := U.out.2.2.1
              rw [← U.out.2.1]
              exact sz_zero.1 (by omega)
            refine ⟨a2, c2, us, a', c', ps ++ [Lib.decDigits r], by rw [HLU.out], by rw [List.length_append, HNP.out]; rfl, ?_, by rw [U.out.2.2.1, HLU.out], by rw [HLU.out]; omega, ?_, ?_, ?_, ?_, HBW.out⟩
            · rw [HLU.out]
              exact (HUA.out.grown HGW.out HDis.out).mono HBR.out.size
            · rw [List.length_append, HNP.out]
              exact HOW.out
            · rw [U.out.2.1]
              refine HS.out _ ?_
              rw [if_neg (by omega)]
            · intro h
              exact absurd h (by have := HN0.out; omega)
            · rw [List.length_append, HNP.out]; simp; omega
          case measure => simp [lenOf]; omega
      · have hz0 : zs.length = 0 := by omega
        have hv0 : val zs = 0 := sz_zero.1 (by omega)
        rw [hv0] at hq
        have HQ3 := Lib.hid hq.2
        by_cases hps : ps.length = 0
        · have hn00 : n0 = 0 := by
            rcases Nat.eq_zero_or_pos n0 with h | h
            · exact h
            · have h1 := (hq.2 rfl h).1
              exact absurd (List.eq_nil_of_length_eq_zero hps) h1
          rw [hz0, hps]
          clear ho hz hl hp hq h0 hk hb hlen hv0 hz0 hps
          subst hn00
          go_wp2
          go_ret2
          refine ⟨?_, HBR.out⟩
          rw [Lib.decDigits_one (by omega)]
          rfl
        · have hn0 : 0 < n0 := by
            rcases Nat.eq_zero_or_pos n0 with h | h
            · rw [h0 h] at hps; exact absurd rfl hps
            · exact h
          have HF := Lib.hid (HQ3.out rfl hn0).2
          obtain ⟨g, rfl, hg1, hg2, _⟩ := hp.some (by omega)
          have HRV := Lib.hid (rev_calls hp (by omega))
          have HLen : Hid (ps.reverse.flatten.length ≤ 140737488355328) := Lib.hid (by
            rw [HF.out, Lib.decDigits_length]
            have h1 := HL2.out
            have := nDigits_bound HN.out (by omega)
            omega)
          obtain ⟨np, hnp⟩ : ∃ l, ps.length = l := ⟨_, rfl⟩
          rw [hnp] at HRV hps hk ⊢
          rw [hz0]
          clear ho hz hl hp hq h0 hb hlen hv0 hz0 hn0 hnp
          go_wp2_with fail
          refine HRV.out.mono ?_
          rintro e w2 ⟨rfl, hs2, hb2⟩
          have HB2 := Lib.hid (hb2 w HBR.out)
          have HJ := Lib.hid (join_calls hs2 (by omega) HLen.out (by omega))
          clear hs2 hb2
          go_wp2_with fail
          refine HJ.out.mono ?_
          rintro e w3 ⟨rfl, hb3⟩
          have HB3 := Lib.hid hb3
          clear hb3
          go_wp2
          go_ret2
          rw [HF.out]
          exact ⟨rfl, below_then HB2.out HB3.out⟩
end Go.Proofs.YtpodpdopgdkdkaaGreatDoor
namespace Go.Proofs.YtpodpdopgdkdkaaGreatDoor
open Go.RowKit
theorem NatRes.fits {w w' : World} {n bd m : Nat} {e : Ending} (h : NatRes w n bd e w') (hm : n < B64 ^ m) : NatRes w n m e w' := by
  obtain ⟨a', c', zs, rfl, r1, r2, r3, r4, r5⟩ := h
  exact ⟨a', c', zs, rfl, r1, r2, r3, len_of_val r3 (by rw [r2]; exact hm), r5⟩
theorem OwnW.other {B : Nat} {w W : World} {a : Option Addr} {len cap : Nat} {xs : List Nat} (h : OwnW B w a len cap xs) {g : Nat} (hk : ∀ k, k ≠ g → W.heap[k]? = w.heap[k]?) (hne : ∀ ad, a = some ad → ad.block ≠ g) : OwnW B W a len cap xs := by
  obtain ⟨⟨h1, h2⟩, hl, hw⟩ := h
  refine ⟨⟨h1, ?_⟩, hl, hw⟩
  rcases h2 with h2 | ⟨g', c, cur, hv, hB, hg, r⟩
  · exact .inl h2
  · refine .inr ⟨g', c, cur, hv, hB, ?_, r⟩
    rw [hk g' ?_]
    · exact hg
    · simp only [Value.slice.injEq] at hv
      exact hne ⟨g', 0, none⟩ hv.1
theorem OwnW.off {B : Nat} {w : World} {a : Option Addr} {len cap : Nat} {xs : List Nat} (h : OwnW B w a len cap xs) {g : Nat} (hg : g < B) : ∀ ad, a = some ad → ad.block ≠ g := by
  rintro ad rfl
  have := h.lt.1
  omega
theorem bit_or {x s : Nat} (h : x % 2 ^ (s + 1) = 0) : x ||| 2 ^ s = x + 2 ^ s := by
  have e : x = 2 ^ (s + 1) * (x / 2 ^ (s + 1)) := by have := Nat.div_add_mod x (2 ^ (s + 1)); omega
  conv => lhs; rw [e]
  conv => rhs; rw [e]
  exact (Nat.two_pow_add_eq_or_of_lt (Nat.pow_lt_pow_right (by decide) (by omega)) _).symm
theorem bit_lt {x s : Nat} (hs : s < 64) (hx : x < B64) (h : x % 2 ^ (s + 1) = 0) : x + 2 ^ s < B64 := by
  have e : x = 2 ^ (s + 1) * (x / 2 ^ (s + 1)) := by have := Nat.div_add_mod x (2 ^ (s + 1)); omega
  have e2 := pow_split (s := s + 1) (by omega)
  have h1 : x / 2 ^ (s + 1) < 2 ^ (64 - (s + 1)) := Nat.div_lt_of_lt_mul (by rw [Nat.mul_comm, e2]; exact hx)
  have h2 := Nat.mul_le_mul_left (2 ^ (s + 1)) (show x / 2 ^ (s + 1) + 1 ≤ 2 ^ (64 - (s + 1)) from h1)
  rw [Nat.mul_add, ← e, Nat.mul_comm (2 ^ (s + 1)) (2 ^ (64 - (s + 1))), e2] at h2
  have h3 : 2 ^ (s + 1) = 2 * 2 ^ s := Nat.pow_succ'
  have h4 := Nat.two_pow_pos s
  omega
theorem bits_bit {x s : Nat} (hs : s < 64) (hx : x < B64) (h : x % 2 ^ (s + 1) = 0) : bits .or .u64 (x : Int) (IntKind.u64.wrap ((2 : Int) ^ s)) = ((x + 2 ^ s : Nat) : Int) := by
  have h2 : 2 ^ s < B64 := Nat.pow_lt_pow_right (a := 2) (by decide) hs
  rw [two_cast, wrapS h2, bits_or_u64_nat _ _ hx h2, bit_or h]
/-- The word in which the next bit is set has no bits so low. -/
theorem over_low {qs : List Nat} (hq : W64 qs) {i j s : Nat} (hi : i = 64 * j + s) (hs : s < 64) (h : val qs % 2 ^ (i + 1) = 0) : wd qs j % 2 ^ (s + 1) = 0 := by
  have h1 := (shr_split hq (q := j) (s := s + 1) (by omega)).1
  rw [show 64 * j + (s + 1) = i + 1 by omega, h] at h1
  have h2 : B64 ^ j * (wd qs j % 2 ^ (s + 1)) = 0 := by omega
  rcases Nat.mul_eq_zero.1 h2 with h3 | h3
  · have : 0 < B64 ^ j := Nat.pow_pos (by decide)
    omega
  · exact h3
theorem over_set {qs : List Nat} {i j s : Nat} (hi : i = 64 * j + s) (hj : j < qs.length) : val (qs.set j (wd qs j + 2 ^ s)) = val qs + 2 ^ i := by
  have h := val_set (xs := qs) j (wd qs j + 2 ^ s) hj
  rw [Nat.mul_add] at h
  rw [hi, pow_words]
  have e : qs.getD j 0 = wd qs j := rfl
  rw [e] at h
  omega
theorem mod_add_pow {q i : Nat} (h : q % 2 ^ (i + 1) = 0) : (q + 2 ^ i) % 2 ^ i = 0 ∧ q % 2 ^ i = 0 := by
  have e : q % 2 ^ i = 0 := by
    have h1 : 2 ^ i ∣ q := Nat.dvd_trans (Nat.pow_dvd_pow 2 (by omega)) (Nat.dvd_of_mod_eq_zero h)
    exact Nat.mod_eq_zero_of_dvd h1
  exact ⟨by rw [Nat.add_mod_right, e], e⟩
theorem over_take {r b q i A D : Nat} (h : r + b * q = A) (hD : D = b * 2 ^ i) (hlt : r < b * 2 ^ (i + 1)) (hle : D ≤ r) : (r - D) + b * (q + 2 ^ i) = A ∧ r - D < b * 2 ^ i := by
  rw [Nat.pow_succ', Nat.mul_left_comm] at hlt
  rw [Nat.mul_add]
  omega
theorem over_fin {r b q A : Nat} (h : r + b * q = A) (hlt : r < b * 2 ^ 0) : q = A / b ∧ r = A % b := by
  rw [Nat.pow_zero, Nat.mul_one] at hlt
  have hb : 0 < b := by omega
  rw [← h, Nat.add_mul_div_left _ _ hb, Nat.div_eq_of_lt hlt, Nat.add_mul_mod_self_left, Nat.mod_eq_of_lt hlt]
  omega
theorem over_half {b i : Nat} (h : 0 < i) : b * 2 ^ i / 2 ^ 1 = b * 2 ^ (i - 1) := by
  obtain ⟨k, rfl⟩ : ∃ k, i = k + 1 := ⟨i - 1, by omega⟩
  rw [Nat.pow_one, Nat.pow_succ, ← Nat.mul_assoc, Nat.mul_div_cancel _ (by decide), Nat.add_sub_cancel]
theorem over_start {a b far : Nat} (hb : 0 < b) (h : far + blen b = blen a) : a < b * 2 ^ (far + 1) := by
  have h1 := blen_lt a
  have h2 := blen_le (n := b) (by omega)
  have h3 : 0 < blen b := by unfold blen; rw [if_neg (by omega)]; omega
  have h4 : 2 ^ (blen b - 1) * 2 ^ (far + 1) = 2 ^ blen a := by rw [← Nat.pow_add]; congr 1; omega
  have h5 := Nat.mul_le_mul_right (2 ^ (far + 1)) h2
  omega
theorem over_less {a b : Nat} (h : blen a < blen b) : a < b := by
  have h1 := blen_lt a
  have h2 : b ≠ 0 := by intro e; subst e; rw [blen_zero] at h; omega
  have h3 := blen_le h2
  have h4 : 2 ^ blen a ≤ 2 ^ (blen b - 1) := Nat.pow_le_pow_right (by decide) (by omega)
  omega
theorem blen_words {xs : List Nat} (hx : W64 xs) : blen (val xs) ≤ 64 * xs.length := by
  by_cases h : val xs = 0
  · rw [h, blen_zero]
    omega
  · have h1 := val_lt hx
    have h2 := blen_le h
    rw [B64_pow] at h1
    have := (Nat.pow_lt_pow_iff_right (a := 2) (by decide)).1 (Nat.lt_of_le_of_lt h2 h1)
    omega
set_option maxRecDepth 10000 in
set_option maxHeartbeats 4000000 in
theorem over_calls (w : World) (a b : Option Addr) (la ca n cb : Nat) (xs ys : List Nat) (ha : SlW w a la ca xs) (hb : SlW w b n cb ys) (pa : Plain a) (sa : la ≤ 10000) (sb : n ≤ 10000) (ty : sz ys = n) (hn : 0 < n) :
    Calls Tryz.prog 90 #[.slice a la ca, .slice b n cb] w (NatPair w (val xs / val ys) (val xs % val ys) (la + 2) (la + n + 2)) := by
  have m1 := ha.hle
  have m2 := ha.hmax
  have m3 := hb.hle
  have m4 := hb.hmax
  have hsz := refSize_calls w b n cb ys hb
  rw [ty] at hsz
  have HSZ := Lib.hid hsz
  have HA := Lib.hid ha
  have HB := Lib.hid hb
  have htop := sz_get_last (xs := ys) (by omega)
  rw [ty] at htop
  have HTOP := Lib.hid (show 0 < wd ys (n - 1) from Nat.pos_of_ne_zero htop)
  have hV0 : 0 < val ys := by
    have := top_ge (by omega) hb.hlen HTOP.out
    have : 0 < B64 ^ (n - 1) := Nat.pow_pos (by decide)
    omega
  have HV0 := Lib.hid hV0
  clear ha hb hsz htop ty hV0
  by_cases h1 : n = 1
  · subst h1
    obtain ⟨p, o, rfl, hy⟩ := HB.out.wcell 0 (by omega)
    rw [Nat.add_zero] at hy
    have hyv : val ys = wd ys 0 := by
      rw [← valTo_all 1 (by rw [HB.out.hlen]; exact Nat.le_refl _), valTo_wd]
      simp [valTo]
    have HW := Lib.hid (refSmall_calls w a la ca xs (wd ys 0) HA.out (by omega) HTOP.out (wd_lt HB.out.hw 0))
    rw [hyv]
    generalize wd ys 0 = v at hy HW ⊢
    clear hyv
    go_enter Tryz.func90, Tryz.ntmps90
    go_wp2_with fail
    refine HSZ.out.mono ?_
    rintro e w' ⟨rfl, rfl⟩
    go_wp2_with fail
    refine HW.out.mono ?_
    rintro e w2 ⟨a1, c1, z1, a2, c2, z2, rfl, q, t, hb2⟩
    have R := Lib.hid (And.intro q (And.intro t hb2))
    clear q t hb2
    go_wp2
    go_ret2
    exact (show NatPair w' _ _ la 1 _ _ from ⟨a1, c1, z1, a2, c2, z2, rfl, R.out.1, R.out.2.1, R.out.2.2⟩).le (by omega) (by omega)
  · have hc1 : ((n : Int) == 1) = false := by simp; omega
    have HLA := Lib.hid (refLen_calls w a la ca xs HA.out (by omega))
    have HLB := Lib.hid (refLen_calls w b n cb ys HB.out (by omega))
    have hla := blen_words HA.out.hw
    have hlb := blen_words HB.out.hw
    rw [HA.out.hlen] at hla
    rw [HB.out.hlen] at hlb
    have HXV := Lib.hid (show val xs < B64 ^ la by have := val_lt HA.out.hw; rw [HA.out.hlen] at this; exact this)
    obtain ⟨A, hA⟩ : ∃ A, val xs = A := ⟨_, rfl⟩
    obtain ⟨V, hV⟩ : ∃ A, val ys = A := ⟨_, rfl⟩
    rw [hA] at HLA hla HXV ⊢
    rw [hV] at HLB hlb HV0 ⊢
    obtain ⟨x, hx⟩ : ∃ x, blen A = x := ⟨_, rfl⟩
    obtain ⟨y, hy⟩ : ∃ x, blen V = x := ⟨_, rfl⟩
    rw [hx] at HLA hla
    rw [hy] at HLB hlb
    have HAV := Lib.hid hA
    have HVV := Lib.hid hV
    clear hA hV
    by_cases hlt : x < y
    · have HLT := Lib.hid (over_less (a := A) (b := V) (by omega))
      have hfar : (x : Int) - (y : Int) < 0 := by omega
      rw [Nat.div_eq_of_lt HLT.out, Nat.mod_eq_of_lt HLT.out]
      clear hlt hx hy h1
      go_enter Tryz.func90, Tryz.ntmps90
      go_wp2_with fail
      refine HSZ.out.mono ?_
      rintro e w' ⟨rfl, rfl⟩
      go_wp2_with fail
      refine HLA.out.mono ?_
      rintro e w' ⟨rfl, rfl⟩
      go_wp2_with fail
      refine HLB.out.mono ?_
      rintro e w' ⟨rfl, rfl⟩
      go_wp2_with fail
      refine (refTrim_calls _ a la ca xs HA.out pa (by omega)).mono ?_
      rintro e w1 hr
      rw [HAV.out] at hr
      obtain ⟨a', c', rs, rfl, r1, r2, r3, r4, r5⟩ := hr
      have R := Lib.hid (And.intro r1 (And.intro r2 (And.intro r3 (And.intro r4 r5))))
      clear r1 r2 r3 r4 r5
      go_wp2
      go_ret2
      have hr5 := R.out.2.2.2.2
      exact natPair_mk ⟨some ⟨w1.heap.size, 0, none⟩, 0, [], rfl, (trim_empty w1).mono hr5.size, rfl, rfl, by simp, hr5.alloc hr5.size _⟩ ⟨a', c', rs, rfl, R.out.1.keep ((Below.refl _ _).alloc (Nat.le_refl _) _), R.out.2.1, R.out.2.2.1, by have := R.out.2.2.2.1; omega, hr5.alloc hr5.size _⟩
    · obtain ⟨F, hF⟩ : ∃ F, x - y = F := ⟨_, rfl⟩
      have hFi : (x : Int) - (y : Int) = (F : Nat) := by omega
      have HST := Lib.hid (over_start (far := F) HV0.out (by rw [hx, hy]; omega))
      obtain ⟨fq, hfq⟩ : ∃ q, F / 64 = q := ⟨_, rfl⟩
      have hfqi : (F : Int) / 64 = (fq : Nat) := by omega
      have hfb : fq ≤ la := by omega
      have HFQ := Lib.hid hfq
      have hF2 : F ≤ 1000000 := by omega
      clear hlt hx hy h1 hF hfq
      go_enter Tryz.func90, Tryz.ntmps90
      go_wp2_with fail
      refine HSZ.out.mono ?_
      rintro e w' ⟨rfl, rfl⟩
      go_wp2_with fail
      refine HLA.out.mono ?_
      rintro e w' ⟨rfl, rfl⟩
      go_wp2_with fail
      refine HLB.out.mono ?_
      rintro e w' ⟨rfl, rfl⟩
      go_wp2_with fail
      refine (refTrim_calls _ a la ca xs HA.out pa (by omega)).mono ?_
      rintro e w1 hr
      rw [HAV.out] at hr
      obtain ⟨a1, c1, rs, rfl, r1, r2, r3, r4, r5⟩ := hr
      have R := Lib.hid (And.intro r1 (And.intro r2 (And.intro r3 r4)))
      have HB1 := Lib.hid r5
      clear r1 r2 r3 r4 r5
      go_wp2_with ((with_reducible refine gate_make 36 ?_); go_must (refine mk_words HB1.out (fq + 1) (by omega) (fun W2 g hgB hge hB2 hBk hgw => ?_)); have HGB := Lib.hid hgB; have HGE := Lib.hid hge; have HB2 := Lib.hid hB2; have HBK := Lib.hid hBk; have HGW := Lib.hid hgw; clear hgB hge hB2 hBk hgw)
      refine (left_calls W2 b n cb ys F (HB.out.below HB2.out) (by omega) (by omega)).mono ?_
      rintro e w3 hr
      rw [HVV.out] at hr
      obtain ⟨a2, c2, ds, rfl, r1, r2, r3, r4, r5⟩ := hr
      have RD := Lib.hid (And.intro (r1.mono HB2.out.size) (And.intro r2 (And.intro r3 (And.intro r4 (r1.off (g := g) HGW.out.lt)))))
      have HB3 := Lib.hid (below_then HB2.out r5)
      have HG3 := Lib.hid (HGW.out.keep r5)
      have HR3 := Lib.hid ((R.out.1.keep HBK.out).keep r5)
      have hdl := r4
      clear r1 r2 r3 r4 r5 HGW HBK HGE
      go_wp2_with fail
      go_loopw [10, 7, 9] (fun i r d wr => ∃ (t q : Nat) (ra da : Option Addr) (rc dc : Nat) (rs ds qs : List Nat), t ≤ F + 1 ∧ i = .int .i64 ((t : Int) - 1) ∧ r = .slice ra rs.length rc ∧ d = .slice da ds.length dc ∧ OwnW w'.heap.size wr ra rs.length rc rs ∧ sz rs = rs.length ∧ rs.length ≤ la ∧ OwnW w'.heap.size wr da ds.length dc ds ∧ (∀ ad, da = some ad → ad.block ≠ g) ∧ ds.length ≤ n + F / 64 + 1 ∧ (0 < t → val ds = V * 2 ^ (t - 1)) ∧ WordsAt wr g qs ∧ qs.length = fq + 1 ∧ W64 qs ∧ val qs = q ∧ val rs + V * q = A ∧ val rs < V * 2 ^ t ∧ q % 2 ^ t = 0 ∧ Below w'.heap.size w' wr) (fun i _ _ _ => (intOf i + 1).toNat)
      case atStart =>
        exact ⟨F + 1, 0, a1, a2, c1, c2, rs, ds, List.replicate (fq + 1) 0, Nat.le_refl _, by first | rfl | go_num, rfl, rfl, HR3.out, R.out.2.2.1, R.out.2.2.2, RD.out.1, RD.out.2.2.2.2, hdl, fun _ => by rw [RD.out.2.1, Nat.add_sub_cancel], HG3.out, by simp, W64.zeros _, val_zeros' _, by rw [R.out.2.1]; simp, by rw [R.out.2.1]; exact HST.out, Nat.zero_mod _, HB3.out⟩
      case round =>
        clear R RD HR3 HG3 HB3 HB2 HB1 hdl
        obtain ⟨t, q, ra, da, rc, dc, rs, ds, qs, ht, rfl, rfl, rfl, ho, hz, hl, hd, hdn, hdl, hdv, hg, hgl, hgw, hq, hv, hlt, hm, hbw⟩ := hrel
        have HO := Lib.hid ho
        have HZ := Lib.hid hz
        have HD := Lib.hid hd
        have HDN := Lib.hid hdn
        have HDV := Lib.hid hdv
        have HG := Lib.hid hg
        have HGL := Lib.hid hgl
        have HGWW := Lib.hid hgw
        have HQ := Lib.hid hq
        have HV := Lib.hid hv
        have HLT := Lib.hid hlt
        have HM := Lib.hid hm
        have HBR := Lib.hid hbw
        clear ho hz hd hdn hdv hg hgl hgw hq hv hlt hm hbw
        by_cases h0 : 0 < t
        · obtain ⟨i, rfl⟩ : ∃ i, t = i + 1 := ⟨t - 1, by omega⟩
          have e0 : (((i + 1 : Nat) : Int) - 1) = (i : Nat) := by omega
          rw [e0]
          have HDV1 := Lib.hid (show val ds = V * 2 ^ i by have := HDV.out (by omega); rw [Nat.add_sub_cancel] at this; exact this)
          have HC := Lib.hid (refCmp_calls wr ra da _ rc _ dc rs ds HO.out.sl HD.out.sl)
          have HRT := Lib.hid (fun W (hs : SlW W da ds.length dc ds) => right_calls W da _ dc ds 1 hs (by omega) (by omega))
          have hmp := mod_add_pow HM.out
          clear e0 h0 HDV
          by_cases hle : val ds ≤ val rs
          · have hC : 0 ≤ cmpI (val rs) (val ds) := by unfold cmpI; rw [if_neg (by omega)]; split <;> omega
            have HCC := Lib.hid hC
            generalize cmpI (val rs) (val ds) = C at HC hC
            have HLS := Lib.hid (refLess_calls wr ra da _ rc _ dc rs ds HO.out.sl HD.out.sl (by omega) (by omega) hle)
            have hot := over_take HV.out HDV1.out HLT.out hle
            have HOT := Lib.hid hot
            obtain ⟨j, hj⟩ : ∃ j, i / 64 = j := ⟨_, rfl⟩
            obtain ⟨s, hs⟩ : ∃ s, i % 64 = s := ⟨_, rfl⟩
            have hji : (i : Int) / 64 = (j : Nat) := by omega
            have hsi : (i : Int) % 64 = (s : Nat) := by omega
            have hs64 : s < 64 := by omega
            have hijs : i = 64 * j + s := by omega
            have hjl : j < fq + 1 := by have := HFQ.out; omega
            have hlow := over_low HGWW.out hijs hs64 (by rw [HQ.out]; exact HM.out)
            have k1 := bits_bit hs64 (wd_lt HGWW.out j) hlow
            have HW := Lib.hid (HGWW.out.set j _ (bit_lt hs64 (wd_lt HGWW.out j) hlow))
            have HS := Lib.hid (over_set (qs := qs) hijs (by rw [HGL.out]; exact hjl))
            rw [HQ.out] at HS
            have i5 : IntKind.u64.wrap (s : Int) = (s : Nat) := wrapS (by unfold B64; omega)
            have i6 : min s 64 = s := by omega
            have HM1 := Lib.hid hmp.1
            clear hot hle hj hs hlow hijs hmp
            go_wp2_with fail
            refine HC.out.mono ?_
            rintro e w4 ⟨rfl, rfl⟩
            go_wp2_with fail
            refine HLS.out.mono ?_
            rintro e w4 hr
            have hr' := hr.fits (m := la) (Nat.lt_of_le_of_lt (by have := HV.out; omega) HXV.out)
            obtain ⟨a3, c3, us, rfl, r1, r2, r3, r4, r5⟩ := hr'
            have R1 := Lib.hid (And.intro (r1.mono HBR.out.size) (And.intro r2 (And.intro r3 r4)))
            have HB4 := Lib.hid r5
            have HUN := Lib.hid (r1.off (g := g) HG.out.lt)
            have HBB := Lib.hid (below_then HBR.out r5)
            have HG4 := Lib.hid (HG.out.keep r5)
            have hz4 := HG4.out.wcell j (by rw [HGL.out]; exact hjl)
            clear r1 r2 r3 r4 r5 hr
            go_wp2_with ((with_reducible refine gate_store 22 ?_); go_must (refine st_word HBB.out HG4.out HGB.out j (wd qs j + 2 ^ s) (by rw [HGL.out]; exact hjl) (fun W3 hB3 hk3 hsz3 hz3 => ?_)); have HB5 := Lib.hid hB3; have HG5 := Lib.hid hz3; have HK5 := Lib.hid hk3; clear hB3 hz3 hk3 hsz3)
            have HU5 := Lib.hid (R1.out.1.other HK5.out HUN.out)
            refine (HRT.out _ ((HD.out.keep HB4.out).sl.other HK5.out HDN.out)).mono ?_
            rintro e w6 ⟨a4, c4, es, rfl, r1, r2, r3, r4, r5⟩
            have R4 := Lib.hid (And.intro (r1.mono HB5.out.size) (And.intro r2 (And.intro r3 (And.intro r4 (r1.off (g := g) HG5.out.lt)))))
            have HB6 := Lib.hid (below_then HB5.out r5)
            have HG6 := Lib.hid (HG5.out.keep r5)
            have HR6 := Lib.hid (HU5.out.keep r5)
            have hel := r4
            clear r1 r2 r3 r4 r5
            go_wp2
            go_roundw
            case rel => exact ⟨i, q + 2 ^ i, a3, a4, c3, c4, us, es, qs.set j (wd qs j + 2 ^ s), by omega, by first | rfl | go_num, rfl, rfl, HR6.out, R1.out.2.2.1, R1.out.2.2.2, R4.out.1, R4.out.2.2.2.2, by omega, fun hi => by rw [R4.out.2.1, HDV1.out, over_half hi], HG6.out, by rw [List.length_set]; exact HGL.out, HW.out, HS.out, by rw [R1.out.2.1]; exact HOT.out.1, by rw [R1.out.2.1]; exact HOT.out.2, HM1.out, HB6.out⟩
            case measure => simp [intOf]
          · have hC : cmpI (val rs) (val ds) < 0 := by unfold cmpI; rw [if_pos (by omega)]; omega
            generalize cmpI (val rs) (val ds) = C at HC hC
            have HLT2 := Lib.hid (show val rs < V * 2 ^ i by rw [← HDV1.out]; omega)
            have HM1 := Lib.hid hmp.2
            clear hle hmp
            go_wp2_with fail
            refine HC.out.mono ?_
            rintro e w4 ⟨rfl, rfl⟩
            go_wp2_with fail
            refine (HRT.out _ HD.out.sl).mono ?_
            rintro e w6 ⟨a4, c4, es, rfl, r1, r2, r3, r4, r5⟩
            have R4 := Lib.hid (And.intro (r1.mono HBR.out.size) (And.intro r2 (And.intro r3 (And.intro r4 (r1.off (g := g) HG.out.lt)))))
            have HB6 := Lib.hid (below_then HBR.out r5)
            have HG6 := Lib.hid (HG.out.keep r5)
            have HR6 := Lib.hid (HO.out.keep r5)
            have hel := r4
            clear r1 r2 r3 r4 r5
            go_wp2
            go_roundw
            case rel => exact ⟨i, q, ra, a4, rc, c4, rs, es, qs, by omega, by first | rfl | go_num, rfl, rfl, HR6.out, HZ.out, hl, R4.out.1, R4.out.2.2.2.2, by omega, fun hi => by rw [R4.out.2.1, HDV1.out, over_half hi], HG6.out, HGL.out, HGWW.out, HQ.out, HV.out, HLT2.out, HM1.out, HB6.out⟩
            case measure => simp [intOf]
        · have ht0 : t = 0 := by omega
          subst ht0
          have HF := Lib.hid (over_fin HV.out HLT.out)
          go_wp2_with fail
          refine (refTrim_calls wr _ _ _ qs (HG.out.slAll HGWW.out HGL.out (by omega)) (.inr ⟨_, _, rfl⟩) (by omega)).mono ?_
          rintro e w6 hr
          have hr2 := natRes_trans HBR.out (hr.le (bd' := la + 2) (by omega))
          have hbe := NatRes.below hr
          obtain ⟨a4, c4, es, rfl, r1, r2, r3, r4, r5⟩ := hr2
          have R4 := Lib.hid (And.intro r1 (And.intro r2 (And.intro r3 (And.intro r4 r5))))
          have HO6 := Lib.hid (HO.out.keep hbe)
          clear r1 r2 r3 r4 r5 hr hbe
          go_wp2
          go_ret2
          exact natPair_mk ⟨a4, c4, es, rfl, R4.out.1, by rw [R4.out.2.1, HQ.out]; exact HF.out.1, R4.out.2.2.1, R4.out.2.2.2.1, R4.out.2.2.2.2⟩ ⟨ra, rc, rs, rfl, HO6.out, HF.out.2, HZ.out, by omega, R4.out.2.2.2.2⟩
end Go.Proofs.YtpodpdopgdkdkaaGreatDoor
