/- fixed.Exact. No conditions. · FixedExact: the walk over the law. -/
import Derived.Test.YtpodpdopgdkdkaaGreatDoorMw29
import Derived.Test.YtpodpdopgdkdkaaGreatDoorMw28
set_option linter.unusedVariables false
set_option linter.unusedSimpArgs false
namespace Go.Proofs.YtpodpdopgdkdkaaGreatDoor
set_option linter.unusedVariables false
set_option linter.unusedSimpArgs false
open Go.RowKit
theorem power5_at (W : World) (m : Nat) (hm : m ≤ 12000) (e : Int) (he : (m : Int) = e) : Calls Tryz.prog 53 #[.int .i64 5, .int .i64 e] W (NatOneV W (5 ^ m) (.int .i64 0)) := by
  subst he
  exact power_at W 5 m hm (.inr (.inl rfl))
theorem five_lim (m : Nat) (hm : m ≤ 12000) : ∃ l, l ≤ 640 ∧ 5 ^ m < B64 ^ l := five_any m (by omega)
set_option maxRecDepth 100000 in
set_option maxHeartbeats 8000000 in
theorem exact_calls (n : Int) (b0 b1 b2 b3 : Nat) (hb : W64 [b0, b1, b2, b3]) (w : World) (hT : Tab10 w) :
    Calls Tryz.prog 19 #[.int .i64 n, bitsV b0 b1 b2 b3] w (ExIs n b0 b1 b2 b3 w) := by
  have HU := Lib.hid (fun W => unpack_calls n b0 b1 b2 b3 hb W)
  have HT := Lib.hid hT
  unfold bitsV at *
  clear hb hT
  go_enter Tryz.func19, Tryz.ntmps19
  go_wp2_with fail
  have HB0 := Lib.hid (below_alloc (Below.refl w.heap.size w) (.cells #[.int .u64 (b0 : Nat), .int .u64 (b1 : Nat), .int .u64 (b2 : Nat), .int .u64 (b3 : Nat)] 24))
  have HP0 : Hid ((w.alloc (.cells #[.int .u64 (b0 : Nat), .int .u64 (b1 : Nat), .int .u64 (b2 : Nat), .int .u64 (b3 : Nat)] 24)).heap[w.heap.size]? = _) := Lib.hid (heap_new w (.cells #[.int .u64 (b0 : Nat), .int .u64 (b1 : Nat), .int .u64 (b2 : Nat), .int .u64 (b3 : Nat)] 24))
  generalize (w.alloc (.cells #[.int .u64 (b0 : Nat), .int .u64 (b1 : Nat), .int .u64 (b2 : Nat), .int .u64 (b3 : Nat)] 24)) = v0 at HB0 HP0 ⊢
  refine (HU.out _).mono ?_
  intro e w1 hr
  rcases hr with ⟨P, X, L, H, hlen, hb1, hfin, hinf⟩ | ⟨hbad, rfl, hb1⟩
  · have HB1 := Lib.hid (below_then HB0.out hb1)
    have HP1 := Lib.hid (below_heap hb1 HP0.out)
    have HH := Lib.hid (And.intro H hlen)
    clear hb1 HB0 HP0 HU
    by_cases hE : val [b0, b1, b2, b3] / 2 ^ (P - 1) % 2 ^ X < 2 ^ X - 1
    · obtain ⟨c0, c1, c2, c3, hcw, hcv, rfl⟩ := hfin hE
      have HC := Lib.hid (And.intro hcw hcv)
      have HE := Lib.hid hE
      obtain ⟨sg, hsg⟩ : ∃ sg : Bool, (((val [b0, b1, b2, b3] / 2 ^ (P + X - 1) % 2 : Nat) : Int) == 1) = sg := ⟨_, rfl⟩
      obtain ⟨x, hx⟩ : ∃ x, L + max (((val [b0, b1, b2, b3] / 2 ^ (P - 1) % 2 ^ X : Nat) : Int) - 1) 0 = x := ⟨_, rfl⟩
      rw [hsg, hx]
      have HX := Lib.hid hx
      clear hsg hx hcw hcv hfin hinf H hlen hE
      by_cases hz : c0 = 0 ∧ c1 = 0 ∧ c2 = 0 ∧ c3 = 0
      · obtain ⟨rfl, rfl, rfl, rfl⟩ := hz
        have heq := fun W => bits_eqIn W 0 0 0 0 0 0 0 0
        simp only [beq_self_eq_true, Bool.and_self] at heq
        go_wp2
        go_ret3
        exact ⟨below_alloc HB1.out _, .inl ⟨P, X, L, HH.out.1, HH.out.2, by unfold exV; rw [if_pos HE.out, if_pos (show coefF (val [b0, b1, b2, b3]) P X = 0 from HC.out.2.symm.trans (show val [0, 0, 0, 0] = 0 from rfl))]; rfl⟩⟩
      · have hF0 : val [c0, c1, c2, c3] ≠ 0 := fun h => hz (val4_zero h)
        have heq := fun W => bits_eqIn W (c0 : Nat) (c1 : Nat) (c2 : Nat) (c3 : Nat) 0 0 0 0
        rw [four_ne hz] at heq
        have hxe : expF (val [b0, b1, b2, b3]) P X L = x := HX.out
        have hFe : coefF (val [b0, b1, b2, b3]) P X = val [c0, c1, c2, c3] := HC.out.2.symm
        have hxr := exp_rng HH.out.1 HE.out
        rw [hxe] at hxr
        have hFk := val4_lt HC.out.1
        have hG := heap_new w1 (.cells #[.int .i64 1, .bool sg, .bool false, .int .i64 x, .int .u64 (c0 : Nat), .int .u64 (c1 : Nat), .int .u64 (c2 : Nat), .int .u64 (c3 : Nat)] 31)
        have HTM := Lib.hid (trim_own _ _ _ _ _ (sl_coef (k := 1) (sg := sg) (si := false) (x := x) hG HC.out.1) (.inr ⟨_, _, rfl⟩) (by omega))
        have HG := Lib.hid (show DatBox _ w1.heap.size sg x c0 c1 c2 c3 from hG)
        obtain ⟨F, hF⟩ : ∃ F, val [c0, c1, c2, c3] = F := ⟨_, rfl⟩
        rw [hF] at hF0 hFe hFk HTM
        have HF0 := Lib.hid hF0
        have HEB := Lib.hid (fun (c j N : Nat) (y : Int) (h1 : x < 0) (h2 : F = c * 2 ^ j) (h3 : (j : Int) ≤ -x) (h4 : c * 5 ^ ((-x).toNat - j) = N) (h5 : x + j = y) => ex_back HE.out hFe hF0 hxe h1 h2 h3 h4 h5)
        have HEM := Lib.hid (fun (N : Nat) (p : List UInt8) (z : Nat) (h0 : 0 ≤ x) (hN : exN F x = N) hp hz => ex_main (p := p) (z := z) HE.out hFe hF0 hxe hN (show exAt x = 0 from if_pos h0) hp hz)
        have HFK := Lib.hid hFk
        obtain ⟨hx1, hx2⟩ := hxr
        clear hz hF0 hxe hFe hFk hF hG
        go_wp2_with fail
        have HB2 := Lib.hid (below_alloc HB1.out (.cells #[.int .i64 1, .bool sg, .bool false, .int .i64 x, .int .u64 (c0 : Nat), .int .u64 (c1 : Nat), .int .u64 (c2 : Nat), .int .u64 (c3 : Nat)] 31))
        have hgv : w1.heap.size < (w1.alloc (.cells #[.int .i64 1, .bool sg, .bool false, .int .i64 x, .int .u64 (c0 : Nat), .int .u64 (c1 : Nat), .int .u64 (c2 : Nat), .int .u64 (c3 : Nat)] 31)).heap.size := by simp
        generalize (w1.alloc (.cells #[.int .i64 1, .bool sg, .bool false, .int .i64 x, .int .u64 (c0 : Nat), .int .u64 (c1 : Nat), .int .u64 (c2 : Nat), .int .u64 (c3 : Nat)] 31)) = v2 at HG HB2 HTM hgv ⊢
        clear heq
        refine HTM.out.mono ?_
        rintro e w3 ⟨u, rfl, hu, hb3⟩
        have HG3 := Lib.hid (HG.out.below hb3)
        have HB3 := Lib.hid (below_then HB2.out hb3)
        have HS3 := Lib.hid hb3.size
        have HU3 := Lib.hid hu
        obtain ⟨gd, hgd⟩ : ∃ g, w1.heap.size = g := ⟨_, rfl⟩
        obtain ⟨B, hB⟩ : ∃ B, v2.heap.size = B := ⟨_, rfl⟩
        have hwg : w.heap.size < gd := by have := lt_of_heap HP1.out; omega
        rw [hgd, hB] at hgv
        rw [hgd] at HG3 ⊢
        rw [hB] at HU3 HS3
        clear hu hb3 HTM HG hB hgd
        go_wp2_with fail
        go_loopw [9] (fun v wr => ∃ (j c : Nat) (y : Int), NatOwn B wr c v ∧ DatBox wr gd sg y c0 c1 c2 c3 ∧ y = x + j ∧ (0 < j → y ≤ 0) ∧ F = c * 2 ^ j ∧ B ≤ wr.heap.size ∧ Below w.heap.size w wr) (fun _ wr => (-(expOf wr gd)).toNat)
        case atStart => exact ⟨0, F, x, HU3.out, HG3.out, by omega, fun h => absurd h (by omega), by rw [Nat.pow_zero, Nat.mul_one], HS3.out, HB3.out⟩
        case round =>
          obtain ⟨j, c, y, ho, hd, hy, hjy, hF2, hsz, hbw⟩ := hrel
          have hc0 : 0 < c := Nat.pos_of_ne_zero fun e => HF0.out (by rw [hF2, e, Nat.zero_mul])
          have hck : c < B64 ^ 4 := by
            refine Nat.lt_of_le_of_lt ?_ HFK.out
            rw [hF2]
            exact Nat.le_mul_of_pos_right _ (Nat.pow_pos (by decide))
          have HOW := Lib.hid ho
          obtain ⟨b, cc, zs, hve, hsl, hval, hlen⟩ := ho.lenPos hc0
          obtain ⟨x0, hx0⟩ : ∃ x0, zs.getD 0 0 = x0 := ⟨_, rfl⟩
          have hodd := odd_word hlen
          rw [hx0, hval] at hodd
          have hxb : x0 < B64 := by rw [← hx0]; exact hsl.hw.get 0
          obtain ⟨b3', off3, hae, hcell⟩ := hsl.hcell 0 hlen
          cases hae
          rw [hx0, Nat.add_zero] at hcell
          have hmz : zs.length ≤ 9223372036854775807 := by have := hsl.hle; have := hsl.hmax; omega
          obtain ⟨ny, hny⟩ : ∃ ny, zs.length = ny := ⟨_, rfl⟩
          rw [hny] at hlen hve hmz
          have hand := and_one x0 hxb
          rw [hodd] at hand
          have d3 := hd.exp
          have HD := Lib.hid hd
          have HF2 := Lib.hid hF2
          have HSZB := Lib.hid hsz
          have HBW := Lib.hid hbw
          have HY := Lib.hid (And.intro hy hjy)
          have HCK := Lib.hid hck
          have HC0 := Lib.hid hc0
          have hyr : -17000 ≤ y := by omega
          have hyr2 : y ≤ 17000 := by
            by_cases hj0 : 0 < j
            · have := hjy hj0; omega
            · omega
          subst hve
          clear hsl hval hx0 hodd hxb hny ho hd hF2 hsz hbw hck hc0 hy hjy
          by_cases hy0 : y < 0
          · by_cases hev : c % 2 = 0
            · rw [hev] at hand
              have hand0 : bits .and .u64 (x0 : Int) 1 = 0 := hand
              have HEV := Lib.hid hev
              have HSR := Lib.hid (shr1_own wr HOW.out.at HCK.out (by omega) HSZB.out)
              clear hand hev
              go_wp2_with fail
              refine HSR.out.mono ?_
              rintro e w4 ⟨u4, g4, rfl, hu4, hb4⟩
              have HU4 := Lib.hid hu4
              have HD4 := Lib.hid (HD.out.below hb4)
              have d34 : w4.cell? ⟨gd, 3, none⟩ = some (.int .i64 y) := HD4.out.exp
              have f34 : w4.frozen? ⟨gd, 3, none⟩ = false := HD4.out.free 3
              have HB4 := Lib.hid (below_then HBW.out hb4)
              have HS4 := Lib.hid (Nat.le_trans HSZB.out hb4.size)
              have HM1 := Lib.hid (expOf_is HD.out.exp)
              clear hu4 hb4 HSR d3 hcell
              go_wp2
              go_roundw
              case rel => exact ⟨j + 1, c / 2, y + 1, HU4.out.set hgv 3 _, HD4.out.set (y + 1), by have := HY.out.1; omega, fun _ => by omega, half_pow HF2.out HEV.out, by rw [size_set]; exact HS4.out, HB4.out.setCell (Nat.le_of_lt hwg) _⟩
              case measure =>
                have HM2 := expOf_is (HD4.out.set (y + 1)).exp
                rw [HM2, HM1.out]
                omega
            · have ho1 : c % 2 = 1 := by omega
              rw [ho1] at hand
              have hand1 : bits .and .u64 (x0 : Int) 1 = 1 := hand
              obtain ⟨m, hm⟩ : ∃ m : Nat, (m : Int) = -y := ⟨(-y).toNat, by omega⟩
              obtain ⟨M, hM⟩ : ∃ M, c * 5 ^ m = M := ⟨_, rfl⟩
              have hMp : 0 < M := by rw [← hM]; exact Nat.mul_pos HC0.out (Nat.pow_pos (by decide))
              have hxy : x < 0 := by have := HY.out.1; omega
              have hjx : (j : Int) ≤ -x := by have := HY.out.1; omega
              have hme : (-x).toNat - j = m := by have := HY.out.1; omega
              have hvv := HEB.out c j M y hxy HF2.out hjx (by rw [hme]; exact hM) HY.out.1.symm
              clear hand hev ho1 hxy hjx hme
              by_cases hlow : -y ≤ 12000
              · have hmn : min (-y) 12000 = -y := by omega
                have hle : -y - 12000 ≤ 0 := by omega
                obtain ⟨l5, hl5, hf5⟩ := five_lim m (by omega)
                have hkk : 4 + l5 ≤ 2000 := by omega
                have hkk0 : 0 < 4 + l5 := by omega
                have hMk : M < B64 ^ (4 + l5) := by
                  rw [← hM, Nat.pow_add]
                  exact Nat.mul_lt_mul'' HCK.out hf5
                have HP5 := Lib.hid (fun W => power5_at W m (by omega) (-y) hm)
                have HMU := Lib.hid (fun W u v (hu : NatAt W c u) (hv : NatAt W (5 ^ m) v) => mul_at W hu hv HCK.out hf5 hkk)
                rw [hM] at HMU
                obtain ⟨p, hp⟩ : ∃ p, stripZ (Lib.decDigits M) = p := ⟨_, rfl⟩
                obtain ⟨z, hz2⟩ : ∃ z, endZ (Lib.decDigits M) = z := ⟨_, rfl⟩
                have hnz := strip_noZ (Lib.decDigits M)
                have hne := strip_ne hMp
                obtain ⟨S, hS⟩ : ∃ S : ByteArray, S = ⟨(Lib.decDigits M).toArray⟩ := ⟨_, rfl⟩
                have hSS : S.data.toList = p ++ List.replicate z 48 := by
                  rw [hS, ← hp, ← hz2]; exact strip_split (Lib.decDigits M)
                have hSd : S.size = (Lib.decDigits M).length := by rw [hS]; exact wr_size rfl
                have hdl := dig_len hMk hkk0
                have hSb : S.size ≤ 1000000 := by omega
                obtain ⟨TB, hTB⟩ : ∃ TB : ByteArray, TB = ⟨p.toArray⟩ := ⟨_, rfl⟩
                have hTz : TB.size = p.length := by rw [hTB]; exact wr_size rfl
                have hSz : S.size = TB.size + z := by rw [wr_size hSS, List.length_append, List.length_replicate, hTz]
                have hTb : TB.size ≤ 1000000 := by omega
                rw [hp, hz2] at hvv
                rw [hp] at hnz hne
                have HVV := Lib.hid hvv
                have HTB := Lib.hid hTB
                have HSZ := Lib.hid hSz
                have HDG := Lib.hid (fun W u (hW : Below w.heap.size w W) (hu : NatAt W M u) => digits_at W hu hMk hkk (tabIs_below HT.out hW))
                rw [← hS] at HDG
                have HTR := Lib.hid (fun W => trimRight_calls W S p z hSS hnz hSb hne)
                rw [← hTB] at HTR
                clear hvv hTB hSz hTz hdl hSd hSS hS hne hnz hz2 hp hMp hMk
                clear hm hM hf5
                go_wp2_with fail
                refine (HP5.out _).mono ?_
                rintro e w4 ⟨v5, rfl, hv5, hb4⟩
                have HB4 := Lib.hid (below_then HBW.out hb4)
                have HM4 := Lib.hid (HMU.out _ _ _ (HOW.out.at.below hb4) hv5)
                have HD4 := Lib.hid (HD.out.below hb4)
                clear hv5 hb4 d3 hcell HP5
                go_wp2_with fail
                refine HM4.out.mono ?_
                rintro e w5 ⟨v6, rfl, hv6, hb5⟩
                have HB5 := Lib.hid (below_then HB4.out hb5)
                have HV6 := Lib.hid hv6
                have HD5 := Lib.hid (HD4.out.below hb5)
                have d35 : w5.cell? ⟨gd, 3, none⟩ = some (.int .i64 y) := HD5.out.exp
                clear hv6 hb5 HM4
                go_wp2_with fail
                refine (HDG.out _ _ HB5.out HV6.out).mono ?_
                rintro e w7 ⟨rfl, hb7⟩
                have HB7 := Lib.hid (below_then HB5.out hb7)
                clear hb7
                go_wp2_with fail
                refine (HTR.out _).mono ?_
                rintro e w8 ⟨rfl, rfl⟩
                go_wp2
                go_ret3
                exact ⟨HB7.out, .inl ⟨P, X, L, HH.out.1, HH.out.2, by rw [HVV.out, ← HTB.out]; exact congrArg (fun q => Ending.returned (.tuple #[.string TB, .int .i64 q, .int .i64 0])) (by have := HSZ.out; omega)⟩⟩
              · have hmn : min (-y) 12000 = 12000 := by omega
                have hgt : 0 < -y - 12000 := by omega
                obtain ⟨q, hq⟩ : ∃ q : Nat, q = 12000 := ⟨_, rfl⟩
                have hqi : (q : Int) = 12000 := by omega
                obtain ⟨m2, hm2⟩ : ∃ m2 : Nat, (m2 : Int) = -y - 12000 := ⟨(-y - 12000).toNat, by omega⟩
                have hmq : m = q + m2 := by omega
                obtain ⟨l5, hl5, hf5⟩ := five_lim q (by omega)
                obtain ⟨l6, hl6, hf6⟩ := five_lim m2 (by omega)
                have hkk : 4 + l5 + l6 ≤ 2000 := by omega
                have hkk0 : 0 < 4 + l5 + l6 := by omega
                have hck5 : c * 5 ^ q < B64 ^ (4 + l5) := by
                  rw [Nat.pow_add]
                  exact Nat.mul_lt_mul'' HCK.out hf5
                have hMe : c * 5 ^ q * 5 ^ m2 = M := by rw [← hM, hmq, Nat.pow_add, Nat.mul_assoc]
                have hMk : M < B64 ^ (4 + l5 + l6) := by
                  rw [← hMe, Nat.pow_add]
                  exact Nat.mul_lt_mul'' hck5 hf6
                have HP5 := Lib.hid (fun W => power5_at W q (by omega) 12000 hqi)
                have HP6 := Lib.hid (fun W => power5_at W m2 (by omega) (-y - 12000) hm2)
                have HMU := Lib.hid (fun W u v (hu : NatAt W c u) (hv : NatAt W (5 ^ q) v) => mul_at W hu hv HCK.out hf5 (by omega))
                have HMV := Lib.hid (fun W u v (hu : NatAt W (c * 5 ^ q) u) (hv : NatAt W (5 ^ m2) v) => mul_at W hu hv hck5 hf6 hkk)
                rw [hMe] at HMV
                obtain ⟨p, hp⟩ : ∃ p, stripZ (Lib.decDigits M) = p := ⟨_, rfl⟩
                obtain ⟨z, hz2⟩ : ∃ z, endZ (Lib.decDigits M) = z := ⟨_, rfl⟩
                have hnz := strip_noZ (Lib.decDigits M)
                have hne := strip_ne hMp
                obtain ⟨S, hS⟩ : ∃ S : ByteArray, S = ⟨(Lib.decDigits M).toArray⟩ := ⟨_, rfl⟩
                have hSS : S.data.toList = p ++ List.replicate z 48 := by
                  rw [hS, ← hp, ← hz2]; exact strip_split (Lib.decDigits M)
                have hSd : S.size = (Lib.decDigits M).length := by rw [hS]; exact wr_size rfl
                have hdl := dig_len hMk hkk0
                have hSb : S.size ≤ 1000000 := by omega
                obtain ⟨TB, hTB⟩ : ∃ TB : ByteArray, TB = ⟨p.toArray⟩ := ⟨_, rfl⟩
                have hTz : TB.size = p.length := by rw [hTB]; exact wr_size rfl
                have hSz : S.size = TB.size + z := by rw [wr_size hSS, List.length_append, List.length_replicate, hTz]
                have hTb : TB.size ≤ 1000000 := by omega
                rw [hp, hz2] at hvv
                rw [hp] at hnz hne
                have HVV := Lib.hid hvv
                have HTB := Lib.hid hTB
                have HSZ := Lib.hid hSz
                have HDG := Lib.hid (fun W u (hW : Below w.heap.size w W) (hu : NatAt W M u) => digits_at W hu hMk hkk (tabIs_below HT.out hW))
                rw [← hS] at HDG
                have HTR := Lib.hid (fun W => trimRight_calls W S p z hSS hnz hSb hne)
                rw [← hTB] at HTR
                clear hvv hTB hSz hTz hdl hSd hSS hS hne hnz hz2 hp hMp hMk
                clear hm hM hf5 hf6 hMe hck5 hmq hqi hq hm2
                go_wp2_with fail
                refine (HP5.out _).mono ?_
                rintro e w4 ⟨v5, rfl, hv5, hb4⟩
                have HB4 := Lib.hid (below_then HBW.out hb4)
                have HM4 := Lib.hid (HMU.out _ _ _ (HOW.out.at.below hb4) hv5)
                have HD4 := Lib.hid (HD.out.below hb4)
                clear hv5 hb4 d3 hcell HP5
                go_wp2_with fail
                refine HM4.out.mono ?_
                rintro e w5 ⟨v6, rfl, hv6, hb5⟩
                have HB5 := Lib.hid (below_then HB4.out hb5)
                have HV6 := Lib.hid hv6
                have HD5 := Lib.hid (HD4.out.below hb5)
                have d35 : w5.cell? ⟨gd, 3, none⟩ = some (.int .i64 y) := HD5.out.exp
                clear hv6 hb5 HM4
                go_wp2_with fail
                refine (HP6.out _).mono ?_
                rintro e w6 ⟨v7, rfl, hv7, hb6⟩
                have HB6 := Lib.hid (below_then HB5.out hb6)
                have HM6 := Lib.hid (HMV.out _ _ _ (HV6.out.below hb6) hv7)
                have HD6 := Lib.hid (HD5.out.below hb6)
                clear hv7 hb6 d35 HP6
                go_wp2_with fail
                refine HM6.out.mono ?_
                rintro e w9 ⟨v9, rfl, hv9, hb9⟩
                have HB9 := Lib.hid (below_then HB6.out hb9)
                have HV9 := Lib.hid hv9
                have HD9 := Lib.hid (HD6.out.below hb9)
                have d39 : w9.cell? ⟨gd, 3, none⟩ = some (.int .i64 y) := HD9.out.exp
                clear hv9 hb9 HM6
                go_wp2_with fail
                refine (HDG.out _ _ HB9.out HV9.out).mono ?_
                rintro e w7 ⟨rfl, hb7⟩
                have HB7 := Lib.hid (below_then HB9.out hb7)
                clear hb7
                go_wp2_with fail
                refine (HTR.out _).mono ?_
                rintro e w8 ⟨rfl, rfl⟩
                go_wp2
                go_ret3
                exact ⟨HB7.out, .inl ⟨P, X, L, HH.out.1, HH.out.2, by rw [HVV.out, ← HTB.out]; exact congrArg (fun q => Ending.returned (.tuple #[.string TB, .int .i64 q, .int .i64 0])) (by have := HSZ.out; omega)⟩⟩
          · have hy1 : 0 ≤ y := by omega
            obtain ⟨m, hm⟩ : ∃ m : Nat, (m : Int) = y := ⟨y.toNat, by omega⟩
            obtain ⟨M, hM⟩ : ∃ M, c * 2 ^ m = M := ⟨_, rfl⟩
            have hMp : 0 < M := by rw [← hM]; exact Nat.mul_pos HC0.out (Nat.pow_pos (by decide))
            obtain ⟨kk, hkd⟩ : ∃ kk, 4 + (m / 64 + 1) = kk := ⟨_, rfl⟩
            have hkk : kk ≤ 2000 := by omega
            have hkk0 : 0 < kk := by omega
            have hMk : M < B64 ^ kk := by
              rw [← hM, ← hkd, Nat.pow_add]
              refine Nat.mul_lt_mul'' HCK.out ?_
              rw [B64_pow]
              exact Nat.pow_lt_pow_right (by decide) (by omega)
            have hvv : exV (val [b0, b1, b2, b3]) P X L = .tuple #[.string ⟨(stripZ (Lib.decDigits M)).toArray⟩, .int .i64 (0 + (endZ (Lib.decDigits M) : Nat)), .int .i64 0] := by
              by_cases hx0 : x < 0
              · have hj0 : 0 < j := by have := HY.out.1; omega
                have hy2 := HY.out.2 hj0
                have hy3 : y = 0 := by omega
                have hm0 : m = 0 := by omega
                refine (HEB.out c j M 0 hx0 HF2.out (by have := HY.out.1; omega) ?_ (by have := HY.out.1; omega))
                rw [show (-x).toNat - j = 0 by have := HY.out.1; omega, ← hM, hm0]
              · have hj0 : j = 0 := by
                  rcases Nat.eq_zero_or_pos j with h | h
                  · exact h
                  · have := HY.out.1; have := HY.out.2 h; omega
                have hxy : x = (m : Int) := by have := HY.out.1; omega
                refine HEM.out M _ _ (by omega) ?_ rfl rfl
                unfold exN
                rw [if_pos (by omega), ← hM, HF2.out, hj0, Nat.pow_zero, Nat.mul_one, hxy, Int.toNat_natCast]
            rw [Int.zero_add] at hvv
            have HSH := Lib.hid (fun W u (hu : NatAt W c u) => shl_at W m hu HCK.out (by omega))
            rw [hM, hm] at HSH
            obtain ⟨p, hp⟩ : ∃ p, stripZ (Lib.decDigits M) = p := ⟨_, rfl⟩
            obtain ⟨z, hz2⟩ : ∃ z, endZ (Lib.decDigits M) = z := ⟨_, rfl⟩
            have hnz := strip_noZ (Lib.decDigits M)
            have hne := strip_ne hMp
            obtain ⟨S, hS⟩ : ∃ S : ByteArray, S = ⟨(Lib.decDigits M).toArray⟩ := ⟨_, rfl⟩
            have hSS : S.data.toList = p ++ List.replicate z 48 := by
              rw [hS, ← hp, ← hz2]; exact strip_split (Lib.decDigits M)
            have hSd : S.size = (Lib.decDigits M).length := by rw [hS]; exact wr_size rfl
            have hdl := dig_len hMk hkk0
            have hSb : S.size ≤ 1000000 := by omega
            obtain ⟨TB, hTB⟩ : ∃ TB : ByteArray, TB = ⟨p.toArray⟩ := ⟨_, rfl⟩
            have hTz : TB.size = p.length := by rw [hTB]; exact wr_size rfl
            have hSz : S.size = TB.size + z := by rw [wr_size hSS, List.length_append, List.length_replicate, hTz]
            have hTb : TB.size ≤ 1000000 := by omega
            rw [hp, hz2] at hvv
            rw [hp] at hnz hne
            have HVV := Lib.hid hvv
            have HTB := Lib.hid hTB
            have HSZ := Lib.hid hSz
            have HDG := Lib.hid (fun W u (hW : Below w.heap.size w W) (hu : NatAt W M u) => digits_at W hu hMk hkk (tabIs_below HT.out hW))
            rw [← hS] at HDG
            have HTR := Lib.hid (fun W => trimRight_calls W S p z hSS hnz hSb hne)
            rw [← hTB] at HTR
            clear hvv hTB hSz hTz hdl hSd hSS hS hne hnz hz2 hp hMp hMk
            clear hm hM hkd hand hy0
            go_wp2_with fail
            refine (HSH.out _ _ HOW.out.at).mono ?_
            rintro e w5 ⟨v6, rfl, hv6, hb5⟩
            have HB5 := Lib.hid (below_then HBW.out hb5)
            have HV6 := Lib.hid hv6
            clear hv6 hb5 d3 hcell
            go_wp2_with fail
            refine (HDG.out _ _ HB5.out HV6.out).mono ?_
            rintro e w7 ⟨rfl, hb7⟩
            have HB7 := Lib.hid (below_then HB5.out hb7)
            clear hb7
            go_wp2_with fail
            refine (HTR.out _).mono ?_
            rintro e w8 ⟨rfl, rfl⟩
            go_wp2
            go_ret3
            exact ⟨HB7.out, .inl ⟨P, X, L, HH.out.1, HH.out.2, by rw [HVV.out, ← HTB.out]; exact congrArg (fun q => Ending.returned (.tuple #[.string TB, .int .i64 q, .int .i64 0])) (by have := HSZ.out; omega)⟩⟩
    · obtain ⟨k, sg, si, c0, c1, c2, c3, hk, rfl⟩ := hinf hE
      have HE := Lib.hid hE
      clear hfin hinf H hlen hE
      have hk1 : ¬ k = 1 := by omega
      have hk2 : (k != 1) = true := by simp [hk1]
      have hk3 : (k == 1) = false := by simp [hk1]
      clear hk hk1
      go_wp2
      go_ret3
      exact ⟨below_alloc HB1.out _, .inl ⟨P, X, L, HH.out.1, HH.out.2, by unfold exV; rw [if_neg HE.out]; rfl⟩⟩
  · have HB1 := Lib.hid (below_then HB0.out hb1)
    have HBAD := Lib.hid hbad
    clear hb1 HB0 HP0 HU hbad
    unfold datum0
    go_wp2
    go_ret3
    exact ⟨below_alloc HB1.out _, .inr ⟨HBAD.out, rfl⟩⟩
end Go.Proofs.YtpodpdopgdkdkaaGreatDoor
namespace Go.Proofs.YtpodpdopgdkdkaaGreatDoor
set_option linter.unusedVariables false
set_option linter.unusedSimpArgs false
open Go.RowKit
theorem exIs_same {n : Int} {b0 b1 b2 b3 : Nat} {w w' u u' : World} {e e' : Ending} (h : ExIs n b0 b1 b2 b3 w e w') (h' : ExIs n b0 b1 b2 b3 u e' u') : e = e' := by
  obtain ⟨-, h⟩ := h
  obtain ⟨-, h'⟩ := h'
  rcases h with ⟨P, X, L, hI, hb, rfl⟩ | ⟨k, rfl⟩ <;> rcases h' with ⟨P', X', L', hI', hb', rfl⟩ | ⟨k', rfl⟩
  · obtain ⟨rfl, rfl, rfl⟩ := hI.uniq hI'
    rfl
  · exact absurd ⟨hI.rng.1, hI.rng.2, hb⟩ k'
  · exact absurd ⟨hI'.rng.1, hI'.rng.2, hb'⟩ k
  · rfl
theorem exIs_shape {n : Int} {b0 b1 b2 b3 : Nat} {w w' : World} {e : Ending} (h : ExIs n b0 b1 b2 b3 w e w') : ∃ (S : ByteArray) (m : Int) (er : Int), e = .returned (.tuple #[.string S, .int .i64 m, .int .i64 er]) := by
  obtain ⟨-, ⟨P, X, L, -, -, rfl⟩ | ⟨-, rfl⟩⟩ := h
  · unfold exV noOut exOut
    split
    · split <;> exact ⟨_, _, _, rfl⟩
    · exact ⟨_, _, _, rfl⟩
  · exact ⟨_, _, _, rfl⟩
set_option maxRecDepth 100000 in
set_option maxHeartbeats 2000000 in
theorem fixedExact_calls (n : Int) (b0 b1 b2 b3 : Nat) (hb : W64 [b0, b1, b2, b3]) (w : World) (hT : Tab10 w) :
    Calls Tryz.prog 6 #[.int .i64 n, bitsV b0 b1 b2 b3] w fun e w' => e = .returned (.bool true) ∧ Below w.heap.size w w' := by
  have HT := Lib.hid hT
  have HA := Lib.hid (fun W (hW : Below w.heap.size w W) => awake10_calls W (tabIs_below hT hW))
  have H1 := Lib.hid (fun W (hW : Below w.heap.size w W) => exact_calls n b0 b1 b2 b3 hb W (tabIs_below hT hW))
  have H2 := Lib.hid (fun W => rexact_calls n b0 b1 b2 b3 hb W)
  unfold bitsV at *
  clear hT hb
  go_enter Tryz.func6, Tryz.ntmps6
  go_wp2_with fail
  have HB0 := Lib.hid (below_alloc (Below.refl w.heap.size w) (.cells #[.int .u64 (b0 : Nat), .int .u64 (b1 : Nat), .int .u64 (b2 : Nat), .int .u64 (b3 : Nat)] 24))
  have HP0 : Hid ((w.alloc (.cells #[.int .u64 (b0 : Nat), .int .u64 (b1 : Nat), .int .u64 (b2 : Nat), .int .u64 (b3 : Nat)] 24)).heap[w.heap.size]? = _) := Lib.hid (heap_new w (.cells #[.int .u64 (b0 : Nat), .int .u64 (b1 : Nat), .int .u64 (b2 : Nat), .int .u64 (b3 : Nat)] 24))
  generalize (w.alloc (.cells #[.int .u64 (b0 : Nat), .int .u64 (b1 : Nat), .int .u64 (b2 : Nat), .int .u64 (b3 : Nat)] 24)) = v0 at HB0 HP0 ⊢
  refine (HA.out _ HB0.out).mono ?_
  rintro e w1 ⟨rfl, hb1⟩
  have HB1 := Lib.hid (below_then HB0.out hb1)
  have HP1 := Lib.hid (below_heap hb1 HP0.out)
  clear hb1 HP0 HA
  have d0 : w1.cell? ⟨w.heap.size, 0, none⟩ = some (.int .u64 (b0 : Nat)) := cell_of_heap HP1.out 0
  have d1 : w1.cell? ⟨w.heap.size, 1, none⟩ = some (.int .u64 (b1 : Nat)) := cell_of_heap HP1.out 1
  have d2 : w1.cell? ⟨w.heap.size, 2, none⟩ = some (.int .u64 (b2 : Nat)) := cell_of_heap HP1.out 2
  have d3 : w1.cell? ⟨w.heap.size, 3, none⟩ = some (.int .u64 (b3 : Nat)) := cell_of_heap HP1.out 3
  go_wp2_with fail
  refine (H1.out _ HB1.out).mono ?_
  intro e w2 hr
  have HR := Lib.hid hr
  have HB2 := Lib.hid (below_then HB1.out hr.1)
  have HP2 := Lib.hid (below_heap hr.1 HP1.out)
  obtain ⟨S, m, er, rfl⟩ := exIs_shape hr
  clear hr d0 d1 d2 d3 H1
  have d0 : w2.cell? ⟨w.heap.size, 0, none⟩ = some (.int .u64 (b0 : Nat)) := cell_of_heap HP2.out 0
  have d1 : w2.cell? ⟨w.heap.size, 1, none⟩ = some (.int .u64 (b1 : Nat)) := cell_of_heap HP2.out 1
  have d2 : w2.cell? ⟨w.heap.size, 2, none⟩ = some (.int .u64 (b2 : Nat)) := cell_of_heap HP2.out 2
  have d3 : w2.cell? ⟨w.heap.size, 3, none⟩ = some (.int .u64 (b3 : Nat)) := cell_of_heap HP2.out 3
  go_wp2_with fail
  refine (H2.out _).mono ?_
  intro e w3 hr
  have hs := exIs_same HR.out hr
  have HB3 := Lib.hid (below_then HB2.out hr.1)
  subst hs
  clear hr d0 d1 d2 d3 H2
  go_wp2
  go_ret
  exact ⟨by simp, HB3.out⟩
theorem fixedExact_row (n : Int) (v : Value) (w : World) (_ : (Lit.int .i64 n).wf = true) (h : ∃ b0 b1 b2 b3 : Nat, v = bitsV b0 b1 b2 b3 ∧ W64 [b0, b1, b2, b3]) (hT : Tab10 w) :
    Calls Tryz.prog 6 #[.int .i64 n, v] w fun e w' => e = .returned (.bool true) ∧ Below w.heap.size w w' := by
  obtain ⟨b0, b1, b2, b3, rfl, hb⟩ := h
  exact fixedExact_calls n b0 b1 b2 b3 hb w hT
end Go.Proofs.YtpodpdopgdkdkaaGreatDoor
