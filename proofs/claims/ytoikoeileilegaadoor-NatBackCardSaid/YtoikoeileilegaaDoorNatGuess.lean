/- A piece of nat.long: the guess of a digit, from the highest words. -/
import Derived.Test.YtoikoeileilegaaDoorNatLong
namespace Go.Proofs.YtoikoeileilegaaDoor
open Go.RowKit
def condAt (t : Tmp) : Code → Option Code
  | .cond c a b => match c with
    | .tmp k => if k = t then some (.cond c a b) else (match condAt t a with | some d => some d | none => condAt t b)
    | _ => none
  | .seq a b => match condAt t a with
    | some d => some d
    | none => condAt t b
  | .block _ a => condAt t a
  | .loop a => condAt t a
  | .scope a => condAt t a
  | _ => none
noncomputable def guessCode : Code := ((Tryd.f70.body.bind (condAt 55)).getD .skip)
set_option maxRecDepth 1000000 in
set_option maxHeartbeats 8000000 in
theorem guess_piece {p o n cb g L c' j k1 k2 i0 i1 i2 U0 U1 U2 v0 v1 lN lV P N V : Nat} {wv : World} {s0 s2 s3 s4 s5 s8 s10 s11 s12 s13 s14 s15 s16 s17 s18 s19 s20 s21 s22 s23 s24 s25 s26 s27 s28 s29 s30 s31 s32 s33 s34 s35 s36 s37 s38 s39 s40 s41 s42 s43 s44 s45 s46 s47 s48 s49 s50 s51 s52 s53 s54 s56 s57 s58 s59 s60 s61 s62 s63 s64 s65 s66 s67 s68 s69 s70 s71 s72 s73 s74 s75 s76 s77 s78 s79 s80 s81 s82 s83 s84 s85 s86 s87 s88 s89 s90 s91 s92 s93 s94 s95 s96 s97 s98 s99 s100 s101 s102 s103 s104 s105 s106 s107 s108 s109 s110 s111 s112 s113 s114 s115 s116 s117 s118 s119 s120 s121 s122 s123 s124 s125 s126 s127 s128 s129 s130 s131 s132 s133 s134 s135 s136 s137 s138 s139 s140 s141 s142 s143 s144 s145 s146 s147 s148 s149 s150 s151 s152 s153 s154 s155 s156 s157 s158 s159 s160 s161 s162 s163 s164 s165 s166 s167 s168 s169 s170 s171 s172 s173 s174 s175 s176 s177 s178 s179 s180 s181 s182 s183 s184 s185 s186 s187 s188 s189 s190 s191 s192 s193 s194 s195 s196 s197 s198 s199 s200 s201 s202 s203 s204 s205 s206 s207 s208 s209 s210 s211 s212 s213 s214 s215 s216 s217 s218 s219 s220 s221 s222 s223 s224 s225 s226 s227 s228 s229 s230 s231 s232 s233 s234 s235 s236 s237 s238 s239 s240 s241 s242 : Value} {K' : Act → World → Prop} {X : Exit → Act → World → Prop}
    (hL : L ≤ 100001) (_ : n ≤ L) (_ : j ≤ L) (hcb1 : n ≤ cb) (hcb2 : cb ≤ 9223372036854775807) (_ : L ≤ c') (_ : c' ≤ 9223372036854775807)
    (hk1i : (n : Int) - 1 = (k1 : Nat)) (hk2i : (n : Int) - 2 = (k2 : Nat)) (hi2i : (j : Int) + (n : Int) = (i2 : Nat)) (hi1i : (i2 : Int) - 1 = (i1 : Nat)) (hi0i : (i2 : Int) - 2 = (i0 : Nat))
    (hib : i2 < L) (_ : i1 < i2) (_ : i0 < i2) (hk1n : k1 < n) (hk2n : k2 < n)
    (d2 : wv.cell? ⟨g, i2, none⟩ = some (.int .u64 (U2 : Nat))) (d1 : wv.cell? ⟨g, i1, none⟩ = some (.int .u64 (U1 : Nat))) (d0 : wv.cell? ⟨g, i0, none⟩ = some (.int .u64 (U0 : Nat)))
    (dy1 : wv.cell? ⟨p, o + k1, none⟩ = some (.int .u64 (v1 : Nat))) (dy2 : wv.cell? ⟨p, o + k2, none⟩ = some (.int .u64 (v0 : Nat)))
    (bu1 : U1 < B64) (bu0 : U0 < B64) (hv1 : 0 < v1) (bv1 : v1 < B64) (bv0 : v0 < B64) (hc : U2 < v1)
    (hN : N = lN + P * (U0 + B64 * (U1 + B64 * U2))) (hlN : lN < P) (hV : V = lV + P * (v0 + B64 * v1))
    (hK : ∀ (G nr : Nat) (e11 e12 e13 e14 e56 e57 e58 e59 e60 e61 e62 e63 e64 e65 e66 e67 e68 e69 e70 e71 e72 e73 e74 e75 e76 e77 e78 e79 e80 e81 e82 e83 e84 e85 e86 e87 e88 e89 e90 e91 e92 e93 e94 e95 e96 e97 e98 e99 e100 e101 e102 e103 e104 e105 e106 e107 e108 e109 e110 e111 e112 e113 e114 e115 e116 e117 e118 e119 e120 : Value), G < B64 → N / V ≤ G → K' ⟨#[s0, .slice (some ⟨p, o, none⟩) n cb, s2, s3, s4, s5, .int .i64 (n : Nat), .slice (some ⟨g, 0, none⟩) L c', s8, .int .i64 (j : Nat), .int .u64 (G : Nat), e11, e12, e13, e14, s15, s16, s17, s18, s19, s20, s21, s22, s23, s24, s25, s26, s27, s28, s29, s30, s31, s32, s33, s34, s35, s36, s37, s38, s39, s40, s41, s42, s43, s44, s45, s46, s47, s48, s49, s50, s51, s52, s53, s54, .bool true, e56, e57, e58, e59, e60, e61, e62, e63, e64, e65, e66, e67, e68, e69, e70, e71, e72, e73, e74, e75, e76, e77, e78, e79, e80, e81, e82, e83, e84, e85, e86, e87, e88, e89, e90, e91, e92, e93, e94, e95, e96, e97, e98, e99, e100, e101, e102, e103, e104, e105, e106, e107, e108, e109, e110, e111, e112, e113, e114, e115, e116, e117, e118, e119, e120, s121, s122, s123, s124, s125, s126, s127, s128, s129, s130, s131, s132, s133, s134, s135, s136, s137, s138, s139, s140, s141, s142, s143, s144, s145, s146, s147, s148, s149, s150, s151, s152, s153, s154, s155, s156, s157, s158, s159, s160, s161, s162, s163, s164, s165, s166, s167, s168, s169, s170, s171, s172, s173, s174, s175, s176, s177, s178, s179, s180, s181, s182, s183, s184, s185, s186, s187, s188, s189, s190, s191, s192, s193, s194, s195, s196, s197, s198, s199, s200, s201, s202, s203, s204, s205, s206, s207, s208, s209, s210, s211, s212, s213, s214, s215, s216, s217, s218, s219, s220, s221, s222, s223, s224, s225, s226, s227, s228, s229, s230, s231, s232, s233, s234, s235, s236, s237, s238, s239, s240, s241, s242], []⟩ (wv.drewN nr)) :
    Code.wp Tryd.prog guessCode (Exit.then K' X) ⟨#[s0, .slice (some ⟨p, o, none⟩) n cb, s2, s3, s4, s5, .int .i64 (n : Nat), .slice (some ⟨g, 0, none⟩) L c', s8, .int .i64 (j : Nat), s10, s11, s12, s13, s14, s15, s16, s17, s18, s19, s20, s21, s22, s23, s24, s25, s26, s27, s28, s29, s30, s31, s32, s33, s34, s35, s36, s37, s38, s39, s40, s41, s42, s43, s44, s45, s46, s47, s48, s49, s50, s51, s52, s53, s54, .bool true, s56, s57, s58, s59, s60, s61, s62, s63, s64, s65, s66, s67, s68, s69, s70, s71, s72, s73, s74, s75, s76, s77, s78, s79, s80, s81, s82, s83, s84, s85, s86, s87, s88, s89, s90, s91, s92, s93, s94, s95, s96, s97, s98, s99, s100, s101, s102, s103, s104, s105, s106, s107, s108, s109, s110, s111, s112, s113, s114, s115, s116, s117, s118, s119, s120, s121, s122, s123, s124, s125, s126, s127, s128, s129, s130, s131, s132, s133, s134, s135, s136, s137, s138, s139, s140, s141, s142, s143, s144, s145, s146, s147, s148, s149, s150, s151, s152, s153, s154, s155, s156, s157, s158, s159, s160, s161, s162, s163, s164, s165, s166, s167, s168, s169, s170, s171, s172, s173, s174, s175, s176, s177, s178, s179, s180, s181, s182, s183, s184, s185, s186, s187, s188, s189, s190, s191, s192, s193, s194, s195, s196, s197, s198, s199, s200, s201, s202, s203, s204, s205, s206, s207, s208, s209, s210, s211, s212, s213, s214, s215, s216, s217, s218, s219, s220, s221, s222, s223, s224, s225, s226, s227, s228, s229, s230, s231, s232, s233, s234, s235, s236, s237, s238, s239, s240, s241, s242], []⟩ wv := by
  conv => arg 2; whnf
  have HTN2 := Lib.hid hN
  have HTT := Lib.hid hV
  have HLN := Lib.hid hlN
  have hdm := Nat.div_add_mod (U2 * B64 + U1) v1
  have hg0 := guess_top hN hlN hV bu0 hv1 (Nat.div_mul_le_self N V)
  have hglt := word_lt hc bu1
  have hrlt := Nat.mod_lt (U2 * B64 + U1) hv1
  have HDV := Lib.hid (fun w => div64_calls w U2 U1 v1 hc bu1 bv1)
  obtain ⟨G0, hG0⟩ : ∃ G, (U2 * B64 + U1) / v1 = G := ⟨_, rfl⟩
  obtain ⟨R0, hR0⟩ : ∃ R, (U2 * B64 + U1) % v1 = R := ⟨_, rfl⟩
  rw [hG0, hR0] at hdm HDV
  rw [hG0] at hg0 hglt
  rw [hR0] at hrlt
  have HDM := Lib.hid (show G0 * v1 + R0 = U2 * B64 + U1 by rw [Nat.mul_comm]; exact hdm)
  have HG0 := Lib.hid hg0
  clear hG0 hR0 hdm hg0 hc hN hV hlN
  have HK := Lib.hid hK
  clear hK
  go_wp2_with fail
  go_quiet ((go_at_call 72; exact Calls.quiet_of (HDV.out _)))
  go_wp2_with fail
  go_loop [10, 11] (fun gs rs => ∃ G R : Nat, gs = .int .u64 (G : Nat) ∧ rs = .int .u64 (R : Nat) ∧ G < B64 ∧ R < B64 ∧ G * v1 + R = U2 * B64 + U1 ∧ N / V ≤ G) (fun gs _ => (intOf gs).toNat)
  case atStart => exact ⟨G0, R0, rfl, rfl, hglt, by omega, HDM.out, HG0.out⟩
  case round =>
    obtain ⟨G, R, rfl, rfl, hG, hR, hGR, hQG⟩ := hrel
    have HGR := Lib.hid hGR
    have HQG := Lib.hid hQG
    have HM := Lib.hid (fun w => mul64_calls G v0 hG bv0 w)
    have HTE := Lib.hid (guess_test (g := G) (v0 := v0) (r := R) bu0)
    have HDN := Lib.hid (fun hno => guess_down (g := G) (r := R) HTN2.out HLN.out HTT.out (Nat.div_mul_le_self N V) HGR.out HQG.out hno)
    clear hGR hQG
    by_cases hle : G * v0 ≤ R * B64 + U0
    · rcases HTE.out.2 hle with hh | ⟨hh, hl⟩
      · have hhi : ((mulHi G v0 : Nat) : Int) < (R : Nat) := by omega
        clear hle hh
        go_wp2_with (go_at_call 57; refine (HM.out _).mono ?_; rintro e w' ⟨rfl, rfl⟩)
        have hK := HK.out
        exact hK G _ _ _ _ _ _ _ _ _ _ _ _ _ _ _ _ _ _ _ _ _ _ _ _ _ _ _ _ _ _ _ _ _ _ _ _ _ _ _ _ _ _ _ _ _ _ _ _ _ _ _ _ _ _ _ _ _ _ _ _ _ _ _ _ _ _ _ _ _ _ hG HQG.out
      · have hhi : (((mulHi G v0 : Nat) : Int) == (R : Nat)) = true := by simp [hh]
        have hhn : ¬ ((mulHi G v0 : Nat) : Int) < (R : Nat) := by omega
        have hli : ((mulLo G v0 : Nat) : Int) ≤ (U0 : Nat) := by omega
        clear hle hh hl
        go_wp2_with (go_at_call 57; refine (HM.out _).mono ?_; rintro e w' ⟨rfl, rfl⟩)
        have hK := HK.out
        exact hK G _ _ _ _ _ _ _ _ _ _ _ _ _ _ _ _ _ _ _ _ _ _ _ _ _ _ _ _ _ _ _ _ _ _ _ _ _ _ _ _ _ _ _ _ _ _ _ _ _ _ _ _ _ _ _ _ _ _ _ _ _ _ _ _ _ _ _ _ _ _ hG HQG.out
    · have hno : R * B64 + U0 < G * v0 := by omega
      have hdn := HDN.out hno
      have hnt : ¬ (mulHi G v0 < R ∨ mulHi G v0 = R ∧ mulLo G v0 ≤ U0) := fun h => hle (HTE.out.1 h)
      have hG0 : 0 < G := Nat.lt_of_lt_of_le (Nat.succ_pos _) hdn
      obtain ⟨G', hG'⟩ : ∃ k, G - 1 = k := ⟨_, rfl⟩
      have hGi : (G : Int) - 1 = (G' : Nat) := by omega
      have hG1 : G' < B64 := by omega
      have hwr : IntKind.u64.wrap (G' : Int) = (G' : Nat) := wrapS hG1
      have HG1 := Lib.hid hG1
      have HQ1' : Hid (N / V ≤ G') := Lib.hid (by rw [← hG']; exact Nat.le_sub_one_of_lt hdn)
      have hGG : G' < G := by omega
      have hGe : G = G' + 1 := by omega
      have a1 := run_add64_c0 R v1
      have hA := add_eq R v1 0
      have hAl := addHi_le (x := R) (y := v1) (c := 0) hR bv1 (by omega)
      have hhn : ¬ ((mulHi G v0 : Nat) : Int) < (R : Nat) := fun h => hnt (.inl (by omega))
      have HGR0 := Lib.hid (show G' * v1 + (R + v1) = U2 * B64 + U1 by have := HGR.out; rw [hGe, Nat.add_mul] at this; omega)
      clear hdn hG' hno hle hGe hG1
      by_cases hcar : addHi R v1 0 = 0
      · rw [hcar] at hA
        have HGR1 := Lib.hid (show G' * v1 + addLo R v1 0 = U2 * B64 + U1 by rw [show addLo R v1 0 = R + v1 by omega]; exact HGR0.out)
        clear hA hAl
        by_cases hmr : mulHi G v0 = R
        · have hq1 : (((mulHi G v0 : Nat) : Int) == (R : Nat)) = true := by simp [hmr]
          have hq2 : ¬ ((mulLo G v0 : Nat) : Int) ≤ (U0 : Nat) := fun h => hnt (.inr ⟨hmr, by omega⟩)
          clear hnt hmr
          go_wp2_with (go_at_call 57; refine (HM.out _).mono ?_; rintro e w' ⟨rfl, rfl⟩)
          go_round
          case rel => exact ⟨G', addLo R v1 0, rfl, rfl, HG1.out, addLo_lt R v1 0, HGR1.out, HQ1'.out⟩
          case measure => simp [intOf]; omega
        · have hq1 : (((mulHi G v0 : Nat) : Int) == (R : Nat)) = false := by simp; omega
          clear hnt hmr
          go_wp2_with (go_at_call 57; refine (HM.out _).mono ?_; rintro e w' ⟨rfl, rfl⟩)
          go_round
          case rel => exact ⟨G', addLo R v1 0, rfl, rfl, HG1.out, addLo_lt R v1 0, HGR1.out, HQ1'.out⟩
          case measure => simp [intOf]; omega
      · have hcar1 : addHi R v1 0 = 1 := by omega
        clear hA hAl hcar
        by_cases hmr : mulHi G v0 = R
        · have hq1 : (((mulHi G v0 : Nat) : Int) == (R : Nat)) = true := by simp [hmr]
          have hq2 : ¬ ((mulLo G v0 : Nat) : Int) ≤ (U0 : Nat) := fun h => hnt (.inr ⟨hmr, by omega⟩)
          clear hnt hmr
          go_wp2_with (go_at_call 57; refine (HM.out _).mono ?_; rintro e w' ⟨rfl, rfl⟩)
          have hK := HK.out
          exact hK G' _ _ _ _ _ _ _ _ _ _ _ _ _ _ _ _ _ _ _ _ _ _ _ _ _ _ _ _ _ _ _ _ _ _ _ _ _ _ _ _ _ _ _ _ _ _ _ _ _ _ _ _ _ _ _ _ _ _ _ _ _ _ _ _ _ _ _ _ _ _ HG1.out HQ1'.out
        · have hq1 : (((mulHi G v0 : Nat) : Int) == (R : Nat)) = false := by simp; omega
          clear hnt hmr
          go_wp2_with (go_at_call 57; refine (HM.out _).mono ?_; rintro e w' ⟨rfl, rfl⟩)
          have hK := HK.out
          exact hK G' _ _ _ _ _ _ _ _ _ _ _ _ _ _ _ _ _ _ _ _ _ _ _ _ _ _ _ _ _ _ _ _ _ _ _ _ _ _ _ _ _ _ _ _ _ _ _ _ _ _ _ _ _ _ _ _ _ _ _ _ _ _ _ _ _ _ _ _ _ _ HG1.out HQ1'.out
end Go.Proofs.YtoikoeileilegaaDoor
