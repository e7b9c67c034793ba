/- The contract of nat.long. · A piece of nat.long: the guess of a digit, from the highest words. · The contract of nat.long: the walk. -/
import Derived.Test.YtpodpdopgdkdkaaGreatDoorMw16
import Derived.Deep.CutBlock
set_option linter.unusedVariables false
set_option linter.unusedSimpArgs false
namespace Go.Proofs.YtpodpdopgdkdkaaGreatDoor
open Go.RowKit
theorem valTo_app {xs ys : List Nat} {k : Nat} (hk : k ≤ xs.length) : valTo (xs ++ ys) k = valTo xs k :=
  valTo_congr k fun i hi => by unfold wd; rw [List.getD_eq_getElem?_getD, List.getD_eq_getElem?_getD, List.getElem?_append_left (by omega)]
/-- The divisor's two highest words, and what is below. -/
theorem top_two {ys : List Nat} {n : Nat} (hn : 2 ≤ n) (hl : ys.length = n) : val ys = valTo ys (n - 2) + B64 ^ (n - 2) * (wd ys (n - 2) + B64 * wd ys (n - 1)) := by
  obtain ⟨m, rfl⟩ : ∃ m, n = m + 2 := ⟨n - 2, by omega⟩
  rw [← valTo_all (m + 2) (by omega), valTo_wd, valTo_wd, show m + 2 - 2 = m by omega, show m + 2 - 1 = m + 1 by omega, Nat.pow_succ, Nat.mul_add, Nat.mul_assoc, Nat.add_assoc]
/-- The three highest words of the number that is divided. -/
theorem top_three {zs : List Nat} {j n : Nat} (hn : 2 ≤ n) : valTo (zs.drop j) (n + 1) = valTo (zs.drop j) (n - 2) + B64 ^ (n - 2) * (wd zs (j + n - 2) + B64 * (wd zs (j + n - 1) + B64 * wd zs (j + n))) := by
  obtain ⟨m, rfl⟩ : ∃ m, n = m + 2 := ⟨n - 2, by omega⟩
  rw [valTo_wd, valTo_wd, valTo_wd, wd_drop, wd_drop, wd_drop, show m + 2 - 2 = m by omega, show j + (m + 2) - 2 = j + m by omega, show j + (m + 2) - 1 = j + (m + 1) by omega]
  simp only [Nat.pow_succ, Nat.mul_add, Nat.mul_assoc, Nat.add_assoc]
theorem top_ge {ys : List Nat} {n : Nat} (hn : 1 ≤ n) (hl : ys.length = n) (ht : 0 < wd ys (n - 1)) : B64 ^ (n - 1) ≤ val ys := by
  obtain ⟨m, rfl⟩ : ∃ m, n = m + 1 := ⟨n - 1, by omega⟩
  rw [← valTo_all (m + 1) (by omega), valTo_wd, show m + 1 - 1 = m by omega]
  rw [show m + 1 - 1 = m by omega] at ht
  have := Nat.mul_le_mul_left (B64 ^ m) (show 1 ≤ wd ys m from ht)
  omega
/-- The number with a nought behind it: at the first round. -/
theorem long_start {xs ys : List Nat} {n M : Nat} (hx : W64 xs) (hn : 1 ≤ n) (hl : ys.length = n) (ht : 0 < wd ys (n - 1)) (hM : M + n = xs.length + 1) : val ((xs ++ [0]).drop M) < val ys := by
  refine Nat.lt_of_lt_of_le ?_ (top_ge hn hl ht)
  have h1 : (xs ++ [0]).drop M = xs.drop M ++ [0] := List.drop_append_of_le_length (by omega)
  rw [h1, val_snoc, Nat.mul_zero, Nat.add_zero]
  have h2 := val_lt (hx.drop M)
  rw [List.length_drop] at h2
  rw [show n - 1 = xs.length - M by omega]
  exact h2
theorem mul_hi_lt {g x c : Nat} (hg : g < B64) (hx : x < B64) (hc : c < B64) : mulHi g x + addHi (mulLo g x) c 0 < B64 ∧ addLo (mulLo g x) c 0 + B64 * (mulHi g x + addHi (mulLo g x) c 0) = g * x + c := by
  have h1 := mul_eq g x
  have h2 := add_eq (mulLo g x) c 0
  have e : addLo (mulLo g x) c 0 + B64 * (mulHi g x + addHi (mulLo g x) c 0) = g * x + c := by
    rw [Nat.mul_add]
    omega
  refine ⟨mac_hi e ?_, e⟩
  have := mac_le (P := B64) hg hx (z := 0) (by decide) hc
  omega
/-- Something is borrowed: the guess is too great. -/
theorem guess_over {D g V N Q : Nat} (h : D + g * V = N + Q) (hD : D < Q) (hV : 0 < V) : N / V ≤ g - 1 ∧ 0 < g := by
  have h1 : N < g * V := by omega
  have h2 : N / V < g := (Nat.div_lt_iff_lt_mul hV).2 h1
  exact ⟨Nat.le_sub_one_of_lt h2, Nat.lt_of_le_of_lt (Nat.zero_le _) h2⟩
/-- The divisor is added back. -/
theorem over_back {D D' g V N Q c : Nat} (h : D + g * V = N + Q) (h2 : D' + Q * c = D + V) (hg : 0 < g) (hc : c ≤ 1) : D' + (g - 1) * V = N + Q * (1 - c) := by
  obtain ⟨k, rfl⟩ : ∃ k, g = k + 1 := ⟨g - 1, by omega⟩
  rw [Nat.add_mul, Nat.one_mul] at h
  rw [Nat.add_sub_cancel]
  rcases (show c = 0 ∨ c = 1 by omega) with rfl | rfl
  · simp at h2 ⊢
    omega
  · simp at h2 ⊢
    omega
theorem sz_le_of {zs : List Nat} {n : Nat} (h : ∀ i, n ≤ i → wd zs i = 0) : sz zs ≤ n := by
  rcases Nat.lt_or_ge n (sz zs) with h1 | h1
  · exact absurd (h (sz zs - 1) (by omega)) (sz_get_last (by omega))
  · exact h1
theorem sz_take_le {zs : List Nat} {n : Nat} (h : sz zs ≤ n) : sz (zs.take n) = sz zs := by
  have hl := sz_le zs
  refine sz_unique (by simp; omega) (fun i h1 h2 => ?_) ?_
  · have := sz_get_beyond (xs := zs) i h1
    simp at h2
    rw [List.getD_eq_getElem?_getD, List.getElem?_take_of_lt (by omega), ← List.getD_eq_getElem?_getD]
    exact this
  · by_cases h0 : sz zs = 0
    · exact .inl h0
    · right
      have := sz_get_last (xs := zs) (by omega)
      rw [List.getD_eq_getElem?_getD, List.getElem?_take_of_lt (by omega), ← List.getD_eq_getElem?_getD]
      exact this
theorem natRes_mkC2 {w w' : World} {g c n bd : Nat} {zs : List Nat} (hg : WordsC w' g c zs) (hB : w.heap.size ≤ g) (hw : W64 zs) (hv : val zs = n) (hb : sz zs ≤ bd) (hk : Below w.heap.size w w') :
    NatRes w n bd (.returned (.slice (some ⟨g, 0, none⟩) (sz zs) c)) w' := by
  have hs := sz_le zs
  have e : (zs.take (sz zs)).length = sz zs := by simp; omega
  refine ⟨some ⟨g, 0, none⟩, c, zs.take (sz zs), ?_, ?_, ?_, ?_, ?_, hk⟩
  · rw [e]
  · rw [e]; exact hg.own hB hw hs
  · rw [val_take_sz, hv]
  · rw [sz_take_sz, e]
  · omega
theorem natPair_mk {w w' : World} {n m bd bd' : Nat} {s1 s2 : Value} (h1 : NatRes w n bd (.returned s1) w') (h2 : NatRes w m bd' (.returned s2) w') : NatPair w n m bd bd' (.returned (.tuple #[s1, s2])) w' := by
  obtain ⟨a, c, zs, he, r1, r2, r3, r4, r5⟩ := h1
  obtain ⟨a', c', ys, he', t1, t2, t3, t4, t5⟩ := h2
  cases he
  cases he'
  exact ⟨a, c, zs, a', c', ys, rfl, ⟨r1, r2, r3, r4⟩, ⟨t1, t2, t3, t4⟩, r5⟩
end Go.Proofs.YtpodpdopgdkdkaaGreatDoor
namespace Go.Proofs.YtpodpdopgdkdkaaGreatDoor
open Go.RowKit
def condAt (t : Tmp) : Code → Option Code
  | .cond c a b => match c with
    | .tmp k => if k = t then some (.cond c a b) else (match condAt t a with | some d => some d | none => condAt t b)
    | _ => none
  | .seq a b => match condAt t a with
    | some d => some d
    | none => condAt t b
  | .block _ a => condAt t a
  | .loop a => condAt t a
  | .scope a => condAt t a
  | _ => none
noncomputable def guessCode : Code := ((Tryz.f135.body.bind (condAt 55)).getD .skip)
set_option maxRecDepth 1000000 in
set_option maxHeartbeats 8000000 in
theorem guess_piece {p o n cb g L c' j k1 k2 i0 i1 i2 U0 U1 U2 v0 v1 lN lV P N V : Nat} {wv : World} {s0 s2 s3 s4 s5 s8 s10 s11 s12 s13 s14 s15 s16 s17 s18 s19 s20 s21 s22 s23 s24 s25 s26 s27 s28 s29 s30 s31 s32 s33 s34 s35 s36 s37 s38 s39 s40 s41 s42 s43 s44 s45 s46 s47 s48 s49 s50 s51 s52 s53 s54 s56 s57 s58 s59 s60 s61 s62 s63 s64 s65 s66 s67 s68 s69 s70 s71 s72 s73 s74 s75 s76 s77 s78 s79 s80 s81 s82 s83 s84 s85 s86 s87 s88 s89 s90 s91 s92 s93 s94 s95 s96 s97 s98 s99 s100 s101 s102 s103 s104 s105 s106 s107 s108 s109 s110 s111 s112 s113 s114 s115 s116 s117 s118 s119 s120 s121 s122 s123 s124 s125 s126 s127 s128 s129 s130 s131 s132 s133 s134 s135 s136 s137 s138 s139 s140 s141 s142 s143 s144 s145 s146 s147 s148 s149 s150 s151 s152 s153 s154 s155 s156 s157 s158 s159 s160 s161 s162 s163 s164 s165 s166 s167 s168 s169 s170 s171 s172 s173 s174 s175 s176 s177 s178 s179 s180 s181 s182 s183 s184 s185 s186 s187 s188 s189 s190 s191 s192 s193 s194 s195 s196 s197 s198 s199 s200 s201 s202 s203 s204 s205 s206 s207 s208 s209 s210 s211 s212 s213 s214 s215 s216 s217 s218 s219 s220 s221 s222 s223 s224 s225 s226 s227 s228 s229 s230 s231 s232 s233 s234 s235 s236 s237 s238 s239 s240 s241 s242 : Value} {K' : Act → World → Prop} {X : Exit → Act → World → Prop}
    (hL : L ≤ 100001) (_ : n ≤ L) (_ : j ≤ L) (hcb1 : n ≤ cb) (hcb2 : cb ≤ 9223372036854775807) (_ : L ≤ c') (_ : c' ≤ 9223372036854775807)
    (hk1i : (n : Int) - 1 = (k1 : Nat)) (hk2i : (n : Int) - 2 = (k2 : Nat)) (hi2i : (j : Int) + (n : Int) = (i2 : Nat)) (hi1i : (i2 : Int) - 1 = (i1 : Nat)) (hi0i : (i2 : Int) - 2 = (i0 : Nat))
    (hib : i2 < L) (_ : i1 < i2) (_ : i0 < i2) (hk1n : k1 < n) (hk2n : k2 < n)
    (d2 : wv.cell? ⟨g, i2, none⟩ = some (.int .u64 (U2 : Nat))) (d1 : wv.cell? ⟨g, i1, none⟩ = some (.int .u64 (U1 : Nat))) (d0 : wv.cell? ⟨g, i0, none⟩ = some (.int .u64 (U0 : Nat)))
    (dy1 : wv.cell? ⟨p, o + k1, none⟩ = some (.int .u64 (v1 : Nat))) (dy2 : wv.cell? ⟨p, o + k2, none⟩ = some (.int .u64 (v0 : Nat)))
    (bu1 : U1 < B64) (bu0 : U0 < B64) (hv1 : 0 < v1) (bv1 : v1 < B64) (bv0 : v0 < B64) (hc : U2 < v1)
    (hN : N = lN + P * (U0 + B64 * (U1 + B64 * U2))) (hlN : lN < P) (hV : V = lV + P * (v0 + B64 * v1))
    (hK : ∀ (G nr : Nat) (e11 e12 e13 e14 e56 e57 e58 e59 e60 e61 e62 e63 e64 e65 e66 e67 e68 e69 e70 e71 e72 e73 e74 e75 e76 e77 e78 e79 e80 e81 e82 e83 e84 e85 e86 e87 e88 e89 e90 e91 e92 e93 e94 e95 e96 e97 e98 e99 e100 e101 e102 e103 e104 e105 e106 e107 e108 e109 e110 e111 e112 e113 e114 e115 e116 e117 e118 e119 e120 : Value), G < B64 → N / V ≤ G → K' ⟨#[s0, .slice (some ⟨p, o, none⟩) n cb, s2, s3, s4, s5, .int .i64 (n : Nat), .slice (some ⟨g, 0, none⟩) L c', s8, .int .i64 (j : Nat), .int .u64 (G : Nat), e11, e12, e13, e14, s15, s16, s17, s18, s19, s20, s21, s22, s23, s24, s25, s26, s27, s28, s29, s30, s31, s32, s33, s34, s35, s36, s37, s38, s39, s40, s41, s42, s43, s44, s45, s46, s47, s48, s49, s50, s51, s52, s53, s54, .bool true, e56, e57, e58, e59, e60, e61, e62, e63, e64, e65, e66, e67, e68, e69, e70, e71, e72, e73, e74, e75, e76, e77, e78, e79, e80, e81, e82, e83, e84, e85, e86, e87, e88, e89, e90, e91, e92, e93, e94, e95, e96, e97, e98, e99, e100, e101, e102, e103, e104, e105, e106, e107, e108, e109, e110, e111, e112, e113, e114, e115, e116, e117, e118, e119, e120, s121, s122, s123, s124, s125, s126, s127, s128, s129, s130, s131, s132, s133, s134, s135, s136, s137, s138, s139, s140, s141, s142, s143, s144, s145, s146, s147, s148, s149, s150, s151, s152, s153, s154, s155, s156, s157, s158, s159, s160, s161, s162, s163, s164, s165, s166, s167, s168, s169, s170, s171, s172, s173, s174, s175, s176, s177, s178, s179, s180, s181, s182, s183, s184, s185, s186, s187, s188, s189, s190, s191, s192, s193, s194, s195, s196, s197, s198, s199, s200, s201, s202, s203, s204, s205, s206, s207, s208, s209, s210, s211, s212, s213, s214, s215, s216, s217, s218, s219, s220, s221, s222, s223, s224, s225, s226, s227, s228, s229, s230, s231, s232, s233, s234, s235, s236, s237, s238, s239, s240, s241, s242], []⟩ (wv.drewN nr)) :
    Code.wp Tryz.prog guessCode (Exit.then K' X) ⟨#[s0, .slice (some ⟨p, o, none⟩) n cb, s2, s3, s4, s5, .int .i64 (n : Nat), .slice (some ⟨g, 0, none⟩) L c', s8, .int .i64 (j : Nat), s10, s11, s12, s13, s14, s15, s16, s17, s18, s19, s20, s21, s22, s23, s24, s25, s26, s27, s28, s29, s30, s31, s32, s33, s34, s35, s36, s37, s38, s39, s40, s41, s42, s43, s44, s45, s46, s47, s48, s49, s50, s51, s52, s53, s54, .bool true, s56, s57, s58, s59, s60, s61, s62, s63, s64, s65, s66, s67, s68, s69, s70, s71, s72, s73, s74, s75, s76, s77, s78, s79, s80, s81, s82, s83, s84, s85, s86, s87, s88, s89, s90, s91, s92, s93, s94, s95, s96, s97, s98, s99, s100, s101, s102, s103, s104, s105, s106, s107, s108, s109, s110, s111, s112, s113, s114, s115, s116, s117, s118, s119, s120, s121, s122, s123, s124, s125, s126, s127, s128, s129, s130, s131, s132, s133, s134, s135, s136, s137, s138, s139, s140, s141, s142, s143, s144, s145, s146, s147, s148, s149, s150, s151, s152, s153, s154, s155, s156, s157, s158, s159, s160, s161, s162, s163, s164, s165, s166, s167, s168, s169, s170, s171, s172, s173, s174, s175, s176, s177, s178, s179, s180, s181, s182, s183, s184, s185, s186, s187, s188, s189, s190, s191, s192, s193, s194, s195, s196, s197, s198, s199, s200, s201, s202, s203, s204, s205, s206, s207, s208, s209, s210, s211, s212, s213, s214, s215, s216, s217, s218, s219, s220, s221, s222, s223, s224, s225, s226, s227, s228, s229, s230, s231, s232, s233, s234, s235, s236, s237, s238, s239, s240, s241, s242], []⟩ wv := by
  conv => arg 2; whnf
  have HTN2 := Lib.hid hN
  have HTT := Lib.hid hV
  have HLN := Lib.hid hlN
  have hdm := Nat.div_add_mod (U2 * B64 + U1) v1
  have hg0 := guess_top hN hlN hV bu0 hv1 (Nat.div_mul_le_self N V)
  have hglt := word_lt hc bu1
  have hrlt := Nat.mod_lt (U2 * B64 + U1) hv1
  have HDV := Lib.hid (fun w => div64_calls w U2 U1 v1 hc bu1 bv1)
  obtain ⟨G0, hG0⟩ : ∃ G, (U2 * B64 + U1) / v1 = G := ⟨_, rfl⟩
  obtain ⟨R0, hR0⟩ : ∃ R, (U2 * B64 + U1) % v1 = R := ⟨_, rfl⟩
  rw [hG0, hR0] at hdm HDV
  rw [hG0] at hg0 hglt
  rw [hR0] at hrlt
  have HDM := Lib.hid (show G0 * v1 + R0 = U2 * B64 + U1 by rw [Nat.mul_comm]; exact hdm)
  have HG0 := Lib.hid hg0
  clear hG0 hR0 hdm hg0 hc hN hV hlN
  have HK := Lib.hid hK
  clear hK
  go_wp2_with fail
  go_quiet ((go_at_call 117; exact Calls.quiet_of (HDV.out _)))
  go_wp2_with fail
  go_loop [10, 11] (fun gs rs => ∃ G R : Nat, gs = .int .u64 (G : Nat) ∧ rs = .int .u64 (R : Nat) ∧ G < B64 ∧ R < B64 ∧ G * v1 + R = U2 * B64 + U1 ∧ N / V ≤ G) (fun gs _ => (intOf gs).toNat)
  case atStart => exact ⟨G0, R0, rfl, rfl, hglt, by omega, HDM.out, HG0.out⟩
  case round =>
    obtain ⟨G, R, rfl, rfl, hG, hR, hGR, hQG⟩ := hrel
    have HGR := Lib.hid hGR
    have HQG := Lib.hid hQG
    have HM := Lib.hid (fun w => mul64_calls G v0 hG bv0 w)
    have HTE := Lib.hid (guess_test (g := G) (v0 := v0) (r := R) bu0)
    have HDN := Lib.hid (fun hno => guess_down (g := G) (r := R) HTN2.out HLN.out HTT.out (Nat.div_mul_le_self N V) HGR.out HQG.out hno)
    clear hGR hQG
    by_cases hle : G * v0 ≤ R * B64 + U0
    · rcases HTE.out.2 hle with hh | ⟨hh, hl⟩
      · have hhi : ((mulHi G v0 : Nat) : Int) < (R : Nat) := by omega
        clear hle hh
        go_wp2_with (go_at_call 45; refine (HM.out _).mono ?_; rintro e w' ⟨rfl, rfl⟩)
        have hK := HK.out
        exact hK G _ _ _ _ _ _ _ _ _ _ _ _ _ _ _ _ _ _ _ _ _ _ _ _ _ _ _ _ _ _ _ _ _ _ _ _ _ _ _ _ _ _ _ _ _ _ _ _ _ _ _ _ _ _ _ _ _ _ _ _ _ _ _ _ _ _ _ _ _ _ hG HQG.out
      · have hhi : (((mulHi G v0 : Nat) : Int) == (R : Nat)) = true := by simp [hh]
        have hhn : ¬ ((mulHi G v0 : Nat) : Int) < (R : Nat) := by omega
        have hli : ((mulLo G v0 : Nat) : Int) ≤ (U0 : Nat) := by omega
        clear hle hh hl
        go_wp2_with (go_at_call 45; refine (HM.out _).mono ?_; rintro e w' ⟨rfl, rfl⟩)
        have hK := HK.out
        exact hK G _ _ _ _ _ _ _ _ _ _ _ _ _ _ _ _ _ _ _ _ _ _ _ _ _ _ _ _ _ _ _ _ _ _ _ _ _ _ _ _ _ _ _ _ _ _ _ _ _ _ _ _ _ _ _ _ _ _ _ _ _ _ _ _ _ _ _ _ _ _ hG HQG.out
    · have hno : R * B64 + U0 < G * v0 := by omega
      have hdn := HDN.out hno
      have hnt : ¬ (mulHi G v0 < R ∨ mulHi G v0 = R ∧ mulLo G v0 ≤ U0) := fun h => hle (HTE.out.1 h)
      have hG0 : 0 < G := Nat.lt_of_lt_of_le (Nat.succ_pos _) hdn
      obtain ⟨G', hG'⟩ : ∃ k, G - 1 = k := ⟨_, rfl⟩
      have hGi : (G : Int) - 1 = (G' : Nat) := by omega
      have hG1 : G' < B64 := by omega
      have hwr : IntKind.u64.wrap (G' : Int) = (G' : Nat) := wrapS hG1
      have HG1 := Lib.hid hG1
      have HQ1' : Hid (N / V ≤ G') := Lib.hid (by rw [← hG']; exact Nat.le_sub_one_of_lt hdn)
      have hGG : G' < G := by omega
      have hGe : G = G' + 1 := by omega
      have a1 := run_add64_c0 R v1
      have hA := add_eq R v1 0
      have hAl := addHi_le (x := R) (y := v1) (c := 0) hR bv1 (by omega)
      have hhn : ¬ ((mulHi G v0 : Nat) : Int) < (R : Nat) := fun h => hnt (.inl (by omega))
      have HGR0 := Lib.hid (show G' * v1 + (R + v1) = U2 * B64 + U1 by have := HGR.out; rw [hGe, Nat.add_mul] at this; omega)
      clear hdn hG' hno hle hGe hG1
      by_cases hcar : addHi R v1 0 = 0
      · rw [hcar] at hA
        have HGR1 := Lib.hid (show G' * v1 + addLo R v1 0 = U2 * B64 + U1 by rw [show addLo R v1 0 = R + v1 by omega]; exact HGR0.out)
        clear hA hAl
        by_cases hmr : mulHi G v0 = R
        · have hq1 : (((mulHi G v0 : Nat) : Int) == (R : Nat)) = true := by simp [hmr]
          have hq2 : ¬ ((mulLo G v0 : Nat) : Int) ≤ (U0 : Nat) := fun h => hnt (.inr ⟨hmr, by omega⟩)
          clear hnt hmr
          go_wp2_with (go_at_call 45; refine (HM.out _).mono ?_; rintro e w' ⟨rfl, rfl⟩)
          go_round
          case rel => exact ⟨G', addLo R v1 0, rfl, rfl, HG1.out, addLo_lt R v1 0, HGR1.out, HQ1'.out⟩
          case measure => simp [intOf]; omega
        · have hq1 : (((mulHi G v0 : Nat) : Int) == (R : Nat)) = false := by simp; omega
          clear hnt hmr
          go_wp2_with (go_at_call 45; refine (HM.out _).mono ?_; rintro e w' ⟨rfl, rfl⟩)
          go_round
          case rel => exact ⟨G', addLo R v1 0, rfl, rfl, HG1.out, addLo_lt R v1 0, HGR1.out, HQ1'.out⟩
          case measure => simp [intOf]; omega
      · have hcar1 : addHi R v1 0 = 1 := by omega
        clear hA hAl hcar
        by_cases hmr : mulHi G v0 = R
        · have hq1 : (((mulHi G v0 : Nat) : Int) == (R : Nat)) = true := by simp [hmr]
          have hq2 : ¬ ((mulLo G v0 : Nat) : Int) ≤ (U0 : Nat) := fun h => hnt (.inr ⟨hmr, by omega⟩)
          clear hnt hmr
          go_wp2_with (go_at_call 45; refine (HM.out _).mono ?_; rintro e w' ⟨rfl, rfl⟩)
          have hK := HK.out
          exact hK G' _ _ _ _ _ _ _ _ _ _ _ _ _ _ _ _ _ _ _ _ _ _ _ _ _ _ _ _ _ _ _ _ _ _ _ _ _ _ _ _ _ _ _ _ _ _ _ _ _ _ _ _ _ _ _ _ _ _ _ _ _ _ _ _ _ _ _ _ _ _ HG1.out HQ1'.out
        · have hq1 : (((mulHi G v0 : Nat) : Int) == (R : Nat)) = false := by simp; omega
          clear hnt hmr
          go_wp2_with (go_at_call 45; refine (HM.out _).mono ?_; rintro e w' ⟨rfl, rfl⟩)
          have hK := HK.out
          exact hK G' _ _ _ _ _ _ _ _ _ _ _ _ _ _ _ _ _ _ _ _ _ _ _ _ _ _ _ _ _ _ _ _ _ _ _ _ _ _ _ _ _ _ _ _ _ _ _ _ _ _ _ _ _ _ _ _ _ _ _ _ _ _ _ _ _ _ _ _ _ _ HG1.out HQ1'.out
end Go.Proofs.YtpodpdopgdkdkaaGreatDoor
namespace Go.Proofs.YtpodpdopgdkdkaaGreatDoor
open Go.RowKit
theorem mod1 {A B : Nat} (h : A + B < B64) : (A + B) % (2 ^ IntKind.u64.bits : Int).natAbs = A + B := by
  have e : (2 ^ IntKind.u64.bits : Int).natAbs = B64 := rfl
  rw [e, Nat.mod_eq_of_lt h]
set_option maxRecDepth 100000 in
set_option maxHeartbeats 8000000 in
theorem long_calls (w : World) (a b : Option Addr) (la ca n cb : Nat) (xs ys : List Nat) (ha : SlW w a la ca xs) (hb : SlW w b n cb ys) (pa : Plain a) (sa : la ≤ 100000) (hn : 2 ≤ n) (hnl : n ≤ la) (ht : 0 < wd ys (n - 1)) :
    Calls Tryz.prog 135 #[.slice a la ca, .slice b n cb] w (NatPair w (val xs / val ys) (val xs % val ys) (la + 1) n) := by
  have m1 := ha.hle
  have m2 := ha.hmax
  have m3 := hb.hle
  have m4 := hb.hmax
  obtain ⟨p, o, rfl, _⟩ := hb.wcell 0 (by omega)
  have HA := Lib.hid ha
  have HB := Lib.hid hb
  have HX := Lib.hid ha.hw
  have HY := Lib.hid hb.hw
  have HYL := Lib.hid hb.hlen
  have HXL := Lib.hid ha.hlen
  have HT := Lib.hid ht
  obtain ⟨M, hM⟩ : ∃ M, la + 1 - n = M := ⟨_, rfl⟩
  have HMM := Lib.hid (show M + n = la + 1 by omega)
  have hMi : (la : Int) + 1 - (n : Int) = (M : Nat) := by omega
  have hM1 : M ≤ 100001 := by omega
  have HV0 := Lib.hid (show 0 < val ys by have := top_ge (by omega) hb.hlen ht; have : 0 < B64 ^ (n - 1) := Nat.pow_pos (by decide); omega)
  have HVB := Lib.hid (show val ys ≤ B64 ^ n by have := val_lt hb.hw; rw [hb.hlen] at this; omega)
  have HST := Lib.hid (long_start (M := M) ha.hw (by omega) hb.hlen ht (by rw [ha.hlen]; omega))
  have HCL := Lib.hid (clone_calls w a la ca xs ha pa (by omega))
  clear ha hb hM
  go_enter Tryz.func135, Tryz.ntmps135
  go_wp2_with fail
  refine HCL.out.mono ?_
  rintro e w1 ⟨a1, k1, rfl, t1, t2⟩
  have HT1 := Lib.hid t1
  have HT2 := Lib.hid t2
  clear t1 t2
  go_wp2_with (first | ((with_reducible refine gate_append 36 ?_); go_must (refine app_words (w0 := w) (HT2.out.alloc HT2.out.size _) (HT1.out.keep ((Below.refl _ _).alloc (Nat.le_refl _) _)) ((one_word w1 0).slAll (N := 1) (w64_one (by decide)) rfl (by omega)) (.inr ⟨_, _, rfl⟩) (by omega) (fun W a' c' hbW hoW => ?_)); have HBW := Lib.hid hbW; have HOW := Lib.hid hoW; clear hbW hoW) | ((with_reducible refine gate_make 36 ?_); go_must (refine mk_words HBW.out M (by omega) (fun W2 h hhB hhe hBW2 hBk hhw => ?_)); have HHB := Lib.hid hhB; have HHE := Lib.hid hhe; have HB2 := Lib.hid hBW2; have HBK := Lib.hid hBk; have HHW := Lib.hid hhw; clear hhB hhe hBW2 hBk hhw))
  rcases HOW.out.words with ⟨-, h9, -⟩ | ⟨g, rfl, hg1, hg2⟩
  · exfalso
    omega
  have hgl := hg2.lt
  have HGB := Lib.hid hg1
  have HG := Lib.hid (hg2.keep HBK.out)
  have HNE := Lib.hid (show g ≠ h by have := HHE.out; omega)
  have mc := hg2.hle
  have md := hg2.hmax
  rw [List.length_append, HXL.out] at mc
  unfold maxLen at md
  have HWX : Hid (W64 (xs ++ [0])) := Lib.hid HOW.out.hw
  have HLX : Hid ((xs ++ [0]).length = la + 1) := Lib.hid (by rw [List.length_append, HXL.out]; rfl)
  have HVX : Hid (val (xs ++ [0]) = val xs) := Lib.hid (by rw [val_snoc, Nat.mul_zero, Nat.add_zero])
  clear hg1 hg2 hgl HOW HHE HBK HT1 HCL
  obtain ⟨V, hV⟩ : ∃ V, val ys = V := ⟨_, rfl⟩
  have HVV := Lib.hid hV
  rw [hV] at HV0 HVB HST ⊢
  clear hV
  obtain ⟨k1, hk1⟩ : ∃ k, n - 1 = k := ⟨_, rfl⟩
  obtain ⟨k2, hk2⟩ : ∃ k, n - 2 = k := ⟨_, rfl⟩
  have hk1i : (n : Int) - 1 = (k1 : Nat) := by omega
  have hk2i : (n : Int) - 2 = (k2 : Nat) := by omega
  have HTT := Lib.hid (top_two hn HYL.out)
  rw [hk1, hk2, HVV.out] at HTT
  have HT3 := Lib.hid (fun (zs : List Nat) (j : Nat) => top_three (zs := zs) (j := j) hn)
  have hv1 := HT.out
  rw [hk1] at hv1
  have bv1 := wd_lt HY.out k1
  have bv0 := wd_lt HY.out k2
  obtain ⟨_, _, e1, hy1⟩ := HB.out.wcell k1 (by omega)
  cases e1
  obtain ⟨_, _, e2, hy2⟩ := HB.out.wcell k2 (by omega)
  cases e2
  have HY1 := Lib.hid hy1
  have HY2 := Lib.hid hy2
  have HK := Lib.hid (And.intro hk1 hk2)
  obtain ⟨v1, hv1e⟩ : ∃ v, wd ys k1 = v := ⟨_, rfl⟩
  obtain ⟨v0, hv0e⟩ : ∃ v, wd ys k2 = v := ⟨_, rfl⟩
  rw [hv1e] at hv1 bv1 HY1 HTT
  rw [hv0e] at bv0 HY2 HTT
  rw [hk2] at HT3
  have hk1n : k1 < n := by omega
  have hk2n : k2 < n := by omega
  clear hk1 hk2 hy1 hy2 hv1e hv0e ht
  go_wp2_with fail
  go_loopw [9] (fun i wr => ∃ (t : Nat) (zs qs : List Nat), t ≤ M ∧ i = .int .i64 ((t : Int) - 1) ∧ WordsC wr g c' zs ∧ zs.length = la + 1 ∧ W64 zs ∧ WordsAt wr h qs ∧ qs.length = M ∧ W64 qs ∧ val zs + B64 ^ t * (val (qs.drop t) * V) = val xs ∧ val (zs.drop t) < V ∧ Below w.heap.size w wr) (fun i _ => (intOf i + 1).toNat)
  case atStart =>
    exact ⟨M, xs ++ [0], List.replicate M 0, Nat.le_refl _, rfl, HG.out, HLX.out, HWX.out, HHW.out, by simp, W64.zeros _, by rw [List.drop_of_length_le (by simp), HVX.out]; simp [val], HST.out, HB2.out⟩
  case round =>
    obtain ⟨t, zs, qs, ht, rfl, hz, hzl, hzw, hq, hql, hqw, hv, hlt, hbw⟩ := hrel
    have HZ := Lib.hid hz
    have HZL := Lib.hid hzl
    have HZW := Lib.hid hzw
    have HQ := Lib.hid hq
    have HQL := Lib.hid hql
    have HQW := Lib.hid hqw
    have HVZ := Lib.hid hv
    have HLT := Lib.hid hlt
    have HBR := Lib.hid hbw
    clear hz hzl hzw hq hql hqw hv hlt hbw HG HHW HB2
    by_cases h0 : 0 < t
    · obtain ⟨j, rfl⟩ : ∃ j, t = j + 1 := ⟨t - 1, by omega⟩
      have e0 : (((j + 1 : Nat) : Int) - 1) = (j : Nat) := by omega
      rw [e0]
      have HR1 := Lib.hid (round_num HLT.out HVB.out)
      have HR2 := Lib.hid (round_lt HZW.out HLT.out)
      rw [HR1.out] at HR2
      obtain ⟨N, hN⟩ : ∃ N, valTo (zs.drop j) (n + 1) = N := ⟨_, rfl⟩
      have HN := Lib.hid hN
      rw [hN] at HR1 HR2
      have HTN := HT3.out zs j
      rw [hN] at HTN
      clear hN e0 h0
      obtain ⟨i2, hi2⟩ : ∃ k, j + n = k := ⟨_, rfl⟩
      obtain ⟨i1, hi1⟩ : ∃ k, i2 - 1 = k := ⟨_, rfl⟩
      obtain ⟨i0, hi0⟩ : ∃ k, i2 - 2 = k := ⟨_, rfl⟩
      rw [hi2, hi1, hi0] at HTN
      have hi2i : (j : Int) + (n : Int) = (i2 : Nat) := by omega
      have hi1i : (i2 : Int) - 1 = (i1 : Nat) := by omega
      have hi0i : (i2 : Int) - 2 = (i0 : Nat) := by omega
      have hib : i2 < la + 1 := by have := HMM.out; omega
      have hi1b : i1 < i2 := by omega
      have hi0b : i0 < i2 := by omega
      have HI := Lib.hid hi2
      have c2 := HZ.out.cell i2 (by rw [HZL.out]; omega)
      have c1 := HZ.out.cell i1 (by rw [HZL.out]; omega)
      have c0 := HZ.out.cell i0 (by rw [HZL.out]; omega)
      have bu2 := wd_lt HZW.out i2
      have bu1 := wd_lt HZW.out i1
      have bu0 := wd_lt HZW.out i0
      obtain ⟨U2, hU2⟩ : ∃ v, wd zs i2 = v := ⟨_, rfl⟩
      obtain ⟨U1, hU1⟩ : ∃ v, wd zs i1 = v := ⟨_, rfl⟩
      obtain ⟨U0, hU0⟩ : ∃ v, wd zs i0 = v := ⟨_, rfl⟩
      rw [hU2] at c2 bu2 HTN
      rw [hU1] at c1 bu1 HTN
      rw [hU0] at c0 bu0 HTN
      have HTN2 := Lib.hid HTN
      have HQN : Hid (N / V < B64) := Lib.hid ((Nat.div_lt_iff_lt_mul HV0.out).2 HR2.out)
      have cy1 : wr.cell? ⟨p, o + k1, none⟩ = some (.int .u64 (v1 : Nat)) := by rw [HBR.out.cell (World.block_lt_of_cell? w _ HY1.out)]; exact HY1.out
      have cy2 : wr.cell? ⟨p, o + k2, none⟩ = some (.int .u64 (v0 : Nat)) := by rw [HBR.out.cell (World.block_lt_of_cell? w _ HY2.out)]; exact HY2.out
      clear hi2 hi1 hi0 hU2 hU1 hU0 HTN
      obtain ⟨tb, htb⟩ : ∃ b, decide (U2 < v1) = b := ⟨_, rfl⟩
      go_wp2_with fail
      go_upto_region 8 with fail
      go_quiet (fail)
      go_upto_if 55 with fail
      have HTB := Lib.hid htb
      clear htb
      have HZ1 := Lib.hid (HZ.out.drewN nq)
      have HQ1 := Lib.hid (HQ.out.drewN nq)
      have HBR1 := Lib.hid (below_drewN' HBR.out nq)
      have d2 : (wr.drewN nq).cell? ⟨g, i2, none⟩ = some (.int .u64 (U2 : Nat)) := c2
      have d1 : (wr.drewN nq).cell? ⟨g, i1, none⟩ = some (.int .u64 (U1 : Nat)) := c1
      have d0 : (wr.drewN nq).cell? ⟨g, i0, none⟩ = some (.int .u64 (U0 : Nat)) := c0
      have dy1 : (wr.drewN nq).cell? ⟨p, o + k1, none⟩ = some (.int .u64 (v1 : Nat)) := cy1
      have dy2 : (wr.drewN nq).cell? ⟨p, o + k2, none⟩ = some (.int .u64 (v0 : Nat)) := cy2
      clear c2 c1 c0 cy1 cy2 HZ HQ HBR
      generalize wr.drewN nq = wv at HZ1 HQ1 HBR1 d2 d1 d0 dy1 dy2 ⊢
      go_cut [10] (fun s10 wx => ∃ G : Nat, s10 = .int .u64 (G : Nat) ∧ G < B64 ∧ N / V ≤ G ∧ ∃ nr, wx = wv.drewN nr)
      case first =>
        cases tb with
        | true =>
          have hc : U2 < v1 := of_decide_eq_true HTB.out
          refine guess_piece (N := N) (V := V) (by omega) (by omega) (by omega) m3 m4 mc md hk1i hk2i hi2i hi1i hi0i hib hi1b hi0b hk1n hk2n d2 d1 d0 dy1 dy2 bu1 bu0 hv1 bv1 bv0 hc HTN2.out (valTo_lt (HZW.out.drop j) k2) HTT.out ?_
          intro G nr e11 e12 e13 e14 e56 e57 e58 e59 e60 e61 e62 e63 e64 e65 e66 e67 e68 e69 e70 e71 e72 e73 e74 e75 e76 e77 e78 e79 e80 e81 e82 e83 e84 e85 e86 e87 e88 e89 e90 e91 e92 e93 e94 e95 e96 e97 e98 e99 e100 e101 e102 e103 e104 e105 e106 e107 e108 e109 e110 e111 e112 e113 e114 e115 e116 e117 e118 e119 e120 hG hQ
          clear d2 d1 d0 dy1 dy2
          go_wp2
          go_meet
          exact ⟨G, rfl, hG, hQ, nr, rfl⟩
        | false =>
          have hc : ¬ U2 < v1 := of_decide_eq_false HTB.out
          clear hc
          go_wp2
          go_meet
          exact ⟨B64 - 1, rfl, by decide, Nat.le_sub_one_of_lt HQN.out, 0, by simp [World.drewN]⟩
      case rest =>
        obtain ⟨G, rfl, hG, hQG, nr, rfl⟩ := hcut
        have HQG := Lib.hid hQG
        have HZ2 := Lib.hid (HZ1.out.drewN nr)
        have HQ2 := Lib.hid (HQ1.out.drewN nr)
        have HBR2 := Lib.hid (below_drewN' HBR1.out nr)
        clear d2 d1 d0 dy1 dy2 HZ1 HQ1 HBR1 hQG
        generalize wv.drewN nr = wx at HZ2 HQ2 HBR2 ⊢
        go_wp2_with fail
        go_loopw [123, 15, 16] (fun i cr br wr => ∃ (k c b : Nat) (us : List Nat), k ≤ n ∧ i = .int .i64 k ∧ cr = .int .u64 (c : Nat) ∧ br = .int .u64 (b : Nat) ∧ c < B64 ∧ b ≤ 1 ∧ WordsC wr g c' us ∧ us.length = la + 1 ∧ W64 us ∧ valTo (us.drop j) k + G * valTo ys k = valTo (zs.drop j) k + B64 ^ k * (c + b) ∧ (∀ i, i < j → wd us i = wd zs i) ∧ (∀ i, j + k ≤ i → wd us i = wd zs i) ∧ WordsAt wr h qs ∧ Below w.heap.size w wr) (fun i _ _ _ => n - (intOf i).toNat)
        case atStart => exact ⟨0, 0, 0, zs, by omega, rfl, rfl, rfl, by decide, by omega, HZ2.out, HZL.out, HZW.out, by simp [valTo], fun _ _ => rfl, fun _ _ => rfl, HQ2.out, HBR2.out⟩
        case round =>
          obtain ⟨k, c, b, us, hk, rfl, rfl, rfl, hc, hb, hz, hzl, hzw, hv, hlo, hhi, hq, hbw⟩ := hrel
          have HZ := Lib.hid hz
          have HUL := Lib.hid hzl
          have HUW := Lib.hid hzw
          have HV := Lib.hid hv
          have HLO := Lib.hid hlo
          have HHI := Lib.hid hhi
          have HQ := Lib.hid hq
          have HBR := Lib.hid hbw
          clear hz hzl hzw hv hlo hhi hq hbw
          by_cases hlk : k < n
          · obtain ⟨u, hu⟩ : ∃ u, j + k = u := ⟨_, rfl⟩
            have hui : (j : Int) + (k : Int) = (u : Nat) := by omega
            have hub : u < la + 1 := by have := HI.out; omega
            obtain ⟨_, _, e3, hy⟩ := HB.out.wcell k hlk
            cases e3
            have hyr : wr.cell? ⟨p, o + k, none⟩ = some (.int .u64 ((wd ys k : Nat) : Int)) := by rw [HBR.out.cell (World.block_lt_of_cell? w _ hy)]; exact hy
            have hzr := HZ.out.cell u (by rw [HUL.out]; exact hub)
            have hzu : wd us u = wd zs u := HHI.out u (by omega)
            have bY := wd_lt HY.out k
            have bz := wd_lt HUW.out u
            have hmh := mul_hi_lt hG bY hc
            have bl := addLo_lt (mulLo G (wd ys k)) c 0
            have HS := Lib.hid (mulsub_step (x := wd ys k) (z := wd us u) HV.out (sub_eq bz bl hb) hmh.2 rfl (by rw [hu]; exact hzu.symm) (by rw [HUL.out]; omega))
            rw [hu] at HS
            have HHB2 := Lib.hid hmh.1
            have HW := Lib.hid (HUW.out.set u _ (subLo_lt (wd us u) (addLo (mulLo G (wd ys k)) c 0) b))
            have HLO2 : Hid (∀ X, ∀ i, i < j → wd (us.set u X) i = wd zs i) := Lib.hid fun X i hi => by rw [wd_set_ne _ (by omega)]; exact HLO.out i hi
            have HHI2 : Hid (∀ X, ∀ i, j + (k + 1) ≤ i → wd (us.set u X) i = wd zs i) := Lib.hid fun X i hi => by rw [wd_set_ne _ (by omega)]; exact HHI.out i (by omega)
            have HBB := Lib.hid (subHi_le (wd us u) (addLo (mulLo G (wd ys k)) c 0) b)
            have HM := Lib.hid (fun w => mul64_calls G (wd ys k) hG bY w)
            have a1 := run_add64_c0 (mulLo G (wd ys k)) c
            have a2 := run_sub64 (wd us u) (addLo (mulLo G (wd ys k)) c 0) b hb
            clear hmh hu hy hzu
            go_wp2_with (first | (go_at_call 45; refine (HM.out _).mono ?_; rintro e w' ⟨rfl, rfl⟩) | ((with_reducible refine gate_store 22 ?_); go_must (refine st_wordC HBR.out HZ.out HGB.out u (subLo (wd us u) (addLo (mulLo G (wd ys k)) c 0) b) (by rw [HUL.out]; exact hub) (fun W3 hB3 hk3 _ hz3 => ?_)); have HB3 := Lib.hid hB3; have HZ3 := Lib.hid hz3; have HQ3 := Lib.hid (HQ.out.other hk3 (Ne.symm HNE.out)); clear hB3 hz3 hk3))
            go_roundw
            case rel => exact ⟨k + 1, mulHi G (wd ys k) + addHi (mulLo G (wd ys k)) c 0, subHi (wd us u) (addLo (mulLo G (wd ys k)) c 0) b, us.set u (subLo (wd us u) (addLo (mulLo G (wd ys k)) c 0) b), by omega, by go_num, congrArg (fun n : Nat => Value.int .u64 (n : Int)) (mod1 HHB2.out), rfl, HHB2.out, HBB.out, HZ3.out, by rw [List.length_set]; exact HUL.out, HW.out, HS.out, HLO2.out _, HHI2.out _, HQ3.out, HB3.out⟩
            case measure => simp [intOf]; omega
          · have hlk' : n = k := by omega
            subst hlk'
            have hzr := HZ.out.cell i2 (by rw [HUL.out]; exact hib)
            have hzu : wd us i2 = wd zs i2 := HHI.out i2 (by have := HI.out; omega)
            have bz := wd_lt HUW.out i2
            have hyv : valTo ys n = V := by rw [valTo_all n (by rw [HYL.out]; exact Nat.le_refl _)]; exact HVV.out
            have hse := mulsub_end (z := wd us i2) HV.out (sub_eq bz hc hb) (by rw [HI.out]; exact hzu.symm) (by rw [HI.out, HUL.out]; exact hib)
            rw [HI.out, hyv, HN.out] at hse
            have HD0 := Lib.hid hse
            have HYV := Lib.hid hyv
            have HW := Lib.hid (HUW.out.set i2 _ (subLo_lt (wd us i2) c b))
            have HLO2 := Lib.hid (show ∀ i, i < j → wd (us.set i2 (subLo (wd us i2) c b)) i = wd zs i from fun i hi => by rw [wd_set_ne _ (by have := HI.out; omega)]; exact HLO.out i hi)
            have HHI2 := Lib.hid (show ∀ i, i2 < i → wd (us.set i2 (subLo (wd us i2) c b)) i = wd zs i from fun i hi => by rw [wd_set_ne _ (by omega)]; exact HHI.out i (by have := HI.out; omega))
            have HBB := Lib.hid (subHi_le (wd us i2) c b)
            have a2 := run_sub64 (wd us i2) c b hb
            clear hse hyv hzu
            go_wp2_with ((with_reducible refine gate_store 22 ?_); go_must (refine st_wordC HBR.out HZ.out HGB.out i2 (subLo (wd us i2) c b) (by rw [HUL.out]; exact hib) (fun W3 hB3 hk3 _ hz3 => ?_)); have HB3 := Lib.hid hB3; have HZ3 := Lib.hid hz3; have HQ3 := Lib.hid (HQ.out.other hk3 (Ne.symm HNE.out)); clear hB3 hz3 hk3)
            go_loopw [16, 10] (fun br gr wr => ∃ (b G : Nat) (us : List Nat), br = .int .u64 (b : Nat) ∧ gr = .int .u64 (G : Nat) ∧ b ≤ 1 ∧ G < B64 ∧ N / V ≤ G ∧ WordsC wr g c' us ∧ us.length = la + 1 ∧ W64 us ∧ valTo (us.drop j) (n + 1) + G * V = N + B64 ^ (n + 1) * b ∧ (∀ i, i < j → wd us i = wd zs i) ∧ (∀ i, i2 < i → wd us i = wd zs i) ∧ WordsAt wr h qs ∧ Below w.heap.size w wr) (fun _ gr _ => (intOf gr).toNat)
            case atStart => exact ⟨_, G, us.set i2 (subLo (wd us i2) c b), rfl, rfl, HBB.out, hG, HQG.out, HZ3.out, by rw [List.length_set]; exact HUL.out, HW.out, HD0.out, HLO2.out, HHI2.out, HQ3.out, HB3.out⟩
            case round =>
              clear HZ HUL HUW HV HLO HHI HQ HBR HW HLO2 HHI2 HBB HD0 HB3 HZ3 HQ3 HQG hG hb hc a2 hzr bz hk
              obtain ⟨b, G, us, rfl, rfl, hb, hG, hQG, hz, hzl, hzw, hv, hlo, hhi, hq, hbw⟩ := hrel
              have HZ := Lib.hid hz
              have HUL := Lib.hid hzl
              have HUW := Lib.hid hzw
              have HV := Lib.hid hv
              have HLO := Lib.hid hlo
              have HHI := Lib.hid hhi
              have HQ := Lib.hid hq
              have HBR := Lib.hid hbw
              have HQG := Lib.hid hQG
              clear hz hzl hzw hv hlo hhi hq hbw hQG
              by_cases hb0 : b = 0
              · subst hb0
                have hjm : j < M := by omega
                have hre := round_end (zs' := us) (g := G) HVZ.out HLT.out HVB.out HV0.out HLO.out (fun i hi => HHI.out i (by have := HI.out; omega)) (by rw [HN.out]; have := HV.out; rw [Nat.mul_zero, Nat.add_zero] at this; exact this) (by rw [HN.out]; exact HQG.out) (by rw [HQL.out]; exact hjm)
                have HRE := Lib.hid hre
                have HQW2 := Lib.hid (HQW.out.set j _ hG)
                clear hre
                go_wp2_with ((with_reducible refine gate_store 22 ?_); go_must (refine st_word HBR.out HQ.out HHB.out j G (by rw [HQL.out]; exact hjm) (fun W3 hB3 hk3 _ hz3 => ?_)); have HB3 := Lib.hid hB3; have HQ3 := Lib.hid hz3; have HZ3 := Lib.hid (HZ.out.other hk3 HNE.out); clear hB3 hz3 hk3)
                go_roundw
                case rel => exact ⟨j, us, qs.set j G, by omega, by first | rfl | go_num, HZ3.out, HUL.out, HUW.out, HQ3.out, by rw [List.length_set]; exact HQL.out, HQW2.out, HRE.out.1, HRE.out.2, HB3.out⟩
                case measure => simp [intOf]
              · obtain rfl : b = 1 := by omega
                rw [show ((1 : Nat) : Int) = 1 from rfl]
                have hv1' := HV.out
                rw [Nat.mul_one] at hv1'
                have hgo := guess_over hv1' (valTo_lt (HUW.out.drop j) (n + 1)) HV0.out
                have HV1 := Lib.hid hv1'
                have hG0 := hgo.2
                obtain ⟨G', hG'⟩ : ∃ k, G - 1 = k := ⟨_, rfl⟩
                have hGi : (G : Int) - 1 = (G' : Nat) := by omega
                have hG1 : G' < B64 := by omega
                have hwr : IntKind.u64.wrap (G' : Int) = (G' : Nat) := wrapS hG1
                have HG1 := Lib.hid hG1
                have HQ1' : Hid (N / V ≤ G') := Lib.hid (by rw [← hG']; exact hgo.1)
                have HGE := Lib.hid hG'
                have hGG : G' < G := by omega
                clear hv1' hgo hG' hG1 hb0 hlk
                go_wp2_with fail
                go_loopw [184, 22] (fun i cr wr => ∃ (k c : Nat) (vs : List Nat), k ≤ n ∧ i = .int .i64 k ∧ cr = .int .u64 (c : Nat) ∧ c ≤ 1 ∧ WordsC wr g c' vs ∧ vs.length = la + 1 ∧ W64 vs ∧ valTo (vs.drop j) k + B64 ^ k * c = valTo (us.drop j) k + valTo ys k ∧ (∀ i, i < j → wd vs i = wd zs i) ∧ (∀ i, j + k ≤ i → wd vs i = wd us i) ∧ WordsAt wr h qs ∧ Below w.heap.size w wr) (fun i _ _ => n - (intOf i).toNat)
                case atStart => exact ⟨0, 0, us, by omega, rfl, rfl, by omega, HZ.out, HUL.out, HUW.out, by simp [valTo], HLO.out, fun _ _ => rfl, HQ.out, HBR.out⟩
                case round =>
                  clear HZ HQ HBR
                  obtain ⟨k, c, vs, hk, rfl, rfl, hc, hz, hzl, hzw, hv, hlo, hhi2, hq, hbw⟩ := hrel
                  have HZ := Lib.hid hz
                  have HSL := Lib.hid hzl
                  have HSW := Lib.hid hzw
                  have HVV2 := Lib.hid hv
                  have HLO3 := Lib.hid hlo
                  have HHI3 := Lib.hid hhi2
                  have HQ := Lib.hid hq
                  have HBR := Lib.hid hbw
                  clear hz hzl hzw hv hlo hhi2 hq hbw
                  by_cases hlk : k < n
                  · obtain ⟨u, hu⟩ : ∃ u, j + k = u := ⟨_, rfl⟩
                    have hui : (j : Int) + (k : Int) = (u : Nat) := by omega
                    have hub : u < la + 1 := by have := HI.out; omega
                    obtain ⟨_, _, e3, hy⟩ := HB.out.wcell k hlk
                    cases e3
                    have hyr : wr.cell? ⟨p, o + k, none⟩ = some (.int .u64 ((wd ys k : Nat) : Int)) := by rw [HBR.out.cell (World.block_lt_of_cell? w _ hy)]; exact hy
                    have hzr := HZ.out.cell u (by rw [HSL.out]; exact hub)
                    have hzu : wd vs u = wd us u := HHI3.out u (by omega)
                    have hAc := addHi_le (wd_lt HSW.out u) (wd_lt HY.out k) hc
                    have HS := Lib.hid (addback_step (x := wd ys k) (z := wd vs u) HVV2.out (add_eq (wd vs u) (wd ys k) c) rfl (by rw [hu]; exact hzu.symm) (by rw [HSL.out]; omega))
                    rw [hu] at HS
                    have HW := Lib.hid (HSW.out.set u _ (addLo_lt (wd vs u) (wd ys k) c))
                    have HLO2 : Hid (∀ X, ∀ i, i < j → wd (vs.set u X) i = wd zs i) := Lib.hid fun X i hi => by rw [wd_set_ne _ (by omega)]; exact HLO3.out i hi
                    have HHI2 : Hid (∀ X, ∀ i, j + (k + 1) ≤ i → wd (vs.set u X) i = wd us i) := Lib.hid fun X i hi => by rw [wd_set_ne _ (by omega)]; exact HHI3.out i (by omega)
                    have HAC := Lib.hid hAc
                    have a2 := run_add64 (wd vs u) (wd ys k) c hc
                    clear hAc hu hy hzu
                    go_wp2_with ((with_reducible refine gate_store 22 ?_); go_must (refine st_wordC HBR.out HZ.out HGB.out u (addLo (wd vs u) (wd ys k) c) (by rw [HSL.out]; exact hub) (fun W3 hB3 hk3 _ hz3 => ?_)); have HB3 := Lib.hid hB3; have HZ3 := Lib.hid hz3; have HQ3 := Lib.hid (HQ.out.other hk3 (Ne.symm HNE.out)); clear hB3 hz3 hk3)
                    go_roundw
                    case rel => exact ⟨k + 1, addHi (wd vs u) (wd ys k) c, vs.set u (addLo (wd vs u) (wd ys k) c), by omega, by go_num, rfl, HAC.out, HZ3.out, by rw [List.length_set]; exact HSL.out, HW.out, HS.out, HLO2.out _, HHI2.out _, HQ3.out, HB3.out⟩
                    case measure => simp [intOf]; omega
                  · have hlk' : n = k := by omega
                    subst hlk'
                    have hzr := HZ.out.cell i2 (by rw [HSL.out]; exact hib)
                    have hzu : wd vs i2 = wd us i2 := HHI3.out i2 (by have := HI.out; omega)
                    have hse := addback_end (z := wd vs i2) (n := addLo (wd vs i2) 0 c) (c' := addHi (wd vs i2) 0 c) HVV2.out (by have := add_eq (wd vs i2) 0 c; rw [Nat.add_zero] at this; exact this) (by rw [HI.out]; exact hzu.symm) (by rw [HI.out, HSL.out]; exact hib)
                    rw [HI.out, HYV.out] at hse
                    have hAc := addHi_le (y := 0) (wd_lt HSW.out i2) (by decide) hc
                    have a2 := run_add64_0 (wd vs i2) c hc
                    obtain ⟨c2, hc2⟩ : ∃ c2, addHi (wd vs i2) 0 c = c2 := ⟨_, rfl⟩
                    rw [hc2] at hse hAc a2
                    have hob := over_back HV1.out hse hG0 hAc
                    rw [HGE.out] at hob
                    obtain ⟨b2, hb2⟩ : ∃ b2, 1 - c2 = b2 := ⟨_, rfl⟩
                    rw [hb2] at hob
                    have HD0 := Lib.hid hob
                    have hbi : (1 : Int) - (c2 : Int) = (b2 : Nat) := by omega
                    have hb21 : b2 ≤ 1 := by omega
                    have hwb : IntKind.u64.wrap (b2 : Int) = (b2 : Nat) := wrapS (by unfold B64; omega)
                    have HW := Lib.hid (HSW.out.set i2 _ (addLo_lt (wd vs i2) 0 c))
                    have HLO2 := Lib.hid (show ∀ i, i < j → wd (vs.set i2 (addLo (wd vs i2) 0 c)) i = wd zs i from fun i hi => by rw [wd_set_ne _ (by have := HI.out; omega)]; exact HLO3.out i hi)
                    have HHI2 := Lib.hid (show ∀ i, i2 < i → wd (vs.set i2 (addLo (wd vs i2) 0 c)) i = wd zs i from fun i hi => by rw [wd_set_ne _ (by omega), HHI3.out i (by have := HI.out; omega)]; exact HHI.out i hi)
                    clear hse hob hc2 hb2 hzu
                    go_wp2_with ((with_reducible refine gate_store 22 ?_); go_must (refine st_wordC HBR.out HZ.out HGB.out i2 (addLo (wd vs i2) 0 c) (by rw [HSL.out]; exact hib) (fun W3 hB3 hk3 _ hz3 => ?_)); have HB3 := Lib.hid hB3; have HZ3 := Lib.hid hz3; have HQ3 := Lib.hid (HQ.out.other hk3 (Ne.symm HNE.out)); clear hB3 hz3 hk3)
                    go_roundw
                    case rel => exact ⟨b2, G', vs.set i2 (addLo (wd vs i2) 0 c), rfl, rfl, hb21, HG1.out, HQ1'.out, HZ3.out, by rw [List.length_set]; exact HSL.out, HW.out, HD0.out, HLO2.out, HHI2.out, HQ3.out, HB3.out⟩
                    case measure => simp [intOf]; omega
    · have ht0 : t = 0 := by omega
      subst ht0
      have HLE := Lib.hid (long_end HVZ.out HLT.out)
      have hb0 : ∀ i, n ≤ i → wd zs i = 0 := fun i hi => beyond_zero (Nat.lt_of_lt_of_le (by have := HLT.out; rw [List.drop_zero] at this; exact this) HVB.out) hi
      have hzn := sz_le_of hb0
      have hzt := sz_take_le hzn
      have HSQ : SzOf wr (some ⟨h, 0, none⟩) M M (sz qs) := ⟨qs, HQ.out.slAll HQW.out HQL.out (by omega), rfl⟩
      have HSU : SzOf wr (some ⟨g, 0, none⟩) n c' (sz zs) := ⟨zs.take n, (HZ.out.slAll HZW.out HZL.out).take (by omega), hzt⟩
      have hqs : sz qs ≤ M := by have := sz_le qs; rw [HQL.out] at this; exact this
      have hmin : min (n : Int) ((la : Int) + 1) = n := by omega
      have HZN := Lib.hid hzn
      clear hb0 hzt
      go_wp2_with fail
      go_quiet ((go_at_call 96; exact Calls.quiet_of_same (size_of (by assumption) _)))
      go_wp2
      go_ret2
      rw [HVV.out]
      exact natPair_mk (natRes_mk (HQ.out.drewN nq) HHB.out HQW.out HQL.out (by omega) HLE.out.1 (by omega) (below_drewN' HBR.out nq)) (natRes_mkC2 (HZ.out.drewN nq) HGB.out HZW.out HLE.out.2 HZN.out (below_drewN' HBR.out nq))
end Go.Proofs.YtpodpdopgdkdkaaGreatDoor
