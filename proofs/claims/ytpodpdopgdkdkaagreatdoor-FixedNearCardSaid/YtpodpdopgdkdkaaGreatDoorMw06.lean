/- The contracts of nat.Mul and the reference's Mul and Sub. · The contract of nat.Sub. · Plain laws: a digit's estimate (Knuth D, two digits), and shifts of words. · The contract of math/bits.Div64. -/
import Derived.Test.YtpodpdopgdkdkaaGreatDoorMw05
import Derived.Laws.Bits64b
import Derived.Laws.MathBits
import Derived.Test.YtpodpdopgdkdkaaGreatDoorMw02
set_option linter.unusedVariables false
set_option linter.unusedSimpArgs false
namespace Go.Proofs.YtpodpdopgdkdkaaGreatDoor
open Go.RowKit
/-- A product's error. -/
def mulErr (k l : Nat) : Int := if 2000 < k + l then 4 else 0
/-- A product, or nothing. -/
def mulVal (xs ys : List Nat) : Nat := if 2000 < sz xs + sz ys then 0 else val xs * val ys
set_option maxRecDepth 10000 in
set_option maxHeartbeats 1000000 in
theorem mul_calls (w : World) (a b : Option Addr) (la ca lb cb : Nat) (xs ys : List Nat) (ha : SlW w a la ca xs) (hb : SlW w b lb cb ys) (sa : la ≤ 4398046511104) (sb : lb ≤ 4398046511104) :
    Calls Tryz.prog 54 #[.slice a la ca, .slice b lb cb] w (NatRes2 w (mulVal xs ys) 2000 (.int .i64 (mulErr (sz xs) (sz ys)))) := by
  have s1 : SzOf w a la ca (sz xs) := ⟨xs, ha, rfl⟩
  have s2 : SzOf w b lb cb (sz ys) := ⟨ys, hb, rfl⟩
  have z1 := ha.sz_le
  have z2 := hb.sz_le
  have m1 := ha.hle
  have m2 := ha.hmax
  have m3 := hb.hle
  have m4 := hb.hmax
  have hxw := ha.hw
  have hyw := hb.hw
  have HA := Lib.hid ha
  have HB := Lib.hid hb
  unfold mulVal
  have HVX : Hid (val (xs.take (sz xs)) = val xs) := val_take_sz xs
  have HVY : Hid (val (ys.take (sz ys)) = val ys) := val_take_sz ys
  generalize sz xs = k at s1 z1 HVX ⊢
  generalize sz ys = l at s2 z2 HVY ⊢
  clear ha hb hxw hyw
  obtain ⟨K, hK⟩ : ∃ K, k + l = K := ⟨_, rfl⟩
  unfold mulErr
  rw [hK]
  have HK := Lib.hid hK
  have hK1 : (k : Int) + (l : Int) = (K : Int) := by omega
  have hKm : K ≤ 8796093022208 := by omega
  by_cases hlt : 2000 < K
  · rw [if_pos hlt, if_pos hlt]
    go_enter Tryz.func54, Tryz.ntmps54
    go_wp2_with fail
    go_quiet ((go_at_call 96; exact Calls.quiet_of_same (size_of (by assumption) _)))
    have HB0 : Hid (Below w.heap.size w (w.drewN nq)) := below_drewN' (Below.refl _ _) nq
    go_wp2
    go_ret2
    exact (natRes_nil 2000 HB0.out).two
  · rw [if_neg hlt, if_neg hlt]
    go_enter Tryz.func54, Tryz.ntmps54
    go_wp2_with fail
    go_quiet ((go_at_call 96; exact Calls.quiet_of_same (size_of (by assumption) _)))
    have HB0 : Hid (Below w.heap.size w (w.drewN nq)) := below_drewN' (Below.refl _ _) nq
    go_wp2_with fail
    refine (product_calls _ a b k ca l cb _ _ ((HA.out.take z1).drewN nq) ((HB.out.take z2).drewN nq) (by omega) (by omega)).mono ?_
    rintro e w2 hr
    have hr2 := natRes_trans HB0.out (hr.le (bd' := 2000) (by omega))
    rw [HVX.out, HVY.out] at hr2
    obtain ⟨a', c', rs, rfl, r1, r2, r3, r4, r5⟩ := hr2
    have R := Lib.hid (And.intro r1 (And.intro r2 (And.intro r3 (And.intro r4 r5))))
    clear r1 r2 r3 r4 r5 hr
    go_wp2
    go_ret2
    exact ⟨a', c', rs, rfl, R.out.1, R.out.2.1, R.out.2.2.1, R.out.2.2.2.1, R.out.2.2.2.2⟩
/-- A difference's error. -/
def subErr (x y : Nat) : Int := if x < y then 3 else 0
theorem cmpI_neg (x y : Nat) : decide (cmpI x y < 0) = decide (x < y) := by
  unfold cmpI
  split
  · simp; omega
  · split <;> simp <;> omega
end Go.Proofs.YtpodpdopgdkdkaaGreatDoor
namespace Go.Proofs.YtpodpdopgdkdkaaGreatDoor
open Go.RowKit
theorem sub_end' {zs ts xs ys : List Nat} {c k : Nat} (hv : valTo zs k + valTo ys k = valTo ts k + B64 ^ k * c) (hw : W64 zs) (hle : val ys ≤ val xs) (hk : sz xs = k) (ht : ts.length = k) (hts : val ts = val xs) (hxw : W64 xs) (hz : zs.length = k) : val zs = val xs - val ys := by
  have hy : sz ys ≤ k := by
    rcases Nat.lt_or_ge k (sz ys) with h | h
    · have := sz_lt_val hxw (show sz xs < sz ys by omega)
      omega
    · exact h
  rw [valTo_all k (by omega), valTo_ge_sz k hy, valTo_all k (by omega), hts] at hv
  have e := no_borrow hv (val_lt' hw (by omega)) hle
  rw [e, Nat.mul_zero, Nat.add_zero] at hv
  omega
theorem run_sub64_0 (x c : Nat) (hc : c ≤ 1) (w : World) : (callFunc 49 #[.int .u64 (x : Nat), .int .u64 0, .int .u64 (c : Nat)]).run Tryz.prog w =
    .ok (.value (.tuple #[.int .u64 (subLo x 0 c : Nat), .int .u64 (subHi x 0 c : Nat)])) w := run_sub64 x 0 c hc w
theorem SlW.nil {w : World} {len cap : Nat} {xs : List Nat} (h : SlW w none len cap xs) : len = 0 ∧ cap = 0 := by
  have := h.hnil rfl
  have := h.hle
  omega
theorem SlW.nil0 (w : World) : SlW w none 0 0 [] := (ownW_nil 0 w).sl
set_option maxRecDepth 10000 in
set_option maxHeartbeats 1000000 in
theorem sub_calls (w : World) (a b : Option Addr) (la ca lb cb : Nat) (xs ys : List Nat) (ha : SlW w a la ca xs) (hb : SlW w b lb cb ys) (sa : la ≤ 4398046511104) (pa : Plain a) :
    Calls Tryz.prog 75 #[.slice a la ca, .slice b lb cb] w (NatRes2 w (val xs - val ys) la (.int .i64 (subErr (val xs) (val ys)))) := by
  have m1 := ha.hle
  have m2 := ha.hmax
  have m3 := hb.hle
  have m4 := hb.hmax
  have HC := Lib.hid (cmp_calls w a b la ca lb cb xs ys ha hb)
  have hn := cmpI_neg (val xs) (val ys)
  generalize cmpI (val xs) (val ys) = C at HC hn
  unfold subErr
  by_cases hlt : val xs < val ys
  · rw [if_pos hlt, show val xs - val ys = 0 by omega]
    rw [show decide (val xs < val ys) = true by simp; exact hlt] at hn
    clear hlt ha hb
    go_enter Tryz.func75, Tryz.ntmps75
    go_wp2_with fail
    refine HC.out.mono ?_
    rintro e w' ⟨rfl, m, rfl⟩
    go_wp2
    go_ret2
    exact (natRes_nil la (below_drewN' (Below.refl _ _) m)).two
  · rw [if_neg hlt]
    rw [show decide (val xs < val ys) = false by simp; omega] at hn
    have HLE := Lib.hid (show val ys ≤ val xs by omega)
    have HA := Lib.hid ha
    have HB := Lib.hid hb
    have HX := Lib.hid ha.hw
    have HY := Lib.hid hb.hw
    have HT := Lib.hid (val_take_sz xs)
    have z1 := ha.sz_le
    clear hlt ha hb
    go_enter Tryz.func75, Tryz.ntmps75
    go_wp2_with fail
    refine HC.out.mono ?_
    rintro e w' ⟨rfl, m, rfl⟩
    go_wp2_with fail
    refine (trim_calls _ a la ca xs (HA.out.drewN m) pa (by omega)).mono ?_
    rintro e W ⟨a1, c1, rfl, t1, t2⟩
    have HBW := Lib.hid (below_then (below_drewN' (Below.refl _ _) m) t2)
    have e1 := t1.hlen
    have w1 := t1.hw
    have HTW := Lib.hid w1
    generalize xs.take (sz xs) = ts at t1 e1 HT HTW
    generalize hk : sz xs = k at t1 e1 z1
    have HK := Lib.hid hk
    have HTL := Lib.hid e1
    have hcc := t1.words
    clear t2 t1 e1 w1 hk
    rcases hcc with ⟨rfl, rfl, rfl, rfl⟩ | ⟨g, rfl, hg1, hg2⟩
    · have hv0 : val xs = 0 := HT.out.symm
      have HV0 := Lib.hid hv0
      clear hv0
      go_wp2_with fail
      go_loop [18] (fun i => i = .int .i64 0) (fun _ => 0)
      case atStart => rfl
      case round =>
        subst hrel
        go_wp2_with fail
        refine (size_calls W none 0 0 [] (SlW.nil0 W)).mono ?_
        rintro e w' ⟨rfl, rfl⟩
        go_wp2
        go_ret2
        rw [show val xs - val ys = 0 by rw [HV0.out]; omega]
        exact (natRes_nil la HBW.out).two
    · have HGB := Lib.hid hg1
      have HG := Lib.hid hg2
      have mc := hg2.hle
      have md := hg2.hmax
      rw [HTL.out] at mc
      unfold maxLen at md
      clear hg1 hg2
      go_wp2_with fail
      go_loopw [18, 7] (fun i cr wr => ∃ (t c : Nat) (zs : List Nat), t ≤ k ∧ i = .int .i64 t ∧ cr = .int .u64 (c : Nat) ∧ c ≤ 1 ∧ WordsC wr g c1 zs ∧ zs.length = k ∧ W64 zs ∧ valTo zs t + valTo ys t = valTo ts t + B64 ^ t * c ∧ (∀ j, t ≤ j → wd zs j = wd ts j) ∧ Below w.heap.size w wr) (fun i _ _ => k - (intOf i).toNat)
      case atStart => exact ⟨0, 0, ts, by omega, rfl, rfl, by omega, HG.out, HTL.out, HTW.out, by simp [valTo], fun j _ => rfl, HBW.out⟩
      case round =>
        obtain ⟨t, c, zs, ht, rfl, rfl, hc, hz, hzl, hzw, hv, hq, hbw⟩ := hrel
        have HZ := Lib.hid hz
        have HZL := Lib.hid hzl
        have HZW := Lib.hid hzw
        have HV := Lib.hid hv
        have HQ := Lib.hid hq
        have HBR := Lib.hid hbw
        clear hz hzl hzw hv hbw hq HBW HG
        by_cases hlt : t < k
        · have hzr := HZ.out.cell t (by rw [HZL.out]; exact hlt)
          have HE : Hid (wd zs t = wd ts t) := HQ.out t (Nat.le_refl _)
          by_cases hb : t < lb
          · obtain ⟨p', o', rfl, hy⟩ := HB.out.wcell t hb
            have hyr : wr.cell? ⟨p', o' + t, none⟩ = some (.int .u64 ((wd ys t : Nat) : Int)) := by rw [HBR.out.cell (World.block_lt_of_cell? w _ hy)]; exact hy
            clear hy
            have HS := Lib.hid (sub_step (zs := zs) HV.out (valTo_wd ts t) (valTo_wd ys t) (by rw [HZL.out]; omega) (wd_lt HTW.out t) (wd_lt HY.out t) hc)
            rw [← HE.out] at HS
            have hqq := subHi_le (wd zs t) (wd ys t) c
            have HW := Lib.hid (HZW.out.set t _ (subLo_lt (wd zs t) (wd ys t) c))
            have HQ2 : Hid (∀ j, t + 1 ≤ j → wd (zs.set t (subLo (wd zs t) (wd ys t) c)) j = wd ts j) := fun j hj => by rw [wd_set_ne _ (by omega)]; exact HQ.out j (by omega)
            have hadd := run_sub64 (wd zs t) (wd ys t) c hc
            go_wp2_with ((with_reducible refine gate_store 22 ?_); refine st_wordC HBR.out HZ.out HGB.out t (subLo (wd zs t) (wd ys t) c) (by rw [HZL.out]; omega) (fun W2 hB2 _ _ hz2 => ?_); have HB2 := Lib.hid hB2; have HZ2 := Lib.hid hz2; clear hB2 hz2)
            go_roundw
            case rel => exact ⟨t + 1, subHi (wd zs t) (wd ys t) c, zs.set t (subLo (wd zs t) (wd ys t) c), by omega, by go_num, rfl, hqq, HZ2.out, by rw [List.length_set]; exact HZL.out, HW.out, HS.out, HQ2.out, HB2.out⟩
            case measure => simp [intOf]; omega
          · have hy0 : wd ys t = 0 := by unfold wd; rw [List.getD_eq_getElem?_getD, List.getElem?_eq_none (by rw [HB.out.hlen]; omega)]; rfl
            have HS := Lib.hid (sub_step (zs := zs) HV.out (valTo_wd ts t) (valTo_wd ys t) (by rw [HZL.out]; omega) (wd_lt HTW.out t) (wd_lt HY.out t) hc)
            rw [← HE.out, hy0] at HS
            clear hy0
            have hqq := subHi_le (wd zs t) 0 c
            have HW := Lib.hid (HZW.out.set t _ (subLo_lt (wd zs t) 0 c))
            have HQ2 : Hid (∀ j, t + 1 ≤ j → wd (zs.set t (subLo (wd zs t) 0 c)) j = wd ts j) := fun j hj => by rw [wd_set_ne _ (by omega)]; exact HQ.out j (by omega)
            have hadd := run_sub64_0 (wd zs t) c hc
            go_wp2_with ((with_reducible refine gate_store 22 ?_); refine st_wordC HBR.out HZ.out HGB.out t (subLo (wd zs t) 0 c) (by rw [HZL.out]; omega) (fun W2 hB2 _ _ hz2 => ?_); have HB2 := Lib.hid hB2; have HZ2 := Lib.hid hz2; clear hB2 hz2)
            go_roundw
            case rel => exact ⟨t + 1, subHi (wd zs t) 0 c, zs.set t (subLo (wd zs t) 0 c), by omega, by go_num, rfl, hqq, HZ2.out, by rw [List.length_set]; exact HZL.out, HW.out, HS.out, HQ2.out, HB2.out⟩
            case measure => simp [intOf]; omega
        · have hte : k = t := by omega
          subst hte
          have HN : Hid (val zs = val xs - val ys) := sub_end' HV.out HZW.out HLE.out HK.out HTL.out HT.out HX.out HZL.out
          go_wp2_with fail
          refine (size_calls wr _ k c1 zs (HZ.out.slAll HZW.out HZL.out)).mono ?_
          rintro e w' ⟨rfl, rfl⟩
          have hsz := sz_le zs
          have hs2 : sz zs ≤ k := by rw [← HZL.out]; exact hsz
          clear hsz
          go_wp2
          go_ret2
          exact (natRes_mkC (w := w) HZ.out HGB.out HZW.out HN.out (by rw [HZL.out]; exact z1) HBR.out).two
end Go.Proofs.YtpodpdopgdkdkaaGreatDoor
namespace Go.Proofs.YtpodpdopgdkdkaaGreatDoor
open Go.RowKit
/-- Half a word's base. -/
abbrev B32 : Nat := 4294967296
section digit
variable {u x y1 y0 q r : Nat}
theorem digit_le (hy1 : 0 < y1) : (u * B32 + x) / (y1 * B32 + y0) ≤ (u * B32 + x) / (y1 * B32) := Nat.div_le_div_left (by omega) (by unfold B32; omega)
theorem digit_start (hy1 : 0 < y1) (hx : x < B32) : (u * B32 + x) / (y1 * B32 + y0) ≤ u / y1 := by
  refine Nat.le_trans (digit_le hy1) ?_
  rw [Nat.mul_comm y1, ← Nat.div_div_eq_div_mul]
  have : (u * B32 + x) / B32 = u := by unfold B32 at *; omega
  rw [this]
  exact Nat.le_refl _
theorem digit_top (hu : u < y1 * B32 + y0) (h0 : y0 < B32) (hn : B32 ≤ 2 * y1) : u / y1 ≤ B32 + 1 := by
  have h1 : u < (B32 + 2) * y1 := by rw [Nat.add_mul]; rw [Nat.mul_comm y1] at hu; omega
  have := (Nat.div_lt_iff_lt_mul (show 0 < y1 by unfold B32 at hn; omega)).2 h1
  omega
theorem div_lt_base {u x y b : Nat} (hu : u < y) (hx : x < b) : (u * b + x) / y < b := by
  rw [Nat.div_lt_iff_lt_mul (by omega)]
  have h : (u + 1) * b ≤ y * b := Nat.mul_le_mul_right b hu
  rw [Nat.add_mul, Nat.one_mul] at h
  rw [Nat.mul_comm b y]
  omega
theorem digit_lt (hu : u < y1 * B32 + y0) (hx : x < B32) : (u * B32 + x) / (y1 * B32 + y0) < B32 := div_lt_base hu hx
theorem digit_split (h : u = q * y1 + r) : u * B32 + x = q * (y1 * B32) + (B32 * r + x) := by
  subst h; rw [Nat.add_mul, Nat.mul_assoc, Nat.mul_comm r]; omega
theorem digit_high (hu : u < y1 * B32 + y0) (hx : x < B32) (h : u = q * y1 + r) (ht : B32 ≤ q ∨ B32 * r + x < q * y0) : (u * B32 + x) / (y1 * B32 + y0) < q := by
  rcases ht with ht | ht
  · have := digit_lt hu hx; omega
  · refine (Nat.div_lt_iff_lt_mul (by omega)).2 ?_
    rw [digit_split h, Nat.mul_add]
    omega
theorem digit_low (hu : u < y1 * B32 + y0) (h : u = q * y1 + r) (ht : q * y0 ≤ B32 * r + x) : q ≤ (u * B32 + x) / (y1 * B32 + y0) := by
  refine (Nat.le_div_iff_mul_le (by omega)).2 ?_
  rw [digit_split h, Nat.mul_add]
  omega
theorem digit_brk (hu : u < y1 * B32 + y0) (h0 : y0 < B32) (h : u = q * y1 + r) (hq : q ≤ B32) (hr : B32 ≤ r) : q ≤ (u * B32 + x) / (y1 * B32 + y0) := by
  refine digit_low hu h ?_
  have h1 : q * y0 ≤ B32 * B32 := Nat.mul_le_mul hq (by omega)
  have h2 : B32 * B32 ≤ B32 * r := Nat.mul_le_mul_left _ hr
  omega
theorem digit_down (h : u = (q + 1) * y1 + r) : u = q * y1 + (r + y1) := by rw [h, Nat.add_mul]; omega
end digit
/-! ### What the machine computes -/
theorem wrapN (n : Nat) : IntKind.u64.wrap (n : Int) = ((n % B64 : Nat) : Int) := by rw [IntKind.wrap_u64]; unfold B64; omega
theorem wrapS {n : Nat} (h : n < B64) : IntKind.u64.wrap (n : Int) = (n : Int) := by rw [wrapN, Nat.mod_eq_of_lt h]
theorem wrapMul (a b : Nat) : IntKind.u64.wrap ((a : Int) * (b : Int)) = ((a * b % B64 : Nat) : Int) := by rw [← Int.natCast_mul, wrapN]
theorem wrapAdd (a b : Nat) : IntKind.u64.wrap ((a : Int) + (b : Int)) = (((a + b) % B64 : Nat) : Int) := by rw [← Int.natCast_add, wrapN]
theorem wrapDiv {a b : Nat} (h : a < B64) : IntKind.u64.wrap ((a : Int) / (b : Int)) = ((a / b : Nat) : Int) := by
  rw [← Int.natCast_ediv, wrapS]; exact Nat.lt_of_le_of_lt (Nat.div_le_self _ _) h
theorem wrapSub {C D n m r : Nat} (hC : C = n % B64) (hD : D = m % B64) (h : n = m + r) (hr : r < B64) : IntKind.u64.wrap ((C : Int) - (D : Int)) = (r : Int) := by
  rw [IntKind.wrap_u64]; unfold B64 at *; omega
/-! ### Shifts of words -/
theorem two_cast (s : Nat) : (2 : Int) ^ s = ((2 ^ s : Nat) : Int) := by rw [Int.natCast_pow]; rfl
theorem pow_split {s : Nat} (hs : s ≤ 64) : 2 ^ (64 - s) * 2 ^ s = B64 := by rw [← Nat.pow_add, show 64 - s + s = 64 by omega]
theorem blen_lo {y : Nat} (h : 0 < y) : 2 ^ (blen y - 1) ≤ y ∧ y < 2 ^ blen y := by
  unfold blen
  rw [if_neg (by omega)]
  exact ⟨Nat.log2_self_le (by omega), Nat.lt_log2_self⟩
theorem norm_hi {y s : Nat} (h : 0 < y) (hs : blen y + s = 64) : y * 2 ^ s < B64 ∧ B64 ≤ 2 * (y * 2 ^ s) := by
  obtain ⟨h1, h2⟩ := blen_lo h
  have hp : 0 < 2 ^ s := Nat.two_pow_pos s
  constructor
  · have := Nat.mul_lt_mul_of_pos_right h2 hp
    rw [← Nat.pow_add, hs] at this
    exact this
  · have h3 := Nat.mul_le_mul_right (2 ^ s) h1
    rw [← Nat.pow_add] at h3
    have h4 : blen y - 1 + s = 63 := by
      have : 0 < blen y := by unfold blen; rw [if_neg (by omega)]; omega
      omega
    rw [h4] at h3
    have : B64 = 2 * 2 ^ 63 := by decide
    omega
theorem shr_lt {lo s : Nat} (hs : s ≤ 64) (hl : lo < B64) : lo / 2 ^ (64 - s) < 2 ^ s := by
  rw [Nat.div_lt_iff_lt_mul (Nat.two_pow_pos _), Nat.mul_comm, pow_split hs]; exact hl
theorem shr_eq {lo s : Nat} (hs : s ≤ 64) : lo / 2 ^ (64 - s) = lo * 2 ^ s / B64 := by
  rw [← pow_split hs, Nat.mul_div_mul_right _ _ (Nat.two_pow_pos s)]
/-- hi<<s | lo>>(64-s). -/
theorem shl_or {hi lo s : Nat} (hs : s ≤ 64) (hl : lo < B64) (hh : hi * 2 ^ s < B64) :
    bits .or .u64 (IntKind.u64.wrap ((hi : Int) * 2 ^ s)) ((lo : Int) / 2 ^ (64 - s)) = ((hi * 2 ^ s + lo / 2 ^ (64 - s) : Nat) : Int) := by
  rw [two_cast, two_cast, wrapMul, Nat.mod_eq_of_lt hh, ← Int.natCast_ediv, bits_or_u64_nat _ _ hh (Nat.lt_of_le_of_lt (Nat.div_le_self _ _) hl)]
  congr 1
  rw [Nat.mul_comm hi, Nat.two_pow_add_eq_or_of_lt (shr_lt hs hl)]
theorem norm_split {hi lo s : Nat} (hs : s ≤ 64) : (hi * B64 + lo) * 2 ^ s = (hi * 2 ^ s + lo / 2 ^ (64 - s)) * B64 + lo * 2 ^ s % B64 := by
  rw [shr_eq hs, Nat.add_mul, Nat.add_mul]
  have h1 := Nat.div_add_mod (lo * 2 ^ s) B64
  rw [Nat.mul_comm B64] at h1
  have h2 : hi * B64 * 2 ^ s = hi * 2 ^ s * B64 := by rw [Nat.mul_assoc, Nat.mul_comm B64, Nat.mul_assoc]
  omega
theorem norm_lt {hi lo y s : Nat} (hs : s ≤ 64) (hy : hi < y) (hl : lo < B64) : hi * 2 ^ s + lo / 2 ^ (64 - s) < y * 2 ^ s := by
  have h1 := shr_lt hs hl
  have h2 : (hi + 1) * 2 ^ s ≤ y * 2 ^ s := Nat.mul_le_mul_right _ hy
  rw [Nat.add_mul, Nat.one_mul] at h2
  omega
/-- Two digits, one after another. -/
theorem two_digits {N U L Y r1 : Nat} (hY : 0 < Y) (hN : N = U * B64 + L) (hr : r1 = (U * B32 + L / B32) % Y) :
    N / Y = (U * B32 + L / B32) / Y * B32 + (r1 * B32 + L % B32) / Y ∧ N % Y = (r1 * B32 + L % B32) % Y := by
  have e1 := Nat.div_add_mod (U * B32 + L / B32) Y
  have e3 := Nat.div_add_mod L B32
  rw [← hr] at e1
  have hn : N = (r1 * B32 + L % B32) + Y * ((U * B32 + L / B32) / Y * B32) := by
    rw [hN]
    generalize (U * B32 + L / B32) / Y = Q at *
    rw [← Nat.mul_assoc]
    generalize Y * Q = P at *
    unfold B64 B32 at *
    omega
  rw [hn, Nat.add_mul_div_left _ _ hY, Nat.add_mul_mod_self_left]
  exact ⟨Nat.add_comm _ _, rfl⟩
theorem unnorm {N y s : Nat} : N * 2 ^ s / (y * 2 ^ s) = N / y ∧ N * 2 ^ s % (y * 2 ^ s) / 2 ^ s = N % y := by
  have hp := Nat.two_pow_pos s
  exact ⟨Nat.mul_div_mul_right _ _ hp, by rw [Nat.mul_mod_mul_right, Nat.mul_div_cancel _ hp]⟩
end Go.Proofs.YtpodpdopgdkdkaaGreatDoor
namespace Go.Proofs.YtpodpdopgdkdkaaGreatDoor
open Go.RowKit
set_option maxRecDepth 100000 in
set_option maxHeartbeats 1000000 in
theorem div64_low (w : World) (lo y : Nat) (hy : 0 < y) (hl : lo < B64) :
    Calls Tryz.prog 117 #[.int .u64 0, .int .u64 (lo : Nat), .int .u64 (y : Nat)] w fun e w' => e = .returned (.tuple #[.int .u64 (lo / y : Nat), .int .u64 (lo % y : Nat)]) ∧ ∃ m, w' = w.drewN m := by
  have e1 := wrapDiv (b := y) hl
  have e2 := (Int.natCast_emod lo y).symm
  generalize lo / y = q at e1 ⊢
  generalize lo % y = r at e2 ⊢
  go_enter Tryz.func117, Tryz.ntmps117
  go_wp2_with fail
  go_quiet (fail)
  go_wp2
  go_ret2
  refine ⟨?_, _, rfl⟩
  show Ending.returned (.tuple #[.int .u64 (q : Nat), .int .u64 ((lo : Int) % (y : Int))]) = _
  rw [e2]
set_option maxRecDepth 100000 in
set_option maxHeartbeats 1000000 in
theorem div64_high (w : World) (hi lo y s : Nat) (h0 : 0 < hi) (hy : hi < y) (hl : lo < B64) (hb : y < B64) (hs : blen y + s = 64) (hsl : s < 64):
    Calls Tryz.prog 117 #[.int .u64 (hi : Nat), .int .u64 (lo : Nat), .int .u64 (y : Nat)] w fun e w' => e = .returned (.tuple #[.int .u64 ((hi * B64 + lo) / y : Nat), .int .u64 ((hi * B64 + lo) % y : Nat)]) ∧ ∃ m, w' = w.drewN m := by
  have hb' : y < 18446744073709551616 := hb
  have hl' : lo < 18446744073709551616 := hl
  have HL := Lib.hid (Tryz.bits_LeadingZeros64 (y : Nat) w (by omega) (by omega))
  have e : (64 - (Lib.bitLen ((y : Nat) : Int).toNat : Int)) = (s : Nat) := by rw [Int.toNat_natCast, bitLen_eq hb]; omega
  rw [e] at HL
  clear e
  have n1 := norm_hi (show 0 < y by omega) hs
  have n2 := norm_lt (s := s) (by omega) hy hl
  have n3 := norm_split (hi := hi) (lo := lo) (s := s) (by omega)
  have o1 : hi * 2 ^ s < B64 := Nat.lt_of_le_of_lt (Nat.le_add_right _ _) (Nat.lt_trans n2 n1.1)
  have e1 : IntKind.u64.wrap ((y : Int) * 2 ^ s) = ((y * 2 ^ s : Nat) : Int) := by rw [two_cast, wrapMul, Nat.mod_eq_of_lt n1.1]
  have e2 := shl_or (hi := hi) (lo := lo) (s := s) (by omega) hl o1
  have e3 : IntKind.u64.wrap ((lo : Int) * 2 ^ s) = ((lo * 2 ^ s % B64 : Nat) : Int) := by rw [two_cast, wrapMul]
  have hu := unnorm (N := hi * B64 + lo) (y := y) (s := s)
  have hL2 : lo * 2 ^ s % B64 < B64 := Nat.mod_lt _ (by decide)
  obtain ⟨Y, hY⟩ : ∃ Y, y * 2 ^ s = Y := ⟨_, rfl⟩
  obtain ⟨U, hU⟩ : ∃ U, hi * 2 ^ s + lo / 2 ^ (64 - s) = U := ⟨_, rfl⟩
  obtain ⟨L, hL⟩ : ∃ L, lo * 2 ^ s % B64 = L := ⟨_, rfl⟩
  obtain ⟨N, hN⟩ : ∃ N, hi * B64 + lo = N := ⟨_, rfl⟩
  rw [hY] at n1 n2 e1 hu
  rw [hU] at n2 n3 e2
  rw [hL] at n3 e3 hL2
  rw [hN] at n3 hu ⊢
  obtain ⟨N2, hN2⟩ : ∃ n, N * 2 ^ s = n := ⟨_, rfl⟩
  rw [hN2] at n3 hu
  clear hY hU hL hN hN2 o1
  have HU := Lib.hid hu
  have HN := Lib.hid n3
  clear hu n3
  have hYd : Y / B32 * B32 + Y % B32 = Y := by unfold B32; omega
  have hy0 : Y % B32 < B32 := Nat.mod_lt _ (by decide)
  have hx1 : L / B32 < B32 := by unfold B32 B64 at *; omega
  have hx0 : L % B32 < B32 := Nat.mod_lt _ (by decide)
  have hy1 : B32 ≤ 2 * (Y / B32) := by unfold B32 B64 at *; omega
  have hy2 : Y / B32 < B32 := by unfold B32 B64 at *; omega
  have hD := two_digits (U := U) (L := L) (Y := Y) (r1 := (U * B32 + L / B32) % Y) (N := N2) (by omega) HN.out rfl
  have f1 : (Y : Int) / 4294967296 = ((Y / B32 : Nat) : Int) := (Int.natCast_ediv Y B32).symm
  have f2 : bits .and .u64 (Y : Int) 4294967295 = ((Y % B32 : Nat) : Int) := by rw [and_low32 _ (by omega) (by unfold B64 at n1; omega)]; exact (Int.natCast_emod Y B32).symm
  have f3 : (L : Int) / 4294967296 = ((L / B32 : Nat) : Int) := (Int.natCast_ediv L B32).symm
  have f4 : bits .and .u64 (L : Int) 4294967295 = ((L % B32 : Nat) : Int) := by rw [and_low32 _ (by omega) (by unfold B64 at hL2; omega)]; exact (Int.natCast_emod L B32).symm
  obtain ⟨y1, hy1e⟩ : ∃ y1, Y / B32 = y1 := ⟨_, rfl⟩
  obtain ⟨y0, hy0e⟩ : ∃ y0, Y % B32 = y0 := ⟨_, rfl⟩
  obtain ⟨x1, hx1e⟩ : ∃ x1, L / B32 = x1 := ⟨_, rfl⟩
  obtain ⟨x0, hx0e⟩ : ∃ x0, L % B32 = x0 := ⟨_, rfl⟩
  rw [hy1e] at hYd hy1 hy2 f1
  rw [hy0e] at hYd hy0 f2
  rw [hx1e] at hx1 f3 hD
  rw [hx0e] at hx0 f4 hD
  clear hy1e hy0e hx1e hx0e
  have hy1p : 0 < y1 := by unfold B32 at hy1; omega
  have hUb : U < B64 := Nat.lt_trans n2 n1.1
  have f5 := wrapDiv (b := y1) hUb
  have hdm := Nat.div_add_mod U y1
  have hmod := Nat.mod_lt U hy1p
  have f6 := wrapMul (U / y1) y1
  have f7 : IntKind.u64.wrap ((U : Int) - ((U / y1 * y1 % B64 : Nat) : Int)) = ((U % y1 : Nat) : Int) := wrapSub (n := U) (m := U / y1 * y1) (Nat.mod_eq_of_lt hUb).symm rfl (by rw [Nat.mul_comm]; exact hdm.symm) (Nat.lt_of_le_of_lt (Nat.mod_le _ _) hUb)
  have hst := digit_start (u := U) (x := x1) (y1 := y1) (y0 := y0) hy1p hx1
  have htop := digit_top (u := U) (y1 := y1) (y0 := y0) (by rw [hYd]; exact n2) hy0 hy1
  rw [hYd] at hst
  obtain ⟨Q1, hQ1⟩ : ∃ Q1, (U * B32 + x1) / Y = Q1 := ⟨_, rfl⟩
  obtain ⟨R1, hR1⟩ : ∃ R1, (U * B32 + x1) % Y = R1 := ⟨_, rfl⟩
  rw [hQ1] at hst hD
  rw [hR1] at hD
  have HQ1 := Lib.hid hQ1
  have HR1 := Lib.hid hR1
  have HD := Lib.hid hD
  have HYD := Lib.hid hYd
  have hinv : U = (U / y1) * y1 + U % y1 := by rw [Nat.mul_comm]; exact hdm.symm
  have HST := Lib.hid (And.intro hinv (And.intro hst (And.intro htop (show U % y1 < B32 by omega))))
  obtain ⟨qa, hqa⟩ : ∃ q, U / y1 = q := ⟨_, rfl⟩
  obtain ⟨ra, hra⟩ : ∃ r, U % y1 = r := ⟨_, rfl⟩
  rw [hqa, hra] at HST
  rw [hqa] at f5 f6 f7
  rw [hra] at f7
  obtain ⟨pa, hpa⟩ : ∃ p, qa * y1 % B64 = p := ⟨_, rfl⟩
  rw [hpa] at f6 f7
  clear hpa
  have HN1 := Lib.hid n1
  have HN2 := Lib.hid n2
  have HY1 := Lib.hid hy1
  clear hqa hra hinv hst htop hQ1 hR1 hD hdm hmod hYd n1 n2 hy1
  have hQ1b : Q1 < B32 := by
    have := digit_lt (x := x1) (by rw [HYD.out]; exact HN2.out) hx1
    rw [HYD.out, HQ1.out] at this
    exact this
  have hYp : 0 < Y := by have := HN2.out; omega
  have HR1L : Hid (R1 < Y) := Lib.hid (by rw [← HR1.out]; exact Nat.mod_lt _ hYp)
  have HN64 : Hid (Y < B64) := Lib.hid HN1.out.1
  have hR1b : R1 < B64 := Nat.lt_trans HR1L.out HN64.out
  have hE1 : U * B32 + x1 = Q1 * Y + R1 := by
    have := Nat.div_add_mod (U * B32 + x1) Y
    rw [HQ1.out, HR1.out, Nat.mul_comm] at this
    exact this.symm
  obtain ⟨A, hA⟩ : ∃ A, U * B32 % B64 = A := ⟨_, rfl⟩
  have w1 : IntKind.u64.wrap ((U : Int) * 4294967296) = (A : Nat) := by rw [← hA]; exact wrapMul U B32
  have w2 := wrapAdd A x1
  obtain ⟨C, hC⟩ : ∃ C, (A + x1) % B64 = C := ⟨_, rfl⟩
  rw [hC] at w2
  have w3 := wrapMul Q1 Y
  obtain ⟨D, hDD⟩ : ∃ D, Q1 * Y % B64 = D := ⟨_, rfl⟩
  rw [hDD] at w3
  have w4 : IntKind.u64.wrap ((C : Int) - (D : Int)) = (R1 : Nat) := wrapSub (n := U * B32 + x1) (m := Q1 * Y) (by rw [← hC, ← hA]; unfold B64; omega) hDD.symm hE1 hR1b
  clear hA hC hDD
  have v5 := wrapDiv (b := y1) hR1b
  have hdm := Nat.div_add_mod R1 y1
  have hmod := Nat.mod_lt R1 hy1p
  have v6 := wrapMul (R1 / y1) y1
  have v7 : IntKind.u64.wrap ((R1 : Int) - ((R1 / y1 * y1 % B64 : Nat) : Int)) = ((R1 % y1 : Nat) : Int) := wrapSub (n := R1) (m := R1 / y1 * y1) (Nat.mod_eq_of_lt hR1b).symm rfl (by rw [Nat.mul_comm]; exact hdm.symm) (Nat.lt_of_le_of_lt (Nat.mod_le _ _) hR1b)
  have hst := digit_start (u := R1) (x := x0) (y1 := y1) (y0 := y0) hy1p hx0
  have htop := digit_top (u := R1) (y1 := y1) (y0 := y0) (by rw [HYD.out]; exact HR1L.out) hy0 HY1.out
  rw [HYD.out] at hst
  obtain ⟨Q0, hQ0⟩ : ∃ Q0, (R1 * B32 + x0) / Y = Q0 := ⟨_, rfl⟩
  obtain ⟨R0, hR0⟩ : ∃ R0, (R1 * B32 + x0) % Y = R0 := ⟨_, rfl⟩
  rw [hQ0] at hst
  have HQ0 := Lib.hid hQ0
  have hQ0b : Q0 < B32 := by
    have := digit_lt (x := x0) (by rw [HYD.out]; exact HR1L.out) hx0
    rw [HYD.out, hQ0] at this
    exact this
  have hinv : R1 = (R1 / y1) * y1 + R1 % y1 := by rw [Nat.mul_comm]; exact hdm.symm
  have HST2 := Lib.hid (And.intro hinv (And.intro hst (And.intro htop (show R1 % y1 < B32 by omega))))
  obtain ⟨qb, hqb⟩ : ∃ q, R1 / y1 = q := ⟨_, rfl⟩
  obtain ⟨rb, hrb⟩ : ∃ r, R1 % y1 = r := ⟨_, rfl⟩
  rw [hqb, hrb] at HST2
  rw [hqb] at v5 v6 v7
  rw [hrb] at v7
  obtain ⟨pb, hpb⟩ : ∃ p, qb * y1 % B64 = p := ⟨_, rfl⟩
  rw [hpb] at v6 v7
  clear hqb hrb hpb hinv hst htop hdm hmod
  have hE0 : R1 * B32 + x0 = Q0 * Y + R0 := by
    have := Nat.div_add_mod (R1 * B32 + x0) Y
    rw [hQ0, hR0, Nat.mul_comm] at this
    exact this.symm
  have hR0b : R0 < B64 := Nat.lt_trans (by rw [← hR0]; exact Nat.mod_lt _ hYp) HN64.out
  have k1 : IntKind.u64.wrap ((Q1 : Int) * 4294967296) = ((Q1 * B32 : Nat) : Int) := by rw [IntKind.wrap_u64]; unfold B32 at *; omega
  obtain ⟨G, hG⟩ : ∃ G, Q1 * B32 = G := ⟨_, rfl⟩
  rw [hG] at k1
  have k2 : IntKind.u64.wrap ((G : Int) + (Q0 : Int)) = ((N / y : Nat) : Int) := by
    rw [← HU.out.1, HD.out.1, hQ0, hG, IntKind.wrap_u64]; unfold B32 at *; omega
  obtain ⟨A3, hA3⟩ : ∃ A, R1 * B32 % B64 = A := ⟨_, rfl⟩
  have k3 : IntKind.u64.wrap ((R1 : Int) * 4294967296) = (A3 : Nat) := by rw [← hA3]; exact wrapMul R1 B32
  have k4 := wrapAdd A3 x0
  obtain ⟨C3, hC3⟩ : ∃ C, (A3 + x0) % B64 = C := ⟨_, rfl⟩
  rw [hC3] at k4
  have k5 := wrapMul Q0 Y
  obtain ⟨D3, hD3⟩ : ∃ D, Q0 * Y % B64 = D := ⟨_, rfl⟩
  rw [hD3] at k5
  have k6 : IntKind.u64.wrap ((C3 : Int) - (D3 : Int)) = (R0 : Nat) := wrapSub (n := R1 * B32 + x0) (m := Q0 * Y) (by rw [← hC3, ← hA3]; unfold B64; omega) hD3.symm hE0 hR0b
  have k7 : (R0 : Int) / 2 ^ s = ((N % y : Nat) : Int) := by rw [two_cast, ← Int.natCast_ediv, ← HU.out.2, HD.out.2, hR0]
  obtain ⟨Z1, hZ1⟩ : ∃ Z, N / y = Z := ⟨_, rfl⟩
  obtain ⟨Z2, hZ2⟩ : ∃ Z, N % y = Z := ⟨_, rfl⟩
  rw [hZ1] at k2 ⊢
  rw [hZ2] at k7 ⊢
  clear hZ1 hZ2 hA3 hC3 hD3 hG hQ0 hR0 hE0 hE1
  have HX1 := Lib.hid hx1
  have HX0 := Lib.hid hx0
  have HY0 := Lib.hid hy0
  have HY2 := Lib.hid hy2
  have hyz : ((y : Int) == 0) = false := by simp; omega
  have hhz : ((hi : Int) == 0) = false := by simp; omega
  have hhy : decide (y ≤ hi) = false := by simp; omega
  clear hb hb' hl hl' hL2 hy2 hy0 hx1 hx0 hUb hQ1b hYp hR1b hQ0b hR0b h0 hy hs
  go_enter Tryz.func117, Tryz.ntmps117
  go_wp2_with fail
  refine HL.out.mono ?_
  rintro e w' ⟨rfl, rfl⟩
  go_wp2_with fail
  go_loop [15, 16] (fun vq vr => ∃ q r : Nat, vq = .int .u64 (q : Nat) ∧ vr = .int .u64 (r : Nat) ∧ U = q * y1 + r ∧ Q1 ≤ q ∧ q ≤ B32 + 1 ∧ r < B32) (fun vq _ => (intOf vq).toNat)
  case atStart => exact ⟨qa, ra, rfl, rfl, HST.out⟩
  case round =>
    obtain ⟨q, r, rfl, rfl, hi1, hi2, hi3, hi4⟩ := hrel
    obtain ⟨c4, hc4⟩ : ∃ c : Int, c = 4294967296 := ⟨_, rfl⟩
    rw [← hc4]
    have HI1 := Lib.hid hi1
    clear hi1
    have HI4 := Lib.hid (And.intro hi2 (And.intro hi3 hi4))
    by_cases hqb : 4294967296 ≤ q
    · have t0 : decide (c4 ≤ (q : Int)) = true := decide_eq_true (by omega)
      obtain ⟨q', hq'⟩ : ∃ q', q = q' + 1 := ⟨q - 1, by omega⟩
      have hlt : Q1 ≤ q' := by
        have := digit_high (q := q) (x := x1) (by rw [HYD.out]; exact HN2.out) HX1.out HI1.out (.inl hqb)
        rw [HYD.out, HQ1.out] at this
        omega
      have HI2 : Hid (U = q' * y1 + (r + y1)) := by have := HI1.out; rw [hq'] at this; exact digit_down this
      have HI3 : Hid (q' ≤ B32) := Lib.hid (by omega)
      clear hqb
      obtain ⟨r2, hr2⟩ : ∃ r2, r + y1 = r2 := ⟨_, rfl⟩
      rw [hr2] at HI2
      have g1 : IntKind.u64.wrap ((q : Int) - 1) = (q' : Nat) := by rw [hq', IntKind.wrap_u64]; unfold B32 at hi3; omega
      have g2 : IntKind.u64.wrap ((r : Int) + (y1 : Int)) = (r2 : Nat) := by have := HY2.out; rw [IntKind.wrap_u64]; unfold B32 at *; omega
      by_cases hbr : 4294967296 ≤ r2
      · have he : Q1 = q' := by
          have h := digit_brk (x := x1) (by rw [HYD.out]; exact HN2.out) HY0.out HI2.out HI3.out hbr
          rw [HYD.out, HQ1.out] at h
          exact Nat.le_antisymm hlt h
        have t1 : decide (c4 ≤ (r2 : Int)) = true := decide_eq_true (by omega)
        clear hq' hlt HI1 hi2 hi3 hi4 HI2 hbr hc4
        subst he
        go_wp2_with fail
        go_loop [18, 16] (fun vq vr => ∃ q r : Nat, vq = .int .u64 (q : Nat) ∧ vr = .int .u64 (r : Nat) ∧ R1 = q * y1 + r ∧ Q0 ≤ q ∧ q ≤ B32 + 1 ∧ r < B32) (fun vq _ => (intOf vq).toNat)
        case atStart => exact ⟨qb, rb, rfl, rfl, HST2.out⟩
        case round =>
          obtain ⟨q, r, rfl, rfl, hi1, hi2, hi3, hi4⟩ := hrel
          obtain ⟨c4, hc4⟩ : ∃ c : Int, c = 4294967296 := ⟨_, rfl⟩
          rw [← hc4]
          have HI1 := Lib.hid hi1
          clear hi1
          have HI4 := Lib.hid (And.intro hi2 (And.intro hi3 hi4))
          by_cases hqb : 4294967296 ≤ q
          · have t0 : decide (c4 ≤ (q : Int)) = true := decide_eq_true (by omega)
            obtain ⟨q', hq'⟩ : ∃ q', q = q' + 1 := ⟨q - 1, by omega⟩
            have hlt : Q0 ≤ q' := by
              have := digit_high (q := q) (x := x0) (by rw [HYD.out]; exact HR1L.out) HX0.out HI1.out (.inl hqb)
              rw [HYD.out, HQ0.out] at this
              omega
            have HI2 : Hid (R1 = q' * y1 + (r + y1)) := by have := HI1.out; rw [hq'] at this; exact digit_down this
            have HI3 : Hid (q' ≤ B32) := Lib.hid (by omega)
            clear hqb
            obtain ⟨r2, hr2⟩ : ∃ r2, r + y1 = r2 := ⟨_, rfl⟩
            rw [hr2] at HI2
            have g1 : IntKind.u64.wrap ((q : Int) - 1) = (q' : Nat) := by rw [hq', IntKind.wrap_u64]; unfold B32 at hi3; omega
            have g2 : IntKind.u64.wrap ((r : Int) + (y1 : Int)) = (r2 : Nat) := by have := HY2.out; rw [IntKind.wrap_u64]; unfold B32 at *; omega
            by_cases hbr : 4294967296 ≤ r2
            · have he : Q0 = q' := by
                have h := digit_brk (x := x0) (by rw [HYD.out]; exact HR1L.out) HY0.out HI2.out HI3.out hbr
                rw [HYD.out, HQ0.out] at h
                exact Nat.le_antisymm hlt h
              have t1 : decide (c4 ≤ (r2 : Int)) = true := decide_eq_true (by omega)
              clear hq' hlt HI1 hi2 hi3 hi4 HI2 hbr hc4
              subst he
              go_wp2
              go_ret2
              exact ⟨rfl, 0, rfl⟩
            · have hr3 : r2 < B32 := by unfold B32; omega
              have t1 : decide (c4 ≤ (r2 : Int)) = false := decide_eq_false (by omega)
              have HI5 := Lib.hid hr3
              have HLT := Lib.hid (And.intro hlt hq')
              clear hi2 hi3 hi4 hr3 hbr hlt hq' hc4
              go_wp2_with fail
              go_round
              case rel => exact ⟨q', r2, rfl, rfl, HI2.out, HLT.out.1, by have := HI3.out; omega, HI5.out⟩
              case measure => have := HLT.out.2; simp [intOf]; omega
          · have t0 : decide (c4 ≤ (q : Int)) = false := decide_eq_false (by omega)
            have hqs : q < B32 := by unfold B32; omega
            obtain ⟨P, hP⟩ : ∃ P, q * y0 = P := ⟨_, rfl⟩
            have hPb : P < B64 := by rw [← hP]; exact Nat.mul_lt_mul'' hqs HY0.out
            obtain ⟨T, hT⟩ : ∃ T, B32 * r = T := ⟨_, rfl⟩
            obtain ⟨W, hW⟩ : ∃ W, T + x0 = W := ⟨_, rfl⟩
            have hWb : T + x0 < B64 := by have := HX0.out; unfold B32 at *; unfold B64; omega
            have g3 : IntKind.u64.wrap ((q : Int) * (y0 : Int)) = (P : Nat) := by rw [wrapMul, hP, Nat.mod_eq_of_lt hPb]
            have g4 : IntKind.u64.wrap (c4 * (r : Int)) = (T : Nat) := by rw [hc4, IntKind.wrap_u64]; unfold B32 at hT hi4; omega
            have g5 : IntKind.u64.wrap ((T : Int) + (x0 : Int)) = (W : Nat) := by rw [wrapAdd, Nat.mod_eq_of_lt hWb, hW]
            by_cases ht : W < P
            · have t2 : decide (W < P) = true := decide_eq_true ht
              obtain ⟨q', hq'⟩ : ∃ q', q = q' + 1 := ⟨q - 1, by
                rcases Nat.eq_zero_or_pos q with h | h
                · rw [h, Nat.zero_mul] at hP; omega
                · omega⟩
              have hlt : Q0 ≤ q' := by
                have := digit_high (q := q) (x := x0) (by rw [HYD.out]; exact HR1L.out) HX0.out HI1.out (.inr (by rw [hP, hT, hW]; exact ht))
                rw [HYD.out, HQ0.out] at this
                omega
              have HI2 : Hid (R1 = q' * y1 + (r + y1)) := by have := HI1.out; rw [hq'] at this; exact digit_down this
              have HI3 : Hid (q' ≤ B32) := Lib.hid (by omega)
              clear hqb
              clear hP hT hW hPb hWb ht hqs
              obtain ⟨r2, hr2⟩ : ∃ r2, r + y1 = r2 := ⟨_, rfl⟩
              rw [hr2] at HI2
              have g1 : IntKind.u64.wrap ((q : Int) - 1) = (q' : Nat) := by rw [hq', IntKind.wrap_u64]; unfold B32 at hi3; omega
              have g2 : IntKind.u64.wrap ((r : Int) + (y1 : Int)) = (r2 : Nat) := by have := HY2.out; rw [IntKind.wrap_u64]; unfold B32 at *; omega
              by_cases hbr : 4294967296 ≤ r2
              · have he : Q0 = q' := by
                  have h := digit_brk (x := x0) (by rw [HYD.out]; exact HR1L.out) HY0.out HI2.out HI3.out hbr
                  rw [HYD.out, HQ0.out] at h
                  exact Nat.le_antisymm hlt h
                have t1 : decide (c4 ≤ (r2 : Int)) = true := decide_eq_true (by omega)
                clear hq' hlt HI1 hi2 hi3 hi4 HI2 hbr hc4
                subst he
                go_wp2
                go_ret2
                exact ⟨rfl, 0, rfl⟩
              · have hr3 : r2 < B32 := by unfold B32; omega
                have t1 : decide (c4 ≤ (r2 : Int)) = false := decide_eq_false (by omega)
                have HI5 := Lib.hid hr3
                have HLT := Lib.hid (And.intro hlt hq')
                clear hi2 hi3 hi4 hr3 hbr hlt hq' hc4
                go_wp2_with fail
                go_round
                case rel => exact ⟨q', r2, rfl, rfl, HI2.out, HLT.out.1, by have := HI3.out; omega, HI5.out⟩
                case measure => have := HLT.out.2; simp [intOf]; omega
            · have he : Q0 = q := by
                have h := digit_low (x := x0) (by rw [HYD.out]; exact HR1L.out) HI1.out (by rw [hP, hT, hW]; omega)
                rw [HYD.out, HQ0.out] at h
                exact Nat.le_antisymm hi2 h
              have t2 : decide (W < P) = false := decide_eq_false ht
              clear hP hT hW hPb hWb HI1 hi2 hi3 hi4 ht hqs hqb hc4
              subst he
              go_wp2
              go_ret2
              exact ⟨rfl, 0, rfl⟩
      · have hr3 : r2 < B32 := by unfold B32; omega
        have t1 : decide (c4 ≤ (r2 : Int)) = false := decide_eq_false (by omega)
        have HI5 := Lib.hid hr3
        have HLT := Lib.hid (And.intro hlt hq')
        clear hi2 hi3 hi4 hr3 hbr hlt hq' hc4
        go_wp2_with fail
        go_round
        case rel => exact ⟨q', r2, rfl, rfl, HI2.out, HLT.out.1, by have := HI3.out; omega, HI5.out⟩
        case measure => have := HLT.out.2; simp [intOf]; omega
    · have t0 : decide (c4 ≤ (q : Int)) = false := decide_eq_false (by omega)
      have hqs : q < B32 := by unfold B32; omega
      obtain ⟨P, hP⟩ : ∃ P, q * y0 = P := ⟨_, rfl⟩
      have hPb : P < B64 := by rw [← hP]; exact Nat.mul_lt_mul'' hqs HY0.out
      obtain ⟨T, hT⟩ : ∃ T, B32 * r = T := ⟨_, rfl⟩
      obtain ⟨W, hW⟩ : ∃ W, T + x1 = W := ⟨_, rfl⟩
      have hWb : T + x1 < B64 := by have := HX1.out; unfold B32 at *; unfold B64; omega
      have g3 : IntKind.u64.wrap ((q : Int) * (y0 : Int)) = (P : Nat) := by rw [wrapMul, hP, Nat.mod_eq_of_lt hPb]
      have g4 : IntKind.u64.wrap (c4 * (r : Int)) = (T : Nat) := by rw [hc4, IntKind.wrap_u64]; unfold B32 at hT hi4; omega
      have g5 : IntKind.u64.wrap ((T : Int) + (x1 : Int)) = (W : Nat) := by rw [wrapAdd, Nat.mod_eq_of_lt hWb, hW]
      by_cases ht : W < P
      · have t2 : decide (W < P) = true := decide_eq_true ht
        obtain ⟨q', hq'⟩ : ∃ q', q = q' + 1 := ⟨q - 1, by
          rcases Nat.eq_zero_or_pos q with h | h
          · rw [h, Nat.zero_mul] at hP; omega
          · omega⟩
        have hlt : Q1 ≤ q' := by
          have := digit_high (q := q) (x := x1) (by rw [HYD.out]; exact HN2.out) HX1.out HI1.out (.inr (by rw [hP, hT, hW]; exact ht))
          rw [HYD.out, HQ1.out] at this
          omega
        have HI2 : Hid (U = q' * y1 + (r + y1)) := by have := HI1.out; rw [hq'] at this; exact digit_down this
        have HI3 : Hid (q' ≤ B32) := Lib.hid (by omega)
        clear hqb
        clear hP hT hW hPb hWb ht hqs
        obtain ⟨r2, hr2⟩ : ∃ r2, r + y1 = r2 := ⟨_, rfl⟩
        rw [hr2] at HI2
        have g1 : IntKind.u64.wrap ((q : Int) - 1) = (q' : Nat) := by rw [hq', IntKind.wrap_u64]; unfold B32 at hi3; omega
        have g2 : IntKind.u64.wrap ((r : Int) + (y1 : Int)) = (r2 : Nat) := by have := HY2.out; rw [IntKind.wrap_u64]; unfold B32 at *; omega
        by_cases hbr : 4294967296 ≤ r2
        · have he : Q1 = q' := by
            have h := digit_brk (x := x1) (by rw [HYD.out]; exact HN2.out) HY0.out HI2.out HI3.out hbr
            rw [HYD.out, HQ1.out] at h
            exact Nat.le_antisymm hlt h
          have t1 : decide (c4 ≤ (r2 : Int)) = true := decide_eq_true (by omega)
          clear hq' hlt HI1 hi2 hi3 hi4 HI2 hbr hc4
          subst he
          go_wp2_with fail
          go_loop [18, 16] (fun vq vr => ∃ q r : Nat, vq = .int .u64 (q : Nat) ∧ vr = .int .u64 (r : Nat) ∧ R1 = q * y1 + r ∧ Q0 ≤ q ∧ q ≤ B32 + 1 ∧ r < B32) (fun vq _ => (intOf vq).toNat)
          case atStart => exact ⟨qb, rb, rfl, rfl, HST2.out⟩
          case round =>
            obtain ⟨q, r, rfl, rfl, hi1, hi2, hi3, hi4⟩ := hrel
            obtain ⟨c4, hc4⟩ : ∃ c : Int, c = 4294967296 := ⟨_, rfl⟩
            rw [← hc4]
            have HI1 := Lib.hid hi1
            clear hi1
            have HI4 := Lib.hid (And.intro hi2 (And.intro hi3 hi4))
            by_cases hqb : 4294967296 ≤ q
            · have t0 : decide (c4 ≤ (q : Int)) = true := decide_eq_true (by omega)
              obtain ⟨q', hq'⟩ : ∃ q', q = q' + 1 := ⟨q - 1, by omega⟩
              have hlt : Q0 ≤ q' := by
                have := digit_high (q := q) (x := x0) (by rw [HYD.out]; exact HR1L.out) HX0.out HI1.out (.inl hqb)
                rw [HYD.out, HQ0.out] at this
                omega
              have HI2 : Hid (R1 = q' * y1 + (r + y1)) := by have := HI1.out; rw [hq'] at this; exact digit_down this
              have HI3 : Hid (q' ≤ B32) := Lib.hid (by omega)
              clear hqb
              obtain ⟨r2, hr2⟩ : ∃ r2, r + y1 = r2 := ⟨_, rfl⟩
              rw [hr2] at HI2
              have g1 : IntKind.u64.wrap ((q : Int) - 1) = (q' : Nat) := by rw [hq', IntKind.wrap_u64]; unfold B32 at hi3; omega
              have g2 : IntKind.u64.wrap ((r : Int) + (y1 : Int)) = (r2 : Nat) := by have := HY2.out; rw [IntKind.wrap_u64]; unfold B32 at *; omega
              by_cases hbr : 4294967296 ≤ r2
              · have he : Q0 = q' := by
                  have h := digit_brk (x := x0) (by rw [HYD.out]; exact HR1L.out) HY0.out HI2.out HI3.out hbr
                  rw [HYD.out, HQ0.out] at h
                  exact Nat.le_antisymm hlt h
                have t1 : decide (c4 ≤ (r2 : Int)) = true := decide_eq_true (by omega)
                clear hq' hlt HI1 hi2 hi3 hi4 HI2 hbr hc4
                subst he
                go_wp2
                go_ret2
                exact ⟨rfl, 0, rfl⟩
              · have hr3 : r2 < B32 := by unfold B32; omega
                have t1 : decide (c4 ≤ (r2 : Int)) = false := decide_eq_false (by omega)
                have HI5 := Lib.hid hr3
                have HLT := Lib.hid (And.intro hlt hq')
                clear hi2 hi3 hi4 hr3 hbr hlt hq' hc4
                go_wp2_with fail
                go_round
                case rel => exact ⟨q', r2, rfl, rfl, HI2.out, HLT.out.1, by have := HI3.out; omega, HI5.out⟩
                case measure => have := HLT.out.2; simp [intOf]; omega
            · have t0 : decide (c4 ≤ (q : Int)) = false := decide_eq_false (by omega)
              have hqs : q < B32 := by unfold B32; omega
              obtain ⟨P, hP⟩ : ∃ P, q * y0 = P := ⟨_, rfl⟩
              have hPb : P < B64 := by rw [← hP]; exact Nat.mul_lt_mul'' hqs HY0.out
              obtain ⟨T, hT⟩ : ∃ T, B32 * r = T := ⟨_, rfl⟩
              obtain ⟨W, hW⟩ : ∃ W, T + x0 = W := ⟨_, rfl⟩
              have hWb : T + x0 < B64 := by have := HX0.out; unfold B32 at *; unfold B64; omega
              have g3 : IntKind.u64.wrap ((q : Int) * (y0 : Int)) = (P : Nat) := by rw [wrapMul, hP, Nat.mod_eq_of_lt hPb]
              have g4 : IntKind.u64.wrap (c4 * (r : Int)) = (T : Nat) := by rw [hc4, IntKind.wrap_u64]; unfold B32 at hT hi4; omega
              have g5 : IntKind.u64.wrap ((T : Int) + (x0 : Int)) = (W : Nat) := by rw [wrapAdd, Nat.mod_eq_of_lt hWb, hW]
              by_cases ht : W < P
              · have t2 : decide (W < P) = true := decide_eq_true ht
                obtain ⟨q', hq'⟩ : ∃ q', q = q' + 1 := ⟨q - 1, by
                  rcases Nat.eq_zero_or_pos q with h | h
                  · rw [h, Nat.zero_mul] at hP; omega
                  · omega⟩
                have hlt : Q0 ≤ q' := by
                  have := digit_high (q := q) (x := x0) (by rw [HYD.out]; exact HR1L.out) HX0.out HI1.out (.inr (by rw [hP, hT, hW]; exact ht))
                  rw [HYD.out, HQ0.out] at this
                  omega
                have HI2 : Hid (R1 = q' * y1 + (r + y1)) := by have := HI1.out; rw [hq'] at this; exact digit_down this
                have HI3 : Hid (q' ≤ B32) := Lib.hid (by omega)
                clear hqb
                clear hP hT hW hPb hWb ht hqs
                obtain ⟨r2, hr2⟩ : ∃ r2, r + y1 = r2 := ⟨_, rfl⟩
                rw [hr2] at HI2
                have g1 : IntKind.u64.wrap ((q : Int) - 1) = (q' : Nat) := by rw [hq', IntKind.wrap_u64]; unfold B32 at hi3; omega
                have g2 : IntKind.u64.wrap ((r : Int) + (y1 : Int)) = (r2 : Nat) := by have := HY2.out; rw [IntKind.wrap_u64]; unfold B32 at *; omega
                by_cases hbr : 4294967296 ≤ r2
                · have he : Q0 = q' := by
                    have h := digit_brk (x := x0) (by rw [HYD.out]; exact HR1L.out) HY0.out HI2.out HI3.out hbr
                    rw [HYD.out, HQ0.out] at h
                    exact Nat.le_antisymm hlt h
                  have t1 : decide (c4 ≤ (r2 : Int)) = true := decide_eq_true (by omega)
                  clear hq' hlt HI1 hi2 hi3 hi4 HI2 hbr hc4
                  subst he
                  go_wp2
                  go_ret2
                  exact ⟨rfl, 0, rfl⟩
                · have hr3 : r2 < B32 := by unfold B32; omega
                  have t1 : decide (c4 ≤ (r2 : Int)) = false := decide_eq_false (by omega)
                  have HI5 := Lib.hid hr3
                  have HLT := Lib.hid (And.intro hlt hq')
                  clear hi2 hi3 hi4 hr3 hbr hlt hq' hc4
                  go_wp2_with fail
                  go_round
                  case rel => exact ⟨q', r2, rfl, rfl, HI2.out, HLT.out.1, by have := HI3.out; omega, HI5.out⟩
                  case measure => have := HLT.out.2; simp [intOf]; omega
              · have he : Q0 = q := by
                  have h := digit_low (x := x0) (by rw [HYD.out]; exact HR1L.out) HI1.out (by rw [hP, hT, hW]; omega)
                  rw [HYD.out, HQ0.out] at h
                  exact Nat.le_antisymm hi2 h
                have t2 : decide (W < P) = false := decide_eq_false ht
                clear hP hT hW hPb hWb HI1 hi2 hi3 hi4 ht hqs hqb hc4
                subst he
                go_wp2
                go_ret2
                exact ⟨rfl, 0, rfl⟩
        · have hr3 : r2 < B32 := by unfold B32; omega
          have t1 : decide (c4 ≤ (r2 : Int)) = false := decide_eq_false (by omega)
          have HI5 := Lib.hid hr3
          have HLT := Lib.hid (And.intro hlt hq')
          clear hi2 hi3 hi4 hr3 hbr hlt hq' hc4
          go_wp2_with fail
          go_round
          case rel => exact ⟨q', r2, rfl, rfl, HI2.out, HLT.out.1, by have := HI3.out; omega, HI5.out⟩
          case measure => have := HLT.out.2; simp [intOf]; omega
      · have he : Q1 = q := by
          have h := digit_low (x := x1) (by rw [HYD.out]; exact HN2.out) HI1.out (by rw [hP, hT, hW]; omega)
          rw [HYD.out, HQ1.out] at h
          exact Nat.le_antisymm hi2 h
        have t2 : decide (W < P) = false := decide_eq_false ht
        clear hP hT hW hPb hWb HI1 hi2 hi3 hi4 ht hqs hqb hc4
        subst he
        go_wp2_with fail
        go_loop [18, 16] (fun vq vr => ∃ q r : Nat, vq = .int .u64 (q : Nat) ∧ vr = .int .u64 (r : Nat) ∧ R1 = q * y1 + r ∧ Q0 ≤ q ∧ q ≤ B32 + 1 ∧ r < B32) (fun vq _ => (intOf vq).toNat)
        case atStart => exact ⟨qb, rb, rfl, rfl, HST2.out⟩
        case round =>
          obtain ⟨q, r, rfl, rfl, hi1, hi2, hi3, hi4⟩ := hrel
          obtain ⟨c4, hc4⟩ : ∃ c : Int, c = 4294967296 := ⟨_, rfl⟩
          rw [← hc4]
          have HI1 := Lib.hid hi1
          clear hi1
          have HI4 := Lib.hid (And.intro hi2 (And.intro hi3 hi4))
          by_cases hqb : 4294967296 ≤ q
          · have t0 : decide (c4 ≤ (q : Int)) = true := decide_eq_true (by omega)
            obtain ⟨q', hq'⟩ : ∃ q', q = q' + 1 := ⟨q - 1, by omega⟩
            have hlt : Q0 ≤ q' := by
              have := digit_high (q := q) (x := x0) (by rw [HYD.out]; exact HR1L.out) HX0.out HI1.out (.inl hqb)
              rw [HYD.out, HQ0.out] at this
              omega
            have HI2 : Hid (R1 = q' * y1 + (r + y1)) := by have := HI1.out; rw [hq'] at this; exact digit_down this
            have HI3 : Hid (q' ≤ B32) := Lib.hid (by omega)
            clear hqb
            obtain ⟨r2, hr2⟩ : ∃ r2, r + y1 = r2 := ⟨_, rfl⟩
            rw [hr2] at HI2
            have g1 : IntKind.u64.wrap ((q : Int) - 1) = (q' : Nat) := by rw [hq', IntKind.wrap_u64]; unfold B32 at hi3; omega
            have g2 : IntKind.u64.wrap ((r : Int) + (y1 : Int)) = (r2 : Nat) := by have := HY2.out; rw [IntKind.wrap_u64]; unfold B32 at *; omega
            by_cases hbr : 4294967296 ≤ r2
            · have he : Q0 = q' := by
                have h := digit_brk (x := x0) (by rw [HYD.out]; exact HR1L.out) HY0.out HI2.out HI3.out hbr
                rw [HYD.out, HQ0.out] at h
                exact Nat.le_antisymm hlt h
              have t1 : decide (c4 ≤ (r2 : Int)) = true := decide_eq_true (by omega)
              clear hq' hlt HI1 hi2 hi3 hi4 HI2 hbr hc4
              subst he
              go_wp2
              go_ret2
              exact ⟨rfl, 0, rfl⟩
            · have hr3 : r2 < B32 := by unfold B32; omega
              have t1 : decide (c4 ≤ (r2 : Int)) = false := decide_eq_false (by omega)
              have HI5 := Lib.hid hr3
              have HLT := Lib.hid (And.intro hlt hq')
              clear hi2 hi3 hi4 hr3 hbr hlt hq' hc4
              go_wp2_with fail
              go_round
              case rel => exact ⟨q', r2, rfl, rfl, HI2.out, HLT.out.1, by have := HI3.out; omega, HI5.out⟩
              case measure => have := HLT.out.2; simp [intOf]; omega
          · have t0 : decide (c4 ≤ (q : Int)) = false := decide_eq_false (by omega)
            have hqs : q < B32 := by unfold B32; omega
            obtain ⟨P, hP⟩ : ∃ P, q * y0 = P := ⟨_, rfl⟩
            have hPb : P < B64 := by rw [← hP]; exact Nat.mul_lt_mul'' hqs HY0.out
            obtain ⟨T, hT⟩ : ∃ T, B32 * r = T := ⟨_, rfl⟩
            obtain ⟨W, hW⟩ : ∃ W, T + x0 = W := ⟨_, rfl⟩
            have hWb : T + x0 < B64 := by have := HX0.out; unfold B32 at *; unfold B64; omega
            have g3 : IntKind.u64.wrap ((q : Int) * (y0 : Int)) = (P : Nat) := by rw [wrapMul, hP, Nat.mod_eq_of_lt hPb]
            have g4 : IntKind.u64.wrap (c4 * (r : Int)) = (T : Nat) := by rw [hc4, IntKind.wrap_u64]; unfold B32 at hT hi4; omega
            have g5 : IntKind.u64.wrap ((T : Int) + (x0 : Int)) = (W : Nat) := by rw [wrapAdd, Nat.mod_eq_of_lt hWb, hW]
            by_cases ht : W < P
            · have t2 : decide (W < P) = true := decide_eq_true ht
              obtain ⟨q', hq'⟩ : ∃ q', q = q' + 1 := ⟨q - 1, by
                rcases Nat.eq_zero_or_pos q with h | h
                · rw [h, Nat.zero_mul] at hP; omega
                · omega⟩
              have hlt : Q0 ≤ q' := by
                have := digit_high (q := q) (x := x0) (by rw [HYD.out]; exact HR1L.out) HX0.out HI1.out (.inr (by rw [hP, hT, hW]; exact ht))
                rw [HYD.out, HQ0.out] at this
                omega
              have HI2 : Hid (R1 = q' * y1 + (r + y1)) := by have := HI1.out; rw [hq'] at this; exact digit_down this
              have HI3 : Hid (q' ≤ B32) := Lib.hid (by omega)
              clear hqb
              clear hP hT hW hPb hWb ht hqs
              obtain ⟨r2, hr2⟩ : ∃ r2, r + y1 = r2 := ⟨_, rfl⟩
              rw [hr2] at HI2
              have g1 : IntKind.u64.wrap ((q : Int) - 1) = (q' : Nat) := by rw [hq', IntKind.wrap_u64]; unfold B32 at hi3; omega
              have g2 : IntKind.u64.wrap ((r : Int) + (y1 : Int)) = (r2 : Nat) := by have := HY2.out; rw [IntKind.wrap_u64]; unfold B32 at *; omega
              by_cases hbr : 4294967296 ≤ r2
              · have he : Q0 = q' := by
                  have h := digit_brk (x := x0) (by rw [HYD.out]; exact HR1L.out) HY0.out HI2.out HI3.out hbr
                  rw [HYD.out, HQ0.out] at h
                  exact Nat.le_antisymm hlt h
                have t1 : decide (c4 ≤ (r2 : Int)) = true := decide_eq_true (by omega)
                clear hq' hlt HI1 hi2 hi3 hi4 HI2 hbr hc4
                subst he
                go_wp2
                go_ret2
                exact ⟨rfl, 0, rfl⟩
              · have hr3 : r2 < B32 := by unfold B32; omega
                have t1 : decide (c4 ≤ (r2 : Int)) = false := decide_eq_false (by omega)
                have HI5 := Lib.hid hr3
                have HLT := Lib.hid (And.intro hlt hq')
                clear hi2 hi3 hi4 hr3 hbr hlt hq' hc4
                go_wp2_with fail
                go_round
                case rel => exact ⟨q', r2, rfl, rfl, HI2.out, HLT.out.1, by have := HI3.out; omega, HI5.out⟩
                case measure => have := HLT.out.2; simp [intOf]; omega
            · have he : Q0 = q := by
                have h := digit_low (x := x0) (by rw [HYD.out]; exact HR1L.out) HI1.out (by rw [hP, hT, hW]; omega)
                rw [HYD.out, HQ0.out] at h
                exact Nat.le_antisymm hi2 h
              have t2 : decide (W < P) = false := decide_eq_false ht
              clear hP hT hW hPb hWb HI1 hi2 hi3 hi4 ht hqs hqb hc4
              subst he
              go_wp2
              go_ret2
              exact ⟨rfl, 0, rfl⟩
end Go.Proofs.YtpodpdopgdkdkaaGreatDoor
