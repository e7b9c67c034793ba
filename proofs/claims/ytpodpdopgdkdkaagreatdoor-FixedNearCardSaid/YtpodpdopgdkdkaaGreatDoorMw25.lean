/- shortest.Fraction, Layout: a number as a fraction; the text of digits. · shortest.Layout: the text of digits, of which the last one has an exponent. · What fixed.Write and the document's Write tell. No conditions. · fixed.Write. No conditions. -/
import Derived.Test.YtpodpdopgdkdkaaGreatDoorMw23
import Derived.Test.YtpodpdopgdkdkaaGreatDoorMw21
import Derived.Test.YtpodpdopgdkdkaaGreatDoorMw24
import Derived.Lib.AppendIntMem
import Derived.Lib.ItoaLen
import Derived.Deep.RegionHeld3
set_option linter.unusedVariables false
set_option linter.unusedSimpArgs false
namespace Go.Proofs.YtpodpdopgdkdkaaGreatDoor
set_option linter.unusedVariables false
set_option linter.unusedSimpArgs false
open Go.RowKit
theorem trim_at (w : World) (a : Option Addr) (len cap : Nat) (xs : List Nat) (h : SlW w a len cap xs) (hp : Plain a) (hs : len ≤ 17592186044416) :
    Calls Tryz.prog 51 #[.slice a len cap] w (NatOne w (val xs)) :=
  (trim_calls w a len cap xs h hp hs).mono fun e w' ⟨a', c', he, ho, hb⟩ => by
    have hl : (xs.take (sz xs)).length = sz xs := by rw [List.length_take]; have := sz_le xs; omega
    refine ⟨_, he, ⟨a', c', xs.take (sz xs), by rw [hl], ?_, val_take_sz xs, ?_, ho.plain⟩, hb⟩
    · rw [hl]; exact ho.sl
    · rw [sz_take_sz, hl]
def frN (F : Nat) (x : Int) : Nat := F * 2 ^ x.toNat
def frD (x : Int) : Nat := 2 ^ (-x).toNat
/-- A datum's cells. -/
def datV (k : Int) (sg si : Bool) (x : Int) (c0 c1 c2 c3 : Nat) : Array Value := #[.int .i64 k, .bool sg, .bool si, .int .i64 x, .int .u64 (c0 : Nat), .int .u64 (c1 : Nat), .int .u64 (c2 : Nat), .int .u64 (c3 : Nat)]
theorem sl_coef {w : World} {g : Nat} {k : Int} {sg si : Bool} {x : Int} {c0 c1 c2 c3 : Nat} {t : TypeId} (hg : w.heap[g]? = some (.cells (datV k sg si x c0 c1 c2 c3) t)) (hc : W64 [c0, c1, c2, c3]) :
    SlW w (some ⟨g, 4, none⟩) 4 4 [c0, c1, c2, c3] := by
  refine ⟨rfl, by omega, by omega, hc, by simp, fun i hi => ⟨g, 4, rfl, ?_⟩⟩
  rw [cell_of_heap hg]
  rcases (show i = 0 ∨ i = 1 ∨ i = 2 ∨ i = 3 by omega) with rfl | rfl | rfl | rfl <;> rfl
theorem val4_lt {c0 c1 c2 c3 : Nat} (hc : W64 [c0, c1, c2, c3]) : val [c0, c1, c2, c3] < B64 ^ 4 := val_lt hc
set_option maxRecDepth 100000 in
set_option maxHeartbeats 4000000 in
theorem fraction_calls (w : World) (k : Int) (sg si : Bool) (x : Int) (c0 c1 c2 c3 : Nat) (hc : W64 [c0, c1, c2, c3]) (h0 : -20000 ≤ x) (h1 : x ≤ 20000) :
    Calls Tryz.prog 27 #[.agg (datV k sg si x c0 c1 c2 c3)] w (NatTwo w (frN (val [c0, c1, c2, c3]) x) (frD x)) := by
  have HC := Lib.hid hc
  have HK := Lib.hid (val4_lt hc)
  have HG := Lib.hid (heap_new w (.cells (datV k sg si x c0 c1 c2 c3) 31))
  have HSL := Lib.hid (sl_coef HG.out hc)
  have HT := Lib.hid (trim_at _ _ _ _ _ HSL.out (.inr ⟨_, _, rfl⟩) (by omega))
  have HB0 := Lib.hid (below_alloc (Below.refl w.heap.size w) (.cells (datV k sg si x c0 c1 c2 c3) 31))
  unfold datV at *
  clear hc
  go_enter Tryz.func27, Tryz.ntmps27
  go_wp2_with fail
  generalize (w.alloc (.cells #[.int .i64 k, .bool sg, .bool si, .int .i64 x, .int .u64 (c0 : Nat), .int .u64 (c1 : Nat), .int .u64 (c2 : Nat), .int .u64 (c3 : Nat)] 31)) = v0 at HG HSL HT HB0 ⊢
  refine HT.out.mono ?_
  rintro e w1 ⟨u, rfl, hu, hb1⟩
  have HU := Lib.hid hu
  have HB1 := Lib.hid (below_then HB0.out hb1)
  have HG1 := Lib.hid (below_heap hb1 HG.out)
  clear hu hb1 HT HSL HG HB0
  go_wp2_with fail
  refine (natOf_at _ 1 (by decide)).mono ?_
  rintro e w2 ⟨v, rfl, hv, hb2⟩
  have HV := Lib.hid hv
  have HU2 := Lib.hid (HU.out.below hb2)
  have HB2 := Lib.hid (below_then HB1.out hb2)
  have HG2 := Lib.hid (below_heap hb2 HG1.out)
  clear hv hb2 HG1
  have d3 : w2.cell? ⟨w.heap.size, 3, none⟩ = some (.int .i64 x) := cell_of_heap HG2.out 3
  rcases Int.le_total 0 x with hp | hp
  · obtain ⟨n, rfl⟩ : ∃ n : Nat, x = (n : Int) := ⟨x.toNat, by omega⟩
    have HS := Lib.hid (shl_at w2 n HU2.out HK.out (by omega))
    go_wp2_with fail
    refine HS.out.mono ?_
    rintro e w3 ⟨y, rfl, hy, hb3⟩
    have HY := Lib.hid hy
    have HV3 := Lib.hid (HV.out.below hb3)
    have HB3 := Lib.hid (below_then HB2.out hb3)
    clear hy hb3
    go_wp2
    go_ret2
    refine ⟨_, _, rfl, ?_, ?_, HB3.out⟩
    · unfold frN; rw [Int.toNat_natCast]; exact HY.out
    · unfold frD; rw [show (-(n : Int)).toNat = 0 by omega]; exact HV3.out
  · obtain ⟨n, rfl⟩ : ∃ n : Nat, x = -(n : Int) := ⟨(-x).toNat, by omega⟩
    by_cases hn0 : n = 0
    · subst hn0
      have HS := Lib.hid (shl_at w2 0 HU2.out HK.out (by omega))
      go_wp2_with fail
      refine HS.out.mono ?_
      rintro e w3 ⟨y, rfl, hy, hb3⟩
      have HY := Lib.hid hy
      have HV3 := Lib.hid (HV.out.below hb3)
      have HB3 := Lib.hid (below_then HB2.out hb3)
      clear hy hb3
      go_wp2
      go_ret2
      exact ⟨_, _, rfl, HY.out, HV3.out, HB3.out⟩
    · have hlt : -(n : Int) < 0 := by omega
      have HS := Lib.hid (shl_at w2 n HV.out (show 1 < B64 ^ 1 by decide) (by omega))
      clear hp
      go_wp2_with fail
      refine HS.out.mono ?_
      rintro e w3 ⟨y, rfl, hy, hb3⟩
      have HY := Lib.hid hy
      have HU3 := Lib.hid (HU2.out.below hb3)
      have HB3 := Lib.hid (below_then HB2.out hb3)
      clear hy hb3
      go_wp2
      go_ret2
      refine ⟨_, _, rfl, ?_, ?_, HB3.out⟩
      · unfold frN; rw [show (-(n : Int)).toNat = 0 by omega, Nat.pow_zero, Nat.mul_one]; exact HU3.out
      · have h := HY.out; rw [Nat.one_mul] at h; unfold frD; rw [show (- -(n : Int)).toNat = n by omega]; exact h
end Go.Proofs.YtpodpdopgdkdkaaGreatDoor
namespace Go.Proofs.YtpodpdopgdkdkaaGreatDoor
set_option linter.unusedVariables false
set_option linter.unusedSimpArgs false
open Go.RowKit
theorem wr_size {t : ByteArray} {l : List UInt8} (h : t.data.toList = l) : t.size = l.length := by rw [← h]; simp
theorem wr_bytes {t : ByteArray} {l : List UInt8} (h : t.data.toList = l) : t = ⟨l.toArray⟩ := by subst h; rfl
theorem wr_ret {a : ByteArray} {l : List UInt8} (h : a.data.toList = l) : Ending.returned (.string a) = .returned (.string ⟨l.toArray⟩) := by rw [wr_bytes h]
theorem wr_itoa (x : Int) (h0 : -9223372036854775808 ≤ x) (h1 : x ≤ 9223372036854775807) (w : World) (hT : Tab10 w) :
    Calls Tryz.prog 59 #[.int .i64 x] w fun e w' => e = .returned (.string ⟨(Lib.itoa x).toArray⟩) ∧ Below w.heap.size w w' :=
  (Tryz.strconv_Itoa x h0 h1 w hT).mono fun e w' ⟨he, k, os, hw⟩ => ⟨he, by rw [hw]; exact Lib.below_grow _ w (Nat.le_refl _) k os⟩
theorem wr_drop {t : ByteArray} {l : List UInt8} (h : t.data.toList = l) (k : Nat) : (t.extract k t.size).data.toList = l.drop k := by
  subst h
  rw [ByteArray.data_extract, Array.toList_extract]
  show List.take (t.data.size - k) _ = _
  rw [List.take_of_length_le (by simp)]
theorem wr_take {t : ByteArray} {l : List UInt8} (h : t.data.toList = l) (k : Nat) : (t.extract 0 k).data.toList = l.take k := by
  subst h
  rw [ByteArray.data_extract, Array.toList_extract]
  simp
theorem wr_app (a b : ByteArray) : (a ++ b).data.toList = a.data.toList ++ b.data.toList := by rw [ByteArray.data_append]; simp
set_option maxRecDepth 100000 in
set_option maxHeartbeats 4000000 in
theorem layout_calls (w : World) (sg : Bool) (S : ByteArray) (l : List UInt8) (e : Int) (hS : S.data.toList = l) (hl : 1 ≤ l.length) (hl2 : l.length ≤ 100000) (h0 : -100000 ≤ e) (h1 : e ≤ 100000) (hT : Tab10 w) :
    Calls Tryz.prog 25 #[.bool sg, .string S, .int .i64 e] w fun r w' => r = .returned (.string ⟨(layL sg l e).toArray⟩) ∧ Below w.heap.size w w' := by
  have hsz := wr_size hS
  obtain ⟨n, hn⟩ : ∃ n, l.length = n := ⟨_, rfl⟩
  rw [hn] at hsz hl hl2
  have HI := Lib.hid (fun W (hW : Below w.heap.size w W) => wr_itoa (e + ((n : Int) - 1)) (by omega) (by omega) W (tabIs_below hT hW))
  obtain ⟨X, hX⟩ : ∃ X : ByteArray, X = ⟨(Lib.itoa (e + ((n : Int) - 1))).toArray⟩ := ⟨_, rfl⟩
  have HX : Hid (X.data.toList = Lib.itoa (e + ((n : Int) - 1))) := Lib.hid (by rw [hX])
  have hXs : X.size ≤ 21 := by rw [wr_size HX.out]; exact Lib.itoa_length_le _ (by omega) (by omega)
  rw [← hX] at HI
  have HS := Lib.hid hS
  have HN := Lib.hid hn
  have HXE : Hid (X.data.toList = Lib.itoa (e + l.length - 1)) := Lib.hid (by rw [HX.out, hn]; congr 1; omega)
  clear hS hX hn
  have hss : S.size ≤ 100000 := by omega
  by_cases hn1 : 1 < n
  · have hgt : (1 : Int) < (n : Int) := by omega
    have HL : Hid (1 < l.length) := Lib.hid (by rw [HN.out]; exact hn1)
    have HTK := Lib.hid (wr_take HS.out 1)
    have HDR := Lib.hid (by have h := wr_drop HS.out 1; rw [hsz] at h; exact h)
    cases sg
    · go_enter Tryz.func25, Tryz.ntmps25
      go_wp2_with fail
      go_quiet (fail)
      go_wp2_with fail
      refine (HI.out _ (below_drewN' (Below.refl _ _) nq)).mono ?_
      rintro r w1 ⟨rfl, hb1⟩
      have HB1 := Lib.hid (below_then (below_drewN' (Below.refl _ _) nq) hb1)
      clear hb1
      go_wp2
      go_ret
      refine ⟨wr_ret ?_, HB1.out⟩
      simp only [wr_app, HTK.out, HDR.out, HXE.out, layL, if_pos HL.out]
      simp
    · go_enter Tryz.func25, Tryz.ntmps25
      go_wp2_with fail
      go_quiet (fail)
      go_wp2_with fail
      refine (HI.out _ (below_drewN' (Below.refl _ _) nq)).mono ?_
      rintro r w1 ⟨rfl, hb1⟩
      have HB1 := Lib.hid (below_then (below_drewN' (Below.refl _ _) nq) hb1)
      clear hb1
      go_wp2
      go_ret
      refine ⟨wr_ret ?_, HB1.out⟩
      simp only [wr_app, HTK.out, HDR.out, HXE.out, layL, if_pos HL.out]
      simp
  · obtain rfl : n = 1 := by omega
    have HL : Hid (¬ 1 < l.length) := Lib.hid (by rw [HN.out]; omega)
    have HT1 : Hid (l.take 1 = l) := Lib.hid (List.take_of_length_le (by rw [HN.out]; omega))
    clear hn1
    rw [show e + (((1 : Nat) : Int) - 1) = e by omega] at HI
    cases sg
    · go_enter Tryz.func25, Tryz.ntmps25
      go_wp2_with fail
      refine (HI.out _ (Below.refl _ _)).mono ?_
      rintro r w1 ⟨rfl, hb1⟩
      have HB1 := Lib.hid (below_then (Below.refl _ _) hb1)
      clear hb1
      go_wp2
      go_ret
      refine ⟨wr_ret ?_, HB1.out⟩
      simp only [wr_app, HS.out, HXE.out, layL, if_neg HL.out]
      simp [HT1.out]
    · go_enter Tryz.func25, Tryz.ntmps25
      go_wp2_with fail
      refine (HI.out _ (Below.refl _ _)).mono ?_
      rintro r w1 ⟨rfl, hb1⟩
      have HB1 := Lib.hid (below_then (Below.refl _ _) hb1)
      clear hb1
      go_wp2
      go_ret
      refine ⟨wr_ret ?_, HB1.out⟩
      simp only [wr_app, HS.out, HXE.out, layL, if_neg HL.out]
      simp [HT1.out]
end Go.Proofs.YtpodpdopgdkdkaaGreatDoor
namespace Go.Proofs.YtpodpdopgdkdkaaGreatDoor
set_option linter.unusedVariables false
set_option linter.unusedSimpArgs false
open Go.RowKit
def wrNo (er : Int) : Value := .tuple #[.string ⟨#[]⟩, .bool false, .int .i64 er]
def wrText (sg : Bool) (A D : Nat) (dir : Int) (cnt : Nat) (t : Int) : List UInt8 :=
  let s := Lib.decDigits (quoR dir sg (scN A (-(t - cnt + 1))) (scD D (-(t - cnt + 1))))
  if cnt < s.length then layL sg (s.take cnt) (t - cnt + 1 + 1) else layL sg s (t - cnt + 1)
def wrMore (A D : Nat) (cnt : Nat) (t : Int) : Bool := decide (scN A (-(t - cnt + 1)) % scD D (-(t - cnt + 1)) ≠ 0)
def sgF (V P X : Nat) : Bool := ((V / 2 ^ (P + X - 1) % 2 : Nat) : Int) == 1
def wrVal (V P X : Nat) (L dir cnt t : Int) : Value :=
  if ¬ (1 ≤ cnt ∧ cnt ≤ 800) then wrNo 3
  else if ¬ V / 2 ^ (P - 1) % 2 ^ X < 2 ^ X - 1 then wrNo 6
  else if coefF V P X = 0 then .tuple #[.string ⟨(layL (sgF V P X) (List.replicate cnt.toNat 48) (1 - cnt)).toArray⟩, .bool false, .int .i64 0]
  else .tuple #[.string ⟨(wrText (sgF V P X) (frN (coefF V P X) (expF V P X L)) (frD (expF V P X L)) dir cnt.toNat t).toArray⟩, .bool (wrMore (frN (coefF V P X) (expF V P X L)) (frD (expF V P X L)) cnt.toNat t), .int .i64 0]
/-- There is a number to write, and its digits are asked for. -/
def wrLive (V P X : Nat) (cnt : Int) : Prop := (1 ≤ cnt ∧ cnt ≤ 800) ∧ V / 2 ^ (P - 1) % 2 ^ X < 2 ^ X - 1 ∧ coefF V P X ≠ 0
def WrIs (n dir cnt : Int) (b0 b1 b2 b3 : Nat) (w : World) (e : Ending) (w' : World) : Prop := Below w.heap.size w w' ∧
  ((¬ ((1 ≤ n ∧ n ≤ 6 ∧ (blen (val [b0, b1, b2, b3]) : Int) ≤ wdF n) ∧ 0 ≤ dir ∧ dir ≤ 4) ∧ e = .returned (wrNo 1)) ∨
   ((0 ≤ dir ∧ dir ≤ 4) ∧ ∃ P X L t, Inf6 n P X L ∧ (blen (val [b0, b1, b2, b3]) : Int) ≤ wdF n ∧
      (wrLive (val [b0, b1, b2, b3]) P X cnt → isTens (frN (coefF (val [b0, b1, b2, b3]) P X) (expF (val [b0, b1, b2, b3]) P X L)) (frD (expF (val [b0, b1, b2, b3]) P X L)) t) ∧
      e = .returned (wrVal (val [b0, b1, b2, b3]) P X L dir cnt t)))
theorem wrIs_same {n dir cnt : Int} {b0 b1 b2 b3 : Nat} {w w' u u' : World} {e e' : Ending} (h : WrIs n dir cnt b0 b1 b2 b3 w e w') (h' : WrIs n dir cnt b0 b1 b2 b3 u e' u') : e = e' := by
  obtain ⟨-, h⟩ := h
  obtain ⟨-, h'⟩ := h'
  rcases h with ⟨k, rfl⟩ | ⟨hd, P, X, L, t, hI, hb, ht, rfl⟩ <;> rcases h' with ⟨k', rfl⟩ | ⟨hd', P', X', L', t', hI', hb', ht', rfl⟩
  · rfl
  · exact absurd ⟨⟨hI'.rng.1, hI'.rng.2, hb'⟩, hd'⟩ k
  · exact absurd ⟨⟨hI.rng.1, hI.rng.2, hb⟩, hd⟩ k'
  · obtain ⟨rfl, rfl, rfl⟩ := hI.uniq hI'
    by_cases h1 : 1 ≤ cnt ∧ cnt ≤ 800
    · by_cases h2 : val [b0, b1, b2, b3] / 2 ^ (P - 1) % 2 ^ X < 2 ^ X - 1
      · by_cases hc : coefF (val [b0, b1, b2, b3]) P X = 0
        · unfold wrVal; simp only [if_pos hc]
        · rw [tens_unique (ht ⟨h1, h2, hc⟩) (ht' ⟨h1, h2, hc⟩)]
      · unfold wrVal; simp only [if_pos h2]
    · unfold wrVal; simp only [if_pos h1]
theorem coef_lt {V P X : Nat} (h : 2 ≤ P) : coefF V P X < 2 ^ P := by
  have h1 : V % 2 ^ (P - 1) < 2 ^ (P - 1) := Nat.mod_lt _ (Nat.pow_pos (by decide))
  have e : 2 ^ P = 2 * 2 ^ (P - 1) := by rw [← Nat.pow_succ']; congr 1; omega
  unfold coefF
  split
  · omega
  · exact Nat.or_lt_two_pow (by omega) (by omega)
theorem Inf6.lim {n : Int} {P X : Nat} {L : Int} (h : Inf6 n P X L) : -17000 ≤ L ∧ L + 2 ^ X ≤ 17000 := by
  obtain ⟨h1, h2⟩ := h.rng
  rcases (show n = 1 ∨ n = 2 ∨ n = 3 ∨ n = 4 ∨ n = 5 ∨ n = 6 by omega) with rfl | rfl | rfl | rfl | rfl | rfl
  · obtain ⟨rfl, rfl, rfl⟩ := h.uniq (show Inf6 1 11 5 (-24) from ⟨by decide, by decide, by decide, rfl, _, _, _, _, _, inf_lit1⟩); decide
  · obtain ⟨rfl, rfl, rfl⟩ := h.uniq (show Inf6 2 8 8 (-133) from ⟨by decide, by decide, by decide, rfl, _, _, _, _, _, inf_lit2⟩); decide
  · obtain ⟨rfl, rfl, rfl⟩ := h.uniq (show Inf6 3 24 8 (-149) from ⟨by decide, by decide, by decide, rfl, _, _, _, _, _, inf_lit3⟩); decide
  · obtain ⟨rfl, rfl, rfl⟩ := h.uniq (show Inf6 4 53 11 (-1074) from ⟨by decide, by decide, by decide, rfl, _, _, _, _, _, inf_lit4⟩); decide
  · obtain ⟨rfl, rfl, rfl⟩ := h.uniq (show Inf6 5 113 15 (-16494) from ⟨by decide, by decide, by decide, rfl, _, _, _, _, _, inf_lit5⟩); decide
  · obtain ⟨rfl, rfl, rfl⟩ := h.uniq (show Inf6 6 241 15 (-16622) from ⟨by decide, by decide, by decide, rfl, _, _, _, _, _, inf_lit6⟩); decide
theorem exp_rng {n : Int} {V P X : Nat} {L : Int} (h : Inf6 n P X L) (hE : V / 2 ^ (P - 1) % 2 ^ X < 2 ^ X - 1) : -17000 ≤ expF V P X L ∧ expF V P X L ≤ 17000 := by
  have hL := h.lim
  have hL2 := h.hL
  unfold expF
  generalize V / 2 ^ (P - 1) % 2 ^ X = q at hE ⊢
  have hc : (((2 ^ X : Nat) : Int)) = 2 ^ X := by simp
  rw [← hc] at hL
  generalize 2 ^ X = q2 at hE hL
  omega
theorem frN_lt {n : Int} {V P X : Nat} {L : Int} (h : Inf6 n P X L) (hE : V / 2 ^ (P - 1) % 2 ^ X < 2 ^ X - 1) {k : Nat} (hk : 300 = k) : frN (coefF V P X) (expF V P X L) < B64 ^ k := by
  have h1 := (exp_rng h hE).2
  have h2 := coef_lt (V := V) (X := X) h.hP.1
  unfold frN
  rw [B64_pow]
  obtain ⟨y, hy⟩ : ∃ y : Nat, y = 17000 := ⟨_, rfl⟩
  have h3 : 2 ^ (expF V P X L).toNat ≤ 2 ^ y := Nat.pow_le_pow_right (by decide) (by omega)
  have h4 : coefF V P X * 2 ^ (expF V P X L).toNat < 2 ^ P * 2 ^ y := Nat.mul_lt_mul_of_lt_of_le h2 h3 (Nat.pow_pos (by decide))
  rw [← Nat.pow_add] at h4
  have h5 : 2 ^ (P + y) ≤ 2 ^ (64 * k) := Nat.pow_le_pow_right (by decide) (by have := h.hP.2; omega)
  exact Nat.lt_of_lt_of_le h4 h5
theorem frD_lt {n : Int} {V P X : Nat} {L : Int} (h : Inf6 n P X L) (hE : V / 2 ^ (P - 1) % 2 ^ X < 2 ^ X - 1) {k : Nat} (hk : 300 = k) : frD (expF V P X L) < B64 ^ k := by
  have h1 := (exp_rng h hE).1
  unfold frD
  rw [B64_pow]
  exact Nat.pow_lt_pow_right (by decide) (by omega)
theorem frN_pos {F : Nat} {x : Int} (h : F ≠ 0) : 0 < frN F x := Nat.mul_pos (Nat.pos_of_ne_zero h) (Nat.pow_pos (by decide))
theorem frD_pos (x : Int) : 0 < frD x := Nat.pow_pos (by decide)
/-- With as many digits as are asked for there is something to write. -/
theorem quo_pos {A D : Nat} {t : Int} (h : isTens A D t) {e : Int} (he : e ≤ t) (hD : 0 < D) (dir : Int) (sg : Bool) : 0 < quoR dir sg (scN A (-e)) (scD D (-e)) := by
  have h1 : scD D (-e) ≤ scN A (-e) := sc_le.2 ((tens_iff h e).2 he)
  have h2 := quoR_ge dir sg (scN A (-e)) (scD D (-e))
  have h3 := Nat.div_pos h1 (scD_ne hD)
  omega
end Go.Proofs.YtpodpdopgdkdkaaGreatDoor
namespace Go.Proofs.YtpodpdopgdkdkaaGreatDoor
set_option linter.unusedVariables false
set_option linter.unusedSimpArgs false
open Go.RowKit
theorem digits_at (w : World) {s : Value} {m k : Nat} (hs : NatAt w m s) (hm : m < B64 ^ k) (hk : k ≤ 2000) (hT : Tab10 w) :
    Calls Tryz.prog 31 #[s] w fun e w' => e = .returned (.tuple #[.string ⟨(Lib.decDigits m).toArray⟩, .int .i64 0]) ∧ Below w.heap.size w w' := by
  obtain ⟨a, c, xs, rfl, a1, rfl, a3, a4⟩ := hs
  have l1 := val_len a1.hw a3 rfl hm
  have h := digits_calls w a _ c xs a1 a4 (by omega) hT
  unfold digVal digErr at h
  rw [if_neg (by omega), if_neg (by omega)] at h
  exact h
theorem repeat_at (c : Nat) (hc : c ≤ 100000) (w : World) : Calls Tryz.prog 26 #[.string ⟨#[48]⟩, .int .i64 (c : Nat)] w fun e w' => e = .returned (.string ⟨(List.replicate c 48).toArray⟩) ∧ Below w.heap.size w w' := by
  have h := Tryz.strings_Repeat ⟨#[48]⟩ c w (by omega) (by show 1 * c ≤ _; omega)
  have e : Lib.repeatL (⟨#[48]⟩ : ByteArray).data.toList c = List.replicate c 48 := repeatL_zero c
  rw [e] at h
  exact h
theorem dig_len {m k : Nat} (h : m < B64 ^ k) (hk : 0 < k) : (Lib.decDigits m).length ≤ 64 * k := by rw [Lib.decDigits_length]; exact nDigits_bound h hk
theorem dig_one (m : Nat) : 1 ≤ (Lib.decDigits m).length := by rw [Lib.decDigits_length]; exact Lib.nDigits_pos m
theorem val4_zero {c0 c1 c2 c3 : Nat} (h : val [c0, c1, c2, c3] = 0) : c0 = 0 ∧ c1 = 0 ∧ c2 = 0 ∧ c3 = 0 := by
  simp only [val] at h
  unfold B64 at h
  omega
theorem four_ne {c0 c1 c2 c3 : Nat} (h : ¬ (c0 = 0 ∧ c1 = 0 ∧ c2 = 0 ∧ c3 = 0)) : ((((c0 : Nat) : Int) == 0) && ((((c1 : Nat) : Int) == 0) && ((((c2 : Nat) : Int) == 0) && (((c3 : Nat) : Int) == 0)))) = false := by
  rw [Bool.eq_false_iff]
  intro hh
  simp at hh
  exact h hh
theorem wr_zero {V P X m : Nat} {L dir cnt t : Int} {sg : Bool} (hc : 1 ≤ cnt ∧ cnt ≤ 800) (hm : cnt = (m : Int)) (hE : V / 2 ^ (P - 1) % 2 ^ X < 2 ^ X - 1) (h0 : coefF V P X = 0) (hs : sgF V P X = sg) :
    wrVal V P X L dir cnt t = .tuple #[.string ⟨(layL sg (List.replicate m 48) (1 - (m : Int))).toArray⟩, .bool false, .int .i64 0] := by
  unfold wrVal
  rw [if_neg (not_not_intro hc), if_neg (not_not_intro hE), if_pos h0, hs, hm, Int.toNat_natCast]
theorem wr_main {V P X m A D : Nat} {L dir cnt t x : Int} {sg : Bool} (hc : 1 ≤ cnt ∧ cnt ≤ 800) (hm : cnt = (m : Int)) (hE : V / 2 ^ (P - 1) % 2 ^ X < 2 ^ X - 1) {F : Nat} (hF : coefF V P X = F) (h0 : F ≠ 0) (hx : expF V P X L = x) (hA : frN F x = A) (hD : frD x = D) (hs : sgF V P X = sg) :
    wrVal V P X L dir cnt t = .tuple #[.string ⟨(wrText sg A D dir m t).toArray⟩, .bool (wrMore A D m t), .int .i64 0] := by
  unfold wrVal
  rw [if_neg (not_not_intro hc), if_neg (not_not_intro hE), hF, if_neg h0, hs, hm, Int.toNat_natCast, hx, hA, hD]
theorem wr_text1 {sg : Bool} {A D : Nat} {dir : Int} {m : Nat} {t : Int} {s : List UInt8} (h : Lib.decDigits (quoR dir sg (scN A (-(t - m + 1))) (scD D (-(t - m + 1)))) = s) (hl : m < s.length) : wrText sg A D dir m t = layL sg (s.take m) (t - m + 1 + 1) := by
  unfold wrText; rw [h]; exact if_pos hl
theorem wr_text2 {sg : Bool} {A D : Nat} {dir : Int} {m : Nat} {t : Int} {s : List UInt8} (h : Lib.decDigits (quoR dir sg (scN A (-(t - m + 1))) (scD D (-(t - m + 1)))) = s) (hl : ¬ m < s.length) : wrText sg A D dir m t = layL sg s (t - m + 1) := by
  unfold wrText; rw [h]; exact if_neg hl
set_option maxRecDepth 100000 in
set_option maxHeartbeats 8000000 in
theorem write_calls (n dir cnt : Int) (b0 b1 b2 b3 : Nat) (hb : W64 [b0, b1, b2, b3]) (hc0 : -9223372036854775808 ≤ cnt) (hc1 : cnt ≤ 9223372036854775807) (w : World) (hT : Tab10 w) :
    Calls Tryz.prog 9 #[.int .i64 n, .int .i64 dir, .int .i64 cnt, bitsV b0 b1 b2 b3] w (WrIs n dir cnt b0 b1 b2 b3 w) := by
  have HU := Lib.hid (fun W => unpack_calls n b0 b1 b2 b3 hb W)
  have HT := Lib.hid hT
  unfold bitsV at *
  clear hb hT
  go_enter Tryz.func9, Tryz.ntmps9
  go_wp2_with fail
  have HB0 := Lib.hid (below_alloc (Below.refl w.heap.size w) (.cells #[.int .u64 (b0 : Nat), .int .u64 (b1 : Nat), .int .u64 (b2 : Nat), .int .u64 (b3 : Nat)] 24))
  have HP0 : Hid ((w.alloc (.cells #[.int .u64 (b0 : Nat), .int .u64 (b1 : Nat), .int .u64 (b2 : Nat), .int .u64 (b3 : Nat)] 24)).heap[w.heap.size]? = _) := Lib.hid (heap_new w (.cells #[.int .u64 (b0 : Nat), .int .u64 (b1 : Nat), .int .u64 (b2 : Nat), .int .u64 (b3 : Nat)] 24))
  generalize (w.alloc (.cells #[.int .u64 (b0 : Nat), .int .u64 (b1 : Nat), .int .u64 (b2 : Nat), .int .u64 (b3 : Nat)] 24)) = v0 at HB0 HP0 ⊢
  refine (HU.out _).mono ?_
  intro e w1 hr
  rcases hr with ⟨P, X, L, H, hlen, hb1, hfin, hinf⟩ | ⟨hbad, rfl, hb1⟩
  · have HB1 := Lib.hid (below_then HB0.out hb1)
    have HP1 := Lib.hid (below_heap hb1 HP0.out)
    have HH := Lib.hid (And.intro H hlen)
    have HR := Lib.hid (fun W => fRight_calls W dir)
    clear hb1 HB0 HP0 HU
    by_cases hE : val [b0, b1, b2, b3] / 2 ^ (P - 1) % 2 ^ X < 2 ^ X - 1
    · obtain ⟨c0, c1, c2, c3, hcw, hcv, rfl⟩ := hfin hE
      have HC := Lib.hid (And.intro hcw hcv)
      have HE := Lib.hid hE
      obtain ⟨sg, hsg⟩ : ∃ sg : Bool, (((val [b0, b1, b2, b3] / 2 ^ (P + X - 1) % 2 : Nat) : Int) == 1) = sg := ⟨_, rfl⟩
      obtain ⟨x, hx⟩ : ∃ x, L + max (((val [b0, b1, b2, b3] / 2 ^ (P - 1) % 2 ^ X : Nat) : Int) - 1) 0 = x := ⟨_, rfl⟩
      rw [hsg, hx]
      have HX := Lib.hid hx
      have HSG := Lib.hid hsg
      clear hsg hx hcw hcv hfin hinf H hlen hE
      by_cases hd : 0 ≤ dir ∧ dir ≤ 4
      · rw [decide_eq_true hd] at HR
        have HDR := Lib.hid hd
        by_cases hcn : 1 ≤ cnt ∧ cnt ≤ 800
        · have HCN := Lib.hid hcn
          obtain ⟨hcn1, hcn2⟩ := hcn
          clear hd
          by_cases hz : c0 = 0 ∧ c1 = 0 ∧ c2 = 0 ∧ c3 = 0
          · obtain ⟨rfl, rfl, rfl, rfl⟩ := hz
            obtain ⟨m, rfl⟩ : ∃ m : Nat, cnt = (m : Int) := ⟨cnt.toNat, by omega⟩
            obtain ⟨Z, hZ⟩ : ∃ Z : ByteArray, Z = ⟨(List.replicate m 48).toArray⟩ := ⟨_, rfl⟩
            have HRP := Lib.hid (fun W => repeat_at m (by omega) W)
            rw [← hZ] at HRP
            have HZ := Lib.hid hZ
            clear hZ
            have HLY := Lib.hid (fun W (hS : W.cell? ⟨w1.heap.size, 1, none⟩ = some (.bool sg) ∧ Below w.heap.size w W) => layout_calls W sg Z (List.replicate m 48) (1 - m) (by rw [HZ.out]) (by rw [List.length_replicate]; omega) (by rw [List.length_replicate]; omega) (by omega) (by omega) (tabIs_below HT.out hS.2))
            have heq := fun W => bits_eqIn W 0 0 0 0 0 0 0 0
            simp only [beq_self_eq_true, Bool.and_self] at heq
            have hcd : (decide ((m : Int) < 1) || decide ((800 : Int) < (m : Int))) = false := by rw [decide_eq_false (by omega), decide_eq_false (by omega)]; rfl
            go_wp2_with fail
            refine (HR.out _).mono ?_
            rintro e w9 ⟨rfl, rfl⟩
            go_wp2_with fail
            have d1 : (w1.alloc (.cells #[.int .i64 1, .bool sg, .bool false, .int .i64 x, .int .u64 0, .int .u64 0, .int .u64 0, .int .u64 0] 31)).cell? ⟨w1.heap.size, 1, none⟩ = some (.bool sg) := cell_of_heap (heap_new w1 (.cells #[.int .i64 1, .bool sg, .bool false, .int .i64 x, .int .u64 0, .int .u64 0, .int .u64 0, .int .u64 0] 31)) 1
            have hB2 := below_alloc HB1.out (.cells #[.int .i64 1, .bool sg, .bool false, .int .i64 x, .int .u64 0, .int .u64 0, .int .u64 0, .int .u64 0] 31)
            generalize (w1.alloc (.cells #[.int .i64 1, .bool sg, .bool false, .int .i64 x, .int .u64 0, .int .u64 0, .int .u64 0, .int .u64 0] 31)) = v2 at d1 hB2 ⊢
            clear heq hcd
            have hwr : IntKind.i64.wrap (1 - (m : Int)) = 1 - (m : Int) := wrapI (by omega) (by omega)
            go_region_held3 (fun w' => w'.cell? ⟨w1.heap.size, 1, none⟩ = some (.bool sg) ∧ Below w.heap.size w w')
              (first | exact ⟨d1, hB2.drew⟩ | exact keepB1 (by assumption) hb | assumption)
              (first | (go_at_call 26; (with_reducible refine (HRP.out _).mono ?_); rintro e w' ⟨rfl, hb⟩) | (go_at_call 25; (with_reducible refine (HLY.out _ (by assumption)).mono ?_); rintro e w' ⟨rfl, hb⟩))
            all_goals
              have HF := Lib.hid (‹_ ∧ Below w.heap.size w _›).2
              go_wp2
              go_ret3
              exact ⟨HF.out, .inr ⟨HDR.out, P, X, L, 0, HH.out.1, HH.out.2, fun h => absurd (HC.out.2.symm.trans (show val [0, 0, 0, 0] = 0 from rfl)) h.2.2, by rw [wr_zero HCN.out rfl HE.out (HC.out.2.symm.trans (show val [0, 0, 0, 0] = 0 from rfl)) (show sgF _ P X = sg from HSG.out)]; rfl⟩⟩
          · have hF0 : val [c0, c1, c2, c3] ≠ 0 := fun h => hz (val4_zero h)
            obtain ⟨m, rfl⟩ : ∃ m : Nat, cnt = (m : Int) := ⟨cnt.toNat, by omega⟩
            have heq := fun W => bits_eqIn W (c0 : Nat) (c1 : Nat) (c2 : Nat) (c3 : Nat) 0 0 0 0
            rw [four_ne hz] at heq
            have hcd : (decide ((m : Int) < 1) || decide ((800 : Int) < (m : Int))) = false := by rw [decide_eq_false (by omega), decide_eq_false (by omega)]; rfl
            obtain ⟨k, hk⟩ : ∃ k : Nat, 300 = k := ⟨_, rfl⟩
            have hxe : expF (val [b0, b1, b2, b3]) P X L = x := HX.out
            have hFe : coefF (val [b0, b1, b2, b3]) P X = val [c0, c1, c2, c3] := HC.out.2.symm
            have hAk := frN_lt (V := val [b0, b1, b2, b3]) HH.out.1 HE.out hk
            have hDk := frD_lt (V := val [b0, b1, b2, b3]) HH.out.1 HE.out hk
            have hxr := exp_rng HH.out.1 HE.out
            rw [hFe, hxe] at hAk
            rw [hxe] at hDk hxr
            have hA0 := frN_pos (x := x) hF0
            have hD0 := frD_pos x
            obtain ⟨T, hT0, hT1, hT⟩ := tens_exists (by omega : k ≤ 300) hA0 hD0 hAk hDk
            have HFR := Lib.hid (fun W => fraction_calls W 1 sg false x c0 c1 c2 c3 HC.out.1 (by omega) (by omega))
            obtain ⟨A, hA⟩ : ∃ A, frN (val [c0, c1, c2, c3]) x = A := ⟨_, rfl⟩
            obtain ⟨D, hD⟩ : ∃ D, frD x = D := ⟨_, rfl⟩
            rw [hA, hD] at HFR hT
            rw [hA] at hAk hA0
            rw [hD] at hDk hD0
            have HW := Lib.hid (fun t => wr_main (t := t) (dir := dir) (L := L) HCN.out rfl HE.out hFe hF0 hxe hA hD (show sgF _ P X = sg from HSG.out))
            have HTT : Hid (isTens (frN (coefF (val [b0, b1, b2, b3]) P X) (expF (val [b0, b1, b2, b3]) P X L)) (frD (expF (val [b0, b1, b2, b3]) P X L)) T) := Lib.hid (by rw [hFe, hxe, hA, hD]; exact hT)
            have HTN := Lib.hid (fun W u v (hu : NatAt W A u) (hv : NatAt W D v) => tens_calls W hu hv hAk hDk (by omega) hT hT0 (Int.le_of_lt hT1))
            have HSC := Lib.hid (fun W u v (hu : NatAt W A u) (hv : NatAt W D v) => scale_calls W (-(T - m + 1)) hu hv hAk hDk (by omega) (by omega) (by omega))
            have hq0 := quo_pos hT (show T - m + 1 ≤ T by omega) hD0 dir sg
            have hNk := scN_lt hAk (e := -(T - m + 1)) (by omega)
            have hZk := scD_lt hDk (e := -(T - m + 1)) (by omega)
            have hZ0 := scD_ne hD0 (e := -(T - m + 1))
            have HTE := Lib.hid (fun s => @wr_text1 sg A D dir m T s)
            have HTF := Lib.hid (fun s => @wr_text2 sg A D dir m T s)
            have HMO : Hid (wrMore A D m T = !decide (scN A (-(T - m + 1)) % scD D (-(T - m + 1)) = 0)) := Lib.hid (by unfold wrMore; rw [decide_not])
            obtain ⟨N, hN⟩ : ∃ N, scN A (-(T - m + 1)) = N := ⟨_, rfl⟩
            obtain ⟨Z, hZ⟩ : ∃ Z, scD D (-(T - m + 1)) = Z := ⟨_, rfl⟩
            rw [hN] at hNk
            rw [hZ] at hZk hZ0
            rw [hN, hZ] at HSC hq0 HTE HTF HMO
            have HDV := Lib.hid (fun W u v (hu : NatAt W N u) (hv : NatAt W Z v) => divide_calls W dir sg HDR.out.1 HDR.out.2 hu hv hNk hZk (by omega) hZ0)
            obtain ⟨c, hc⟩ : ∃ c, quoR dir sg N Z = c := ⟨_, rfl⟩
            have hck : c < B64 ^ (k + 640 + 1) := by
              rw [← hc]
              refine Nat.lt_of_le_of_lt (quoR_le dir sg N Z) (Nat.lt_of_le_of_lt (Nat.add_le_add_right (Nat.div_le_self N Z) 1) ?_)
              rw [Nat.pow_succ]
              have : 1 ≤ B64 ^ (k + 640) := Nat.pow_pos (by decide)
              have h3 : B64 ^ (k + 640) * 2 ≤ B64 ^ (k + 640) * B64 := Nat.mul_le_mul_left _ (by decide)
              omega
            rw [hc] at HDV HTE HTF hq0
            have HDG := Lib.hid (fun W u (hW : Below w.heap.size w W) (hu : NatAt W c u) => digits_at W hu hck (by omega) (tabIs_below HT.out hW))
            obtain ⟨S, hS⟩ : ∃ S : ByteArray, S = ⟨(Lib.decDigits c).toArray⟩ := ⟨_, rfl⟩
            obtain ⟨l, hl⟩ : ∃ l, Lib.decDigits c = l := ⟨_, rfl⟩
            have hll := dig_len hck (by omega)
            have hl1 := dig_one c
            rw [hl] at hll hl1
            rw [← hS] at HDG
            rw [hl] at HTE HTF hS
            have hSl : S.data.toList = l := by rw [hS]
            have hSz := wr_size hSl
            obtain ⟨nl, hnl⟩ : ∃ nl, l.length = nl := ⟨_, rfl⟩
            rw [hnl] at hSz hll hl1
            have HSL := Lib.hid hSl
            have HNL := Lib.hid hnl
            have HTE1 := Lib.hid (HTE.out l rfl)
            have HTF1 := Lib.hid (HTF.out l rfl)
            rw [hnl] at HTE1 HTF1
            obtain ⟨ex, hex⟩ : ∃ ex, decide (N % Z = 0) = ex := ⟨_, rfl⟩
            rw [hex] at HDV HMO
            have hTb := And.intro hT0 hT1
            clear HTE HTF hz hxe hFe hAk hDk hxr hA0 hD0 hT hA hD hN hZ hNk hZk hZ0 hc hck hS hl hSl hnl hex hT0 hT1 hq0 HX HSG hF0
            go_wp2_with fail
            refine (HR.out _).mono ?_
            rintro e w9 ⟨rfl, rfl⟩
            go_wp2_with fail
            have HG2 := Lib.hid (heap_new w1 (.cells #[.int .i64 1, .bool sg, .bool false, .int .i64 x, .int .u64 (c0 : Nat), .int .u64 (c1 : Nat), .int .u64 (c2 : Nat), .int .u64 (c3 : Nat)] 31))
            have HB2 := Lib.hid (below_alloc HB1.out (.cells #[.int .i64 1, .bool sg, .bool false, .int .i64 x, .int .u64 (c0 : Nat), .int .u64 (c1 : Nat), .int .u64 (c2 : Nat), .int .u64 (c3 : Nat)] 31))
            have HN1 := Lib.hid (show w1.heap.size < (w1.alloc (.cells #[.int .i64 1, .bool sg, .bool false, .int .i64 x, .int .u64 (c0 : Nat), .int .u64 (c1 : Nat), .int .u64 (c2 : Nat), .int .u64 (c3 : Nat)] 31)).heap.size by simp)
            generalize (w1.alloc (.cells #[.int .i64 1, .bool sg, .bool false, .int .i64 x, .int .u64 (c0 : Nat), .int .u64 (c1 : Nat), .int .u64 (c2 : Nat), .int .u64 (c3 : Nat)] 31)) = v2 at HG2 HB2 HN1 ⊢
            clear heq hcd
            refine (HFR.out _).mono ?_
            rintro e w3 ⟨u, v, rfl, hu, hv, hb3⟩
            have HG3 := Lib.hid (below_heap hb3 HG2.out)
            have HB3 := Lib.hid (below_then HB2.out hb3)
            have HTN3 := Lib.hid (HTN.out _ _ _ hu hv)
            have HU3 := Lib.hid (And.intro hu hv)
            clear hu hv hb3 HG2
            go_wp2_with fail
            refine HTN3.out.mono ?_
            rintro e w4 ⟨rfl, hb4⟩
            have HG4 := Lib.hid (below_heap hb4 HG3.out)
            have HB4 := Lib.hid (below_then HB3.out hb4)
            have HSC4 := Lib.hid (HSC.out _ _ _ (HU3.out.1.below hb4) (HU3.out.2.below hb4))
            clear hb4 HG3 HTN3
            go_wp2_with fail
            refine HSC4.out.mono ?_
            rintro e w5 ⟨un, vn, rfl, hu, hv, hb5⟩
            have HG5 := Lib.hid (below_heap hb5 HG4.out)
            have HB5 := Lib.hid (below_then HB4.out hb5)
            have HDV5 := Lib.hid (HDV.out _ _ _ hu hv)
            have d1 : w5.cell? ⟨w1.heap.size, 1, none⟩ = some (.bool sg) := cell_of_heap HG5.out 1
            clear hu hv hb5 HG4 HSC4
            go_wp2_with fail
            refine HDV5.out.mono ?_
            rintro e w6 ⟨uc, rfl, hu, hb6⟩
            have HG6 := Lib.hid (below_heap hb6 HG5.out)
            have HB6 := Lib.hid (below_then HB5.out hb6)
            have HDG6 := Lib.hid (HDG.out _ _ HB6.out hu)
            clear hu hb6 HG5 HDV5 d1
            go_wp2_with fail
            refine HDG6.out.mono ?_
            rintro e w7 ⟨rfl, hb7⟩
            have HG7 := Lib.hid (below_heap hb7 HG6.out)
            have HB7 := Lib.hid (below_then HB6.out hb7)
            have d1 : w7.cell? ⟨w1.heap.size, 1, none⟩ = some (.bool sg) := cell_of_heap HG7.out 1
            have HLY := Lib.hid (fun (S : ByteArray) (l : List UInt8) (e : Int) (hS : S.data.toList = l) (hl : 1 ≤ l.length) (hl2 : l.length ≤ 100000) (h0 : -100000 ≤ e) (h1 : e ≤ 100000) => layout_calls w7 sg S l e hS hl hl2 h0 h1 (tabIs_below HT.out HB7.out))
            clear hb7 HG6 HDG6
            by_cases hlt : m < nl
            · have hlt' : (m : Int) < (nl : Int) := by omega
              have HL7 := Lib.hid (HLY.out (S.extract 0 m) (l.take m) (T - m + 1 + 1) (wr_take HSL.out m) (by rw [List.length_take, HNL.out]; omega) (by rw [List.length_take, HNL.out]; omega) (by omega) (by omega))
              have HTX := Lib.hid (HTE1.out hlt)
              go_wp2_with fail
              refine HL7.out.mono ?_
              rintro e w8 ⟨rfl, hb8⟩
              have HB8 := Lib.hid (below_then HB7.out hb8)
              clear hb8
              go_wp2
              go_ret3
              exact ⟨HB8.out, .inr ⟨HDR.out, P, X, L, T, HH.out.1, HH.out.2, fun _ => HTT.out, by rw [HW.out T, HTX.out, HMO.out]; rfl⟩⟩
            · have hlt' : (nl : Int) ≤ (m : Int) := by omega
              have HL7 := Lib.hid (HLY.out S l (T - m + 1) HSL.out (by rw [HNL.out]; omega) (by rw [HNL.out]; omega) (by omega) (by omega))
              have HTX := Lib.hid (HTF1.out hlt)
              go_wp2_with fail
              refine HL7.out.mono ?_
              rintro e w8 ⟨rfl, hb8⟩
              have HB8 := Lib.hid (below_then HB7.out hb8)
              clear hb8
              go_wp2
              go_ret3
              exact ⟨HB8.out, .inr ⟨HDR.out, P, X, L, T, HH.out.1, HH.out.2, fun _ => HTT.out, by rw [HW.out T, HTX.out, HMO.out]; rfl⟩⟩
        · have HCN := Lib.hid hcn
          have hcd : (decide (cnt < 1) || decide (800 < cnt)) = true := by
            by_cases h1 : cnt < 1
            · rw [decide_eq_true h1]; rfl
            · rw [decide_eq_true (show 800 < cnt by omega), Bool.or_true]
          by_cases h1 : cnt < 1
          · clear hd hcn hcd
            go_wp2_with fail
            refine (HR.out _).mono ?_
            rintro e w9 ⟨rfl, rfl⟩
            go_wp2
            go_ret3
            exact ⟨below_alloc HB1.out _, .inr ⟨HDR.out, P, X, L, 0, HH.out.1, HH.out.2, fun h => absurd h.1 HCN.out, by unfold wrVal; rw [if_pos HCN.out]; rfl⟩⟩
          · have h2 : 800 < cnt := by omega
            clear hd hcn hcd
            go_wp2_with fail
            refine (HR.out _).mono ?_
            rintro e w9 ⟨rfl, rfl⟩
            go_wp2
            go_ret3
            exact ⟨below_alloc HB1.out _, .inr ⟨HDR.out, P, X, L, 0, HH.out.1, HH.out.2, fun h => absurd h.1 HCN.out, by unfold wrVal; rw [if_pos HCN.out]; rfl⟩⟩
      · rw [decide_eq_false hd] at HR
        have HDR := Lib.hid hd
        clear hd
        go_wp2_with fail
        refine (HR.out _).mono ?_
        rintro e w9 ⟨rfl, rfl⟩
        go_wp2
        go_ret3
        exact ⟨below_alloc HB1.out _, .inl ⟨fun h => HDR.out h.2, rfl⟩⟩
    · obtain ⟨k, sg, si, c0, c1, c2, c3, hk, rfl⟩ := hinf hE
      have HE := Lib.hid hE
      clear hfin hinf H hlen hE
      have hk1 : ¬ k = 1 := by omega
      have hk2 : (k != 1) = true := by simp [hk1]
      have hk3 : (k == 1) = false := by simp [hk1]
      clear hk hk1
      by_cases hd : 0 ≤ dir ∧ dir ≤ 4
      · rw [decide_eq_true hd] at HR
        have HDR := Lib.hid hd
        clear hd
        by_cases hcn : 1 ≤ cnt ∧ cnt ≤ 800
        · have HCN := Lib.hid hcn
          have hcd : (decide (cnt < 1) || decide (800 < cnt)) = false := by rw [decide_eq_false (by omega), decide_eq_false (by omega)]; rfl
          obtain ⟨hcn1, hcn2⟩ := hcn
          go_wp2_with fail
          refine (HR.out _).mono ?_
          rintro e w9 ⟨rfl, rfl⟩
          go_wp2
          go_ret3
          exact ⟨below_alloc HB1.out _, .inr ⟨HDR.out, P, X, L, 0, HH.out.1, HH.out.2, fun h => absurd h.2.1 HE.out, by unfold wrVal; rw [if_neg (not_not_intro HCN.out), if_pos HE.out]; rfl⟩⟩
        · have HCN := Lib.hid hcn
          by_cases h1 : cnt < 1
          · clear hcn
            go_wp2_with fail
            refine (HR.out _).mono ?_
            rintro e w9 ⟨rfl, rfl⟩
            go_wp2
            go_ret3
            exact ⟨below_alloc HB1.out _, .inr ⟨HDR.out, P, X, L, 0, HH.out.1, HH.out.2, fun h => absurd h.1 HCN.out, by unfold wrVal; rw [if_pos HCN.out]; rfl⟩⟩
          · have h2 : 800 < cnt := by omega
            clear hcn
            go_wp2_with fail
            refine (HR.out _).mono ?_
            rintro e w9 ⟨rfl, rfl⟩
            go_wp2
            go_ret3
            exact ⟨below_alloc HB1.out _, .inr ⟨HDR.out, P, X, L, 0, HH.out.1, HH.out.2, fun h => absurd h.1 HCN.out, by unfold wrVal; rw [if_pos HCN.out]; rfl⟩⟩
      · rw [decide_eq_false hd] at HR
        have HDR := Lib.hid hd
        clear hd
        go_wp2_with fail
        refine (HR.out _).mono ?_
        rintro e w9 ⟨rfl, rfl⟩
        go_wp2
        go_ret3
        exact ⟨below_alloc HB1.out _, .inl ⟨fun h => HDR.out h.2, rfl⟩⟩
  · have HB1 := Lib.hid (below_then HB0.out hb1)
    have HP1 := Lib.hid (below_heap hb1 HP0.out)
    have HBAD := Lib.hid hbad
    clear hb1 HB0 HP0 HU hbad
    unfold datum0
    go_wp2_with fail
    go_ret3
    exact ⟨below_alloc HB1.out _, .inl ⟨fun h => HBAD.out h.1, rfl⟩⟩
end Go.Proofs.YtpodpdopgdkdkaaGreatDoor
