/- The contracts of math/bits.Div64, nat.word, and the reference's small and Of. · NatLaws: the walk over the law. · Plain laws: shifts of natural numbers, word by word. · Plain laws: shifts of natural numbers to the right, word by word. -/
import Derived.Test.YtpodpdopgdkdkaaGreatDoorMw06
import Derived.Laws.CopyOwn
set_option linter.unusedVariables false
set_option linter.unusedSimpArgs false
namespace Go.Proofs.YtpodpdopgdkdkaaGreatDoor
open Go.RowKit
theorem div64_calls (w : World) (hi lo y : Nat) (hy : hi < y) (hl : lo < B64) (hb : y < B64) :
    Calls Tryz.prog 117 #[.int .u64 (hi : Nat), .int .u64 (lo : Nat), .int .u64 (y : Nat)] w fun e w' => e = .returned (.tuple #[.int .u64 ((hi * B64 + lo) / y : Nat), .int .u64 ((hi * B64 + lo) % y : Nat)]) ∧ ∃ m, w' = w.drewN m := by
  rcases Nat.eq_zero_or_pos hi with rfl | h0
  · rw [Nat.zero_mul, Nat.zero_add]
    exact div64_low w lo y (by omega) hl
  · have h1 := blen_le64 hb
    have h2 : 2 ≤ blen y := by
      have := (blen_lo (show 0 < y by omega)).2
      rcases Nat.lt_or_ge (blen y) 2 with h | h
      · have : 2 ^ blen y ≤ 2 ^ 1 := Nat.pow_le_pow_right (by decide) (by omega)
        omega
      · exact h
    exact div64_high w hi lo y (64 - blen y) h0 hy hl hb (by omega) (by omega)
/-! ### Division by one word -/
theorem val_drop {xs : List Nat} {t : Nat} (h : t < xs.length) : val (xs.drop t) = wd xs t + B64 * val (xs.drop (t + 1)) := by
  rw [List.drop_eq_getElem_cons h]
  simp [val, wd, List.getD_eq_getElem?_getD, h]
theorem drop_set {xs : List Nat} {t n : Nat} : (xs.set t n).drop (t + 1) = xs.drop (t + 1) := by
  rw [List.drop_set_of_lt (by omega)]
theorem word_step {xs zs : List Nat} {t n r : Nat} (hv : val (zs.drop (t + 1)) * n + r = val (xs.drop (t + 1))) (hx : t < xs.length) (hz : t < zs.length) :
    val ((zs.set t ((r * B64 + wd xs t) / n)).drop t) * n + (r * B64 + wd xs t) % n = val (xs.drop t) := by
  rw [val_drop hx, val_drop (by rw [List.length_set]; exact hz), drop_set, ← hv]
  have e : wd (zs.set t ((r * B64 + wd xs t) / n)) t = (r * B64 + wd xs t) / n := by unfold wd; simp [List.getD_eq_getElem?_getD, hz]
  rw [e, Nat.add_mul]
  have h := Nat.div_add_mod (r * B64 + wd xs t) n
  rw [Nat.mul_comm n] at h
  rw [Nat.mul_add, Nat.mul_assoc]
  generalize (r * B64 + wd xs t) / n * n = a at *
  generalize val (zs.drop (t + 1)) * n = b at *
  generalize wd xs t = x at *
  rw [Nat.mul_comm B64 r]
  omega
theorem word_lt {r x n : Nat} (h : r < n) (hx : x < B64) : (r * B64 + x) / n < B64 := div_lt_base h hx
theorem word_end {zs xs : List Nat} {n r : Nat} (hv : val (zs.drop 0) * n + r = val (xs.drop 0)) (hr : r < n) : val zs = val xs / n ∧ r = val xs % n := by
  rw [List.drop_zero, List.drop_zero] at hv
  rw [← hv, Nat.mul_comm, Nat.mul_add_div (by omega), Nat.mul_add_mod, Nat.div_eq_of_lt hr, Nat.mod_eq_of_lt hr]
  exact ⟨rfl, rfl⟩
set_option maxRecDepth 10000 in
set_option maxHeartbeats 1000000 in
theorem word_calls (w : World) (a : Option Addr) (la ca : Nat) (xs : List Nat) (n : Nat) (ha : SlW w a la ca xs) (sa : la ≤ 4398046511104) (hn : 0 < n) (hnb : n < B64) :
    Calls Tryz.prog 79 #[.slice a la ca, .int .u64 (n : Nat)] w (NatRes2 w (val xs / n) la (.int .u64 (val xs % n : Nat))) := by
  have m1 := ha.hle
  have m2 := ha.hmax
  have HA := Lib.hid ha
  have HX := Lib.hid ha.hw
  have HXL := Lib.hid ha.hlen
  have HNB := Lib.hid hnb
  clear ha hnb
  go_enter Tryz.func79, Tryz.ntmps79
  go_wp2_with ((with_reducible refine gate_make 36 ?_); refine mk_words (Below.refl w.heap.size w) la (by omega) (fun W g hgB _ hBW _ hgw => ?_); have HBW := Lib.hid hBW; have HGW := Lib.hid hgw; have HGB := Lib.hid hgB; clear hBW hgw hgB)
  go_loopw [8, 7] (fun i cr wr => ∃ (t r : Nat) (zs : List Nat), t ≤ la ∧ i = .int .i64 ((t : Int) - 1) ∧ cr = .int .u64 (r : Nat) ∧ r < n ∧ WordsAt wr g zs ∧ zs.length = la ∧ W64 zs ∧ val (zs.drop t) * n + r = val (xs.drop t) ∧ Below w.heap.size w wr) (fun i _ _ => (intOf i + 1).toNat)
  case atStart => exact ⟨la, 0, List.replicate la 0, by omega, rfl, rfl, hn, HGW.out, by simp, W64.zeros _, by rw [List.drop_of_length_le (by simp), List.drop_of_length_le (by rw [HXL.out]; exact Nat.le_refl _)]; simp [val], HBW.out⟩
  case round =>
    obtain ⟨t, r, zs, ht, rfl, rfl, hr, hz, hzl, hzw, hv, hbw⟩ := hrel
    have HZ := Lib.hid hz
    have HZL := Lib.hid hzl
    have HZW := Lib.hid hzw
    have HV := Lib.hid hv
    have HBR := Lib.hid hbw
    clear hz hzl hzw hv hbw HBW HGW
    by_cases h0 : 0 < t
    · obtain ⟨u, rfl⟩ : ∃ u, t = u + 1 := ⟨t - 1, by omega⟩
      have e0 : (((u + 1 : Nat) : Int) - 1) = (u : Nat) := by omega
      rw [e0]
      obtain ⟨p, o, rfl, hx⟩ := HA.out.wcell u (by omega)
      have hxr : wr.cell? ⟨p, o + u, none⟩ = some (.int .u64 ((wd xs u : Nat) : Int)) := by rw [HBR.out.cell (World.block_lt_of_cell? w _ hx)]; exact hx
      clear hx
      have HC := Lib.hid (div64_calls wr r (wd xs u) n hr (wd_lt HX.out u) HNB.out)
      have HS := Lib.hid (word_step HV.out (by rw [HXL.out]; omega) (by rw [HZL.out]; omega))
      have HQ := Lib.hid (HZW.out.set u _ (word_lt hr (wd_lt HX.out u)))
      have HR := Lib.hid (Nat.mod_lt (r * B64 + wd xs u) hn)
      obtain ⟨q, hq⟩ : ∃ q, (r * B64 + wd xs u) / n = q := ⟨_, rfl⟩
      obtain ⟨r', hr'⟩ : ∃ q, (r * B64 + wd xs u) % n = q := ⟨_, rfl⟩
      rw [hq, hr'] at HC HS
      rw [hq] at HQ
      rw [hr'] at HR
      clear hq hr'
      go_wp2_with (first | (go_at_call 117; refine HC.out.mono ?_; rintro e w' ⟨rfl, m, rfl⟩; have HZ2 := Lib.hid (HZ.out.drewN m); have HBR2 := Lib.hid (below_drewN' HBR.out m)) | ((with_reducible refine gate_store 22 ?_); refine st_word HBR2.out HZ2.out HGB.out u q (by rw [HZL.out]; omega) (fun W2 hB2 _ _ hz2 => ?_); have HB2 := Lib.hid hB2; have HZ3 := Lib.hid hz2; clear hB2 hz2))
      go_roundw
      case rel => exact ⟨u, r', zs.set u q, by omega, by first | rfl | go_num, rfl, HR.out, HZ3.out, by rw [List.length_set]; exact HZL.out, HQ.out, HS.out, HB2.out⟩
      case measure => simp [intOf]
    · have ht0 : t = 0 := by omega
      subst ht0
      have HN := Lib.hid (word_end HV.out hr)
      go_wp2_with fail
      refine (size_calls wr _ la la zs (HZ.out.slAll HZW.out HZL.out (by omega))).mono ?_
      rintro e w' ⟨rfl, rfl⟩
      have hsz := sz_le zs
      have hs2 : sz zs ≤ la := by rw [← HZL.out]; exact hsz
      clear hsz
      go_wp2
      go_ret2
      rw [HN.out.2]
      exact (natRes_mk HZ.out HGB.out HZW.out HZL.out (by omega) HN.out.1 (by omega) HBR.out).two
/-- Two natural numbers that the call has made. -/
def NatPair (w : World) (n m bd bd' : Nat) (e : Ending) (w' : World) : Prop :=
  ∃ a c zs a' c' ys, e = .returned (.tuple #[.slice a zs.length c, .slice a' ys.length c']) ∧ (OwnW w.heap.size w' a zs.length c zs ∧ val zs = n ∧ sz zs = zs.length ∧ zs.length ≤ bd) ∧ (OwnW w.heap.size w' a' ys.length c' ys ∧ val ys = m ∧ sz ys = ys.length ∧ ys.length ≤ bd') ∧ Below w.heap.size w w'
theorem one_word (w : World) (n : Nat) : WordsAt (w.alloc (.cells #[.int .u64 (n : Nat)] 22)) w.heap.size [n] := heap_new w _
theorem w64_one {n : Nat} (h : n < B64) : W64 [n] := by intro x hx; rw [List.mem_singleton.1 hx]; exact h
theorem val_one (n : Nat) : val [n] = n := by simp [val]
set_option maxRecDepth 10000 in
set_option maxHeartbeats 1000000 in
theorem refOf_calls (w : World) (n : Nat) (hn : n < B64) :
    Calls Tryz.prog 122 #[.int .u64 (n : Nat)] w (NatRes w n 1) := by
  have HT := Lib.hid (refTrim_calls _ _ 1 1 [n] ((one_word w n).slAll (w64_one hn) rfl (by omega)) (.inr ⟨_, _, rfl⟩) (by omega))
  clear hn
  go_enter Tryz.func122, Tryz.ntmps122
  go_wp2_with fail
  refine HT.out.mono ?_
  rintro e w2 hr
  have hr2 := natRes_trans ((Below.refl _ _).alloc (Nat.le_refl _) _) hr
  rw [val_one] at hr2
  obtain ⟨a', c', rs, rfl, r1, r2, r3, r4, r5⟩ := hr2
  have R := Lib.hid (And.intro r1 (And.intro r2 (And.intro r3 (And.intro r4 r5))))
  clear r1 r2 r3 r4 r5 hr
  go_wp2
  go_ret
  exact ⟨a', c', rs, rfl, R.out.1, R.out.2.1, R.out.2.2.1, R.out.2.2.2.1, R.out.2.2.2.2⟩
theorem trim_res {w : World} {a : Option Addr} {len cap : Nat} {xs : List Nat} (h : SlW w a len cap xs) (hp : Plain a) (hs : len ≤ 17592186044416) :
    Calls Tryz.prog 51 #[.slice a len cap] w (NatRes w (val xs) len) := by
  refine (trim_calls w a len cap xs h hp hs).mono ?_
  rintro e w' ⟨a', c', rfl, ho, hb⟩
  have e := ho.hlen
  refine ⟨a', c', xs.take (sz xs), by rw [e], by rw [e]; exact ho, val_take_sz xs, by rw [sz_take_sz, e], by rw [e]; exact h.sz_le, hb⟩
set_option maxRecDepth 10000 in
set_option maxHeartbeats 1000000 in
theorem natOf_calls (w : World) (n : Nat) (hn : n < B64) :
    Calls Tryz.prog 71 #[.int .u64 (n : Nat)] w (NatRes w n 1) := by
  have HT := Lib.hid (trim_res ((one_word w n).slAll (N := 1) (w64_one hn) rfl (by omega)) (.inr ⟨_, _, rfl⟩) (by omega))
  clear hn
  go_enter Tryz.func71, Tryz.ntmps71
  go_wp2_with fail
  refine HT.out.mono ?_
  rintro e w2 hr
  have hr2 := natRes_trans ((Below.refl _ _).alloc (Nat.le_refl _) _) hr
  rw [val_one] at hr2
  obtain ⟨a', c', rs, rfl, r1, r2, r3, r4, r5⟩ := hr2
  have R := Lib.hid (And.intro r1 (And.intro r2 (And.intro r3 (And.intro r4 r5))))
  clear r1 r2 r3 r4 r5 hr
  go_wp2
  go_ret
  exact ⟨a', c', rs, rfl, R.out.1, R.out.2.1, R.out.2.2.1, R.out.2.2.2.1, R.out.2.2.2.2⟩
set_option maxRecDepth 10000 in
set_option maxHeartbeats 1000000 in
theorem refSmall_calls (w : World) (a : Option Addr) (la ca : Nat) (xs : List Nat) (n : Nat) (ha : SlW w a la ca xs) (sa : la ≤ 4398046511104) (hn : 0 < n) (hnb : n < B64) :
    Calls Tryz.prog 92 #[.slice a la ca, .int .u64 (n : Nat)] w (NatPair w (val xs / n) (val xs % n) la 1) := by
  have m1 := ha.hle
  have m2 := ha.hmax
  have HA := Lib.hid ha
  have HX := Lib.hid ha.hw
  have HXL := Lib.hid ha.hlen
  have HNB := Lib.hid hnb
  clear ha hnb
  go_enter Tryz.func92, Tryz.ntmps92
  go_wp2_with ((with_reducible refine gate_make 36 ?_); refine mk_words (Below.refl w.heap.size w) la (by omega) (fun W g hgB _ hBW _ hgw => ?_); have HBW := Lib.hid hBW; have HGW := Lib.hid hgw; have HGB := Lib.hid hgB; clear hBW hgw hgB)
  go_loopw [8, 7] (fun i cr wr => ∃ (t r : Nat) (zs : List Nat), t ≤ la ∧ i = .int .i64 ((t : Int) - 1) ∧ cr = .int .u64 (r : Nat) ∧ r < n ∧ WordsAt wr g zs ∧ zs.length = la ∧ W64 zs ∧ val (zs.drop t) * n + r = val (xs.drop t) ∧ Below w.heap.size w wr) (fun i _ _ => (intOf i + 1).toNat)
  case atStart => exact ⟨la, 0, List.replicate la 0, by omega, rfl, rfl, hn, HGW.out, by simp, W64.zeros _, by rw [List.drop_of_length_le (by simp), List.drop_of_length_le (by rw [HXL.out]; exact Nat.le_refl _)]; simp [val], HBW.out⟩
  case round =>
    obtain ⟨t, r, zs, ht, rfl, rfl, hr, hz, hzl, hzw, hv, hbw⟩ := hrel
    have HZ := Lib.hid hz
    have HZL := Lib.hid hzl
    have HZW := Lib.hid hzw
    have HV := Lib.hid hv
    have HBR := Lib.hid hbw
    clear hz hzl hzw hv hbw HBW HGW
    by_cases h0 : 0 < t
    · obtain ⟨u, rfl⟩ : ∃ u, t = u + 1 := ⟨t - 1, by omega⟩
      have e0 : (((u + 1 : Nat) : Int) - 1) = (u : Nat) := by omega
      rw [e0]
      obtain ⟨p, o, rfl, hx⟩ := HA.out.wcell u (by omega)
      have hxr : wr.cell? ⟨p, o + u, none⟩ = some (.int .u64 ((wd xs u : Nat) : Int)) := by rw [HBR.out.cell (World.block_lt_of_cell? w _ hx)]; exact hx
      clear hx
      have HC := Lib.hid (div64_calls wr r (wd xs u) n hr (wd_lt HX.out u) HNB.out)
      have HS := Lib.hid (word_step HV.out (by rw [HXL.out]; omega) (by rw [HZL.out]; omega))
      have HQ := Lib.hid (HZW.out.set u _ (word_lt hr (wd_lt HX.out u)))
      have HR := Lib.hid (Nat.mod_lt (r * B64 + wd xs u) hn)
      obtain ⟨q, hq⟩ : ∃ q, (r * B64 + wd xs u) / n = q := ⟨_, rfl⟩
      obtain ⟨r', hr'⟩ : ∃ q, (r * B64 + wd xs u) % n = q := ⟨_, rfl⟩
      rw [hq, hr'] at HC HS
      rw [hq] at HQ
      rw [hr'] at HR
      clear hq hr'
      go_wp2_with (first | (go_at_call 117; refine HC.out.mono ?_; rintro e w' ⟨rfl, m, rfl⟩; have HZ2 := Lib.hid (HZ.out.drewN m); have HBR2 := Lib.hid (below_drewN' HBR.out m)) | ((with_reducible refine gate_store 22 ?_); refine st_word HBR2.out HZ2.out HGB.out u q (by rw [HZL.out]; omega) (fun W2 hB2 _ _ hz2 => ?_); have HB2 := Lib.hid hB2; have HZ3 := Lib.hid hz2; clear hB2 hz2))
      go_roundw
      case rel => exact ⟨u, r', zs.set u q, by omega, by first | rfl | go_num, rfl, HR.out, HZ3.out, by rw [List.length_set]; exact HZL.out, HQ.out, HS.out, HB2.out⟩
      case measure => simp [intOf]
    · have ht0 : t = 0 := by omega
      subst ht0
      have HN := Lib.hid (word_end HV.out hr)
      have hrb : r < B64 := Nat.lt_trans hr HNB.out
      have HRB := Lib.hid hrb
      clear hrb
      go_wp2_with fail
      refine (refTrim_calls wr _ la la zs (HZ.out.slAll HZW.out HZL.out (by omega)) (.inr ⟨_, _, rfl⟩) (by omega)).mono ?_
      rintro e w2 hq
      have hq2 := natRes_trans HBR.out hq
      rw [HN.out.1] at hq2
      obtain ⟨a', c', rs, rfl, r1, r2, r3, r4, r5⟩ := hq2
      have R := Lib.hid (And.intro r1 (And.intro r2 (And.intro r3 (And.intro r4 r5))))
      clear r1 r2 r3 r4 r5 hq
      go_wp2_with fail
      refine (refOf_calls w2 r HRB.out).mono ?_
      rintro e w3 ⟨a2, c2, us, rfl, s1, s2, s3, s4, s5⟩
      have SS := Lib.hid (And.intro s1 (And.intro s2 (And.intro s3 (And.intro s4 s5))))
      clear s1 s2 s3 s4 s5
      go_wp2
      go_ret2
      have hb := R.out.2.2.2.2
      exact ⟨a', c', rs, a2, c2, us, rfl, ⟨R.out.1.keep SS.out.2.2.2.2, R.out.2.1, R.out.2.2.1, R.out.2.2.2.1⟩, ⟨SS.out.1.mono hb.size, by rw [SS.out.2.1]; exact HN.out.2, SS.out.2.2.1, SS.out.2.2.2.1⟩, below_then hb SS.out.2.2.2.2⟩
end Go.Proofs.YtpodpdopgdkdkaaGreatDoor
namespace Go.Proofs.YtpodpdopgdkdkaaGreatDoor
open Go.RowKit
theorem len_of_val {zs : List Nat} {n : Nat} (hz : sz zs = zs.length) (hv : val zs < B64 ^ n) : zs.length ≤ n := by
  rcases Nat.lt_or_ge n zs.length with h | h
  · exfalso
    obtain ⟨k, hk⟩ : ∃ k, zs.length = k + 1 := ⟨zs.length - 1, by omega⟩
    have h1 := sz_get_last (xs := zs) (by omega)
    rw [hz, hk, Nat.add_sub_cancel] at h1
    have h2 : valTo zs (k + 1) = valTo zs k + B64 ^ k * zs.getD k 0 := rfl
    rw [valTo_all (k + 1) (by omega)] at h2
    have h3 : B64 ^ k * 1 ≤ B64 ^ k * zs.getD k 0 := Nat.mul_le_mul_left _ (by omega)
    have h4 : B64 ^ n ≤ B64 ^ k := Nat.pow_le_pow_right (by decide) (by omega)
    omega
  · exact h
theorem mul_small {w : World} {a b : Option Addr} {la ca lb cb : Nat} {xs ys : List Nat} (ha : SlW w a la ca xs) (hb : SlW w b lb cb ys) (hl : la + lb ≤ 2000) :
    Calls Tryz.prog 54 #[.slice a la ca, .slice b lb cb] w (NatRes2 w (val xs * val ys) (la + lb) (.int .i64 0)) := by
  have z1 := ha.sz_le
  have z2 := hb.sz_le
  refine (mul_calls w a b la ca lb cb xs ys ha hb (by omega) (by omega)).mono ?_
  rintro e w' ⟨a', c', zs, rfl, r1, r2, r3, r4, r5⟩
  have hne : ¬ 2000 < sz xs + sz ys := by omega
  refine ⟨a', c', zs, ?_, r1, by rw [r2, mulVal, if_neg hne], r3, len_of_val r3 ?_, r5⟩
  · rw [mulErr, if_neg hne]
  · rw [r2, mulVal, if_neg hne, Nat.pow_add]
    have h1 := val_lt ha.hw
    have h2 := val_lt hb.hw
    rw [ha.hlen] at h1
    rw [hb.hlen] at h2
    exact Nat.mul_lt_mul'' h1 h2
theorem add_small {w : World} {a b : Option Addr} {la ca lb cb : Nat} {xs ys : List Nat} (ha : SlW w a la ca xs) (hb : SlW w b lb cb ys) {n : Nat} (h1 : la ≤ n) (h2 : lb ≤ n) (hn : n ≤ 100000) :
    Calls Tryz.prog 78 #[.slice a la ca, .slice b lb cb] w (NatRes w (val xs + val ys) (n + 1)) := by
  have z1 := ha.sz_le
  have z2 := hb.sz_le
  exact (add_calls w a b la ca lb cb xs ys ha hb (by omega) (by omega)).mono fun _ _ h => h.le (by omega)
end Go.Proofs.YtpodpdopgdkdkaaGreatDoor
namespace Go.Proofs.YtpodpdopgdkdkaaGreatDoor
open Go.RowKit
/-- What stays of a word that is shifted to the left, and what goes over. -/
def loS (s x : Nat) : Nat := x * 2 ^ s % B64
def hiS (s x : Nat) : Nat := x / 2 ^ (64 - s)
theorem loS_lt (s x : Nat) : loS s x < B64 := Nat.mod_lt _ (by decide)
theorem hiS_lt {s x : Nat} (hs : s ≤ 64) (hx : x < B64) : hiS s x < 2 ^ s := shr_lt hs hx
theorem lohi {s x : Nat} (hs : s ≤ 64) : loS s x + B64 * hiS s x = x * 2 ^ s := by
  unfold loS hiS
  rw [shr_eq hs]
  exact Nat.mod_add_div _ _
theorem loS_mul {s x : Nat} (hs : s ≤ 64) : loS s x = 2 ^ s * (x % 2 ^ (64 - s)) := by
  unfold loS
  rw [← pow_split hs, Nat.mul_mod_mul_right, Nat.mul_comm]
theorem hiS_zero {x : Nat} (hx : x < B64) : hiS 0 x = 0 := Nat.div_eq_of_lt hx
theorem loS_zero {x : Nat} (hx : x < B64) : loS 0 x = x := by unfold loS; rw [Nat.pow_zero, Nat.mul_one, Nat.mod_eq_of_lt hx]
theorem pow2_le64 {s : Nat} (hs : s ≤ 64) : 2 ^ s ≤ B64 := Nat.pow_le_pow_right (by decide) hs
theorem lo_add_lt {s x y : Nat} (hs : s ≤ 64) (hy : y < 2 ^ s) : loS s x + y < B64 := by
  rw [loS_mul hs]
  have h1 : x % 2 ^ (64 - s) + 1 ≤ 2 ^ (64 - s) := Nat.mod_lt _ (Nat.two_pow_pos _)
  have h2 := Nat.mul_le_mul_left (2 ^ s) h1
  rw [Nat.mul_comm (2 ^ s) (2 ^ (64 - s)), pow_split hs, Nat.mul_add] at h2
  omega
theorem or_lohi {s x y : Nat} (hs : s ≤ 64) (hy : y < 2 ^ s) : loS s x ||| y = loS s x + y := by
  rw [loS_mul hs, Nat.two_pow_add_eq_or_of_lt hy]
/-- x<<s | y, as the machine has it. -/
theorem bits_lohi {s x y : Nat} (hs : s ≤ 64) (hy : y < 2 ^ s) : bits .or .u64 (IntKind.u64.wrap ((x : Int) * 2 ^ s)) (y : Int) = ((loS s x + y : Nat) : Int) := by
  rw [two_cast, wrapMul]
  show bits .or .u64 ((loS s x : Nat) : Int) (y : Int) = _
  rw [bits_or_u64_nat _ _ (loS_lt s x) (Nat.lt_of_lt_of_le hy (pow2_le64 hs)), or_lohi hs hy]
/-- y | x<<s. -/
theorem bits_hilo {s x y : Nat} (hs : s ≤ 64) (hy : y < 2 ^ s) : bits .or .u64 (y : Int) (IntKind.u64.wrap ((x : Int) * 2 ^ s)) = ((loS s x + y : Nat) : Int) := by
  rw [two_cast, wrapMul]
  show bits .or .u64 (y : Int) ((loS s x : Nat) : Int) = _
  rw [bits_or_u64_nat _ _ (Nat.lt_of_lt_of_le hy (pow2_le64 hs)) (loS_lt s x), Nat.or_comm, or_lohi hs hy]
theorem hiS_cast (s x : Nat) : (x : Int) / 2 ^ (64 - s) = ((hiS s x : Nat) : Int) := by rw [two_cast, ← Int.natCast_ediv]; rfl
theorem pow_words (q s : Nat) : 2 ^ (64 * q + s) = B64 ^ q * 2 ^ s := by rw [Nat.pow_add, B64_pow]
/-! ### The reference's Left -/
theorem left_step {zs xs : List Nat} {t q s z : Nat} (hs : s ≤ 64) (hv : val zs = valTo xs t * 2 ^ (64 * q + s)) (hz : wd zs (t + q) = z) (hz1 : wd zs (t + q + 1) = 0) (hl : t + q + 1 < zs.length) :
    val ((zs.set (t + q) (loS s (wd xs t) + z)).set (t + q + 1) (hiS s (wd xs t))) = valTo xs (t + 1) * 2 ^ (64 * q + s) := by
  have e1 := val_set (xs := zs) (t + q) (loS s (wd xs t) + z) (by omega)
  have e2 := val_set (xs := zs.set (t + q) (loS s (wd xs t) + z)) (t + q + 1) (hiS s (wd xs t)) (by rw [List.length_set]; omega)
  have e3 : (zs.set (t + q) (loS s (wd xs t) + z)).getD (t + q + 1) 0 = 0 := by
    have := wd_set_ne zs (show t + q ≠ t + q + 1 by omega) (loS s (wd xs t) + z)
    exact this.trans hz1
  have e4 : zs.getD (t + q) 0 = z := hz
  rw [e3, Nat.mul_zero, Nat.add_zero] at e2
  rw [e4, Nat.mul_add] at e1
  rw [e2, valTo_wd, Nat.add_mul, ← hv]
  have e5 := congrArg (B64 ^ (t + q) * ·) (lohi (x := wd xs t) hs)
  simp only [Nat.mul_add] at e5
  have e6 : B64 ^ t * wd xs t * 2 ^ (64 * q + s) = B64 ^ (t + q) * (wd xs t * 2 ^ s) := by
    rw [pow_words, Nat.pow_add]
    simp only [Nat.mul_assoc, Nat.mul_left_comm]
  rw [e6, ← e5, Nat.pow_succ, Nat.mul_assoc]
  omega
/-! ### nat.Shl -/
theorem shl_step {zs z0 : List Nat} {t s : Nat} (hs : s ≤ 64) (hv : val (zs.drop (t + 1 + 1)) = val (z0.drop (t + 1 + 1)) * 2 ^ s + hiS s (wd z0 (t + 1))) (hl : t + 1 < zs.length) (hl0 : t + 1 < z0.length) :
    val ((zs.set (t + 1) (loS s (wd z0 (t + 1)) + hiS s (wd z0 t))).drop (t + 1)) = val (z0.drop (t + 1)) * 2 ^ s + hiS s (wd z0 t) := by
  have e : wd (zs.set (t + 1) (loS s (wd z0 (t + 1)) + hiS s (wd z0 t))) (t + 1) = loS s (wd z0 (t + 1)) + hiS s (wd z0 t) := by unfold wd; simp [List.getD_eq_getElem?_getD, hl]
  rw [val_drop (by rw [List.length_set]; exact hl), drop_set, hv, val_drop hl0, Nat.add_mul, e]
  have e5 := lohi (x := wd z0 (t + 1)) hs
  rw [Nat.mul_add, Nat.mul_assoc]
  omega
theorem shl_end {zs z0 : List Nat} {q s : Nat} (hs : s ≤ 64) (hv : val (zs.drop (q + 1)) = val (z0.drop (q + 1)) * 2 ^ s + hiS s (wd z0 q)) (hl : q < zs.length) (hl0 : q < z0.length) (hlow : ∀ j, j < q → wd zs j = 0) :
    val (zs.set q (loS s (wd z0 q))) = B64 ^ q * (val (z0.drop q) * 2 ^ s) := by
  have e : wd (zs.set q (loS s (wd z0 q))) q = loS s (wd z0 q) := by unfold wd; simp [List.getD_eq_getElem?_getD, hl]
  have h0 : val ((zs.set q (loS s (wd z0 q))).take q) = 0 := by
    refine val_zeros fun i hi => ?_
    rw [List.length_take] at hi
    have h1 := hlow i (by omega)
    have h2 : wd (zs.set q (loS s (wd z0 q))) i = wd zs i := wd_set_ne zs (by omega) _
    have h3 : ((zs.set q (loS s (wd z0 q))).take q).getD i 0 = (zs.set q (loS s (wd z0 q))).getD i 0 := by
      simp [List.getD_eq_getElem?_getD, show i < q by omega]
    rw [h3]
    exact h2.trans h1
  have e5 := lohi (x := wd z0 q) hs
  rw [val_take_drop _ q, h0, Nat.zero_add, List.length_set, Nat.min_eq_left (by omega), val_drop (by rw [List.length_set]; exact hl), drop_set, hv, e, val_drop hl0]
  congr 1
  rw [Nat.add_mul, Nat.mul_add, Nat.mul_assoc]
  omega
end Go.Proofs.YtpodpdopgdkdkaaGreatDoor
namespace Go.Proofs.YtpodpdopgdkdkaaGreatDoor
open Go.RowKit
theorem take_le_step {v t x d P B : Nat} (h : v = t + P * (x + B * d)) : v = t + P * x + P * B * d := by
  rw [h, Nat.mul_add, Nat.mul_assoc, Nat.add_assoc]
theorem val_nil : val [] = 0 := rfl
theorem val_take_le {xs : List Nat} (q : Nat) : val xs = valTo xs q + B64 ^ q * val (xs.drop q) := by
  induction q with
  | zero => rw [List.drop_zero, Nat.pow_zero, Nat.one_mul]; exact (Nat.zero_add _).symm
  | succ q ih =>
    by_cases h : q < xs.length
    · rw [val_drop h] at ih
      rw [valTo_wd, Nat.pow_succ]
      exact take_le_step ih
    · rw [valTo_all (q + 1) (by omega), List.drop_of_length_le (by omega), val_nil, Nat.mul_zero, Nat.add_zero]
theorem wd_beyond {xs : List Nat} {i : Nat} (h : xs.length ≤ i) : wd xs i = 0 := by
  unfold wd
  rw [List.getD_eq_getElem?_getD, List.getElem?_eq_none h]
  rfl
theorem val_drop' (xs : List Nat) (q : Nat) : val (xs.drop q) = wd xs q + B64 * val (xs.drop (q + 1)) := by
  by_cases h : q < xs.length
  · exact val_drop h
  · rw [List.drop_of_length_le (by omega), List.drop_of_length_le (by omega), wd_beyond (by omega)]
    rfl
/-- What goes out below word t. -/
def goneN (xs : List Nat) (q s t : Nat) : Nat := if t ≤ q then valTo xs t else valTo xs q + B64 ^ q * (wd xs q % 2 ^ s)
theorem goneN_zero (xs : List Nat) (q s : Nat) : goneN xs q s 0 = 0 := by unfold goneN; rw [if_pos (by omega)]; rfl
theorem goneN_below {xs : List Nat} {q s t : Nat} (h : t < q) : goneN xs q s (t + 1) = goneN xs q s t + B64 ^ t * wd xs t := by
  unfold goneN
  rw [if_pos (by omega), if_pos (by omega), valTo_wd]
theorem goneN_at {xs : List Nat} {q s : Nat} : goneN xs q s (q + 1) = goneN xs q s q + B64 ^ q * (wd xs q % 2 ^ s) := by
  unfold goneN
  rw [if_neg (by omega), if_pos (by omega)]
theorem goneN_above {xs : List Nat} {q s t : Nat} (h : q < t) : goneN xs q s (t + 1) = goneN xs q s t := by
  unfold goneN
  rw [if_neg (by omega), if_neg (by omega)]
theorem valTo_lt {xs : List Nat} (hx : W64 xs) (q : Nat) : valTo xs q < B64 ^ q := by
  induction q with
  | zero => simp [valTo]
  | succ q ih =>
    have h0 := wd_lt hx q
    rw [valTo_wd, Nat.pow_succ]
    have := Nat.mul_le_mul_left (B64 ^ q) (show wd xs q + 1 ≤ B64 from h0)
    rw [Nat.mul_add] at this
    omega
/-- The number in three parts: what goes out, and the quotient. -/
theorem shr_split {xs : List Nat} (hx : W64 xs) {q s : Nat} (hs : s ≤ 64) :
    val xs % 2 ^ (64 * q + s) = valTo xs q + B64 ^ q * (wd xs q % 2 ^ s) ∧ val xs / 2 ^ (64 * q + s) = val (xs.drop q) / 2 ^ s := by
  have h1 := val_take_le (xs := xs) q
  have h2 := valTo_lt hx q
  have hB : 0 < B64 ^ q := Nat.pow_pos (by decide)
  have hm : wd xs q % 2 ^ s = val (xs.drop q) % 2 ^ s := by
    rw [val_drop', ← pow_split hs, Nat.mul_comm (2 ^ (64 - s)), Nat.mul_assoc, Nat.add_mul_mod_self_left]
  constructor
  · rw [h1, pow_words, hm, Nat.mod_mul, Nat.add_mul_mod_self_left, Nat.mod_eq_of_lt h2, Nat.add_mul_div_left _ _ hB, Nat.div_eq_of_lt h2, Nat.zero_add]
  · rw [h1, pow_words, ← Nat.div_div_eq_div_mul, Nat.add_mul_div_left _ _ hB, Nat.div_eq_of_lt h2, Nat.zero_add]
theorem goneN_end {xs : List Nat} (hx : W64 xs) {q s t : Nat} (hs : s ≤ 64) (ht : xs.length ≤ t) : goneN xs q s t = val xs % 2 ^ (64 * q + s) := by
  rw [(shr_split hx hs).1]
  unfold goneN
  by_cases h : t ≤ q
  · rw [if_pos h, valTo_all t ht, valTo_all q (by omega), wd_beyond (by omega)]
    simp
  · rw [if_neg h]
/-- One word that is shifted to the right, with what comes in from above. -/
def shrW (s x y : Nat) : Nat := x / 2 ^ s + loS (64 - s) y
theorem shrW_mul {s x y : Nat} (hs : s ≤ 64) : shrW s x y * 2 ^ s + x % 2 ^ s = x + B64 * (y % 2 ^ s) := by
  unfold shrW
  rw [loS_mul (show 64 - s ≤ 64 by omega), show 64 - (64 - s) = s by omega, Nat.add_mul]
  have h1 := Nat.div_add_mod x (2 ^ s)
  have h2 : 2 ^ (64 - s) * (y % 2 ^ s) * 2 ^ s = B64 * (y % 2 ^ s) := by
    rw [Nat.mul_right_comm, pow_split hs]
  rw [h2]
  rw [Nat.mul_comm] at h1
  omega
theorem shrW_lt {s x y : Nat} (hs : s ≤ 64) (hx : x < B64) : shrW s x y < B64 := by
  have h1 := shrW_mul (x := x) (y := y) hs
  have h2 : y % 2 ^ s < 2 ^ s := Nat.mod_lt _ (Nat.two_pow_pos s)
  have h3 := Nat.mul_le_mul_left B64 (show y % 2 ^ s + 1 ≤ 2 ^ s from h2)
  have h5 := Nat.mod_le x (2 ^ s)
  rw [Nat.mul_add] at h3
  have h6 : shrW s x y * 2 ^ s < B64 * 2 ^ s := by omega
  exact Nat.lt_of_mul_lt_mul_right h6
theorem shr_step {xs zs : List Nat} {q s u : Nat} (hs : s ≤ 64) (hv : val zs * 2 ^ s + wd xs q % 2 ^ s = valTo (xs.drop q) u + B64 ^ u * (wd xs (q + u) % 2 ^ s)) (hl : zs.length = u) :
    val (zs ++ [shrW s (wd xs (q + u)) (wd xs (q + u + 1))]) * 2 ^ s + wd xs q % 2 ^ s = valTo (xs.drop q) (u + 1) + B64 ^ (u + 1) * (wd xs (q + u + 1) % 2 ^ s) := by
  have e : wd (xs.drop q) u = wd xs (q + u) := by unfold wd; simp [List.getD_eq_getElem?_getD, List.getElem?_drop]
  have h1 := congrArg (B64 ^ u * ·) (shrW_mul (x := wd xs (q + u)) (y := wd xs (q + u + 1)) hs)
  simp only [Nat.mul_add] at h1
  rw [val_snoc, hl, Nat.add_mul, valTo_wd, e, Nat.pow_succ, Nat.mul_assoc, Nat.mul_assoc]
  omega
theorem shr_end {xs zs : List Nat} (hx : W64 xs) {q s u : Nat} (hs : s ≤ 64) (hv : val zs * 2 ^ s + wd xs q % 2 ^ s = valTo (xs.drop q) u + B64 ^ u * (wd xs (q + u) % 2 ^ s)) (hu : xs.length ≤ q + u) : val zs = val xs / 2 ^ (64 * q + s) := by
  rw [wd_beyond hu, valTo_all u (by rw [List.length_drop]; omega), Nat.zero_mod, Nat.mul_zero, Nat.add_zero] at hv
  rw [(shr_split hx hs).2, ← hv, Nat.mul_comm, Nat.mul_add_div (Nat.two_pow_pos s), Nat.div_eq_of_lt (Nat.mod_lt _ (Nat.two_pow_pos s))]
  rfl
theorem shr_zero {xs : List Nat} (hx : W64 xs) {n q : Nat} (hl : sz xs ≤ q) (hn : 64 * q ≤ n) : val xs / 2 ^ n = 0 ∧ val xs % 2 ^ n = val xs := by
  have h1 := val_lt (hx.take (sz xs))
  rw [val_take_sz, List.length_take, Nat.min_eq_left (sz_le xs)] at h1
  have h2 : val xs < 2 ^ n := Nat.lt_of_lt_of_le h1 (by rw [B64_pow]; exact Nat.pow_le_pow_right (by decide) (by omega))
  exact ⟨Nat.div_eq_of_lt h2, Nat.mod_eq_of_lt h2⟩
theorem shrW_zero {x y : Nat} : x / 2 ^ 0 = shrW 0 x y := by
  unfold shrW loS
  rw [show (64 : Nat) - 0 = 64 from rfl, show (2 : Nat) ^ 64 = B64 from rfl, Nat.mul_mod_left]
  rfl
/-- x&(1<<s-1), as the machine has it. -/
theorem mask_and {s x : Nat} (hs : s < 64) (hx : x < B64) : bits .and .u64 (x : Int) (IntKind.u64.wrap (IntKind.u64.wrap ((2 : Int) ^ s) - 1)) = ((x % 2 ^ s : Nat) : Int) := by
  have h : 2 ^ s < B64 := Nat.pow_lt_pow_right (a := 2) (by decide) hs
  have e : (2 : Int) ^ s - 1 = ((2 ^ s - 1 : Nat) : Int) := by
    have := Nat.two_pow_pos s
    rw [two_cast]
    omega
  have e2 : IntKind.u64.wrap ((2 : Int) ^ s) = (2 : Int) ^ s := by rw [two_cast, wrapS h]
  rw [e2, e, wrapS (by omega), bits_and_u64_nat _ _ hx (by unfold B64 at h; omega), Nat.and_two_pow_sub_one_eq_mod]
theorem mask_and0 {s x : Nat} (hs : s < 64) (hx : x < B64) (h : x % 2 ^ s = 0) : bits .and .u64 (x : Int) (IntKind.u64.wrap (IntKind.u64.wrap ((2 : Int) ^ s) - 1)) = 0 := by rw [mask_and hs hx, h]; rfl
def srS (s x : Nat) : Nat := x / 2 ^ s
theorem shr_cast (s x : Nat) : (x : Int) / 2 ^ s = ((srS s x : Nat) : Int) := by rw [two_cast, ← Int.natCast_ediv]; rfl
/-- x>>s | y<<(64-s). -/
theorem bits_shr {s x y : Nat} (hs : s ≤ 64) (hx : x < B64) : bits .or .u64 ((srS s x : Nat) : Int) (IntKind.u64.wrap ((y : Int) * 2 ^ (64 - s))) = ((shrW s x y : Nat) : Int) := by
  rw [bits_hilo (by omega) (by
    unfold srS
    refine Nat.div_lt_of_lt_mul ?_
    rw [Nat.mul_comm, pow_split hs]; exact hx)]
  unfold shrW srS
  rw [Nat.add_comm]
end Go.Proofs.YtpodpdopgdkdkaaGreatDoor
