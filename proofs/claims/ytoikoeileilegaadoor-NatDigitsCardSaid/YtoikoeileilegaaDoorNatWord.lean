/- The contracts of math/bits.Div64, nat.word, and the reference's small and Of. -/
import Derived.Test.YtoikoeileilegaaDoorDiv64
namespace Go.Proofs.YtoikoeileilegaaDoor
open Go.RowKit
theorem div64_calls (w : World) (hi lo y : Nat) (hy : hi < y) (hl : lo < B64) (hb : y < B64) :
    Calls Tryd.prog 72 #[.int .u64 (hi : Nat), .int .u64 (lo : Nat), .int .u64 (y : Nat)] w fun e w' => e = .returned (.tuple #[.int .u64 ((hi * B64 + lo) / y : Nat), .int .u64 ((hi * B64 + lo) % y : Nat)]) ∧ ∃ m, w' = w.drewN m := by
  rcases Nat.eq_zero_or_pos hi with rfl | h0
  · rw [Nat.zero_mul, Nat.zero_add]
    exact div64_low w lo y (by omega) hl
  · have h1 := blen_le64 hb
    have h2 : 2 ≤ blen y := by
      have := (blen_lo (show 0 < y by omega)).2
      rcases Nat.lt_or_ge (blen y) 2 with h | h
      · have : 2 ^ blen y ≤ 2 ^ 1 := Nat.pow_le_pow_right (by decide) (by omega)
        omega
      · exact h
    exact div64_high w hi lo y (64 - blen y) h0 hy hl hb (by omega) (by omega)
/-! ### Division by one word -/
theorem val_drop {xs : List Nat} {t : Nat} (h : t < xs.length) : val (xs.drop t) = wd xs t + B64 * val (xs.drop (t + 1)) := by
  rw [List.drop_eq_getElem_cons h]
  simp [val, wd, List.getD_eq_getElem?_getD, h]
theorem drop_set {xs : List Nat} {t n : Nat} : (xs.set t n).drop (t + 1) = xs.drop (t + 1) := by
  rw [List.drop_set_of_lt (by omega)]
theorem word_step {xs zs : List Nat} {t n r : Nat} (hv : val (zs.drop (t + 1)) * n + r = val (xs.drop (t + 1))) (hx : t < xs.length) (hz : t < zs.length) :
    val ((zs.set t ((r * B64 + wd xs t) / n)).drop t) * n + (r * B64 + wd xs t) % n = val (xs.drop t) := by
  rw [val_drop hx, val_drop (by rw [List.length_set]; exact hz), drop_set, ← hv]
  have e : wd (zs.set t ((r * B64 + wd xs t) / n)) t = (r * B64 + wd xs t) / n := by unfold wd; simp [List.getD_eq_getElem?_getD, hz]
  rw [e, Nat.add_mul]
  have h := Nat.div_add_mod (r * B64 + wd xs t) n
  rw [Nat.mul_comm n] at h
  rw [Nat.mul_add, Nat.mul_assoc]
  generalize (r * B64 + wd xs t) / n * n = a at *
  generalize val (zs.drop (t + 1)) * n = b at *
  generalize wd xs t = x at *
  rw [Nat.mul_comm B64 r]
  omega
theorem word_lt {r x n : Nat} (h : r < n) (hx : x < B64) : (r * B64 + x) / n < B64 := div_lt_base h hx
theorem word_end {zs xs : List Nat} {n r : Nat} (hv : val (zs.drop 0) * n + r = val (xs.drop 0)) (hr : r < n) : val zs = val xs / n ∧ r = val xs % n := by
  rw [List.drop_zero, List.drop_zero] at hv
  rw [← hv, Nat.mul_comm, Nat.mul_add_div (by omega), Nat.mul_add_mod, Nat.div_eq_of_lt hr, Nat.mod_eq_of_lt hr]
  exact ⟨rfl, rfl⟩
set_option maxRecDepth 10000 in
set_option maxHeartbeats 1000000 in
theorem word_calls (w : World) (a : Option Addr) (la ca : Nat) (xs : List Nat) (n : Nat) (ha : SlW w a la ca xs) (sa : la ≤ 4398046511104) (hn : 0 < n) (hnb : n < B64) :
    Calls Tryd.prog 58 #[.slice a la ca, .int .u64 (n : Nat)] w (NatRes2 w (val xs / n) la (.int .u64 (val xs % n : Nat))) := by
  have m1 := ha.hle
  have m2 := ha.hmax
  have HA := Lib.hid ha
  have HX := Lib.hid ha.hw
  have HXL := Lib.hid ha.hlen
  have HNB := Lib.hid hnb
  clear ha hnb
  go_enter Tryd.func58, Tryd.ntmps58
  go_wp2_with ((with_reducible refine gate_make 22 ?_); refine mk_words (Below.refl w.heap.size w) la (by omega) (fun W g hgB _ hBW _ hgw => ?_); have HBW := Lib.hid hBW; have HGW := Lib.hid hgw; have HGB := Lib.hid hgB; clear hBW hgw hgB)
  go_loopw [8, 7] (fun i cr wr => ∃ (t r : Nat) (zs : List Nat), t ≤ la ∧ i = .int .i64 ((t : Int) - 1) ∧ cr = .int .u64 (r : Nat) ∧ r < n ∧ WordsAt wr g zs ∧ zs.length = la ∧ W64 zs ∧ val (zs.drop t) * n + r = val (xs.drop t) ∧ Below w.heap.size w wr) (fun i _ _ => (intOf i + 1).toNat)
  case atStart => exact ⟨la, 0, List.replicate la 0, by omega, rfl, rfl, hn, HGW.out, by simp, W64.zeros _, by rw [List.drop_of_length_le (by simp), List.drop_of_length_le (by rw [HXL.out]; exact Nat.le_refl _)]; simp [val], HBW.out⟩
  case round =>
    obtain ⟨t, r, zs, ht, rfl, rfl, hr, hz, hzl, hzw, hv, hbw⟩ := hrel
    have HZ := Lib.hid hz
    have HZL := Lib.hid hzl
    have HZW := Lib.hid hzw
    have HV := Lib.hid hv
    have HBR := Lib.hid hbw
    clear hz hzl hzw hv hbw HBW HGW
    by_cases h0 : 0 < t
    · obtain ⟨u, rfl⟩ : ∃ u, t = u + 1 := ⟨t - 1, by omega⟩
      have e0 : (((u + 1 : Nat) : Int) - 1) = (u : Nat) := by omega
      rw [e0]
      obtain ⟨p, o, rfl, hx⟩ := HA.out.wcell u (by omega)
      have hxr : wr.cell? ⟨p, o + u, none⟩ = some (.int .u64 ((wd xs u : Nat) : Int)) := by rw [HBR.out.cell (World.block_lt_of_cell? w _ hx)]; exact hx
      clear hx
      have HC := Lib.hid (div64_calls wr r (wd xs u) n hr (wd_lt HX.out u) HNB.out)
      have HS := Lib.hid (word_step HV.out (by rw [HXL.out]; omega) (by rw [HZL.out]; omega))
      have HQ := Lib.hid (HZW.out.set u _ (word_lt hr (wd_lt HX.out u)))
      have HR := Lib.hid (Nat.mod_lt (r * B64 + wd xs u) hn)
      obtain ⟨q, hq⟩ : ∃ q, (r * B64 + wd xs u) / n = q := ⟨_, rfl⟩
      obtain ⟨r', hr'⟩ : ∃ q, (r * B64 + wd xs u) % n = q := ⟨_, rfl⟩
      rw [hq, hr'] at HC HS
      rw [hq] at HQ
      rw [hr'] at HR
      clear hq hr'
      go_wp2_with (first | (go_at_call 72; refine HC.out.mono ?_; rintro e w' ⟨rfl, m, rfl⟩; have HZ2 := Lib.hid (HZ.out.drewN m); have HBR2 := Lib.hid (below_drewN' HBR.out m)) | ((with_reducible refine gate_store 46 ?_); refine st_word HBR2.out HZ2.out HGB.out u q (by rw [HZL.out]; omega) (fun W2 hB2 _ _ hz2 => ?_); have HB2 := Lib.hid hB2; have HZ3 := Lib.hid hz2; clear hB2 hz2))
      go_roundw
      case rel => exact ⟨u, r', zs.set u q, by omega, by first | rfl | go_num, rfl, HR.out, HZ3.out, by rw [List.length_set]; exact HZL.out, HQ.out, HS.out, HB2.out⟩
      case measure => simp [intOf]
    · have ht0 : t = 0 := by omega
      subst ht0
      have HN := Lib.hid (word_end HV.out hr)
      go_wp2_with fail
      refine (size_calls wr _ la la zs (HZ.out.slAll HZW.out HZL.out (by omega))).mono ?_
      rintro e w' ⟨rfl, rfl⟩
      have hsz := sz_le zs
      have hs2 : sz zs ≤ la := by rw [← HZL.out]; exact hsz
      clear hsz
      go_wp2
      go_ret2
      rw [HN.out.2]
      exact (natRes_mk HZ.out HGB.out HZW.out HZL.out (by omega) HN.out.1 (by omega) HBR.out).two
/-- Two natural numbers that the call has made. -/
def NatPair (w : World) (n m bd bd' : Nat) (e : Ending) (w' : World) : Prop :=
  ∃ a c zs a' c' ys, e = .returned (.tuple #[.slice a zs.length c, .slice a' ys.length c']) ∧ (OwnW w.heap.size w' a zs.length c zs ∧ val zs = n ∧ sz zs = zs.length ∧ zs.length ≤ bd) ∧ (OwnW w.heap.size w' a' ys.length c' ys ∧ val ys = m ∧ sz ys = ys.length ∧ ys.length ≤ bd') ∧ Below w.heap.size w w'
theorem one_word (w : World) (n : Nat) : WordsAt (w.alloc (.cells #[.int .u64 (n : Nat)] 46)) w.heap.size [n] := heap_new w _
theorem w64_one {n : Nat} (h : n < B64) : W64 [n] := by intro x hx; rw [List.mem_singleton.1 hx]; exact h
theorem val_one (n : Nat) : val [n] = n := by simp [val]
set_option maxRecDepth 10000 in
set_option maxHeartbeats 1000000 in
theorem refOf_calls (w : World) (n : Nat) (hn : n < B64) :
    Calls Tryd.prog 89 #[.int .u64 (n : Nat)] w (NatRes w n 1) := by
  have HT := Lib.hid (refTrim_calls _ _ 1 1 [n] ((one_word w n).slAll (w64_one hn) rfl (by omega)) (.inr ⟨_, _, rfl⟩) (by omega))
  clear hn
  go_enter Tryd.func89, Tryd.ntmps89
  go_wp2_with fail
  refine HT.out.mono ?_
  rintro e w2 hr
  have hr2 := natRes_trans ((Below.refl _ _).alloc (Nat.le_refl _) _) hr
  rw [val_one] at hr2
  obtain ⟨a', c', rs, rfl, r1, r2, r3, r4, r5⟩ := hr2
  have R := Lib.hid (And.intro r1 (And.intro r2 (And.intro r3 (And.intro r4 r5))))
  clear r1 r2 r3 r4 r5 hr
  go_wp2
  go_ret
  exact ⟨a', c', rs, rfl, R.out.1, R.out.2.1, R.out.2.2.1, R.out.2.2.2.1, R.out.2.2.2.2⟩
theorem trim_res {w : World} {a : Option Addr} {len cap : Nat} {xs : List Nat} (h : SlW w a len cap xs) (hp : Plain a) (hs : len ≤ 17592186044416) :
    Calls Tryd.prog 25 #[.slice a len cap] w (NatRes w (val xs) len) := by
  refine (trim_calls w a len cap xs h hp hs).mono ?_
  rintro e w' ⟨a', c', rfl, ho, hb⟩
  have e := ho.hlen
  refine ⟨a', c', xs.take (sz xs), by rw [e], by rw [e]; exact ho, val_take_sz xs, by rw [sz_take_sz, e], by rw [e]; exact h.sz_le, hb⟩
set_option maxRecDepth 10000 in
set_option maxHeartbeats 1000000 in
theorem natOf_calls (w : World) (n : Nat) (hn : n < B64) :
    Calls Tryd.prog 48 #[.int .u64 (n : Nat)] w (NatRes w n 1) := by
  have HT := Lib.hid (trim_res ((one_word w n).slAll (N := 1) (w64_one hn) rfl (by omega)) (.inr ⟨_, _, rfl⟩) (by omega))
  clear hn
  go_enter Tryd.func48, Tryd.ntmps48
  go_wp2_with fail
  refine HT.out.mono ?_
  rintro e w2 hr
  have hr2 := natRes_trans ((Below.refl _ _).alloc (Nat.le_refl _) _) hr
  rw [val_one] at hr2
  obtain ⟨a', c', rs, rfl, r1, r2, r3, r4, r5⟩ := hr2
  have R := Lib.hid (And.intro r1 (And.intro r2 (And.intro r3 (And.intro r4 r5))))
  clear r1 r2 r3 r4 r5 hr
  go_wp2
  go_ret
  exact ⟨a', c', rs, rfl, R.out.1, R.out.2.1, R.out.2.2.1, R.out.2.2.2.1, R.out.2.2.2.2⟩
set_option maxRecDepth 10000 in
set_option maxHeartbeats 1000000 in
theorem refSmall_calls (w : World) (a : Option Addr) (la ca : Nat) (xs : List Nat) (n : Nat) (ha : SlW w a la ca xs) (sa : la ≤ 4398046511104) (hn : 0 < n) (hnb : n < B64) :
    Calls Tryd.prog 71 #[.slice a la ca, .int .u64 (n : Nat)] w (NatPair w (val xs / n) (val xs % n) la 1) := by
  have m1 := ha.hle
  have m2 := ha.hmax
  have HA := Lib.hid ha
  have HX := Lib.hid ha.hw
  have HXL := Lib.hid ha.hlen
  have HNB := Lib.hid hnb
  clear ha hnb
  go_enter Tryd.func71, Tryd.ntmps71
  go_wp2_with ((with_reducible refine gate_make 22 ?_); refine mk_words (Below.refl w.heap.size w) la (by omega) (fun W g hgB _ hBW _ hgw => ?_); have HBW := Lib.hid hBW; have HGW := Lib.hid hgw; have HGB := Lib.hid hgB; clear hBW hgw hgB)
  go_loopw [8, 7] (fun i cr wr => ∃ (t r : Nat) (zs : List Nat), t ≤ la ∧ i = .int .i64 ((t : Int) - 1) ∧ cr = .int .u64 (r : Nat) ∧ r < n ∧ WordsAt wr g zs ∧ zs.length = la ∧ W64 zs ∧ val (zs.drop t) * n + r = val (xs.drop t) ∧ Below w.heap.size w wr) (fun i _ _ => (intOf i + 1).toNat)
  case atStart => exact ⟨la, 0, List.replicate la 0, by omega, rfl, rfl, hn, HGW.out, by simp, W64.zeros _, by rw [List.drop_of_length_le (by simp), List.drop_of_length_le (by rw [HXL.out]; exact Nat.le_refl _)]; simp [val], HBW.out⟩
  case round =>
    obtain ⟨t, r, zs, ht, rfl, rfl, hr, hz, hzl, hzw, hv, hbw⟩ := hrel
    have HZ := Lib.hid hz
    have HZL := Lib.hid hzl
    have HZW := Lib.hid hzw
    have HV := Lib.hid hv
    have HBR := Lib.hid hbw
    clear hz hzl hzw hv hbw HBW HGW
    by_cases h0 : 0 < t
    · obtain ⟨u, rfl⟩ : ∃ u, t = u + 1 := ⟨t - 1, by omega⟩
      have e0 : (((u + 1 : Nat) : Int) - 1) = (u : Nat) := by omega
      rw [e0]
      obtain ⟨p, o, rfl, hx⟩ := HA.out.wcell u (by omega)
      have hxr : wr.cell? ⟨p, o + u, none⟩ = some (.int .u64 ((wd xs u : Nat) : Int)) := by rw [HBR.out.cell (World.block_lt_of_cell? w _ hx)]; exact hx
      clear hx
      have HC := Lib.hid (div64_calls wr r (wd xs u) n hr (wd_lt HX.out u) HNB.out)
      have HS := Lib.hid (word_step HV.out (by rw [HXL.out]; omega) (by rw [HZL.out]; omega))
      have HQ := Lib.hid (HZW.out.set u _ (word_lt hr (wd_lt HX.out u)))
      have HR := Lib.hid (Nat.mod_lt (r * B64 + wd xs u) hn)
      obtain ⟨q, hq⟩ : ∃ q, (r * B64 + wd xs u) / n = q := ⟨_, rfl⟩
      obtain ⟨r', hr'⟩ : ∃ q, (r * B64 + wd xs u) % n = q := ⟨_, rfl⟩
      rw [hq, hr'] at HC HS
      rw [hq] at HQ
      rw [hr'] at HR
      clear hq hr'
      go_wp2_with (first | (go_at_call 72; refine HC.out.mono ?_; rintro e w' ⟨rfl, m, rfl⟩; have HZ2 := Lib.hid (HZ.out.drewN m); have HBR2 := Lib.hid (below_drewN' HBR.out m)) | ((with_reducible refine gate_store 46 ?_); refine st_word HBR2.out HZ2.out HGB.out u q (by rw [HZL.out]; omega) (fun W2 hB2 _ _ hz2 => ?_); have HB2 := Lib.hid hB2; have HZ3 := Lib.hid hz2; clear hB2 hz2))
      go_roundw
      case rel => exact ⟨u, r', zs.set u q, by omega, by first | rfl | go_num, rfl, HR.out, HZ3.out, by rw [List.length_set]; exact HZL.out, HQ.out, HS.out, HB2.out⟩
      case measure => simp [intOf]
    · have ht0 : t = 0 := by omega
      subst ht0
      have HN := Lib.hid (word_end HV.out hr)
      have hrb : r < B64 := Nat.lt_trans hr HNB.out
      have HRB := Lib.hid hrb
      clear hrb
      go_wp2_with fail
      refine (refTrim_calls wr _ la la zs (HZ.out.slAll HZW.out HZL.out (by omega)) (.inr ⟨_, _, rfl⟩) (by omega)).mono ?_
      rintro e w2 hq
      have hq2 := natRes_trans HBR.out hq
      rw [HN.out.1] at hq2
      obtain ⟨a', c', rs, rfl, r1, r2, r3, r4, r5⟩ := hq2
      have R := Lib.hid (And.intro r1 (And.intro r2 (And.intro r3 (And.intro r4 r5))))
      clear r1 r2 r3 r4 r5 hq
      go_wp2_with fail
      refine (refOf_calls w2 r HRB.out).mono ?_
      rintro e w3 ⟨a2, c2, us, rfl, s1, s2, s3, s4, s5⟩
      have SS := Lib.hid (And.intro s1 (And.intro s2 (And.intro s3 (And.intro s4 s5))))
      clear s1 s2 s3 s4 s5
      go_wp2
      go_ret2
      have hb := R.out.2.2.2.2
      exact ⟨a', c', rs, a2, c2, us, rfl, ⟨R.out.1.keep SS.out.2.2.2.2, R.out.2.1, R.out.2.2.1, R.out.2.2.2.1⟩, ⟨SS.out.1.mono hb.size, by rw [SS.out.2.1]; exact HN.out.2, SS.out.2.2.1, SS.out.2.2.2.1⟩, below_then hb SS.out.2.2.2.2⟩
end Go.Proofs.YtoikoeileilegaaDoor
