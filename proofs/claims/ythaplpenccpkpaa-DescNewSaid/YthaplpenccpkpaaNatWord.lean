/- The contracts of math/bits.Div64, nat.word, and the reference's small and Of. -/
import Derived.Test.YthaplpenccpkpaaDiv64
namespace Go.Proofs.Ythaplpenccpkpaa
open Go.RowKit
theorem val_drop {xs : List Nat} {t : Nat} (h : t < xs.length) : val (xs.drop t) = wd xs t + B64 * val (xs.drop (t + 1)) := by
  rw [List.drop_eq_getElem_cons h]
  simp [val, wd, List.getD_eq_getElem?_getD, h]
theorem drop_set {xs : List Nat} {t n : Nat} : (xs.set t n).drop (t + 1) = xs.drop (t + 1) := by
  rw [List.drop_set_of_lt (by omega)]
theorem word_step {xs zs : List Nat} {t n r : Nat} (hv : val (zs.drop (t + 1)) * n + r = val (xs.drop (t + 1))) (hx : t < xs.length) (hz : t < zs.length) :
    val ((zs.set t ((r * B64 + wd xs t) / n)).drop t) * n + (r * B64 + wd xs t) % n = val (xs.drop t) := by
  rw [val_drop hx, val_drop (by rw [List.length_set]; exact hz), drop_set, ← hv]
  have e : wd (zs.set t ((r * B64 + wd xs t) / n)) t = (r * B64 + wd xs t) / n := by unfold wd; simp [List.getD_eq_getElem?_getD, hz]
  rw [e, Nat.add_mul]
  have h := Nat.div_add_mod (r * B64 + wd xs t) n
  rw [Nat.mul_comm n] at h
  rw [Nat.mul_add, Nat.mul_assoc]
  generalize (r * B64 + wd xs t) / n * n = a at *
  generalize val (zs.drop (t + 1)) * n = b at *
  generalize wd xs t = x at *
  rw [Nat.mul_comm B64 r]
  omega
theorem word_lt {r x n : Nat} (h : r < n) (hx : x < B64) : (r * B64 + x) / n < B64 := div_lt_base h hx
theorem word_end {zs xs : List Nat} {n r : Nat} (hv : val (zs.drop 0) * n + r = val (xs.drop 0)) (hr : r < n) : val zs = val xs / n ∧ r = val xs % n := by
  rw [List.drop_zero, List.drop_zero] at hv
  rw [← hv, Nat.mul_comm, Nat.mul_add_div (by omega), Nat.mul_add_mod, Nat.div_eq_of_lt hr, Nat.mod_eq_of_lt hr]
  exact ⟨rfl, rfl⟩
/-- Two natural numbers that the call has made. -/
def NatPair (w : World) (n m bd bd' : Nat) (e : Ending) (w' : World) : Prop :=
  ∃ a c zs a' c' ys, e = .returned (.tuple #[.slice a zs.length c, .slice a' ys.length c']) ∧ (OwnW w.heap.size w' a zs.length c zs ∧ val zs = n ∧ sz zs = zs.length ∧ zs.length ≤ bd) ∧ (OwnW w.heap.size w' a' ys.length c' ys ∧ val ys = m ∧ sz ys = ys.length ∧ ys.length ≤ bd') ∧ Below w.heap.size w w'
theorem one_word (w : World) (n : Nat) : WordsAt (w.alloc (.cells #[.int .u64 (n : Nat)] 59)) w.heap.size [n] := heap_new w _
theorem w64_one {n : Nat} (h : n < B64) : W64 [n] := by intro x hx; rw [List.mem_singleton.1 hx]; exact h
theorem val_one (n : Nat) : val [n] = n := by simp [val]
theorem trim_res {w : World} {a : Option Addr} {len cap : Nat} {xs : List Nat} (h : SlW w a len cap xs) (hp : Plain a) (hs : len ≤ 17592186044416) :
    Calls Try.prog 59 #[.slice a len cap] w (NatRes w (val xs) len) := by
  refine (trim_calls w a len cap xs h hp hs).mono ?_
  rintro e w' ⟨a', c', rfl, ho, hb⟩
  have e := ho.hlen
  refine ⟨a', c', xs.take (sz xs), by rw [e], by rw [e]; exact ho, val_take_sz xs, by rw [sz_take_sz, e], by rw [e]; exact h.sz_le, hb⟩
set_option maxRecDepth 10000 in
set_option maxHeartbeats 1000000 in
theorem natOf_calls (w : World) (n : Nat) (hn : n < B64) :
    Calls Try.prog 90 #[.int .u64 (n : Nat)] w (NatRes w n 1) := by
  have HT := Lib.hid (trim_res ((one_word w n).slAll (N := 1) (w64_one hn) rfl (by omega)) (.inr ⟨_, _, rfl⟩) (by omega))
  clear hn
  go_enter Try.func90, Try.ntmps90
  go_wp2_with fail
  refine HT.out.mono ?_
  rintro e w2 hr
  have hr2 := natRes_trans ((Below.refl _ _).alloc (Nat.le_refl _) _) hr
  rw [val_one] at hr2
  obtain ⟨a', c', rs, rfl, r1, r2, r3, r4, r5⟩ := hr2
  have R := Lib.hid (And.intro r1 (And.intro r2 (And.intro r3 (And.intro r4 r5))))
  clear r1 r2 r3 r4 r5 hr
  go_wp2
  go_ret
  exact ⟨a', c', rs, rfl, R.out.1, R.out.2.1, R.out.2.2.1, R.out.2.2.2.1, R.out.2.2.2.2⟩
end Go.Proofs.Ythaplpenccpkpaa
