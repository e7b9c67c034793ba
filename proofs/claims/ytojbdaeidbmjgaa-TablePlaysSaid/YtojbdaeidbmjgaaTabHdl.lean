/- (*Table).Handles and Len. No conditions. -/
import Derived.Test.YtojbdaeidbmjgaaTabPut
import Derived.Test.YtojbdaeidbmjgaaShelf
import Derived.Test.YtojbdaeidbmjgaaIter
import Derived.Shelf.SlIterI.Nil
import Derived.Shelf.SortM.Plain
import Derived.Shelf.SortM.SortNone
namespace Go.Proofs.Ytojbdaeidbmjgaa
set_option linter.unusedVariables false
set_option linter.unusedSimpArgs false
open Go.RowKit Go.Maps Go.Sort Go.Shelf
theorem sortsA (m : Nat) : AnyZI.SortsIn Try.prog Try.sortedA_ren Fence.wide m :=
  ⟨fun blk off cap ss W hH hblk hsz => callsIn_wide.2 (AnyM.slices_Sort_int Try.laysSlM5_f56 blk off cap ss W hH hblk hsz),
   fun p cap W => callsIn_wide.2 (AnyM.slices_Sort_int_none Try.laysSlM5_f56 p cap W)⟩
theorem mapsKeys_calls (mb : Option Nat) (w : World) :
    Calls Try.prog 34 #[.map mb] w fun e w' => e = .returned (.func (.func 57) #[] #[.pointer (some ⟨w.heap.size, 0, none⟩)]) ∧ w' = w.alloc (.cells #[.map mb] 53) :=
  (callsIn_wide (n := 5)).1 (AnyZI.keys_in Try.keysA Fence.wide 5 trivial rfl mb w)
/-- slices.Sorted at what maps.Keys of a map that is not nil handed back. -/
theorem sorted_full (b nn : Nat) (D0 : DataW Unit) (w : World) (hown : w.ownsMap Try.prog 3 entElem b nn D0) (hmax : Maps.size D0 ≤ 1000) :
    Calls Try.prog 33 #[.func (.func 57) #[] #[.pointer (some ⟨w.heap.size, 0, none⟩)]] (w.alloc (.cells #[.map (some b)] 53)) fun e w' => ∃ (v : Value) (ss : List Int), e = .returned v ∧ ss.Perm (intKeys D0) ∧
      w'.ownsRow w.heap.size 3 1 v ss.length ((ss.mergeSort (fun x y => decide (x ≤ y))).map encZ) ∧ Below w.heap.size w w' := by
  have hbl := hown.lt
  have hseq : SeqGives Fence.wide 2 Try.prog 57 #[.pointer (some ⟨w.heap.size, 0, none⟩)] encZ (fun ss => ss.Perm (intKeys D0)) (Maps.size D0) (w.alloc (.cells #[.map (some b)] 53)) :=
    AnyZI.keys_gives (ρ := Try.keysA_ren) { Try.keysA with } Fence.wide _ trivial rfl (by omega) w.heap.size b nn D0 _ (by simp) (by simp) (by
      obtain ⟨es, clock, hb, Ft, hs, hD⟩ := hown
      exact ⟨es, clock, (Below.heap_alloc _ _ b hbl).trans hb, Ft, hs, hD⟩)
  have cS := AnyZI.sorted_in Try.sortedA Fence.wide 5 trivial trivial trivial trivial rfl (by omega) (sortsA _) (enters_of Try.func56 (by kernel_rfl) rfl) 57 #[.pointer (some ⟨w.heap.size, 0, none⟩)] trivial (enters_of Try.func57 (by kernel_rfl) rfl) _ _ (by unfold maxLen; omega) (by omega) _ hseq
  change CallsIn _ _ Try.prog 33 _ _ _ at cS
  refine ((callsIn_wide (n := 5)).1 cS).mono ?_
  rintro e w' ⟨v, ss, rfl, hS, hrow, hnil, hb⟩
  exact ⟨v, ss, rfl, hS, ownsRow_base_a hrow (by simp), ((Below.refl _ w).alloc (Nat.le_refl _) _).trans (hb.mono (by simp))⟩
theorem sorted_nil (w : World) :
    Calls Try.prog 33 #[.func (.func 57) #[] #[.pointer (some ⟨w.heap.size, 0, none⟩)]] (w.alloc (.cells #[.map none] 53)) fun e w' => e = .returned (.slice none 0 0) ∧ Below w.heap.size w w' := by
  have hseq : SeqGives Fence.wide 2 Try.prog 57 #[.pointer (some ⟨w.heap.size, 0, none⟩)] encZ (fun ss : List Int => ss = []) 0 (w.alloc (.cells #[.map none] 53)) :=
    AnyZI.keys_gives_nil (ρ := Try.keysA_ren) { Try.keysA with } Fence.wide _ trivial rfl w.heap.size _ (by simp) (by simp)
  have cS := AnyZI.sorted_in Try.sortedA Fence.wide 5 trivial trivial trivial trivial rfl (by omega) (sortsA _) (enters_of Try.func56 (by kernel_rfl) rfl) 57 #[.pointer (some ⟨w.heap.size, 0, none⟩)] trivial (enters_of Try.func57 (by kernel_rfl) rfl) _ 0 (Nat.zero_le _) (by omega) _ hseq
  change CallsIn _ _ Try.prog 33 _ _ _ at cS
  refine ((callsIn_wide (n := 5)).1 cS).mono ?_
  rintro e w' ⟨v, ss, rfl, rfl, hrow, hnil, hb⟩
  obtain rfl : v = .slice none 0 0 := hnil.2 rfl
  exact ⟨rfl, ((Below.refl _ w).alloc (Nat.le_refl _) _).trans (hb.mono (by simp))⟩
/-- The sorted keys, and how many they are. -/
theorem keys_sorted {w : World} {b nn : Nat} {D : DataW Unit} (hown : w.ownsMap Try.prog 3 entElem b nn D) {ss : List Int} (h : ss.Perm (intKeys D)) :
    SortedKeys D (ss.mergeSort (fun x y => decide (x ≤ y))) ∧ ss.length = Maps.size D := by
  obtain ⟨es, hD, hpw, _⟩ := hown.entries keyed_int
  obtain ⟨es', hD', hko⟩ := hown.keysOf
  obtain rfl : es = es' := by rw [hD] at hD'; simpa using hD'
  subst hD
  have hk : ∀ p ∈ es, ∃ x, p.1 = .int .i64 x := fun p hp => by obtain ⟨v, hv⟩ := hko p hp; obtain ⟨x, _, hx, _⟩ := Maps.keyOf_i64 Try.underlying3 hv; exact ⟨x, hx⟩
  have hnd : (intKeys (.map es : DataW Unit)).Nodup := by
    show (es.map fun p => Go.intOf p.1).Nodup
    refine List.pairwise_map.2 (hpw.imp_of_mem fun {p q} hp' hq' hne e => hne ?_)
    obtain ⟨a, ha⟩ := hk p hp'
    obtain ⟨b, hb⟩ := hk q hq'
    rw [ha, hb] at e ⊢
    exact congrArg _ e
  have hmem : ∀ x, x ∈ intKeys (.map es : DataW Unit) ↔ Maps.has (.map es : DataW Unit) (.int .i64 x) = true := fun x => by
    rw [has_eq, List.any_eq_true]
    show x ∈ (es.map fun p => Go.intOf p.1) ↔ _
    rw [List.mem_map]
    constructor
    · rintro ⟨p, hp', rfl⟩
      obtain ⟨a, ha⟩ := hk p hp'
      exact ⟨p, hp', by rw [ha]; simp [Lit.sameKey, Go.intOf]⟩
    · rintro ⟨p, hp', hs⟩
      obtain ⟨a, ha⟩ := hk p hp'
      rw [ha] at hs
      exact ⟨p, hp', by rw [ha]; simpa [Lit.sameKey, Go.intOf] using hs⟩
  have hp := (List.mergeSort_perm ss (fun x y => decide (x ≤ y))).trans h
  refine ⟨⟨?_, fun x => by rw [hp.mem_iff]; exact hmem x⟩, ?_⟩
  · have tr : ∀ a b c : Int, decide (a ≤ b) = true → decide (b ≤ c) = true → decide (a ≤ c) = true := fun a b c h1 h2 => by simp only [decide_eq_true_eq] at *; omega
    have tot : ∀ a b : Int, (decide (a ≤ b) || decide (b ≤ a)) = true := fun a b => by simp only [Bool.or_eq_true, decide_eq_true_eq]; omega
    have h1 := List.pairwise_mergeSort (le := fun x y : Int => decide (x ≤ y)) tr tot ss
    have h2 : (ss.mergeSort (fun x y => decide (x ≤ y))).Nodup := hp.nodup_iff.2 hnd
    exact (h1.and h2).imp (fun h => by have := h.1; have := h.2; simp only [decide_eq_true_eq] at *; omega)
  · rw [h.length_eq]
    show (es.map fun p => Go.intOf p.1).length = es.length
    simp
/-- What Handles answers. -/
def HdlRes (w0 : World) (sb : Nat) (D : DataW Unit) (w : World) (e : Ending) (w' : World) : Prop :=
  ∃ (v : Value) (xs : List Int), e = .returned v ∧ SortedKeys D xs ∧ xs.length = Maps.size D ∧ w'.ownsRow w.heap.size 3 1 v xs.length (xs.map encZ) ∧ TabAt w0 w' sb D ∧ Keep sb w w'
theorem row_set {w : World} {B sb : Nat} {v : Value} {n : Nat} {xs : List Value} (h : w.ownsRow B 3 1 v n xs) (hs : sb < B) (i : Nat) (u : Value) : (w.setCell ⟨sb, i, none⟩ u).ownsRow B 3 1 v n xs := by
  obtain ⟨h1, h2⟩ := h
  refine ⟨h1, ?_⟩
  rcases h2 with h2 | ⟨g, cap, cur, hv, hB, hg, hr⟩
  · exact .inl h2
  · exact .inr ⟨g, cap, cur, hv, hB, (heap_set_other (by omega) i u).trans hg, hr⟩
set_option maxRecDepth 10000 in
set_option maxHeartbeats 1600000 in
theorem handles_tab (w0 : World) (sb : Nat) (D : DataW Unit) (w : World) (hT : TabAt w0 w sb D) (hsz : Maps.size D ≤ 1000) :
    Calls Try.prog 22 #[.pointer (some ⟨sb, 0, none⟩)] w (HdlRes w0 sb D w) := by
  have HT := Lib.hid hT
  have HH := Lib.hid hT.take
  have c0 := hT.lock
  have f0 := hT.free 0
  have hlt := hT.lt
  obtain ⟨W2, hW2⟩ : ∃ W, W = w.setCell ⟨sb, 0, none⟩ (.int .i32 1) := ⟨_, rfl⟩
  have HWS : Hid (W2.heap.size = w.heap.size) := Lib.hid (by rw [hW2, size_set])
  have HK2 := Lib.hid (Keep.of_set sb w 0 (.int .i32 1))
  rw [← hW2] at HH HK2
  have HL := Lib.hid ((lock_free ⟨sb, 0, none⟩ _ c0 f0).mono fun e w' (h : _ ∧ _) => (⟨h.1, hW2.trans h.2.symm⟩ : e = .returned (.tuple #[]) ∧ W2 = w'))
  have HLT := Lib.hid hlt
  have HSZ := Lib.hid hsz
  clear c0 f0 hT hW2 hlt hsz
  go_enter_defers Try.func22, Try.ntmps22
  go_wp2_with fail
  refine HL.out.mono ?_
  rintro e w' ⟨rfl, rfl⟩
  clear HL
  rcases HH.out.fld with ⟨c2, hD⟩ | ⟨bm, n, c2, hbs, hbase, hown⟩
  · go_wp2_with fail
    refine (mapsKeys_calls _ _).mono ?_
    rintro e w' ⟨rfl, rfl⟩
    go_wp2_with fail
    refine (sorted_nil _).mono ?_
    rintro e w3 ⟨rfl, hb3⟩
    go_wp2
    have HH3 := HH.out.grow hb3
    refine leaves_cons (f := 25) (args := #[.pointer (some ⟨sb, 0, none⟩)]) (by simp) (by simp [go_sem]) ?_
    refine (unlock_deferred ⟨sb, 0, none⟩ .returning _ HH3.lock (HH3.free 0)).mono ?_
    rintro e u' w'' ⟨rfl, rfl, rfl⟩
    refine ⟨_, results_tmp rfl _ _ _, _, [], rfl, ?_, by rw [hD]; rfl, ⟨rfl, .inl ⟨rfl, rfl⟩⟩, HH3.letGo, (HK2.out.trans (Keep.of_below hb3)).trans (Keep.of_set sb _ 0 _)⟩
    rw [hD]
    exact ⟨List.Pairwise.nil, fun x => by simp [Maps.has]⟩
  · have HC := Lib.hid (sorted_full bm n D W2 hown HSZ.out)
    have HO := Lib.hid hown
    clear hbs hbase hown
    go_wp2_with fail
    refine (mapsKeys_calls _ _).mono ?_
    rintro e w' ⟨rfl, rfl⟩
    go_wp2_with fail
    refine HC.out.mono ?_
    rintro e w3 ⟨v, ss, rfl, hp, hrow, hb3⟩
    have HR := Lib.hid hrow
    clear hrow HC
    go_wp2
    have HH3 := HH.out.grow hb3
    refine leaves_cons (f := 25) (args := #[.pointer (some ⟨sb, 0, none⟩)]) (by simp) (by simp [go_sem]) ?_
    refine (unlock_deferred ⟨sb, 0, none⟩ .returning _ HH3.lock (HH3.free 0)).mono ?_
    rintro e u' w'' ⟨rfl, rfl, rfl⟩
    obtain ⟨hsk, hln⟩ := keys_sorted HO.out hp
    have hll : (ss.mergeSort (fun x y => decide (x ≤ y))).length = ss.length := List.length_mergeSort ss
    refine ⟨_, results_tmp rfl _ _ _, _, _, rfl, hsk, by rw [hll, hln], ?_, HH3.letGo, (HK2.out.trans (Keep.of_below hb3)).trans (Keep.of_set sb _ 0 _)⟩
    rw [hll, ← HWS.out]
    exact row_set HR.out (by rw [HWS.out]; exact HLT.out) 0 _
set_option maxRecDepth 10000 in
set_option maxHeartbeats 1600000 in
theorem len_tab (w0 : World) (sb : Nat) (D : DataW Unit) (w : World) (hT : TabAt w0 w sb D) (hsz : Maps.size D ≤ 1000) :
    Calls Try.prog 12 #[.pointer (some ⟨sb, 0, none⟩)] w fun e w' => e = .returned (.int .i64 (Maps.size D : Nat)) ∧ TabAt w0 w' sb D ∧ Keep sb w w' := by
  have HC := Lib.hid (handles_tab w0 sb D w hT hsz)
  clear hT hsz
  go_enter Try.func12, Try.ntmps12
  go_wp2_with fail
  refine HC.out.mono ?_
  rintro e w' ⟨v, xs, rfl, hs, hl, hr, ht, hk⟩
  rcases hr.2 with ⟨rfl, h0⟩ | ⟨g, cap, cur, rfl, hB, hg, h1, h2, h3, h4⟩
  · have HT := Lib.hid ht
    have HE : Hid (Maps.size D = 0) := Lib.hid (by rw [← hl]; exact h0)
    clear ht hl hs hr h0 HC
    go_wp2
    go_ret
    exact ⟨by rw [HE.out]; rfl, HT.out, hk⟩
  · have HT := Lib.hid ht
    rw [hl]
    clear ht hl hs hr hB hg h1 h2 h3 h4 HC
    go_wp2
    go_ret
    exact ⟨rfl, HT.out, hk⟩
end Go.Proofs.Ytojbdaeidbmjgaa
