/- GrammarNoughts: the walk. -/
import Derived.Test.YtiocdgehpiagjaaDoorLawCase
import Derived.Test.YtiocdgehpiagjaaDoorLawJoins
import Derived.IntWalk
import Derived.Deep.RegionHeld3
namespace Go.Proofs.YtiocdgehpiagjaaDoor
set_option linter.unusedVariables false
set_option linter.unusedSimpArgs false
open Go.RowKit Go.ChangeShapes Go.WideShapes
/-- A number's digits; nought has none. -/
def digitsL (n : Nat) : List UInt8 := if n = 0 then [] else Lib.decDigits n
theorem digitsL_step {n : Nat} (h : 0 < n) : digitsL n = digitsL (n / 10) ++ [UInt8.ofNat (48 + n % 10)] := by
  unfold digitsL
  rw [if_neg (by omega)]
  by_cases h1 : n < 10
  · rw [if_pos (by omega), Lib.decDigits, dif_pos h1, Nat.mod_eq_of_lt h1]
    rfl
  · rw [if_neg (by omega), Lib.decDigits, dif_neg h1]
theorem nDigits_le : ∀ (k u : Nat), u < 10 ^ (k + 1) → Lib.nDigits u ≤ k + 1
  | 0, u, h => by rw [Lib.nDigits_small (by simpa using h)]; exact Nat.le_refl _
  | k + 1, u, h => by
    by_cases h1 : u < 10
    · rw [Lib.nDigits_small h1]; omega
    · rw [Lib.nDigits_big h1]
      have h2 : u / 10 < 10 ^ (k + 1) := by
        rw [Nat.pow_succ] at h
        omega
      have := nDigits_le k _ h2
      omega
theorem digitsL_len {n : Nat} (h : n < 4294967296) : (digitsL n).length ≤ 10 := by
  unfold digitsL
  split
  · exact Nat.zero_le _
  · rw [Lib.decDigits_length]
    exact nDigits_le 9 n (by omega)
set_option maxRecDepth 10000 in
set_option maxHeartbeats 1000000 in
theorem digits_calls (N : Nat) (hN : N < 4294967296) (w : World) :
    Calls Tryd.prog 13 #[.int .u64 N] w fun e w' => e = .returned (.string ⟨(digitsL N).toArray⟩) ∧ Below w.heap.size w w' := by
  go_enter Tryd.func13, Tryd.ntmps13
  go_wp2
  go_loopw [0, 3] (fun i v wr => ∃ (k : Nat) (S : ByteArray), i = .int .u64 k ∧ v = .string S ∧ k < 4294967296 ∧ digitsL N = digitsL k ++ S.data.toList ∧ Below w.heap.size w wr) (fun i _ _ => (intOf i).toNat)
  case atStart => exact ⟨N, ⟨#[]⟩, rfl, rfl, hN, by simp, Below.refl _ _⟩
  case round =>
    obtain ⟨k, S, rfl, rfl, hk, hs, hb⟩ := hrel
    have HS := Lib.hid hs
    have HB := Lib.hid hb
    have hSs : S.size ≤ 10 := by
      have h1 := digitsL_len hN
      rw [hs, List.length_append] at h1
      rw [str_size (t := S) rfl]
      omega
    clear hs hb
    by_cases h0 : 0 < k
    · have h0i : (0 : Int) < (k : Int) := by omega
      have hz : 48 + (k : Int) % 10 = (((UInt8.ofNat (48 + k % 10)).toNat : Nat) : Int) := by
        have : (48 + k % 10) % 256 = 48 + k % 10 := Nat.mod_eq_of_lt (by omega)
        rw [UInt8.toNat_ofNat', this]
        omega
      have HST := Lib.hid (digitsL_step h0)
      obtain ⟨ch, hch⟩ : ∃ ch, UInt8.ofNat (48 + k % 10) = ch := ⟨_, rfl⟩
      rw [hch] at hz HST
      have hcb := back_cells (W := wr.alloc (.cells #[.int .u8 (48 + (k : Int) % 10)] 5)) (g := wr.heap.size) (l := [ch]) (fun j hj => by
        have hj0 : j = 0 := by simpa using hj
        subst hj0
        have := cell_of_heap (heap_new wr (.cells #[.int .u8 (48 + (k : Int) % 10)] 5)) 0
        rw [this, hz]
        rfl) (n := 1) rfl 1
      have hcs : (⟨[ch].toArray⟩ : ByteArray).size = 1 := rfl
      obtain ⟨CH, hCH⟩ : ∃ CH : ByteArray, CH = ⟨[ch].toArray⟩ := ⟨_, rfl⟩
      have HCH : Hid (CH.data.toList = [ch]) := Lib.hid (by rw [hCH])
      rw [← hCH] at hcb hcs
      clear hz hch hCH
      go_wp2
      go_roundw
      case rel => exact ⟨k / 10, CH ++ S, by go_num, rfl, by omega, by rw [HS.out, HST.out, ByteArray.data_append, Array.toList_append, HCH.out, List.append_assoc], below_alloc HB.out _⟩
      case measure => simp [intOf]; omega
    · obtain rfl : k = 0 := by omega
      have HE : Hid (S.data.toList = digitsL N) := Lib.hid (by rw [HS.out]; rfl)
      go_wp2
      go_ret
      exact ⟨by rw [← HE.out]; rfl, HB.out⟩
theorem dec_head : ∀ n : Nat, 0 < n → (Lib.decDigits n).head? ≠ some 48 := by
  intro n
  induction n using Nat.strongRecOn with
  | _ n ih =>
    intro h0
    by_cases h1 : n < 10
    · rw [Lib.decDigits, dif_pos h1]
      simp only [List.head?_cons, ne_eq, Option.some.injEq]
      intro e
      have e2 := congrArg UInt8.toNat e
      have e3 : (48 + n) % 256 = 48 + n := Nat.mod_eq_of_lt (by omega)
      rw [UInt8.toNat_ofNat', e3] at e2
      have e4 : (48 : UInt8).toNat = 48 := rfl
      omega
    · rw [Lib.decDigits, dif_neg h1]
      have h := ih (n / 10) (by omega) (by omega)
      cases hd : Lib.decDigits (n / 10) with
      | nil => exact absurd hd (dec_ne _)
      | cons c t => rw [hd] at h; simpa using h
/-- The text of a whole number. -/
def wholeL (n : Nat) : List UInt8 := if digitsL n = [] then [48] else digitsL n
theorem digitsL_digs (n : Nat) : digs (digitsL n) = true := by
  unfold digitsL
  split
  · rfl
  · exact decDigits_digs n
theorem digitsL_head (n : Nat) : (digitsL n).head? ≠ some 48 := by
  unfold digitsL
  split
  · simp
  · exact dec_head n (by omega)
theorem wholeL_digs (n : Nat) : digs (wholeL n) = true := by
  unfold wholeL
  split
  · rfl
  · exact digitsL_digs n
theorem wholeL_ne (n : Nat) : wholeL n ≠ [] := by
  unfold wholeL
  split
  · simp
  · assumption
theorem wholeL_len {n : Nat} (h : n < 4294967296) : (wholeL n).length ≤ 10 := by
  unfold wholeL
  split
  · decide
  · exact digitsL_len h
theorem textL_whole (n : Nat) : textL ⟨1, false, false, digitsL n, 0⟩ = wholeL n := by
  simp [textL, textB, wholeL]
theorem join_whole {n : Nat} (h : n < 4294967296) : joinL ⟨1, false, false, digitsL n, 0⟩ = (wholeL n, 0) := by
  have e := textL_whole n
  have hg : GoodL ⟨1, false, false, digitsL n, 0⟩ := ⟨⟨digitsL_digs n, digitsL_head n⟩, .inl ⟨rfl, rfl, (by show (-1000000000 : Int) ≤ 0; decide), (by show (0 : Int) ≤ 1000000000; decide), by rw [e]; have := wholeL_len h; omega⟩⟩
  unfold joinL
  rw [if_pos hg, e]
theorem dec_len {E : Nat} (h : E ≤ 2000000) : (Lib.decDigits E).length ≤ 7 := by
  rw [Lib.decDigits_length]
  exact nDigits_le 6 E (by omega)
theorem textL_exp {E : Nat} (h : 0 < E) : textL ⟨1, false, false, [], (E : Int)⟩ = 48 :: 101 :: Lib.decDigits E := by
  have e0 : ¬ ((E : Int) = 0) := by omega
  have e1 : Lib.itoa (E : Int) = Lib.decDigits E := by unfold Lib.itoa; rw [if_neg (by omega)]; rfl
  simp [textL, textB, e1]
  omega
theorem join_exp {E : Nat} (h0 : 0 < E) (h : E ≤ 2000000) : joinL ⟨1, false, false, [], (E : Int)⟩ = (48 :: 101 :: Lib.decDigits E, 0) := by
  have e := textL_exp h0
  have hg : GoodL ⟨1, false, false, [], (E : Int)⟩ := ⟨⟨rfl, by simp⟩, .inl ⟨rfl, rfl, (by show -1000000000 ≤ (E : Int); omega), (by show (E : Int) ≤ 1000000000; omega), by rw [e]; have := dec_len h; simp only [List.length_cons]; omega⟩⟩
  unfold joinL
  rw [if_pos hg, e]
/-- The three texts that the law cuts. -/
theorem three_cuts {wh pa E k : Nat} (h1 : wh < 4294967296) (h2 : pa < 4294967296) (hE0 : 0 < E) (hE : E ≤ 2000000) (hk : k ≤ 19) :
    cutL (wholeL wh ++ 46 :: (digitsL pa ++ 101 :: Lib.decDigits E)) = (⟨1, false, false, bareL (wholeL wh ++ digitsL pa), (E : Int) - ((digitsL pa).length : Int)⟩, 0) ∧
    cutL (List.replicate k 48 ++ wholeL wh ++ 46 :: (digitsL pa ++ 101 :: (List.replicate k 48 ++ Lib.decDigits E))) = (⟨1, false, false, bareL (wholeL wh ++ digitsL pa), (E : Int) - ((digitsL pa).length : Int)⟩, 0) ∧
    cutL (wholeL wh ++ 46 :: (digitsL pa ++ List.replicate k 48 ++ 101 :: Lib.decDigits E)) = (⟨1, false, false, bareL (wholeL wh ++ (digitsL pa ++ List.replicate k 48)), (E : Int) - ((digitsL pa).length : Int) - k⟩, 0) := by
  have a1 := wholeL_len h1
  have a2 := digitsL_len h2
  have a3 := dec_len hE
  have d1 := wholeL_digs wh
  have d2 := digitsL_digs pa
  have d3 := decDigits_digs E
  have dz := digs_noughts k
  have lz : (List.replicate k (48 : UInt8)).length = k := List.length_replicate
  refine ⟨?_, ?_, ?_⟩
  · rw [cut_fin d1 d2 d3 (wholeL_ne wh) (dec_ne E) (by rw [dval_dec]; omega) (by omega), dval_dec, clamp_same (by omega) (by omega)]
  · rw [cut_fin (digs_append.2 ⟨dz, d1⟩) d2 (digs_append.2 ⟨dz, d3⟩) (by simp [wholeL_ne]) (by simp [dec_ne]) (by rw [dval_noughts, dval_dec]; omega) (by rw [List.length_append, List.length_append]; omega), dval_noughts, dval_dec, clamp_same (by omega) (by omega), List.append_assoc, bare_noughts]
  · rw [cut_fin d1 (digs_append.2 ⟨d2, dz⟩) d3 (wholeL_ne wh) (dec_ne E) (by rw [dval_dec]; omega) (by rw [List.length_append]; omega), dval_dec, List.length_append, lz, clamp_same (by omega) (by omega)]
    congr 2
    omega
/-- Block b holds o; what lay below w is as it was. -/
structure KeepO (w : World) (b : Nat) (o : Obj) (w' : World) : Prop where
  at_ : w'.heap[b]? = some o
  bel : Below w.heap.size w w'
  base : w.heap.size ≤ b
theorem KeepO.drew {w w' : World} {b : Nat} {o : Obj} (h : KeepO w b o w') : KeepO w b o w'.drew := ⟨h.at_, h.bel.drew, h.base⟩
theorem KeepO.below {w w' w2 : World} {b : Nat} {o : Obj} (h : KeepO w b o w') (hb : Below w'.heap.size w' w2) : KeepO w b o w2 := ⟨below_heap hb h.at_, below_then h.bel hb, h.base⟩
theorem KeepO.alloc {w w' : World} {b : Nat} {o : Obj} (h : KeepO w b o w') (q : Obj) : KeepO w b o (w'.alloc q) := ⟨(heap_keep _ _ (lt_of_heap h.at_)).trans h.at_, below_alloc h.bel _, h.base⟩
theorem KeepO.set {w w' : World} {b n : Nat} {o : Obj} (h : KeepO w b o w') (hk : b < n ∧ w.heap.size ≤ n) (i : Nat) (v : Value) : KeepO w b o (w'.setCell ⟨n, i, none⟩ v) :=
  ⟨(heap_set_other (by omega : b ≠ n) i v).trans h.at_, h.bel.setCell hk.2 _, h.base⟩
/-- Another object in the newest block. -/
theorem KeepO.fill {w w' : World} {b : Nat} {o z : Obj} (h : KeepO w b o (w'.alloc z)) (hne : o ≠ z) (q : Obj) : KeepO w b o (w'.alloc q) := by
  have hs : (w'.alloc z).heap.size = w'.heap.size + 1 := by simp
  have hb1 := lt_of_heap h.at_
  have hb : b < w'.heap.size := by
    rcases Nat.lt_or_ge b w'.heap.size with h1 | h1
    · exact h1
    · have e : b = w'.heap.size := by omega
      have h2 := h.at_
      rw [e, heap_new] at h2
      exact absurd (Option.some.inj h2).symm hne
  refine ⟨(heap_keep _ _ hb).trans ((heap_keep _ z hb).symm.trans h.at_), ⟨h.bel.os, h.bel.tape, h.bel.output, by have := h.bel.size; simp at this ⊢; omega, fun j hj => ?_⟩, h.base⟩
  have hj2 : j < w'.heap.size := by have := h.base; omega
  exact (heap_keep w' q hj2).trans ((heap_keep w' z hj2).symm.trans (h.bel.block j hj))
set_option maxRecDepth 10000 in
set_option maxHeartbeats 4000000 in
theorem noughts_calls (wh pa : Nat) (ex : Int) (k0 : Nat) (h1 : wh < 4294967296) (h2 : pa < 4294967296) (h3 : -2147483648 ≤ ex) (h4 : ex ≤ 2147483647) (h5 : k0 < 256) (w : World) (hT : Lib.Utf8Tabs 2 3 w) (hT2 : Lib.TabIs Tryd.prog w "internal/strconv.uint64pow10" .u64 Lib.pow10Tab) :
    Calls Tryd.prog 5 #[.int .u32 wh, .int .u32 pa, .int .i32 ex, .int .u8 k0] w fun e w' => e = .returned (.bool true) ∧ Below w.heap.size w w' := by
  have HAW := Lib.hid (fun W hT => gawake_calls W hT)
  have HT := Lib.hid hT
  have HT2 := Lib.hid hT2
  clear hT hT2
  go_enter Tryd.func5, Tryd.ntmps5
  go_wp2_with fail
  refine (HAW.out _ HT.out).mono ?_
  rintro e w1 ⟨rfl, hb1⟩
  have HB1 := Lib.hid hb1
  clear hb1
  obtain ⟨kk, hkk⟩ : ∃ kk, k0 % 20 = kk := ⟨_, rfl⟩
  have hk1 : (k0 : Int) % 20 = (kk : Int) := by omega
  have hk2 : kk ≤ 19 := by omega
  clear hkk
  go_wp2
  go_loopw [25, 9] (fun i v wr => ∃ (k : Nat) (Z : ByteArray), i = .int .u8 k ∧ v = .string Z ∧ k ≤ kk ∧ Z.data.toList = List.replicate k 48 ∧ wr = w1) (fun i _ _ => kk - (intOf i).toNat)
  case atStart => exact ⟨0, ⟨#[]⟩, rfl, rfl, by omega, rfl, rfl⟩
  case round =>
    obtain ⟨k, Z, rfl, rfl, hk, hz, rfl⟩ := hrel
    have hzs : Z.size = k := by rw [str_size hz]; simp
    have HZ := Lib.hid hz
    clear hz
    by_cases hlt : k < kk
    · go_wp2
      go_roundw
      case rel => exact ⟨k + 1, Z ++ ⟨#[48]⟩, by go_num, rfl, by omega, by rw [ByteArray.data_append, Array.toList_append, HZ.out, List.replicate_succ'], by trivial⟩
      case measure => simp [intOf]; omega
    · obtain rfl : k = kk := by omega
      obtain ⟨DW, hDW⟩ : ∃ DW : ByteArray, DW = ⟨(digitsL wh).toArray⟩ := ⟨_, rfl⟩
      obtain ⟨PB, hPB⟩ : ∃ PB : ByteArray, PB = ⟨(digitsL pa).toArray⟩ := ⟨_, rfl⟩
      obtain ⟨AB, hAB⟩ : ∃ AB : ByteArray, AB = ⟨(wholeL wh).toArray⟩ := ⟨_, rfl⟩
      have HD1 := Lib.hid (fun W => digits_calls wh h1 W)
      have HD2 := Lib.hid (fun W => digits_calls pa h2 W)
      rw [← hDW] at HD1
      rw [← hPB] at HD2
      have eDW : DW.data.toList = digitsL wh := by rw [hDW]
      have HJ1 := Lib.hid (fun W (hb : Below w.heap.size w W) => refJoin_calls 1 false false DW (digitsL wh) 0 eDW (by have := digitsL_len h1; omega) W (fun W' hb' => itoa_keep 0 (by decide) (by decide) W' (TabIs.keep HT2.out (below_then hb hb'))) (Lib.itoa_length_le 0 (by decide) (by decide)))
      rw [join_whole h1] at HJ1
      have ej : joinV (wholeL wh, 0) = .tuple #[.string ⟨(wholeL wh).toArray⟩, .int .i64 0] := rfl
      rw [ej, ← hAB] at HJ1
      have HAB : Hid (AB.data.toList = wholeL wh) := Lib.hid (by rw [hAB])
      have HPB : Hid (PB.data.toList = digitsL pa) := Lib.hid (by rw [hPB])
      have hABs : AB.size ≤ 10 := by rw [str_size HAB.out]; exact wholeL_len h1
      have hPBs : PB.size ≤ 10 := by rw [str_size HPB.out]; exact digitsL_len h2
      clear ej eDW hDW hPB hAB
      go_wp2_with fail
      refine (HD1.out _).mono ?_
      rintro e w2 ⟨rfl, hb2⟩
      have HB2 := Lib.hid (below_then HB1.out hb2)
      clear hb2
      go_wp2_with fail
      refine (HJ1.out _ HB2.out).mono ?_
      rintro e w3 ⟨rfl, hb3⟩
      have HB3 := Lib.hid (below_then HB2.out hb3)
      clear hb3
      go_wp2_with fail
      refine (HD2.out _).mono ?_
      rintro e w4 ⟨rfl, hb4⟩
      have HB4 := Lib.hid (below_then HB3.out hb4)
      clear hb4
      have m1 := Int.lt_tmod_of_pos ex (b := 1000000) (by decide)
      have m2 := Int.tmod_lt_of_pos ex (b := 1000000) (by decide)
      obtain ⟨EN, hEN⟩ : ∃ EN : Nat, ex.tmod 1000000 + 1000000 = (EN : Int) := ⟨(ex.tmod 1000000 + 1000000).toNat, by omega⟩
      have hE0 : 0 < EN := by omega
      have hE1 : EN ≤ 2000000 := by omega
      have hw64 := (IntWalk.wrap64_in (ex.tmod 1000000 + 1000000) ⟨by omega, by omega⟩).trans hEN
      have HJ2 := Lib.hid (fun W (hb : Below w.heap.size w W) => refJoin_calls 1 false false ⟨#[]⟩ [] (EN : Int) rfl (by decide) W (fun W' hb' => itoa_keep (EN : Int) (by omega) (by omega) W' (TabIs.keep HT2.out (below_then hb hb'))) (Lib.itoa_length_le (EN : Int) (by omega) (by omega)))
      rw [join_exp hE0 hE1] at HJ2
      obtain ⟨XB, hXB⟩ : ∃ XB : ByteArray, XB = ⟨(48 :: 101 :: Lib.decDigits EN).toArray⟩ := ⟨_, rfl⟩
      have ej : joinV (48 :: 101 :: Lib.decDigits EN, 0) = .tuple #[.string ⟨(48 :: 101 :: Lib.decDigits EN).toArray⟩, .int .i64 0] := rfl
      rw [ej, ← hXB] at HJ2
      have eXB : XB.data.toList = 48 :: 101 :: Lib.decDigits EN := by rw [hXB]
      have dl := dec_len hE1
      have dn : 0 < (Lib.decDigits EN).length := by
        cases hd : Lib.decDigits EN with
        | nil => exact absurd hd (dec_ne _)
        | cons c t => simp
      obtain ⟨nx, hnx⟩ : ∃ nx, XB.size = nx := ⟨_, rfl⟩
      have hnx2 : nx = (Lib.decDigits EN).length + 2 := by rw [← hnx, str_size eXB]; simp
      have X1e : XB.extract 1 nx = ⟨(101 :: Lib.decDigits EN).toArray⟩ := by rw [← hnx]; exact ext_drop eXB 1
      have X2e : XB.extract 2 nx = ⟨(Lib.decDigits EN).toArray⟩ := by rw [← hnx]; exact ext_drop eXB 2
      have X3e : XB.extract 1 2 = ⟨#[101]⟩ := by
        apply bytes_of (l := [101])
        rw [ByteArray.data_extract, Array.toList_extract, eXB]
        rfl
      obtain ⟨X1, hX1⟩ : ∃ X1 : ByteArray, X1 = ⟨(101 :: Lib.decDigits EN).toArray⟩ := ⟨_, rfl⟩
      obtain ⟨X2, hX2⟩ : ∃ X2 : ByteArray, X2 = ⟨(Lib.decDigits EN).toArray⟩ := ⟨_, rfl⟩
      rw [← hX1] at X1e
      rw [← hX2] at X2e
      have HX1 : Hid (X1.data.toList = 101 :: Lib.decDigits EN) := Lib.hid (by rw [hX1])
      have HX2 : Hid (X2.data.toList = Lib.decDigits EN) := Lib.hid (by rw [hX2])
      have hX1s : X1.size ≤ 8 := by rw [str_size HX1.out]; simp only [List.length_cons]; omega
      have hX2s : X2.size ≤ 7 := by rw [str_size HX2.out]; omega
      have hnx3 : 3 ≤ nx := by omega
      have hnx4 : nx ≤ 9 := by omega
      have hnx5 : (2 : Int) ≤ (nx : Int) := by omega
      have hnx6 : (1 : Int) ≤ (nx : Int) := by omega
      obtain ⟨tc1, tc2, tc3⟩ := three_cuts h1 h2 hE0 hE1 hk2
      have al := wholeL_len h1
      have bl := digitsL_len h2
      have HC1 := Lib.hid (fun W hb => cut_keep (AB ++ ⟨#[46]⟩ ++ PB ++ X1) (wholeL wh ++ 46 :: (digitsL pa ++ 101 :: Lib.decDigits EN)) (by simp [ByteArray.data_append, HAB.out, HPB.out, HX1.out]) (by simp only [List.length_append, List.length_cons]; omega) w W HT.out hb)
      have HC2 := Lib.hid (fun W hb => cut_keep (Z ++ AB ++ ⟨#[46]⟩ ++ PB ++ ⟨#[101]⟩ ++ Z ++ X2) (List.replicate k 48 ++ wholeL wh ++ 46 :: (digitsL pa ++ 101 :: (List.replicate k 48 ++ Lib.decDigits EN))) (by simp [ByteArray.data_append, HAB.out, HPB.out, HX2.out, HZ.out]) (by simp only [List.length_append, List.length_cons, List.length_replicate]; omega) w W HT.out hb)
      have HC3 := Lib.hid (fun W hb => cut_keep (AB ++ ⟨#[46]⟩ ++ PB ++ Z ++ X1) (wholeL wh ++ 46 :: (digitsL pa ++ List.replicate k 48 ++ 101 :: Lib.decDigits EN)) (by simp [ByteArray.data_append, HAB.out, HPB.out, HX1.out, HZ.out]) (by simp only [List.length_append, List.length_cons, List.length_replicate]; omega) w W HT.out hb)
      rw [tc1] at HC1
      rw [tc2] at HC2
      rw [tc3] at HC3
      obtain ⟨pe, hpe⟩ : ∃ pe : Int, (EN : Int) - ((digitsL pa).length : Int) = pe := ⟨_, rfl⟩
      have hpe0 : -10 ≤ pe := by omega
      have hpe1 : pe ≤ 2000000 := by omega
      rw [hpe] at HC1 HC2 HC3
      obtain ⟨D, hD⟩ : ∃ D : ByteArray, D = ⟨(bareL (wholeL wh ++ digitsL pa)).toArray⟩ := ⟨_, rfl⟩
      obtain ⟨D3, hD3⟩ : ∃ D3 : ByteArray, D3 = ⟨(bareL (wholeL wh ++ (digitsL pa ++ List.replicate k 48))).toArray⟩ := ⟨_, rfl⟩
      have ev : cutV (⟨1, false, false, bareL (wholeL wh ++ digitsL pa), pe⟩, 0) = .tuple #[.agg #[.int .i64 1, .bool false, .bool false, .string D, .int .i64 pe], .int .i64 0] := by rw [hD]; rfl
      have ev3 : cutV (⟨1, false, false, bareL (wholeL wh ++ (digitsL pa ++ List.replicate k 48)), pe - (k : Int)⟩, 0) = .tuple #[.agg #[.int .i64 1, .bool false, .bool false, .string D3, .int .i64 (pe - (k : Int))], .int .i64 0] := by rw [hD3]; rfl
      rw [ev] at HC1 HC2
      rw [ev3] at HC3
      clear ev ev3 hD hD3 hpe tc1 tc2 tc3 hX1 hX2 eXB hXB ej hnx2 dl dn al bl HD1 HD2 HJ1 m1 m2 hEN HB1 HB2 HB3
      go_wp2_with fail
      refine (HJ2.out _ HB4.out).mono ?_
      rintro e w5 ⟨rfl, hb5⟩
      have HB5 := Lib.hid (below_then HB4.out hb5)
      clear hb5 HB4 HJ2
      go_wp2_with fail
      refine (HC1.out _ HB5.out).mono ?_
      rintro e w6 ⟨rfl, hb6⟩
      have HB6 : Hid (Below w.heap.size w (w6.alloc (.cells #[.int .i64 1, .bool false, .bool false, .string D, .int .i64 pe] 24))) := Lib.hid (below_alloc (below_then HB5.out hb6) _)
      have HX6 : Hid ((w6.alloc (.cells #[.int .i64 1, .bool false, .bool false, .string D, .int .i64 pe] 24)).heap[w6.heap.size]? = some (.cells #[.int .i64 1, .bool false, .bool false, .string D, .int .i64 pe] 24 (0, 0))) := Lib.hid (heap_new _ _)
      have hbase : w.heap.size ≤ w6.heap.size := (below_then HB5.out hb6).size
      clear hb6 HB5 HC1
      go_wp2_with fail
      have hP6 : KeepO w w6.heap.size (.cells #[.int .i64 1, .bool false, .bool false, .string D, .int .i64 pe] 24 (0, 0)) (w6.alloc (.cells #[.int .i64 1, .bool false, .bool false, .string D, .int .i64 pe] 24)) := ⟨HX6.out, HB6.out, hbase⟩
      have hlt6 : w6.heap.size < (w6.alloc (.cells #[.int .i64 1, .bool false, .bool false, .string D, .int .i64 pe] 24)).heap.size := lt_of_heap HX6.out
      obtain ⟨S1, hS1⟩ : ∃ S, Z ++ AB = S := ⟨_, rfl⟩
      obtain ⟨S2, hS2⟩ : ∃ S, S1 ++ ⟨#[46]⟩ = S := ⟨_, rfl⟩
      obtain ⟨S3, hS3⟩ : ∃ S, S2 ++ PB = S := ⟨_, rfl⟩
      obtain ⟨S4, hS4⟩ : ∃ S, S3 ++ ⟨#[101]⟩ = S := ⟨_, rfl⟩
      obtain ⟨S5, hS5⟩ : ∃ S, S4 ++ Z = S := ⟨_, rfl⟩
      obtain ⟨S6, hS6⟩ : ∃ S, S5 ++ X2 = S := ⟨_, rfl⟩
      rw [hS1, hS2, hS3, hS4, hS5, hS6] at HC2
      have z1 : S1.size = Z.size + AB.size := by rw [← hS1]; exact ByteArray.size_append
      have z2 : S2.size = S1.size + 1 := by rw [← hS2]; exact ByteArray.size_append
      have z3 : S3.size = S2.size + PB.size := by rw [← hS3]; exact ByteArray.size_append
      have z4 : S4.size = S3.size + 1 := by rw [← hS4]; exact ByteArray.size_append
      have z5 : S5.size = S4.size + Z.size := by rw [← hS5]; exact ByteArray.size_append
      have g1 : ¬ (9223372036854775807 < k + AB.size) := by omega
      have g2 : ¬ (9223372036854775807 < S1.size + 1) := by omega
      have g2' : ¬ (9223372036854775806 < S1.size) := by omega
      have g3 : ¬ (9223372036854775807 < S2.size + PB.size) := by omega
      have g4 : ¬ (9223372036854775807 < S3.size + 1) := by omega
      have g4' : ¬ (9223372036854775806 < S3.size) := by omega
      have g5 : ¬ (9223372036854775807 < S4.size + k) := by omega
      have g6 : ¬ (9223372036854775807 < S5.size + X2.size) := by omega
      clear z1 z2 z3 z4 z5
      generalize w6.alloc (.cells #[.int .i64 1, .bool false, .bool false, .string D, .int .i64 pe] 24) = W6 at *
      generalize w6.heap.size = bp at *
      have hk6 : bp < W6.heap.size ∧ w.heap.size ≤ W6.heap.size := ⟨hlt6, Nat.le_of_lt (Nat.lt_of_le_of_lt hbase hlt6)⟩
      go_region_held3 (fun w' => KeepO w bp (.cells #[.int .i64 1, .bool false, .bool false, .string D, .int .i64 pe] 24 (0, 0)) w')
        (first | exact hP6.drew | exact hP6 | exact KeepO.below (by assumption) hb | exact KeepO.alloc (by assumption) _ | exact KeepO.fill (by assumption) (by simp) _ | exact KeepO.set (KeepO.set (KeepO.set (KeepO.set (KeepO.set (by assumption) hk6 _ _) hk6 _ _) hk6 _ _) hk6 _ _) hk6 _ _ | exact KeepO.drew (by assumption) | assumption)
        (first | (go_at_call 9; refine (HC2.out _ (KeepO.bel (by assumption))).mono ?_; rintro e w' ⟨rfl, hb⟩; try have zh := below_heap hb (heap_new _ _); try have zc0 := cell_of_heap (below_heap hb (heap_new _ _)) 0; try have zc1 := cell_of_heap (below_heap hb (heap_new _ _)) 1; try have zc2 := cell_of_heap (below_heap hb (heap_new _ _)) 2; try have zc3 := cell_of_heap (below_heap hb (heap_new _ _)) 3; try have zc4 := cell_of_heap (below_heap hb (heap_new _ _)) 4; try have zf0 := free_of_heap (below_heap hb (heap_new _ _)) 0; try have zf1 := free_of_heap (below_heap hb (heap_new _ _)) 1; try have zf2 := free_of_heap (below_heap hb (heap_new _ _)) 2; try have zf3 := free_of_heap (below_heap hb (heap_new _ _)) 3; try have zf4 := free_of_heap (below_heap hb (heap_new _ _)) 4))
      · have hk7 : KeepO w bp (.cells #[.int .i64 1, .bool false, .bool false, .string D, .int .i64 pe] 24 (0, 0)) (w'.alloc (.cells #[.int .i64 1, .bool false, .bool false, .string D, .int .i64 pe] 24)) := by assumption
        have hq7 : (w'.alloc (.cells #[.int .i64 1, .bool false, .bool false, .string D, .int .i64 pe] 24)).heap[w'.heap.size]? = some (.cells #[.int .i64 1, .bool false, .bool false, .string D, .int .i64 pe] 24 (0, 0)) := heap_new _ _
        generalize w'.alloc (.cells #[.int .i64 1, .bool false, .bool false, .string D, .int .i64 pe] 24) = W7 at *
        generalize w'.heap.size = bq at *
        have HK := Lib.hid hk7
        have HQ := Lib.hid hq7
        clear hk7 hq7 hP6 hlt6 hk6 hbase HB6 HX6 hb HC2 hS1 hS2 hS3 hS4 hS5 hS6 g1 g2 g2' g3 g4 g4' g5 g6
        go_wp2_with fail
        refine (HC3.out _ HK.out.bel).mono ?_
        rintro e w8 ⟨rfl, hb8⟩
        have HP8 : Hid (w8.heap[bp]? = some (.cells #[.int .i64 1, .bool false, .bool false, .string D, .int .i64 pe] 24 (0, 0))) := Lib.hid (below_heap hb8 HK.out.at_)
        have HQ8 : Hid (w8.heap[bq]? = some (.cells #[.int .i64 1, .bool false, .bool false, .string D, .int .i64 pe] 24 (0, 0))) := Lib.hid (below_heap hb8 HQ.out)
        have HP9 : Hid ((w8.alloc (.cells #[.int .i64 1, .bool false, .bool false, .string D3, .int .i64 (pe - (k : Int))] 24)).heap[bp]? = some (.cells #[.int .i64 1, .bool false, .bool false, .string D, .int .i64 pe] 24 (0, 0))) := Lib.hid ((heap_keep _ _ (lt_of_heap HP8.out)).trans HP8.out)
        have HQ9 : Hid ((w8.alloc (.cells #[.int .i64 1, .bool false, .bool false, .string D3, .int .i64 (pe - (k : Int))] 24)).heap[bq]? = some (.cells #[.int .i64 1, .bool false, .bool false, .string D, .int .i64 pe] 24 (0, 0))) := Lib.hid ((heap_keep _ _ (lt_of_heap HQ8.out)).trans HQ8.out)
        have HR9 : Hid ((w8.alloc (.cells #[.int .i64 1, .bool false, .bool false, .string D3, .int .i64 (pe - (k : Int))] 24)).heap[w8.heap.size]? = some (.cells #[.int .i64 1, .bool false, .bool false, .string D3, .int .i64 (pe - (k : Int))] 24 (0, 0))) := Lib.hid (heap_new _ _)
        have HB9 : Hid (Below w.heap.size w (w8.alloc (.cells #[.int .i64 1, .bool false, .bool false, .string D3, .int .i64 (pe - (k : Int))] 24))) := Lib.hid (below_alloc (below_then HK.out.bel hb8) _)
        clear hb8 HP8 HQ8 HC3 HK HQ
        have px0 : (w8.alloc (.cells #[.int .i64 1, .bool false, .bool false, .string D3, .int .i64 (pe - (k : Int))] 24)).cell? ⟨bp, 0, none⟩ = some (.int .i64 1) := cell_of_heap HP9.out 0
        have px1 : (w8.alloc (.cells #[.int .i64 1, .bool false, .bool false, .string D3, .int .i64 (pe - (k : Int))] 24)).cell? ⟨bp, 1, none⟩ = some (.bool false) := cell_of_heap HP9.out 1
        have px2 : (w8.alloc (.cells #[.int .i64 1, .bool false, .bool false, .string D3, .int .i64 (pe - (k : Int))] 24)).cell? ⟨bp, 2, none⟩ = some (.bool false) := cell_of_heap HP9.out 2
        have px3 : (w8.alloc (.cells #[.int .i64 1, .bool false, .bool false, .string D3, .int .i64 (pe - (k : Int))] 24)).cell? ⟨bp, 3, none⟩ = some (.string D) := cell_of_heap HP9.out 3
        have px4 : (w8.alloc (.cells #[.int .i64 1, .bool false, .bool false, .string D3, .int .i64 (pe - (k : Int))] 24)).cell? ⟨bp, 4, none⟩ = some (.int .i64 pe) := cell_of_heap HP9.out 4
        have py0 : (w8.alloc (.cells #[.int .i64 1, .bool false, .bool false, .string D3, .int .i64 (pe - (k : Int))] 24)).cell? ⟨bq, 0, none⟩ = some (.int .i64 1) := cell_of_heap HQ9.out 0
        have py1 : (w8.alloc (.cells #[.int .i64 1, .bool false, .bool false, .string D3, .int .i64 (pe - (k : Int))] 24)).cell? ⟨bq, 1, none⟩ = some (.bool false) := cell_of_heap HQ9.out 1
        have py2 : (w8.alloc (.cells #[.int .i64 1, .bool false, .bool false, .string D3, .int .i64 (pe - (k : Int))] 24)).cell? ⟨bq, 2, none⟩ = some (.bool false) := cell_of_heap HQ9.out 2
        have py3 : (w8.alloc (.cells #[.int .i64 1, .bool false, .bool false, .string D3, .int .i64 (pe - (k : Int))] 24)).cell? ⟨bq, 3, none⟩ = some (.string D) := cell_of_heap HQ9.out 3
        have py4 : (w8.alloc (.cells #[.int .i64 1, .bool false, .bool false, .string D3, .int .i64 (pe - (k : Int))] 24)).cell? ⟨bq, 4, none⟩ = some (.int .i64 pe) := cell_of_heap HQ9.out 4
        have pz0 : (w8.alloc (.cells #[.int .i64 1, .bool false, .bool false, .string D3, .int .i64 (pe - (k : Int))] 24)).cell? ⟨w8.heap.size, 0, none⟩ = some (.int .i64 1) := cell_of_heap HR9.out 0
        have pz1 : (w8.alloc (.cells #[.int .i64 1, .bool false, .bool false, .string D3, .int .i64 (pe - (k : Int))] 24)).cell? ⟨w8.heap.size, 1, none⟩ = some (.bool false) := cell_of_heap HR9.out 1
        have pz2 : (w8.alloc (.cells #[.int .i64 1, .bool false, .bool false, .string D3, .int .i64 (pe - (k : Int))] 24)).cell? ⟨w8.heap.size, 2, none⟩ = some (.bool false) := cell_of_heap HR9.out 2
        have pz3 : (w8.alloc (.cells #[.int .i64 1, .bool false, .bool false, .string D3, .int .i64 (pe - (k : Int))] 24)).cell? ⟨w8.heap.size, 3, none⟩ = some (.string D3) := cell_of_heap HR9.out 3
        have pz4 : (w8.alloc (.cells #[.int .i64 1, .bool false, .bool false, .string D3, .int .i64 (pe - (k : Int))] 24)).cell? ⟨w8.heap.size, 4, none⟩ = some (.int .i64 (pe - (k : Int))) := cell_of_heap HR9.out 4
        go_wp2
        go_ret
        exact ⟨rfl, HB9.out⟩
      · have hk7 : KeepO w bp (.cells #[.int .i64 1, .bool false, .bool false, .string D, .int .i64 pe] 24 (0, 0)) (((((w'.setCell ⟨W6.heap.size, 0, none⟩ (.int .i64 1)).setCell ⟨W6.heap.size, 1, none⟩ (.bool false)).setCell ⟨W6.heap.size, 2, none⟩ (.bool false)).setCell ⟨W6.heap.size, 3, none⟩ (.string D)).setCell ⟨W6.heap.size, 4, none⟩ (.int .i64 pe)) := by assumption
        have hq7 : (((((w'.setCell ⟨W6.heap.size, 0, none⟩ (.int .i64 1)).setCell ⟨W6.heap.size, 1, none⟩ (.bool false)).setCell ⟨W6.heap.size, 2, none⟩ (.bool false)).setCell ⟨W6.heap.size, 3, none⟩ (.string D)).setCell ⟨W6.heap.size, 4, none⟩ (.int .i64 pe)).heap[W6.heap.size]? = some (.cells #[.int .i64 1, .bool false, .bool false, .string D, .int .i64 pe] 24 (0, 0)) := heap_set (heap_set (heap_set (heap_set (heap_set zh 0 _) 1 _) 2 _) 3 _) 4 _
        clear zc0 zc1 zc2 zc3 zc4 zf0 zf1 zf2 zf3 zf4 zh
        generalize (((((w'.setCell ⟨W6.heap.size, 0, none⟩ (.int .i64 1)).setCell ⟨W6.heap.size, 1, none⟩ (.bool false)).setCell ⟨W6.heap.size, 2, none⟩ (.bool false)).setCell ⟨W6.heap.size, 3, none⟩ (.string D)).setCell ⟨W6.heap.size, 4, none⟩ (.int .i64 pe)) = W7 at *
        generalize W6.heap.size = bq at *
        have HK := Lib.hid hk7
        have HQ := Lib.hid hq7
        clear hk7 hq7 hP6 hlt6 hk6 hbase HB6 HX6 hb HC2 hS1 hS2 hS3 hS4 hS5 hS6 g1 g2 g2' g3 g4 g4' g5 g6
        go_wp2_with fail
        refine (HC3.out _ HK.out.bel).mono ?_
        rintro e w8 ⟨rfl, hb8⟩
        have HP8 : Hid (w8.heap[bp]? = some (.cells #[.int .i64 1, .bool false, .bool false, .string D, .int .i64 pe] 24 (0, 0))) := Lib.hid (below_heap hb8 HK.out.at_)
        have HQ8 : Hid (w8.heap[bq]? = some (.cells #[.int .i64 1, .bool false, .bool false, .string D, .int .i64 pe] 24 (0, 0))) := Lib.hid (below_heap hb8 HQ.out)
        have HP9 : Hid ((w8.alloc (.cells #[.int .i64 1, .bool false, .bool false, .string D3, .int .i64 (pe - (k : Int))] 24)).heap[bp]? = some (.cells #[.int .i64 1, .bool false, .bool false, .string D, .int .i64 pe] 24 (0, 0))) := Lib.hid ((heap_keep _ _ (lt_of_heap HP8.out)).trans HP8.out)
        have HQ9 : Hid ((w8.alloc (.cells #[.int .i64 1, .bool false, .bool false, .string D3, .int .i64 (pe - (k : Int))] 24)).heap[bq]? = some (.cells #[.int .i64 1, .bool false, .bool false, .string D, .int .i64 pe] 24 (0, 0))) := Lib.hid ((heap_keep _ _ (lt_of_heap HQ8.out)).trans HQ8.out)
        have HR9 : Hid ((w8.alloc (.cells #[.int .i64 1, .bool false, .bool false, .string D3, .int .i64 (pe - (k : Int))] 24)).heap[w8.heap.size]? = some (.cells #[.int .i64 1, .bool false, .bool false, .string D3, .int .i64 (pe - (k : Int))] 24 (0, 0))) := Lib.hid (heap_new _ _)
        have HB9 : Hid (Below w.heap.size w (w8.alloc (.cells #[.int .i64 1, .bool false, .bool false, .string D3, .int .i64 (pe - (k : Int))] 24))) := Lib.hid (below_alloc (below_then HK.out.bel hb8) _)
        clear hb8 HP8 HQ8 HC3 HK HQ
        have px0 : (w8.alloc (.cells #[.int .i64 1, .bool false, .bool false, .string D3, .int .i64 (pe - (k : Int))] 24)).cell? ⟨bp, 0, none⟩ = some (.int .i64 1) := cell_of_heap HP9.out 0
        have px1 : (w8.alloc (.cells #[.int .i64 1, .bool false, .bool false, .string D3, .int .i64 (pe - (k : Int))] 24)).cell? ⟨bp, 1, none⟩ = some (.bool false) := cell_of_heap HP9.out 1
        have px2 : (w8.alloc (.cells #[.int .i64 1, .bool false, .bool false, .string D3, .int .i64 (pe - (k : Int))] 24)).cell? ⟨bp, 2, none⟩ = some (.bool false) := cell_of_heap HP9.out 2
        have px3 : (w8.alloc (.cells #[.int .i64 1, .bool false, .bool false, .string D3, .int .i64 (pe - (k : Int))] 24)).cell? ⟨bp, 3, none⟩ = some (.string D) := cell_of_heap HP9.out 3
        have px4 : (w8.alloc (.cells #[.int .i64 1, .bool false, .bool false, .string D3, .int .i64 (pe - (k : Int))] 24)).cell? ⟨bp, 4, none⟩ = some (.int .i64 pe) := cell_of_heap HP9.out 4
        have py0 : (w8.alloc (.cells #[.int .i64 1, .bool false, .bool false, .string D3, .int .i64 (pe - (k : Int))] 24)).cell? ⟨bq, 0, none⟩ = some (.int .i64 1) := cell_of_heap HQ9.out 0
        have py1 : (w8.alloc (.cells #[.int .i64 1, .bool false, .bool false, .string D3, .int .i64 (pe - (k : Int))] 24)).cell? ⟨bq, 1, none⟩ = some (.bool false) := cell_of_heap HQ9.out 1
        have py2 : (w8.alloc (.cells #[.int .i64 1, .bool false, .bool false, .string D3, .int .i64 (pe - (k : Int))] 24)).cell? ⟨bq, 2, none⟩ = some (.bool false) := cell_of_heap HQ9.out 2
        have py3 : (w8.alloc (.cells #[.int .i64 1, .bool false, .bool false, .string D3, .int .i64 (pe - (k : Int))] 24)).cell? ⟨bq, 3, none⟩ = some (.string D) := cell_of_heap HQ9.out 3
        have py4 : (w8.alloc (.cells #[.int .i64 1, .bool false, .bool false, .string D3, .int .i64 (pe - (k : Int))] 24)).cell? ⟨bq, 4, none⟩ = some (.int .i64 pe) := cell_of_heap HQ9.out 4
        have pz0 : (w8.alloc (.cells #[.int .i64 1, .bool false, .bool false, .string D3, .int .i64 (pe - (k : Int))] 24)).cell? ⟨w8.heap.size, 0, none⟩ = some (.int .i64 1) := cell_of_heap HR9.out 0
        have pz1 : (w8.alloc (.cells #[.int .i64 1, .bool false, .bool false, .string D3, .int .i64 (pe - (k : Int))] 24)).cell? ⟨w8.heap.size, 1, none⟩ = some (.bool false) := cell_of_heap HR9.out 1
        have pz2 : (w8.alloc (.cells #[.int .i64 1, .bool false, .bool false, .string D3, .int .i64 (pe - (k : Int))] 24)).cell? ⟨w8.heap.size, 2, none⟩ = some (.bool false) := cell_of_heap HR9.out 2
        have pz3 : (w8.alloc (.cells #[.int .i64 1, .bool false, .bool false, .string D3, .int .i64 (pe - (k : Int))] 24)).cell? ⟨w8.heap.size, 3, none⟩ = some (.string D3) := cell_of_heap HR9.out 3
        have pz4 : (w8.alloc (.cells #[.int .i64 1, .bool false, .bool false, .string D3, .int .i64 (pe - (k : Int))] 24)).cell? ⟨w8.heap.size, 4, none⟩ = some (.int .i64 (pe - (k : Int))) := cell_of_heap HR9.out 4
        go_wp2
        go_ret
        exact ⟨rfl, HB9.out⟩
theorem grammarNoughts_row (a b c d : Int) (w : World) (ha : (Lit.int .u32 a).wf = true) (hb : (Lit.int .u32 b).wf = true) (hc : (Lit.int .i32 c).wf = true) (hd : (Lit.int .u8 d).wf = true) (hT : GramT w) :
    Calls Tryd.prog 5 #[.int .u32 a, .int .u32 b, .int .i32 c, .int .u8 d] w fun e w' => e = .returned (.bool true) ∧ Below w.heap.size w w' := by
  have h1 := bounds_u32 ha
  have h2 := bounds_u32 hb
  have h3 := bounds_i32 hc
  have h4 := bounds_u8 hd
  obtain ⟨x, rfl⟩ : ∃ x : Nat, a = x := ⟨a.toNat, by omega⟩
  obtain ⟨y, rfl⟩ : ∃ y : Nat, b = y := ⟨b.toNat, by omega⟩
  obtain ⟨k, rfl⟩ : ∃ k : Nat, d = k := ⟨d.toNat, by omega⟩
  exact noughts_calls x y c k (by omega) (by omega) h3.1 h3.2 (by omega) w hT.u8 hT.t10
end Go.Proofs.YtiocdgehpiagjaaDoor
