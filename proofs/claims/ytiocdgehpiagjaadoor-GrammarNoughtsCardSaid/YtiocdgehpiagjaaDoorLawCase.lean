/- GrammarCases: the walk. -/
import Derived.Test.YtiocdgehpiagjaaDoorLawGram
import Derived.Test.YtiocdgehpiagjaaDoorGrCase
import Derived.OpenShut
namespace Go.Proofs.YtiocdgehpiagjaaDoor
open Go.RowKit Go.ChangeShapes Go.WideShapes
/-- The text m: l with some letters turned, up to k. -/
structure Turned (l m : List UInt8) (k : Nat) : Prop where
  len : m.length = l.length
  low : m.map lowC = l.map lowC
  rest : m.drop k = l.drop k
theorem Turned.next {l m : List UInt8} {k : Nat} (h : Turned l m k) : Turned l m (k + 1) :=
  ⟨h.len, h.low, by have := congrArg (List.drop 1) h.rest; rwa [List.drop_drop, List.drop_drop] at this⟩
theorem Turned.at {l m : List UInt8} {k : Nat} (h : Turned l m k) (hk : k < l.length) : m[k]'(by rw [h.len]; exact hk) = l[k]'hk := by
  have h1 := h.rest
  rw [List.drop_eq_getElem_cons hk, List.drop_eq_getElem_cons (by rw [h.len]; exact hk)] at h1
  exact (List.cons.inj h1).1
theorem Turned.set {l m : List UInt8} {k : Nat} (h : Turned l m k) (hk : k < l.length) (c : UInt8) (hc : lowC c = lowC (l[k]'hk)) : Turned l (m.set k c) (k + 1) := by
  refine ⟨by rw [List.length_set]; exact h.len, ?_, ?_⟩
  · rw [List.map_set, hc, h.low]
    have : lowC (l[k]'hk) = (l.map lowC)[k]'(by simpa using hk) := by simp
    rw [this, List.set_getElem_self]
  · rw [List.drop_set_of_lt (Nat.lt_succ_self k)]
    exact h.next.rest
theorem xor_low (c : UInt8) (h : (97 ≤ c.toNat ∧ c.toNat ≤ 122) ∨ (65 ≤ c.toNat ∧ c.toNat ≤ 90)) : lowC (c ^^^ 32) = lowC c := by
  have all : ∀ k : Fin 256, (97 ≤ k.val ∧ k.val ≤ 122) ∨ (65 ≤ k.val ∧ k.val ≤ 90) → lowC (UInt8.ofNat k.val ^^^ 32) = lowC (UInt8.ofNat k.val) := by decide +kernel
  have hk := all ⟨c.toNat, c.toNat_lt⟩ h
  simpa using hk
theorem xor_bits (c : UInt8) : bits .xor .u8 (c.toNat : Int) 32 = ((c ^^^ 32).toNat : Int) := by
  have all : ∀ k : Fin 256, bits .xor .u8 (k.val : Int) 32 = ((UInt8.ofNat k.val ^^^ 32).toNat : Int) := by decide +kernel
  have hk := all ⟨c.toNat, c.toNat_lt⟩
  simpa using hk
theorem back_cells {W : World} {g : Nat} {l : List UInt8} (h : ∀ j (hj : j < l.length), W.cell? ⟨g, j, none⟩ = some (.int .u8 (l[j].toNat : Int))) {n : Nat} (hn : l.length = n) (cap : Nat) :
    (convert 34 9 (.slice (some ⟨g, 0, none⟩) n cap)).run Tryd.prog W = .ok (.string ⟨l.toArray⟩) W := by
  subst hn
  refine run_convert_bytes_back W 34 9 5 ⟨g, 0, none⟩ cap l Tryd.underlying34 Tryd.underlying5 Tryd.underlying9 fun j hj => ?_
  rw [Addr.add_mid, Nat.zero_add]
  exact h j hj
theorem plus_cut (t : ByteArray) (l : List UInt8) (h : t.data.toList = l) : (⟨#[43]⟩ ++ t : ByteArray).data.toList = 43 :: l := by
  rw [ByteArray.data_append, Array.toList_append, h]
  rfl
set_option maxRecDepth 10000 in
set_option maxHeartbeats 4000000 in
theorem cases_calls (t : ByteArray) (l : List UInt8) (h : t.data.toList = l) (hm : l.length ≤ 140737488351232) (u : Nat) (hu : u < 18446744073709551616) (w : World) (hT : Lib.Utf8Tabs 2 3 w) :
    Calls Tryd.prog 4 #[.string t, .int .u64 u] w fun e w' => e = .returned (.bool true) ∧ Below w.heap.size w w' := by
  have hsz := str_size h
  obtain ⟨n, hn⟩ : ∃ n, l.length = n := ⟨_, rfl⟩
  rw [hn] at hsz hm
  have HAW := Lib.hid (fun W hT => gawake_calls W hT)
  have HT := Lib.hid hT
  have HH := Lib.hid h
  have HN := Lib.hid hn
  have HU := Lib.hid hu
  have HC1 := Lib.hid (fun W hb => cut_keep t l h (by omega) w W hT hb)
  by_cases hl : n ≤ 3000
  · clear h hn hT hm hu
    go_enter Tryd.func4, Tryd.ntmps4
    go_wp2_with fail
    refine (HAW.out _ HT.out).mono ?_
    rintro e w1 ⟨rfl, hb1⟩
    have HB1 := Lib.hid hb1
    clear hb1
    have hcv := Lib.run_convert_string_bytes (P := Tryd.prog) w1 9 34 5 t Tryd.underlying9 Tryd.underlying34 Tryd.underlying5
    have hrow := brow_new w1 5 t
    rw [HH.out] at hrow
    have HROW := Lib.hid hrow
    have HBL := Lib.hid (below_then HB1.out (below_bytes w1 5 t))
    rw [hsz] at hcv
    generalize grownCap w1 n 0 5 = cap at hcv
    generalize Lib.bytesWorld w1 5 t = w2 at *
    obtain ⟨g, hg⟩ : ∃ g, w1.heap.size = g := ⟨_, rfl⟩
    have HG : Hid (w.heap.size ≤ g) := Lib.hid (by rw [← hg]; exact HB1.out.size)
    rw [hg] at hcv HROW
    clear hrow hg HB1
    go_wp2
    go_loopw [26] (fun i wr => ∃ (k : Nat) (m : List UInt8), k ≤ n ∧ i = .int .i64 k ∧ BRow wr g m ∧ Turned l m k ∧ Below w.heap.size w wr) (fun i _ => n - (intOf i).toNat)
    case atStart => exact ⟨0, l, Nat.zero_le _, rfl, HROW.out, ⟨rfl, rfl, rfl⟩, HBL.out⟩
    case round =>
      obtain ⟨k, m, hk, rfl, hr, ht, hb⟩ := hrel
      have HR := Lib.hid hr
      have HB := Lib.hid hb
      have HTU := Lib.hid ht
      clear hr hb hcv ht HROW HBL
      by_cases hlt : k < n
      · have hkl : k < l.length := by rw [HN.out]; exact hlt
        have hkm : k < m.length := by rw [HTU.out.len]; exact hkl
        have c0 := HR.out.cell k hkm
        have z0 := HR.out.free k hkm
        rw [HTU.out.at hkl] at c0
        have HNX := Lib.hid HTU.out.next
        have HST := Lib.hid (HTU.out.set hkl)
        obtain ⟨c, hc⟩ : ∃ c, l[k]'hkl = c := ⟨_, rfl⟩
        rw [hc] at c0 HST
        have hu2 := HU.out
        clear hc
        go_wp2
        all_goals
          go_roundw
          case rel =>
            first
            | exact ⟨k + 1, m, by omega, by go_num, HR.out, HNX.out, HB.out⟩
            | exact ⟨k + 1, _, by omega, by go_num, HR.out.set k hkm (c ^^^ 32) _ (xor_bits c), HST.out _ (xor_low c (by omega)), HB.out.setCell HG.out _⟩
          case measure => simp [intOf]; omega
      · obtain rfl : n = k := by omega
        have HL := Lib.hid HTU.out.low
        have HML : Hid (m.length ≤ 3000) := Lib.hid (by rw [HTU.out.len, HN.out]; exact hl)
        have HLL : Hid (l.length ≤ 3000) := Lib.hid (by rw [HN.out]; exact hl)
        have HMN : Hid (m.length = n) := Lib.hid (HTU.out.len.trans HN.out)
        have HC2 := Lib.hid (fun W hb => cut_keep ⟨m.toArray⟩ m rfl (by have := HML.out; omega) w W HT.out hb)
        have HC3 := Lib.hid (fun W hb => cut_keep (⟨#[43]⟩ ++ t) (43 :: l) (plus_cut t l HH.out) (by have := HLL.out; simp only [List.length_cons]; omega) w W HT.out hb)
        have hc12 : cutL m = cutL l := cut_cases HL.out
        have hc3 := cut_plus l HLL.out
        rw [hc12] at HC2
        rw [hc3] at HC3
        generalize cutL l = R at HC1 HC2 HC3
        obtain ⟨⟨c, s, sg, d, x⟩, E⟩ := R
        have ev : cutV (⟨c, s, sg, d, x⟩, E) = .tuple #[.agg #[.int .i64 c, .bool s, .bool sg, .string ⟨d.toArray⟩, .int .i64 x], .int .i64 E] := rfl
        rw [ev] at HC1 HC2
        generalize hD : (⟨d.toArray⟩ : ByteArray) = D at HC1 HC2
        have HD := Lib.hid hD
        have HCELL := Lib.hid HR.out.cell
        clear HTU HR hc12 hc3 ev hD
        go_wp2_with fail
        refine (HC1.out _ HB.out).mono ?_
        rintro e w3 ⟨rfl, hb3⟩
        have HB3 : Hid (Below w.heap.size w (w3.alloc (.cells #[.int .i64 c, .bool s, .bool sg, .string D, .int .i64 x] 24))) := Lib.hid (below_alloc (below_then HB.out hb3) _)
        have HX3 : Hid ((w3.alloc (.cells #[.int .i64 c, .bool s, .bool sg, .string D, .int .i64 x] 24)).heap[w3.heap.size]? = some (.cells #[.int .i64 c, .bool s, .bool sg, .string D, .int .i64 x] 24 (0, 0))) := Lib.hid (heap_new _ _)
        have hcb := back_cells (W := w3.alloc (.cells #[.int .i64 c, .bool s, .bool sg, .string D, .int .i64 x] 24)) (fun j hj => below_cell (below_alloc hb3 _) (HCELL.out j hj)) HMN.out cap
        clear hb3 HB
        go_wp2_with fail
        refine (HC2.out _ HB3.out).mono ?_
        rintro e w4 ⟨rfl, hb4⟩
        have HX4 : Hid (w4.heap[w3.heap.size]? = some (.cells #[.int .i64 c, .bool s, .bool sg, .string D, .int .i64 x] 24 (0, 0))) := Lib.hid (below_heap hb4 HX3.out)
        have HL4 : Hid (w3.heap.size < w4.heap.size) := Lib.hid (lt_of_heap HX4.out)
        have HB4 : Hid (Below w.heap.size w (w4.alloc (.cells #[.int .i64 c, .bool s, .bool sg, .string D, .int .i64 x] 24))) := Lib.hid (below_alloc (below_then HB3.out hb4) _)
        have HX5 : Hid ((w4.alloc (.cells #[.int .i64 c, .bool s, .bool sg, .string D, .int .i64 x] 24)).heap[w3.heap.size]? = some (.cells #[.int .i64 c, .bool s, .bool sg, .string D, .int .i64 x] 24 (0, 0))) := Lib.hid ((heap_keep _ _ HL4.out).trans HX4.out)
        have HY5 : Hid ((w4.alloc (.cells #[.int .i64 c, .bool s, .bool sg, .string D, .int .i64 x] 24)).heap[w4.heap.size]? = some (.cells #[.int .i64 c, .bool s, .bool sg, .string D, .int .i64 x] 24 (0, 0))) := Lib.hid (heap_new _ _)
        clear hb4 hcb HX3 HB3 HX4 HL4
        have x0 : (w4.alloc (.cells #[.int .i64 c, .bool s, .bool sg, .string D, .int .i64 x] 24)).cell? ⟨w3.heap.size, 0, none⟩ = some (.int .i64 c) := cell_of_heap HX5.out 0
        have x1 : (w4.alloc (.cells #[.int .i64 c, .bool s, .bool sg, .string D, .int .i64 x] 24)).cell? ⟨w3.heap.size, 1, none⟩ = some (.bool s) := cell_of_heap HX5.out 1
        have x2 : (w4.alloc (.cells #[.int .i64 c, .bool s, .bool sg, .string D, .int .i64 x] 24)).cell? ⟨w3.heap.size, 2, none⟩ = some (.bool sg) := cell_of_heap HX5.out 2
        have x3 : (w4.alloc (.cells #[.int .i64 c, .bool s, .bool sg, .string D, .int .i64 x] 24)).cell? ⟨w3.heap.size, 3, none⟩ = some (.string D) := cell_of_heap HX5.out 3
        have x4 : (w4.alloc (.cells #[.int .i64 c, .bool s, .bool sg, .string D, .int .i64 x] 24)).cell? ⟨w3.heap.size, 4, none⟩ = some (.int .i64 x) := cell_of_heap HX5.out 4
        have y0 : (w4.alloc (.cells #[.int .i64 c, .bool s, .bool sg, .string D, .int .i64 x] 24)).cell? ⟨w4.heap.size, 0, none⟩ = some (.int .i64 c) := cell_of_heap HY5.out 0
        have y1 : (w4.alloc (.cells #[.int .i64 c, .bool s, .bool sg, .string D, .int .i64 x] 24)).cell? ⟨w4.heap.size, 1, none⟩ = some (.bool s) := cell_of_heap HY5.out 1
        have y2 : (w4.alloc (.cells #[.int .i64 c, .bool s, .bool sg, .string D, .int .i64 x] 24)).cell? ⟨w4.heap.size, 2, none⟩ = some (.bool sg) := cell_of_heap HY5.out 2
        have y3 : (w4.alloc (.cells #[.int .i64 c, .bool s, .bool sg, .string D, .int .i64 x] 24)).cell? ⟨w4.heap.size, 3, none⟩ = some (.string D) := cell_of_heap HY5.out 3
        have y4 : (w4.alloc (.cells #[.int .i64 c, .bool s, .bool sg, .string D, .int .i64 x] 24)).cell? ⟨w4.heap.size, 4, none⟩ = some (.int .i64 x) := cell_of_heap HY5.out 4
        go_wp2_with fail
        by_cases hsg : signed l = true
        · rw [if_pos hsg] at HC3
          have e3 : cutV (noParts, 2) = .tuple #[.agg #[.int .i64 0, .bool false, .bool false, .string ⟨#[]⟩, .int .i64 0], .int .i64 2] := rfl
          rw [e3] at HC3
          refine (HC3.out _ HB4.out).mono ?_
          rintro e w5 ⟨rfl, hb5⟩
          have HB5 := Lib.hid (below_then HB4.out hb5)
          have HLH := Lib.hid HH.out
          clear hb5 x0 x1 x2 x3 x4 y0 y1 y2 y3 y4 HX5 HY5 HB4 e3
          have hl0 : ∃ c0 l0, l = c0 :: l0 ∧ (c0 = 43 ∨ c0 = 45) := by
            cases l with
            | nil => cases hsg
            | cons c0 l0 => exact ⟨c0, l0, rfl, by simpa [signed] using hsg⟩
          obtain ⟨c0, l0, rfl, hc0⟩ := hl0
          have h0 : 0 < t.size := by rw [str_size HH.out]; simp
          have hg : t[0]'h0 = c0 := get_of HH.out h0 (by simp)
          have h0i : (0 : Int) < (t.size : Int) := by omega
          have h0n : 0 < n := by omega
          clear hsg
          rcases hc0 with rfl | rfl
          · go_wp2
            go_ret
            exact ⟨rfl, below_alloc HB5.out _⟩
          · go_wp2
            go_ret
            exact ⟨rfl, below_alloc HB5.out _⟩
        · rw [if_neg hsg] at HC3
          have e3 : cutV (⟨c, s, sg, d, x⟩, E) = .tuple #[.agg #[.int .i64 c, .bool s, .bool sg, .string ⟨d.toArray⟩, .int .i64 x], .int .i64 E] := rfl
          rw [e3, HD.out] at HC3
          refine (HC3.out _ HB4.out).mono ?_
          rintro e w5 ⟨rfl, hb5⟩
          have HX6 : Hid (w5.heap[w3.heap.size]? = some (.cells #[.int .i64 c, .bool s, .bool sg, .string D, .int .i64 x] 24 (0, 0))) := Lib.hid (below_heap hb5 HX5.out)
          have HL6 : Hid (w3.heap.size < w5.heap.size) := Lib.hid (lt_of_heap HX6.out)
          have HB6 : Hid (Below w.heap.size w (w5.alloc (.cells #[.int .i64 c, .bool s, .bool sg, .string D, .int .i64 x] 24))) := Lib.hid (below_alloc (below_then HB4.out hb5) _)
          have HX7 : Hid ((w5.alloc (.cells #[.int .i64 c, .bool s, .bool sg, .string D, .int .i64 x] 24)).heap[w3.heap.size]? = some (.cells #[.int .i64 c, .bool s, .bool sg, .string D, .int .i64 x] 24 (0, 0))) := Lib.hid ((heap_keep _ _ HL6.out).trans HX6.out)
          have HY7 : Hid ((w5.alloc (.cells #[.int .i64 c, .bool s, .bool sg, .string D, .int .i64 x] 24)).heap[w5.heap.size]? = some (.cells #[.int .i64 c, .bool s, .bool sg, .string D, .int .i64 x] 24 (0, 0))) := Lib.hid (heap_new _ _)
          clear hb5 x0 x1 x2 x3 x4 y0 y1 y2 y3 y4 HX5 HY5 HB4 e3 HX6 HL6
          have x0 : (w5.alloc (.cells #[.int .i64 c, .bool s, .bool sg, .string D, .int .i64 x] 24)).cell? ⟨w3.heap.size, 0, none⟩ = some (.int .i64 c) := cell_of_heap HX7.out 0
          have x1 : (w5.alloc (.cells #[.int .i64 c, .bool s, .bool sg, .string D, .int .i64 x] 24)).cell? ⟨w3.heap.size, 1, none⟩ = some (.bool s) := cell_of_heap HX7.out 1
          have x2 : (w5.alloc (.cells #[.int .i64 c, .bool s, .bool sg, .string D, .int .i64 x] 24)).cell? ⟨w3.heap.size, 2, none⟩ = some (.bool sg) := cell_of_heap HX7.out 2
          have x3 : (w5.alloc (.cells #[.int .i64 c, .bool s, .bool sg, .string D, .int .i64 x] 24)).cell? ⟨w3.heap.size, 3, none⟩ = some (.string D) := cell_of_heap HX7.out 3
          have x4 : (w5.alloc (.cells #[.int .i64 c, .bool s, .bool sg, .string D, .int .i64 x] 24)).cell? ⟨w3.heap.size, 4, none⟩ = some (.int .i64 x) := cell_of_heap HX7.out 4
          have y0 : (w5.alloc (.cells #[.int .i64 c, .bool s, .bool sg, .string D, .int .i64 x] 24)).cell? ⟨w5.heap.size, 0, none⟩ = some (.int .i64 c) := cell_of_heap HY7.out 0
          have y1 : (w5.alloc (.cells #[.int .i64 c, .bool s, .bool sg, .string D, .int .i64 x] 24)).cell? ⟨w5.heap.size, 1, none⟩ = some (.bool s) := cell_of_heap HY7.out 1
          have y2 : (w5.alloc (.cells #[.int .i64 c, .bool s, .bool sg, .string D, .int .i64 x] 24)).cell? ⟨w5.heap.size, 2, none⟩ = some (.bool sg) := cell_of_heap HY7.out 2
          have y3 : (w5.alloc (.cells #[.int .i64 c, .bool s, .bool sg, .string D, .int .i64 x] 24)).cell? ⟨w5.heap.size, 3, none⟩ = some (.string D) := cell_of_heap HY7.out 3
          have y4 : (w5.alloc (.cells #[.int .i64 c, .bool s, .bool sg, .string D, .int .i64 x] 24)).cell? ⟨w5.heap.size, 4, none⟩ = some (.int .i64 x) := cell_of_heap HY7.out 4
          clear HX7 HY7
          rcases hlc : l with _ | ⟨c0, l0⟩
          · have h0 : n = 0 := by rw [← HN.out, hlc]; rfl
            subst h0
            clear hlc hsg
            go_wp2
            go_ret
            exact ⟨rfl, HB6.out⟩
          · have hc0 : ¬ (c0 = 43 ∨ c0 = 45) := by intro hh; rw [hlc] at hsg; exact hsg (by simpa [signed] using hh)
            have HH2 := HH.out
            rw [hlc] at HH2
            have h0 : 0 < t.size := by rw [str_size HH2]; simp
            have hg : t[0]'h0 = c0 := get_of HH2 h0 (by simp)
            have q1 : (((c0.toNat : Nat) : Int) == 43) = false := beq_eq_false_iff_ne.2 (fun e => hc0 (.inl (UInt8.toNat_inj.1 (by show c0.toNat = 43; omega))))
            have q2 : (((c0.toNat : Nat) : Int) == 45) = false := beq_eq_false_iff_ne.2 (fun e => hc0 (.inr (UInt8.toNat_inj.1 (by show c0.toNat = 45; omega))))
            have h0i : (0 : Int) < (t.size : Int) := by omega
            have h0n : 0 < n := by omega
            clear hlc hsg hc0 HH2
            go_wp2
            go_ret
            exact ⟨rfl, HB6.out⟩
  · clear h hn hT hm hu
    have hli : (3000 : Int) < (n : Int) := by omega
    go_enter Tryd.func4, Tryd.ntmps4
    go_wp2_with fail
    refine (HAW.out _ HT.out).mono ?_
    rintro e w1 ⟨rfl, hb1⟩
    have HB1 := Lib.hid hb1
    clear hb1
    go_wp2_with fail
    refine (HAW.out _ (Utf8Tabs.keep HT.out HB1.out)).mono ?_
    rintro e w2 ⟨rfl, hb2⟩
    have HB2 := Lib.hid (below_then HB1.out hb2)
    clear hb2
    go_wp2
    go_ret
    exact ⟨rfl, HB2.out⟩
theorem grammarCases_row (t : ByteArray) (z : Int) (w : World) (hs : t.size ≤ 140737488351232) (hz : (Lit.int .u64 z).wf = true) (hT : GramT w) :
    Calls Tryd.prog 4 #[.string t, .int .u64 z] w fun e w' => e = .returned (.bool true) ∧ Below w.heap.size w w' := by
  have hb : 0 ≤ z ∧ z < 18446744073709551616 := by
    have := bounds_u64 hz
    omega
  obtain ⟨u, rfl⟩ : ∃ u : Nat, z = u := ⟨z.toNat, by omega⟩
  exact cases_calls t _ rfl (by have := str_size (t := t) rfl; omega) u (by omega) w hT.u8
end Go.Proofs.YtiocdgehpiagjaaDoor
