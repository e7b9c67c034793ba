/- The reference's Value. · The reference's Layout, zeros. · The reference's Write. No conditions. -/
import Derived.Test.YtpodpdopgdkdkaaGreatDoorMw26
import Derived.Test.YtpodpdopgdkdkaaGreatDoorMw25
import Derived.Test.YtpodpdopgdkdkaaGreatDoorMw10
import Derived.Deep.RegionHeld3
import Derived.Test.YtpodpdopgdkdkaaGreatDoorMw24
set_option linter.unusedVariables false
set_option linter.unusedSimpArgs false
namespace Go.Proofs.YtpodpdopgdkdkaaGreatDoor
set_option linter.unusedVariables false
set_option linter.unusedSimpArgs false
open Go.RowKit
theorem keep5 {w W W' : World} {g : Nat} {cs : Array Value} {t : TypeId} (h : W.heap[g]? = some (.cells cs t) ∧ Below w.heap.size w W) (hb : Below W.heap.size W W') : W'.heap[g]? = some (.cells cs t) ∧ Below w.heap.size w W' :=
  ⟨below_heap hb h.1, below_then h.2 hb⟩
theorem NatAt.drew {w : World} {n : Nat} {s : Value} (h : NatAt w n s) : NatAt w.drew n s := by
  obtain ⟨a, c, zs, rfl, r1, r2⟩ := h
  exact ⟨a, c, zs, rfl, r1.drew, r2⟩
set_option maxRecDepth 100000 in
set_option maxHeartbeats 4000000 in
theorem value_calls (w : World) (k : Int) (sg si : Bool) (x : Int) (c0 c1 c2 c3 : Nat) (hc : W64 [c0, c1, c2, c3]) (h0 : -20000 ≤ x) (h1 : x ≤ 20000) :
    Calls Tryz.prog 14 #[.agg (datV k sg si x c0 c1 c2 c3), .int .u64 2] w (NatTwo w (frN (val [c0, c1, c2, c3]) x) (frD x)) := by
  have hK := val4_lt hc
  have HN := Lib.hid (fun W => rnat_calls W c0 c1 c2 c3 hc)
  have HSC := Lib.hid (fun W u v (hu : NatAt W (val [c0, c1, c2, c3]) u) (hv : NatAt W 1 v) => rscale2_calls W x hu hv hK (show 1 < B64 ^ 4 by decide) (by omega) h0 h1)
  have hG := heap_new w (.cells (datV k sg si x c0 c1 c2 c3) 31)
  have hB := below_alloc (Below.refl w.heap.size w) (.cells (datV k sg si x c0 c1 c2 c3) 31)
  generalize hF : val [c0, c1, c2, c3] = F at *
  unfold bitsV datV at *
  clear hc hF hK h0 h1
  have HG := Lib.hid hG
  have HB := Lib.hid hB
  clear hG hB
  go_enter Tryz.func14, Tryz.ntmps14
  go_wp2_with fail
  generalize (w.alloc (.cells #[.int .i64 k, .bool sg, .bool si, .int .i64 x, .int .u64 (c0 : Nat), .int .u64 (c1 : Nat), .int .u64 (c2 : Nat), .int .u64 (c3 : Nat)] 31)) = v0 at HG HB ⊢
  have d3 : v0.cell? ⟨w.heap.size, 3, none⟩ = some (.int .i64 x) := cell_of_heap HG.out 3
  have d4 : v0.cell? ⟨w.heap.size, 4, none⟩ = some (.int .u64 (c0 : Nat)) := cell_of_heap HG.out 4
  have d5 : v0.cell? ⟨w.heap.size, 5, none⟩ = some (.int .u64 (c1 : Nat)) := cell_of_heap HG.out 5
  have d6 : v0.cell? ⟨w.heap.size, 6, none⟩ = some (.int .u64 (c2 : Nat)) := cell_of_heap HG.out 6
  have d7 : v0.cell? ⟨w.heap.size, 7, none⟩ = some (.int .u64 (c3 : Nat)) := cell_of_heap HG.out 7
  have hB0 := HB.out
  go_region_held3 (fun w' => w'.cell? ⟨w.heap.size, 3, none⟩ = some (.int .i64 x) ∧ w'.cell? ⟨w.heap.size, 4, none⟩ = some (.int .u64 (c0 : Nat)) ∧ w'.cell? ⟨w.heap.size, 5, none⟩ = some (.int .u64 (c1 : Nat)) ∧ w'.cell? ⟨w.heap.size, 6, none⟩ = some (.int .u64 (c2 : Nat)) ∧ w'.cell? ⟨w.heap.size, 7, none⟩ = some (.int .u64 (c3 : Nat)) ∧ Below w.heap.size w w')
    (first | exact ⟨d3, d4, d5, d6, d7, hB0.drew⟩ | exact keepB5 (by assumption) hb | exact keepB5 (by assumption) (below_alloc (Below.refl _ _) _) | assumption)
    (first | (go_at_call 44; (with_reducible refine (HN.out _).mono ?_); intro e w' hr; obtain ⟨u, rfl, hu, hb⟩ := hr.at) | (go_at_call 18; (with_reducible refine (HSC.out _ _ _ (by first | exact hu | exact hu.below (below_alloc (Below.refl _ _) _)) (by first | exact one_at _ | exact (one_at _).drew | exact (one_at _).below hb | exact (one_at _).drew.below hb)).mono ?_); rintro e w' ⟨s2, t2, rfl, hs2, ht2, hb⟩))
  all_goals
    have HF := Lib.hid (‹_ ∧ _ ∧ _ ∧ _ ∧ _ ∧ Below w.heap.size w _›).2.2.2.2.2
    have HS2 := Lib.hid hs2
    have HT2 := Lib.hid (show NatAt _ (frD x) t2 by have h := ht2; unfold sbD at h; rw [Nat.one_mul] at h; exact h)
    go_wp2
    go_ret2
    exact ⟨_, _, rfl, HS2.out, HT2.out, HF.out⟩
end Go.Proofs.YtpodpdopgdkdkaaGreatDoor
namespace Go.Proofs.YtpodpdopgdkdkaaGreatDoor
set_option linter.unusedVariables false
set_option linter.unusedSimpArgs false
open Go.RowKit
/-- Block g holds the bytes l, and may be written. -/
def BytesAt (w : World) (g : Nat) (l : List UInt8) : Prop := w.heap[g]? = some (.cells (l.map bv).toArray 5 (0, 0))
theorem BytesAt.cell {w : World} {g : Nat} {l : List UInt8} (h : BytesAt w g l) {i : Nat} (hi : i < l.length) : w.cell? ⟨g, i, none⟩ = some (bv l[i]) := by
  rw [cell_of_heap h]; simp [hi]
theorem BytesAt.own {B : Nat} {w : World} {g : Nat} {l : List UInt8} (h : BytesAt w g l) (hB : B ≤ g) (hl : l.length ≤ 17592186044416) : OwnY B w (some ⟨g, 0, none⟩) l.length l.length l :=
  ⟨by simp, .inr ⟨g, l.length, (l.map bv).toArray, rfl, hB, h, Nat.le_refl _, by unfold maxLen; omega, by simp, by simp [List.take_of_length_le]⟩⟩
theorem made_bytes (n : Nat) : madeCells (Value.int .u8 0).cells (n * 1) = ((List.replicate n (0 : UInt8)).map bv).toArray := by
  apply Array.ext
  · simp [madeCells]
  · intro i h1 h2
    have e : (Value.int .u8 0).cells = #[.int .u8 0] := rfl
    simp [madeCells, bv, e, Nat.mod_one]
section
variable {ops : Array Oper} {rest : List Oper} {Q : Exit → Act → World → Prop} {a : Act} {w : World} {d : Option Tmp} {x y : Operand} {T : TypeId} {pos : String} {af : Array Edge}
/-- make([]byte, n). -/
theorem mk_bytes {w0 : World} (hB : Below w0.heap.size w0 w) (n : Nat) (hn : n ≤ 17592186044416)
    (h : ∀ (W : World) (g : Nat), w0.heap.size ≤ g → Below w0.heap.size w0 W → BytesAt W g (List.replicate n 0) → wpList Tryz.prog ops Q rest (a.put d (.slice (some ⟨g, 0, none⟩) n n)) W)
    (hx : a.eval x = .int .i64 (n : Nat) := by rfl) (hy : a.eval y = .int .i64 (n : Nat) := by rfl) :
    wpList Tryz.prog ops Q ({ dst := d, op := .makeSlice 100 x y, type := T, pos := pos, after := af, guard := none } :: rest) a w := by
  obtain ⟨i0, hi, hz0, hz1, hz2⟩ := info_parts u8_info
  have hr := run_make (P := Tryz.prog) w 100 5 i0 (.int .u8 0) Tryz.underlying100 hi hz0 .i64 .i64 (n : Nat) (n : Nat) (by omega) (Int.le_refl _) (by rw [hz2]; omega) (by omega)
  rw [hz1, Int.toNat_natCast, made_bytes] at hr
  have b2 : Below w.heap.size w (w.alloc (.cells ((List.replicate n (0 : UInt8)).map bv).toArray 5)) := (Below.refl _ _).alloc (Nat.le_refl _) _
  refine wpList_plain rfl fun K hK => ?_
  unfold Oper.wp execOp
  simp only [hx, hy, Sem.run_bind, hr, Result.andThen_ok]
  exact hK _ _ (h _ w.heap.size hB.size (below_then hB b2) (heap_new w _))
/-- A store of a byte. -/
theorem st_byte {w0 : World} (hB : Below w0.heap.size w0 w) {g : Nat} {l : List UInt8} (hg : BytesAt w g l) (hB0 : w0.heap.size ≤ g) (i : Nat) (b : UInt8) (hi : i < l.length)
    (h : ∀ W : World, Below w0.heap.size w0 W → BytesAt W g (l.set i b) → wpList Tryz.prog ops Q rest (a.put d undef) W)
    (hx : a.eval x = .pointer (some ⟨g, i, none⟩) := by rfl) (hy : a.eval y = .int .u8 (b.toNat : Int) := by rfl) :
    wpList Tryz.prog ops Q ({ dst := d, op := .store 5 x y, type := T, pos := pos, after := af, guard := none } :: rest) a w := by
  have h1 := hg.cell hi
  have h2 : w.frozen? ⟨g, i, none⟩ = false := free_of_heap hg i
  refine wpList_plain rfl fun K hK => ?_
  have hs : (Instr.storeAt 5 (.pointer (some ⟨g, i, none⟩)) (.int .u8 (b.toNat : Int))).run Tryz.prog w = .ok () (w.setCell ⟨g, i, none⟩ (.int .u8 (b.toNat : Int))) := by
    unfold bv at h1
    go_simp
  unfold Oper.wp execOp
  simp only [hx, hy, Sem.run_bind, hs, Result.andThen_ok]
  refine hK _ _ (h _ (hB.setCell hB0 _) ?_)
  have := heap_set hg i (bv b)
  unfold BytesAt
  rw [List.map_set]
  show (w.setCell ⟨g, i, none⟩ (bv b)).heap[g]? = _
  simpa using this
end
theorem fill_set (k n : Nat) (b : UInt8) (h : k < n) : (List.replicate k b ++ List.replicate (n - k) (0 : UInt8)).set k b = List.replicate (k + 1) b ++ List.replicate (n - (k + 1)) 0 := by
  have e : List.replicate (n - k) (0 : UInt8) = 0 :: List.replicate (n - (k + 1)) 0 := by
    rw [show n - k = (n - (k + 1)) + 1 by omega, List.replicate_succ]
  rw [e, List.set_append_right _ _ (by simp)]
  simp [List.replicate_succ']
set_option maxRecDepth 100000 in
set_option maxHeartbeats 2000000 in
theorem zeros_calls (w : World) (n : Nat) (h0 : 0 < n) (hn : n ≤ 100000) : Calls Tryz.prog 33 #[.int .i64 (n : Nat)] w fun e w' => e = .returned (.string ⟨(List.replicate n 48).toArray⟩) ∧ Below w.heap.size w w' := by
  have H0 := Lib.hid h0
  clear h0
  go_enter Tryz.func33, Tryz.ntmps33
  go_wp2_with ((with_reducible refine gate_make 100 ?_); refine mk_bytes (Below.refl w.heap.size w) n (by omega) (fun W g hgB hBW hgw => ?_); have HBW := Lib.hid hBW; have HGW := Lib.hid hgw; have HGB := Lib.hid hgB; clear hBW hgw hgB)
  go_loopw [9] (fun i wr => ∃ t : Nat, t ≤ n ∧ i = .int .i64 t ∧ BytesAt wr g (List.replicate t 48 ++ List.replicate (n - t) 0) ∧ Below w.heap.size w wr) (fun i _ => n - (intOf i).toNat)
  case atStart => exact ⟨0, by omega, rfl, HGW.out, HBW.out⟩
  case round =>
    obtain ⟨t, ht, rfl, hz, hbw⟩ := hrel
    have HZ := Lib.hid hz
    have HBR := Lib.hid hbw
    clear hz hbw HBW HGW
    by_cases hlt : t < n
    · have HFS := Lib.hid (fill_set t n 48 hlt)
      go_wp2_with (((with_reducible refine gate_store 5 ?_); refine st_byte HBR.out HZ.out HGB.out t 48 (by simp; omega) (fun W2 hB2 hz2 => ?_); rw [HFS.out] at hz2; have HB2 := Lib.hid hB2; have HZ2 := Lib.hid hz2; clear hB2 hz2))
      go_roundw
      case rel => exact ⟨t + 1, by omega, by go_num, HZ2.out, HB2.out⟩
      case measure => simp [intOf]; omega
    · obtain rfl : t = n := by omega
      have hz := HZ.out
      rw [Nat.sub_self, List.replicate_zero, List.append_nil] at hz
      have hcv := run_string_own (hz.own (B := w.heap.size) HGB.out (by simp; omega)) (by simp; exact H0.out)
      rw [List.length_replicate] at hcv
      clear hz
      obtain ⟨Z, hZ⟩ : ∃ Z : ByteArray, Z = ⟨(List.replicate t 48).toArray⟩ := ⟨_, rfl⟩
      rw [← hZ] at hcv
      have HZE := Lib.hid hZ
      clear hZ
      go_wp2
      go_ret
      exact ⟨by rw [← HZE.out]; rfl, HBR.out⟩
set_option maxRecDepth 100000 in
set_option maxHeartbeats 4000000 in
theorem rlayout_calls (w : World) (sg : Bool) (S : ByteArray) (l : List UInt8) (e : Int) (hS : S.data.toList = l) (hl : 1 ≤ l.length) (hl2 : l.length ≤ 100000) (h0 : -100000 ≤ e) (h1 : e ≤ 100000) (hT : Tab10 w) :
    Calls Tryz.prog 22 #[.bool sg, .string S, .int .i64 e] w fun r w' => r = .returned (.string ⟨(layL sg l e).toArray⟩) ∧ Below w.heap.size w w' := by
  have hsz := wr_size hS
  obtain ⟨n, hn⟩ : ∃ n, l.length = n := ⟨_, rfl⟩
  rw [hn] at hsz hl hl2
  have HI := Lib.hid (fun W (hW : Below w.heap.size w W) => wr_itoa (e + (n : Int) - 1) (by omega) (by omega) W (tabIs_below hT hW))
  obtain ⟨X, hX⟩ : ∃ X : ByteArray, X = ⟨(Lib.itoa (e + (n : Int) - 1)).toArray⟩ := ⟨_, rfl⟩
  have HX : Hid (X.data.toList = Lib.itoa (e + (n : Int) - 1)) := Lib.hid (by rw [hX])
  have hXs : X.size ≤ 21 := by rw [wr_size HX.out]; exact Lib.itoa_length_le _ (by omega) (by omega)
  rw [← hX] at HI
  have HS := Lib.hid hS
  have HN := Lib.hid hn
  have HXE : Hid (X.data.toList = Lib.itoa (e + l.length - 1)) := Lib.hid (by rw [HX.out, hn])
  have HTK := Lib.hid (wr_take HS.out 1)
  clear hS hX hn
  have hss : S.size ≤ 100000 := by omega
  by_cases hn1 : 1 < n
  · have hgt : (1 : Int) < (n : Int) := by omega
    have HL : Hid (1 < l.length) := Lib.hid (by rw [HN.out]; exact hn1)
    have HDR := Lib.hid (by have h := wr_drop HS.out 1; rw [hsz] at h; exact h)
    cases sg <;>
    · go_enter Tryz.func22, Tryz.ntmps22
      go_wp2_with fail
      refine (HI.out _ (Below.refl _ _)).mono ?_
      rintro r w1 ⟨rfl, hb1⟩
      have HB1 := Lib.hid hb1
      clear hb1
      go_wp2
      go_ret
      refine ⟨wr_ret ?_, HB1.out⟩
      simp only [wr_app, HTK.out, HDR.out, HXE.out, layL, if_pos HL.out]
      simp
  · obtain rfl : n = 1 := by omega
    have HL : Hid (¬ 1 < l.length) := Lib.hid (by rw [HN.out]; omega)
    clear hn1
    rw [show e + ((1 : Nat) : Int) - 1 = e by omega] at HI
    cases sg <;>
    · go_enter Tryz.func22, Tryz.ntmps22
      go_wp2_with fail
      refine (HI.out _ (Below.refl _ _)).mono ?_
      rintro r w1 ⟨rfl, hb1⟩
      have HB1 := Lib.hid hb1
      clear hb1
      go_wp2
      go_ret
      refine ⟨wr_ret ?_, HB1.out⟩
      simp only [wr_app, HTK.out, HXE.out, layL, if_neg HL.out]
      simp
end Go.Proofs.YtpodpdopgdkdkaaGreatDoor
namespace Go.Proofs.YtpodpdopgdkdkaaGreatDoor
set_option linter.unusedVariables false
set_option linter.unusedSimpArgs false
open Go.RowKit
theorem decimal_at (w : World) {s : Value} {m k : Nat} (hs : NatAt w m s) (hm : m < B64 ^ k) (hk : k ≤ 10000) (h0 : 0 < m) :
    Calls Tryz.prog 36 #[s] w fun e w' => e = .returned (.string ⟨(Lib.decDigits m).toArray⟩) ∧ Below w.heap.size w w' := by
  obtain ⟨a, c, xs, rfl, a1, rfl, a3, a4⟩ := hs
  have l1 := val_len a1.hw a3 rfl hm
  exact decimal_calls w a _ c xs a1 a4 (by omega) h0
set_option maxRecDepth 100000 in
set_option maxHeartbeats 8000000 in
theorem rwrite_calls (n dir cnt : Int) (b0 b1 b2 b3 : Nat) (hb : W64 [b0, b1, b2, b3]) (hc0 : -9223372036854775808 ≤ cnt) (hc1 : cnt ≤ 9223372036854775807) (w : World) (hT : Tab10 w) :
    Calls Tryz.prog 10 #[.int .i64 n, .int .i64 dir, .int .i64 cnt, bitsV b0 b1 b2 b3] w (WrIs n dir cnt b0 b1 b2 b3 w) := by
  have HU := Lib.hid (fun W => runpack_calls n b0 b1 b2 b3 hb W)
  have HT := Lib.hid hT
  unfold bitsV at *
  clear hb hT
  have HR := Lib.hid (fun W => direction_calls W dir)
  by_cases hd : 0 ≤ dir ∧ dir ≤ 4
  rotate_left
  · rw [decide_eq_false hd] at HR
    have HDR := Lib.hid hd
    clear hd HU
    go_enter Tryz.func10, Tryz.ntmps10
    go_wp2_with fail
    refine (HR.out _).mono ?_
    rintro e w9 ⟨rfl, rfl⟩
    go_wp2
    go_ret3
    exact ⟨below_alloc (Below.refl _ _) _, .inl ⟨fun h => HDR.out h.2, rfl⟩⟩
  rw [decide_eq_true hd] at HR
  have HDR := Lib.hid hd
  clear hd
  go_enter Tryz.func10, Tryz.ntmps10
  go_wp2_with fail
  refine (HR.out _).mono ?_
  rintro e w9 ⟨rfl, rfl⟩
  go_wp2_with fail
  have HB0 := Lib.hid (below_alloc (Below.refl w.heap.size w) (.cells #[.int .u64 (b0 : Nat), .int .u64 (b1 : Nat), .int .u64 (b2 : Nat), .int .u64 (b3 : Nat)] 24))
  have HP0 : Hid ((w.alloc (.cells #[.int .u64 (b0 : Nat), .int .u64 (b1 : Nat), .int .u64 (b2 : Nat), .int .u64 (b3 : Nat)] 24)).heap[w.heap.size]? = _) := Lib.hid (heap_new w (.cells #[.int .u64 (b0 : Nat), .int .u64 (b1 : Nat), .int .u64 (b2 : Nat), .int .u64 (b3 : Nat)] 24))
  generalize (w.alloc (.cells #[.int .u64 (b0 : Nat), .int .u64 (b1 : Nat), .int .u64 (b2 : Nat), .int .u64 (b3 : Nat)] 24)) = v0 at HB0 HP0 ⊢
  clear HR
  refine (HU.out _).mono ?_
  intro e w1 hr
  rcases hr with ⟨P, X, L, H, hlen, hb1, hfin, hinf⟩ | ⟨hbad, rfl, hb1⟩
  · have HB1 := Lib.hid (below_then HB0.out hb1)
    have HP1 := Lib.hid (below_heap hb1 HP0.out)
    have HH := Lib.hid (And.intro H hlen)
    clear hb1 HB0 HP0 HU
    by_cases hE : val [b0, b1, b2, b3] / 2 ^ (P - 1) % 2 ^ X < 2 ^ X - 1
    · obtain ⟨c0, c1, c2, c3, hcw, hcv, rfl⟩ := hfin hE
      have HC := Lib.hid (And.intro hcw hcv)
      have HE := Lib.hid hE
      obtain ⟨sg, hsg⟩ : ∃ sg : Bool, (((val [b0, b1, b2, b3] / 2 ^ (P + X - 1) % 2 : Nat) : Int) == 1) = sg := ⟨_, rfl⟩
      obtain ⟨x, hx⟩ : ∃ x, L + max (((val [b0, b1, b2, b3] / 2 ^ (P - 1) % 2 ^ X : Nat) : Int) - 1) 0 = x := ⟨_, rfl⟩
      rw [hsg, hx]
      have HX := Lib.hid hx
      have HSG := Lib.hid hsg
      clear hsg hx hcw hcv hfin hinf H hlen hE
      · by_cases hcn : 1 ≤ cnt ∧ cnt ≤ 800
        · have HCN := Lib.hid hcn
          obtain ⟨hcn1, hcn2⟩ := hcn
          by_cases hz : c0 = 0 ∧ c1 = 0 ∧ c2 = 0 ∧ c3 = 0
          · obtain ⟨rfl, rfl, rfl, rfl⟩ := hz
            obtain ⟨m, rfl⟩ : ∃ m : Nat, cnt = (m : Int) := ⟨cnt.toNat, by omega⟩
            obtain ⟨Z, hZ⟩ : ∃ Z : ByteArray, Z = ⟨(List.replicate m 48).toArray⟩ := ⟨_, rfl⟩
            have HRP := Lib.hid (fun W => zeros_calls W m (by omega) (by omega))
            rw [← hZ] at HRP
            have HZ := Lib.hid hZ
            clear hZ
            have HLY := Lib.hid (fun W (hS : W.cell? ⟨w1.heap.size, 1, none⟩ = some (.bool sg) ∧ Below w.heap.size w W) => rlayout_calls W sg Z (List.replicate m 48) (1 - m) (by rw [HZ.out]) (by rw [List.length_replicate]; omega) (by rw [List.length_replicate]; omega) (by omega) (by omega) (tabIs_below HT.out hS.2))
            have heq := fun W => bits_eqIn W 0 0 0 0 0 0 0 0
            simp only [beq_self_eq_true, Bool.and_self] at heq
            have hcd : (decide ((m : Int) < 1) || decide ((800 : Int) < (m : Int))) = false := by rw [decide_eq_false (by omega), decide_eq_false (by omega)]; rfl
            go_wp2_with fail
            have d1 : (w1.alloc (.cells #[.int .i64 1, .bool sg, .bool false, .int .i64 x, .int .u64 0, .int .u64 0, .int .u64 0, .int .u64 0] 31)).cell? ⟨w1.heap.size, 1, none⟩ = some (.bool sg) := cell_of_heap (heap_new w1 (.cells #[.int .i64 1, .bool sg, .bool false, .int .i64 x, .int .u64 0, .int .u64 0, .int .u64 0, .int .u64 0] 31)) 1
            have hB2 := below_alloc HB1.out (.cells #[.int .i64 1, .bool sg, .bool false, .int .i64 x, .int .u64 0, .int .u64 0, .int .u64 0, .int .u64 0] 31)
            generalize (w1.alloc (.cells #[.int .i64 1, .bool sg, .bool false, .int .i64 x, .int .u64 0, .int .u64 0, .int .u64 0, .int .u64 0] 31)) = v2 at d1 hB2 ⊢
            clear heq hcd
            have hwr : IntKind.i64.wrap (1 - (m : Int)) = 1 - (m : Int) := wrapI (by omega) (by omega)
            go_region_held3 (fun w' => w'.cell? ⟨w1.heap.size, 1, none⟩ = some (.bool sg) ∧ Below w.heap.size w w')
              (first | exact ⟨d1, hB2.drew⟩ | exact keepB1 (by assumption) hb | assumption)
              (first | (go_at_call 33; (with_reducible refine (HRP.out _).mono ?_); rintro e w' ⟨rfl, hb⟩) | (go_at_call 22; (with_reducible refine (HLY.out _ (by assumption)).mono ?_); rintro e w' ⟨rfl, hb⟩))
            all_goals
              have HF := Lib.hid (‹_ ∧ Below w.heap.size w _›).2
              go_wp2
              go_ret3
              exact ⟨HF.out, .inr ⟨HDR.out, P, X, L, 0, HH.out.1, HH.out.2, fun h => absurd (HC.out.2.symm.trans (show val [0, 0, 0, 0] = 0 from rfl)) h.2.2, by rw [wr_zero HCN.out rfl HE.out (HC.out.2.symm.trans (show val [0, 0, 0, 0] = 0 from rfl)) (show sgF _ P X = sg from HSG.out)]; rfl⟩⟩
          · have hF0 : val [c0, c1, c2, c3] ≠ 0 := fun h => hz (val4_zero h)
            obtain ⟨m, rfl⟩ : ∃ m : Nat, cnt = (m : Int) := ⟨cnt.toNat, by omega⟩
            have heq := fun W => bits_eqIn W (c0 : Nat) (c1 : Nat) (c2 : Nat) (c3 : Nat) 0 0 0 0
            rw [four_ne hz] at heq
            have hcd : (decide ((m : Int) < 1) || decide ((800 : Int) < (m : Int))) = false := by rw [decide_eq_false (by omega), decide_eq_false (by omega)]; rfl
            obtain ⟨k, hk⟩ : ∃ k : Nat, 300 = k := ⟨_, rfl⟩
            have hxe : expF (val [b0, b1, b2, b3]) P X L = x := HX.out
            have hFe : coefF (val [b0, b1, b2, b3]) P X = val [c0, c1, c2, c3] := HC.out.2.symm
            have hAk := frN_lt (V := val [b0, b1, b2, b3]) HH.out.1 HE.out hk
            have hDk := frD_lt (V := val [b0, b1, b2, b3]) HH.out.1 HE.out hk
            have hxr := exp_rng HH.out.1 HE.out
            rw [hFe, hxe] at hAk
            rw [hxe] at hDk hxr
            have hA0 := frN_pos (x := x) hF0
            have hD0 := frD_pos x
            obtain ⟨T, hT0, hT1, hT⟩ := tens_exists (by omega : k ≤ 300) hA0 hD0 hAk hDk
            have HFR := Lib.hid (fun W => value_calls W 1 sg false x c0 c1 c2 c3 HC.out.1 (by omega) (by omega))
            obtain ⟨A, hA⟩ : ∃ A, frN (val [c0, c1, c2, c3]) x = A := ⟨_, rfl⟩
            obtain ⟨D, hD⟩ : ∃ D, frD x = D := ⟨_, rfl⟩
            rw [hA, hD] at HFR hT
            rw [hA] at hAk hA0
            rw [hD] at hDk hD0
            have HW := Lib.hid (fun t => wr_main (t := t) (dir := dir) (L := L) HCN.out rfl HE.out hFe hF0 hxe hA hD (show sgF _ P X = sg from HSG.out))
            have HTT : Hid (isTens (frN (coefF (val [b0, b1, b2, b3]) P X) (expF (val [b0, b1, b2, b3]) P X L)) (frD (expF (val [b0, b1, b2, b3]) P X L)) T) := Lib.hid (by rw [hFe, hxe, hA, hD]; exact hT)
            have HTN := Lib.hid (fun W u v (hu : NatAt W A u) (hv : NatAt W D v) => rtens_calls W hu hv hAk hDk (by omega) hT hT0 (Int.le_of_lt hT1))
            have HSC := Lib.hid (fun W u v (hu : NatAt W A u) (hv : NatAt W D v) => rscale10_calls W (-(T - m + 1)) hu hv hAk hDk (by omega) (by omega) (by omega))
            have hq0 := quo_pos hT (show T - m + 1 ≤ T by omega) hD0 dir sg
            have hNk := scN_lt hAk (e := -(T - m + 1)) (by omega)
            have hZk := scD_lt hDk (e := -(T - m + 1)) (by omega)
            have hZ0 := scD_ne hD0 (e := -(T - m + 1))
            have HTE := Lib.hid (fun s => @wr_text1 sg A D dir m T s)
            have HTF := Lib.hid (fun s => @wr_text2 sg A D dir m T s)
            have HMO : Hid (wrMore A D m T = !decide (scN A (-(T - m + 1)) % scD D (-(T - m + 1)) = 0)) := Lib.hid (by unfold wrMore; rw [decide_not])
            obtain ⟨N, hN⟩ : ∃ N, scN A (-(T - m + 1)) = N := ⟨_, rfl⟩
            obtain ⟨Z, hZ⟩ : ∃ Z, scD D (-(T - m + 1)) = Z := ⟨_, rfl⟩
            rw [hN] at hNk
            rw [hZ] at hZk hZ0
            rw [hN, hZ] at HSC hq0 HTE HTF HMO
            have HDV := Lib.hid (fun W u v (hu : NatAt W N u) (hv : NatAt W Z v) => whole_calls W dir sg HDR.out.1 HDR.out.2 hu hv hNk hZk (by omega) hZ0)
            obtain ⟨c, hc⟩ : ∃ c, quoR dir sg N Z = c := ⟨_, rfl⟩
            have hck : c < B64 ^ (k + 640 + 1) := by
              rw [← hc]
              refine Nat.lt_of_le_of_lt (quoR_le dir sg N Z) (Nat.lt_of_le_of_lt (Nat.add_le_add_right (Nat.div_le_self N Z) 1) ?_)
              rw [Nat.pow_succ]
              have : 1 ≤ B64 ^ (k + 640) := Nat.pow_pos (by decide)
              have h3 : B64 ^ (k + 640) * 2 ≤ B64 ^ (k + 640) * B64 := Nat.mul_le_mul_left _ (by decide)
              omega
            rw [hc] at HDV HTE HTF hq0
            have HDG := Lib.hid (fun W u (hW : Below w.heap.size w W) (hu : NatAt W c u) => decimal_at W hu hck (by omega) hq0)
            obtain ⟨S, hS⟩ : ∃ S : ByteArray, S = ⟨(Lib.decDigits c).toArray⟩ := ⟨_, rfl⟩
            obtain ⟨l, hl⟩ : ∃ l, Lib.decDigits c = l := ⟨_, rfl⟩
            have hll := dig_len hck (by omega)
            have hl1 := dig_one c
            rw [hl] at hll hl1
            rw [← hS] at HDG
            rw [hl] at HTE HTF hS
            have hSl : S.data.toList = l := by rw [hS]
            have hSz := wr_size hSl
            obtain ⟨nl, hnl⟩ : ∃ nl, l.length = nl := ⟨_, rfl⟩
            rw [hnl] at hSz hll hl1
            have HSL := Lib.hid hSl
            have HNL := Lib.hid hnl
            have HTE1 := Lib.hid (HTE.out l rfl)
            have HTF1 := Lib.hid (HTF.out l rfl)
            rw [hnl] at HTE1 HTF1
            obtain ⟨ex, hex⟩ : ∃ ex, decide (N % Z = 0) = ex := ⟨_, rfl⟩
            rw [hex] at HDV HMO
            have hTb := And.intro hT0 hT1
            clear HTE HTF hz hxe hFe hAk hDk hxr hA0 hD0 hT hA hD hN hZ hNk hZk hZ0 hc hck hS hl hSl hnl hex hT0 hT1 hq0 HX HSG hF0
            go_wp2_with fail
            have HG2 := Lib.hid (heap_new w1 (.cells #[.int .i64 1, .bool sg, .bool false, .int .i64 x, .int .u64 (c0 : Nat), .int .u64 (c1 : Nat), .int .u64 (c2 : Nat), .int .u64 (c3 : Nat)] 31))
            have HB2 := Lib.hid (below_alloc HB1.out (.cells #[.int .i64 1, .bool sg, .bool false, .int .i64 x, .int .u64 (c0 : Nat), .int .u64 (c1 : Nat), .int .u64 (c2 : Nat), .int .u64 (c3 : Nat)] 31))
            have HN1 := Lib.hid (show w1.heap.size < (w1.alloc (.cells #[.int .i64 1, .bool sg, .bool false, .int .i64 x, .int .u64 (c0 : Nat), .int .u64 (c1 : Nat), .int .u64 (c2 : Nat), .int .u64 (c3 : Nat)] 31)).heap.size by simp)
            generalize (w1.alloc (.cells #[.int .i64 1, .bool sg, .bool false, .int .i64 x, .int .u64 (c0 : Nat), .int .u64 (c1 : Nat), .int .u64 (c2 : Nat), .int .u64 (c3 : Nat)] 31)) = v2 at HG2 HB2 HN1 ⊢
            clear heq hcd
            refine (HFR.out _).mono ?_
            rintro e w3 ⟨u, v, rfl, hu, hv, hb3⟩
            have HG3 := Lib.hid (below_heap hb3 HG2.out)
            have HB3 := Lib.hid (below_then HB2.out hb3)
            have HTN3 := Lib.hid (HTN.out _ _ _ hu hv)
            have HU3 := Lib.hid (And.intro hu hv)
            clear hu hv hb3 HG2
            go_wp2_with fail
            refine HTN3.out.mono ?_
            rintro e w4 ⟨rfl, hb4⟩
            have HG4 := Lib.hid (below_heap hb4 HG3.out)
            have HB4 := Lib.hid (below_then HB3.out hb4)
            have HSC4 := Lib.hid (HSC.out _ _ _ (HU3.out.1.below hb4) (HU3.out.2.below hb4))
            clear hb4 HG3 HTN3
            go_wp2_with fail
            refine HSC4.out.mono ?_
            rintro e w5 ⟨un, vn, rfl, hu, hv, hb5⟩
            have HG5 := Lib.hid (below_heap hb5 HG4.out)
            have HB5 := Lib.hid (below_then HB4.out hb5)
            have HDV5 := Lib.hid (HDV.out _ _ _ hu hv)
            have d1 : w5.cell? ⟨w1.heap.size, 1, none⟩ = some (.bool sg) := cell_of_heap HG5.out 1
            clear hu hv hb5 HG4 HSC4
            go_wp2_with fail
            refine HDV5.out.mono ?_
            rintro e w6 ⟨uc, rfl, hu, hb6⟩
            have HG6 := Lib.hid (below_heap hb6 HG5.out)
            have HB6 := Lib.hid (below_then HB5.out hb6)
            have HDG6 := Lib.hid (HDG.out _ _ HB6.out hu)
            clear hu hb6 HG5 HDV5 d1
            go_wp2_with fail
            refine HDG6.out.mono ?_
            rintro e w7 ⟨rfl, hb7⟩
            have HG7 := Lib.hid (below_heap hb7 HG6.out)
            have HB7 := Lib.hid (below_then HB6.out hb7)
            have d1 : w7.cell? ⟨w1.heap.size, 1, none⟩ = some (.bool sg) := cell_of_heap HG7.out 1
            have HLY := Lib.hid (fun (S : ByteArray) (l : List UInt8) (e : Int) (hS : S.data.toList = l) (hl : 1 ≤ l.length) (hl2 : l.length ≤ 100000) (h0 : -100000 ≤ e) (h1 : e ≤ 100000) => rlayout_calls w7 sg S l e hS hl hl2 h0 h1 (tabIs_below HT.out HB7.out))
            clear hb7 HG6 HDG6
            by_cases hlt : m < nl
            · have hlt' : (m : Int) < (nl : Int) := by omega
              have HL7 := Lib.hid (HLY.out (S.extract 0 m) (l.take m) (T - m + 1 + 1) (wr_take HSL.out m) (by rw [List.length_take, HNL.out]; omega) (by rw [List.length_take, HNL.out]; omega) (by omega) (by omega))
              have HTX := Lib.hid (HTE1.out hlt)
              go_wp2_with fail
              refine HL7.out.mono ?_
              rintro e w8 ⟨rfl, hb8⟩
              have HB8 := Lib.hid (below_then HB7.out hb8)
              clear hb8
              go_wp2
              go_ret3
              exact ⟨HB8.out, .inr ⟨HDR.out, P, X, L, T, HH.out.1, HH.out.2, fun _ => HTT.out, by rw [HW.out T, HTX.out, HMO.out]; rfl⟩⟩
            · have hlt' : (nl : Int) ≤ (m : Int) := by omega
              have HL7 := Lib.hid (HLY.out S l (T - m + 1) HSL.out (by rw [HNL.out]; omega) (by rw [HNL.out]; omega) (by omega) (by omega))
              have HTX := Lib.hid (HTF1.out hlt)
              go_wp2_with fail
              refine HL7.out.mono ?_
              rintro e w8 ⟨rfl, hb8⟩
              have HB8 := Lib.hid (below_then HB7.out hb8)
              clear hb8
              go_wp2
              go_ret3
              exact ⟨HB8.out, .inr ⟨HDR.out, P, X, L, T, HH.out.1, HH.out.2, fun _ => HTT.out, by rw [HW.out T, HTX.out, HMO.out]; rfl⟩⟩
        · have HCN := Lib.hid hcn
          have hcd : (decide (cnt < 1) || decide (800 < cnt)) = true := by
            by_cases h1 : cnt < 1
            · rw [decide_eq_true h1]; rfl
            · rw [decide_eq_true (show 800 < cnt by omega), Bool.or_true]
          by_cases h1 : cnt < 1
          · clear hcn hcd
            go_wp2
            go_ret3
            exact ⟨below_alloc HB1.out _, .inr ⟨HDR.out, P, X, L, 0, HH.out.1, HH.out.2, fun h => absurd h.1 HCN.out, by unfold wrVal; rw [if_pos HCN.out]; rfl⟩⟩
          · have h2 : 800 < cnt := by omega
            clear hcn hcd
            go_wp2
            go_ret3
            exact ⟨below_alloc HB1.out _, .inr ⟨HDR.out, P, X, L, 0, HH.out.1, HH.out.2, fun h => absurd h.1 HCN.out, by unfold wrVal; rw [if_pos HCN.out]; rfl⟩⟩
    · obtain ⟨k, sg, si, c0, c1, c2, c3, hk, rfl⟩ := hinf hE
      have HE := Lib.hid hE
      clear hfin hinf H hlen hE
      have hk1 : ¬ k = 1 := by omega
      have hk2 : (k != 1) = true := by simp [hk1]
      have hk3 : (k == 1) = false := by simp [hk1]
      clear hk hk1
      · by_cases hcn : 1 ≤ cnt ∧ cnt ≤ 800
        · have HCN := Lib.hid hcn
          have hcd : (decide (cnt < 1) || decide (800 < cnt)) = false := by rw [decide_eq_false (by omega), decide_eq_false (by omega)]; rfl
          obtain ⟨hcn1, hcn2⟩ := hcn
          go_wp2
          go_ret3
          exact ⟨below_alloc HB1.out _, .inr ⟨HDR.out, P, X, L, 0, HH.out.1, HH.out.2, fun h => absurd h.2.1 HE.out, by unfold wrVal; rw [if_neg (not_not_intro HCN.out), if_pos HE.out]; rfl⟩⟩
        · have HCN := Lib.hid hcn
          by_cases h1 : cnt < 1
          · clear hcn
            go_wp2
            go_ret3
            exact ⟨below_alloc HB1.out _, .inr ⟨HDR.out, P, X, L, 0, HH.out.1, HH.out.2, fun h => absurd h.1 HCN.out, by unfold wrVal; rw [if_pos HCN.out]; rfl⟩⟩
          · have h2 : 800 < cnt := by omega
            clear hcn
            go_wp2
            go_ret3
            exact ⟨below_alloc HB1.out _, .inr ⟨HDR.out, P, X, L, 0, HH.out.1, HH.out.2, fun h => absurd h.1 HCN.out, by unfold wrVal; rw [if_pos HCN.out]; rfl⟩⟩
  · have HB1 := Lib.hid (below_then HB0.out hb1)
    have HP1 := Lib.hid (below_heap hb1 HP0.out)
    have HBAD := Lib.hid hbad
    clear hb1 HB0 HP0 HU hbad
    unfold datum0
    go_wp2_with fail
    go_ret3
    exact ⟨below_alloc HB1.out _, .inl ⟨fun h => HBAD.out h.1, rfl⟩⟩
end Go.Proofs.YtpodpdopgdkdkaaGreatDoor
