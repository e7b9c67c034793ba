/- A nil table has nothing, and the answers of a table are new memory. No conditions. -/
import Derived.Test.YtojbdaeidbmjgaaRows
import Derived.Test.YtojbdaeidbmjgaaTabNil
import Derived.ProofKit
import Derived.OpenShut
import Derived.ShutString
import Derived.ChangeOld
import Derived.SizedLaws
import Derived.Test.YtojbdaeidbmjgaaLeavLone
import Derived.Test.YtojbdaeidbmjgaaRowBits
namespace Go.Proofs.Ytojbdaeidbmjgaa.tableNil
open Go.ChangeShapes Go.WideShapes Go.ChangeAt Go.RowKit
open Go.ChangeMaps (open_string shut_string)
set_option linter.unusedVariables false
theorem own : ownKnob Try.prog.godebug = none := by kernel_rfl
theorem laidOut : laidOutB Try.prog = true := by kernel_rfl
set_option maxRecDepth 100000 in
theorem lifted (os : Os) (started : os.Started) (H : Type) (enc : TypeId × Value → H) :
    ∀ F0 : Stop.Interp, ReturnsInLeavingWide { calm := true } Try.checked os 7 .any (Rows.tableNilSpec.pre6 enc Try.prog Try.f7 Rows.tableNilRow.domain false) ((OpenSpec.ofChange Rows.tableNilSpec).postWith enc Try.prog Try.f7 F0 (outsideKept [.timePasses]) false true false) := by
  intro F0
  refine returnsInLeaving_of_lone (C := Try.checked) own started (by kernel_rfl) Try.func7
    (ChangeSpec.witness6c (enc := enc) (C := Try.checked) ⟨#[], #[.int .i64 0, .int .i64 0, .agg #[.int .u64 0, .int .u64 0, .int .u64 0, .int .u64 0]], []⟩ 8 (by kernel_rfl) (by kernel_rfl) (by kernel_rfl) (by kernel_rfl)) ?_
  intro W base args ds gs before hval0 hW hcnd hsz0 _
  have hsz : (DataW.weightsEach Try.prog (Try.f7.params.toList ++ Rows.tableNilSpec.plain.varTypes Try.prog) (ds ++ gs)).all (· ≤ reachBytes) = true := hsz0
  have hval : ∀ (j : Nat) t v, Try.f7.params[j]? = some t → args[j]? = some v → Value.okWide Try.prog W .any base t v := hval0
  have hW' := hW
  obtain ⟨p, q, hA0, hV, rfl, hfz, hnd⟩ := hW
  have hA : DataW.TrodAll enc Try.prog W 0 (fun _ => true) true Try.f7.params.toList args.toList ds p := hA0
  rw [Try.params7] at hA hval hsz
  obtain ⟨v0, vs0, d0, ds0, p0, q0, hargs, rfl, rfl, h0, r0⟩ := trodAll_cons hA
  obtain ⟨v1, vs1, d1, ds1, p1, q1, rfl, rfl, rfl, h1, r1⟩ := trodAll_cons r0
  obtain ⟨v2, vs2, d2, ds2, p2, q2, rfl, rfl, rfl, h2, r2⟩ := trodAll_cons r1
  obtain ⟨rfl, rfl, rfl⟩ := trodAll_nil r2
  obtain rfl : args = #[v0, v1, v2] := by cases args; simp_all
  obtain ⟨rfl, rfl⟩ := trodVars_none hV
  obtain ⟨a0, rfl, rfl, rfl, w0⟩ := open_int Try.underlying3 (hval 0 3 v0 rfl rfl) h0
  obtain ⟨a1, rfl, rfl, rfl, w1⟩ := open_int Try.underlying3 (hval 1 3 v1 rfl rfl) h1
  have k2 := h2
  have lt2 : ∀ x ∈ p2, x.block < W.heap.size := by obtain ⟨m, hm⟩ := k2; exact DataW.trod_lt m _ _ _ hm
  have w2 := open_bits Try.underlying31 Try.underlying29 (by kernel_rfl) (by kernel_rfl) (hval 2 31 v2 rfl rfl) h2
  clear hA0 hval0 hsz0 hsz
  refine (tableNil_row a0 a1 v2 W w0 w1 w2).mono fun e W' ⟨he, bel⟩ => ?_
  subst he
  exact ⟨_, rfl, ⟨_, _, _, [], _, [], hW', trodAll_mk1 (shut_bool Try.underlying4 _), (trodAll_cons_mk (shut_int Try.underlying3 w0) (trodAll_cons_mk (shut_int Try.underlying3 w1) (trodAll_cons_mk (Below.trod laidOut (by kernel_rfl) (of_decide_eq_true (by kernel_rfl)) k2 bel lt2) trodAll_mk0))), rfl, bel.frame _, fun h => by cases h⟩, bel.os⟩
theorem over : Rows.tableNilRow.holds Try.pinned (OpenSpec.ofChange Rows.tableNilSpec) :=
  OpenClaim.holds_of_wide_leaving_time 7 Try.f7 rfl rfl rfl rfl rfl rfl rfl ⟨rfl, rfl, rfl, rfl, rfl⟩ rfl rfl rfl rfl rfl (by kernel_rfl) Try.func7 (by kernel_rfl)
    (of_decide_eq_true (by kernel_rfl)) (by unfold Func.isWrapper; first | (rw [if_pos (by decide +kernel)]; kernel_rfl) | (rw [if_neg (by decide +kernel)]; exact ⟨rfl, rfl⟩))
    (fun os started H enc _ F0 => lifted os started H enc F0)
theorem proved : Rows.TableNilSaid := over
#print axioms proved
end Go.Proofs.Ytojbdaeidbmjgaa.tableNil
namespace Go.Proofs.Ytojbdaeidbmjgaa
/-- The row, under a short name, for the claim. -/
theorem tableNil_holds : Rows.TableNilSaid := tableNil.proved
end Go.Proofs.Ytojbdaeidbmjgaa
