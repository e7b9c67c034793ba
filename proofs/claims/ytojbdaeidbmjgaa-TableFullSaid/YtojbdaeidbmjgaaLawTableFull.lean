/- Just MostHandle entries of a table are taken; who is freed makes room, and its handle is the next one. No conditions. -/
import Derived.Test.YtojbdaeidbmjgaaRows
import Derived.Test.YtojbdaeidbmjgaaTabFull
import Derived.ProofKit
import Derived.OpenShut
import Derived.ShutString
import Derived.ChangeOld
import Derived.SizedLaws
import Derived.Test.YtojbdaeidbmjgaaLeavLone
namespace Go.Proofs.Ytojbdaeidbmjgaa.tableFull
open Go.ChangeShapes Go.WideShapes Go.ChangeAt Go.RowKit
open Go.ChangeMaps (open_string shut_string)
set_option linter.unusedVariables false
theorem own : ownKnob Try.prog.godebug = none := by kernel_rfl
theorem laidOut : laidOutB Try.prog = true := by kernel_rfl
set_option maxRecDepth 100000 in
theorem lifted (os : Os) (started : os.Started) (H : Type) (enc : TypeId × Value → H) :
    ∀ F0 : Stop.Interp, ReturnsInLeavingWide { calm := true } Try.checked os 3 .any (Rows.tableFullSpec.pre6 enc Try.prog Try.f3 Rows.tableFullRow.domain false) ((OpenSpec.ofChange Rows.tableFullSpec).postWith enc Try.prog Try.f3 F0 (outsideKept [.timePasses]) false true false) := by
  intro F0
  refine returnsInLeaving_of_lone (C := Try.checked) own started (by kernel_rfl) Try.func3
    (ChangeSpec.witness6c (enc := enc) (C := Try.checked) ⟨#[], #[.int .u16 0], []⟩ 8 (by kernel_rfl) (by kernel_rfl) (by kernel_rfl) (by kernel_rfl)) ?_
  intro W base args ds gs before hval0 hW hcnd hsz0 _
  have hsz : (DataW.weightsEach Try.prog (Try.f3.params.toList ++ Rows.tableFullSpec.plain.varTypes Try.prog) (ds ++ gs)).all (· ≤ reachBytes) = true := hsz0
  have hval : ∀ (j : Nat) t v, Try.f3.params[j]? = some t → args[j]? = some v → Value.okWide Try.prog W .any base t v := hval0
  have hW' := hW
  obtain ⟨p, q, hA0, hV, rfl, hfz, hnd⟩ := hW
  have hA : DataW.TrodAll enc Try.prog W 0 (fun _ => true) true Try.f3.params.toList args.toList ds p := hA0
  rw [Try.params3] at hA hval hsz
  obtain ⟨v0, vs0, d0, ds0, p0, q0, hargs, rfl, rfl, h0, r0⟩ := trodAll_cons hA
  obtain ⟨rfl, rfl, rfl⟩ := trodAll_nil r0
  obtain rfl : args = #[v0] := by cases args; simp_all
  obtain ⟨rfl, rfl⟩ := trodVars_none hV
  obtain ⟨a0, rfl, rfl, rfl, w0⟩ := open_int Try.underlying22 (hval 0 22 v0 rfl rfl) h0
  clear hA0 hval0 hsz0 hsz
  refine (tableFull_row a0 W w0).mono fun e W' ⟨he, bel⟩ => ?_
  subst he
  exact ⟨_, rfl, ⟨_, _, _, [], _, [], hW', trodAll_mk1 (shut_bool Try.underlying4 _), (trodAll_cons_mk (shut_int Try.underlying22 w0) trodAll_mk0), rfl, bel.frame _, fun h => by cases h⟩, bel.os⟩
theorem over : Rows.tableFullRow.holds Try.pinned (OpenSpec.ofChange Rows.tableFullSpec) :=
  OpenClaim.holds_of_wide_leaving_time 3 Try.f3 rfl rfl rfl rfl rfl rfl rfl ⟨rfl, rfl, rfl, rfl, rfl⟩ rfl rfl rfl rfl rfl (by kernel_rfl) Try.func3 (by kernel_rfl)
    (of_decide_eq_true (by kernel_rfl)) (by unfold Func.isWrapper; first | (rw [if_pos (by decide +kernel)]; kernel_rfl) | (rw [if_neg (by decide +kernel)]; exact ⟨rfl, rfl⟩))
    (fun os started H enc _ F0 => lifted os started H enc F0)
theorem proved : Rows.TableFullSaid := over
#print axioms proved
end Go.Proofs.Ytojbdaeidbmjgaa.tableFull
namespace Go.Proofs.Ytojbdaeidbmjgaa
/-- The row, under a short name, for the claim. -/
theorem tableFull_holds : Rows.TableFullSaid := tableFull.proved
end Go.Proofs.Ytojbdaeidbmjgaa
