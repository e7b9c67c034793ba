/- Whatever is put, got, freed and set, in whatever order, is answered as the document says. No conditions. -/
import Derived.Test.YtojbdaeidbmjgaaRows
import Derived.Test.YtojbdaeidbmjgaaRowOps
import Derived.ProofKit
import Derived.OpenShut
import Derived.ShutString
import Derived.ChangeOld
import Derived.SizedLaws
import Derived.Test.YtojbdaeidbmjgaaLeavLone
import Derived.Test.YtojbdaeidbmjgaaRowOps
namespace Go.Proofs.Ytojbdaeidbmjgaa.tablePlays
open Go.ChangeShapes Go.WideShapes Go.ChangeAt Go.RowKit
open Go.ChangeMaps (open_string shut_string)
set_option linter.unusedVariables false
theorem own : ownKnob Try.prog.godebug = none := by kernel_rfl
theorem laidOut : laidOutB Try.prog = true := by kernel_rfl
set_option maxRecDepth 100000 in
theorem lifted (os : Os) (started : os.Started) (H : Type) (enc : TypeId × Value → H) :
    ∀ F0 : Stop.Interp, ReturnsInLeavingWide { calm := true } Try.checked os 5 .any (Rows.tablePlaysSpec.pre6 enc Try.prog Try.f5 Rows.tablePlaysRow.domain false) ((OpenSpec.ofChange Rows.tablePlaysSpec).postWith enc Try.prog Try.f5 F0 (outsideKept [.timePasses]) false true false) := by
  intro F0
  refine returnsInLeaving_of_lone (C := Try.checked) own started (by kernel_rfl) Try.func5
    (ChangeSpec.witness6c (enc := enc) (C := Try.checked) ⟨#[], #[.slice none 0 0, .bool false], []⟩ 8 (by kernel_rfl) (by kernel_rfl) (by kernel_rfl) (by kernel_rfl)) ?_
  intro W base args ds gs before hval0 hW hcnd hsz0 _
  have hsz : (DataW.weightsEach Try.prog (Try.f5.params.toList ++ Rows.tablePlaysSpec.plain.varTypes Try.prog) (ds ++ gs)).all (· ≤ reachBytes) = true := hsz0
  have hval : ∀ (j : Nat) t v, Try.f5.params[j]? = some t → args[j]? = some v → Value.okWide Try.prog W .any base t v := hval0
  have hW' := hW
  obtain ⟨p, q, hA0, hV, rfl, hfz, hnd⟩ := hW
  have hA : DataW.TrodAll enc Try.prog W 0 (fun _ => true) true Try.f5.params.toList args.toList ds p := hA0
  rw [Try.params5] at hA hval hsz
  obtain ⟨v0, vs0, d0, ds0, p0, q0, hargs, rfl, rfl, h0, r0⟩ := trodAll_cons hA
  obtain ⟨v1, vs1, d1, ds1, p1, q1, rfl, rfl, rfl, h1, r1⟩ := trodAll_cons r0
  obtain ⟨rfl, rfl, rfl⟩ := trodAll_nil r1
  obtain rfl : args = #[v0, v1] := by cases args; simp_all
  obtain ⟨rfl, rfl⟩ := trodVars_none hV
  obtain ⟨a0, len0, cap0, rfl⟩ := okWide_slice Try.underlying41 (hval 0 41 v0 rfl rfl)
  have k0 := h0
  have lt0 : ∀ x ∈ p0, x.block < W.heap.size := by obtain ⟨m, hm⟩ := k0; exact DataW.trod_lt m _ _ _ hm
  have w0 := (by obtain ⟨fuel, hf⟩ := h0; exact open_ops Try.underlying41 Try.underlying57 (by kernel_rfl) rfl rfl rfl rfl Try.underlying3 Try.underlying3 Try.underlying3 Try.underlying31 Try.underlying29 (by kernel_rfl) (by kernel_rfl) (by kernel_rfl) (by kernel_rfl) (by kernel_rfl) hf : len0 ≤ 9223372036854775807 ∧ OpsAt W a0 len0)
  obtain ⟨a1, rfl, rfl, rfl⟩ := open_bool Try.underlying4 (hval 1 4 v1 rfl rfl) h1
  clear hA0 hval0 hsz0 hsz
  refine (tablePlays_row a0 len0 cap0 a1 W w0).mono fun e W' ⟨he, bel⟩ => ?_
  subst he
  exact ⟨_, rfl, ⟨_, _, _, [], _, [], hW', trodAll_mk1 (shut_bool Try.underlying4 _), (trodAll_cons_mk (Below.trod laidOut (by kernel_rfl) (of_decide_eq_true (by kernel_rfl)) k0 bel lt0) (trodAll_cons_mk (shut_bool Try.underlying4 _) trodAll_mk0)), rfl, bel.frame _, fun h => by cases h⟩, bel.os⟩
theorem over : Rows.tablePlaysRow.holds Try.pinned (OpenSpec.ofChange Rows.tablePlaysSpec) :=
  OpenClaim.holds_of_wide_leaving_time 5 Try.f5 rfl rfl rfl rfl rfl rfl rfl ⟨rfl, rfl, rfl, rfl, rfl⟩ rfl rfl rfl rfl rfl (by kernel_rfl) Try.func5 (by kernel_rfl)
    (of_decide_eq_true (by kernel_rfl)) (by unfold Func.isWrapper; first | (rw [if_pos (by decide +kernel)]; kernel_rfl) | (rw [if_neg (by decide +kernel)]; exact ⟨rfl, rfl⟩))
    (fun os started H enc _ F0 => lifted os started H enc F0)
theorem proved : Rows.TablePlaysSaid := over
#print axioms proved
end Go.Proofs.Ytojbdaeidbmjgaa.tablePlays
namespace Go.Proofs.Ytojbdaeidbmjgaa
/-- The row, under a short name, for the claim. -/
theorem tablePlays_holds : Rows.TablePlaysSaid := tablePlays.proved
end Go.Proofs.Ytojbdaeidbmjgaa
