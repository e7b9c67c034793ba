/- From the contract of a call in one goroutine to the row that lets others leave and lets time pass. No conditions. -/
import Derived.Test.YtojbdaeidbmjgaaProg
import Derived.Conc.HoldsTime
import Derived.Handed
namespace Go.Proofs.Ytojbdaeidbmjgaa
open Go.RowKit Go.Conc
theorem leaving_of_lone {P : Program} {n : Nat} {m : Machine} {fr : Frame} {w w' : World} (h : runN P n m = .next (lone fr [] w)) : leavingAtReturn P (lone fr [] w) w' (runNT P (n + 1) m #[]).2 :=
  ⟨handedOver_of_lone h, ⟨fun g hg => by simp [lone] at hg, by simp [lone]⟩, fun i g hg hi => by
    cases i with
    | zero => exact absurd rfl hi
    | succ k => simp [lone] at hg⟩
section
variable {H : Type} {enc : TypeId × Value → H}
theorem returnsInLeaving_of_lone {a : Assume} {C : Checked} {os : Os} {f : FuncId} {fn : Func} {s : ChangeSpec} {F : Stop.Interp} {conds : List PathCond} {apart fresh handsOn : Bool}
    (own : ownKnob C.prog.godebug = none) (started : os.Started) (noInit : C.prog.inits.idxOf? f = none) (hfn : C.prog.funcs[f]? = some fn)
    (witness : ∃ (w : World) (tape : Tape) (i : Input), w.os = os ∧ (w.forCall tape i).Shaped C.prog ∧ i.vars = [] ∧ Input.okWide C.prog (w.forCall tape i) .any w.heap.size f i ∧
      s.pre6 enc C.prog fn conds apart (w.forCall tape i).memory i.args ∧ a.holds C.prog (lone (Frame.enter C.prog f i.args .normal) [] (w.forCall tape i)))
    (contract : ∀ (W : World) (base : Nat) (args : Array Value) (ds gs : List (DataW H)) (before : List MemPlace),
      (∀ (j : Nat) t v, fn.params[j]? = some t → args[j]? = some v → Value.okWide C.prog W .any base t v) →
      DataW.Whole enc C.prog fn.params.toList s.vars apart W args.toList ds gs before →
      conds.all (PathCond.test C.prog ⟨fn.params.toList, ds, s.plain.varTypes C.prog, gs⟩) = true →
      (DataW.weightsEach C.prog (fn.params.toList ++ s.plain.varTypes C.prog) (ds ++ gs)).all (· ≤ reachBytes) = true →
      a.holds C.prog (lone (Frame.enter C.prog f args .normal) [] W) →
      Calls C.prog f args W fun e W' => ∃ v, e = .returned v ∧ s.post enc C.prog fn apart fresh handsOn false W args v W' ∧ W'.os = W.os) :
    ReturnsInLeavingWide a C os f .any (s.pre6 enc C.prog fn conds apart) ((OpenSpec.ofChange s).postWith enc C.prog fn F (outsideKept [.timePasses]) apart fresh handsOn) := fun enter => by
  obtain ⟨w0, t0, i0, a1, a2, a3, a4, a5, a6⟩ := witness
  refine ⟨enter, own, started, ⟨w0, t0, i0, a1, a2, a3, a4, a5, a6, trivial⟩, fun w tape i h => ?_⟩
  obtain ⟨_, _, _, fn', hfn', _, _, _, _, hval⟩ := h.2.2.2.1
  have e : fn' = fn := Option.some.inj (hfn'.symm.trans hfn)
  subst e
  obtain ⟨⟨ds, gs, before, hw, hc⟩, hz⟩ := h.2.2.2.2.1
  have hw' := DataW.Whole.of_heap (w' := w.forCall tape i) (by rfl) hw
  have hcall : Calls C.prog f i.args (w.forCall tape i) fun
      | .returned v, w' => (OpenSpec.ofChange s).postWith enc C.prog fn' F (outsideKept [.timePasses]) apart fresh handsOn (w.forCall tape i).blind i.args v w'.blind
      | _, _ => False := by
    refine (contract (w.forCall tape i) w.heap.size i.args ds gs before hval hw' hc (hz.weights hw) h.2.2.2.2.2.1).mono ?_
    rintro e W' ⟨v, rfl, hp, hos⟩
    refine postWith_blind (postWith_of_post ?_ (by rw [hos]; exact ⟨0, rfl⟩))
    have : ({ W' with os := (w.forCall tape i).os } : World) = W' := by rw [← hos]
    rw [this]
    exact hp
  obtain ⟨n, v, w', fr, hn, hend, hp⟩ := hcall.done_lone noInit
  exact ⟨n + 1, v, w', hend, (clean_of_lone hn).2, roomy_placeholder .., hp, ⟨n, _, hn, step_of_runs hn hend, leaving_of_lone hn⟩, fun _ _ _ => trivial⟩
end
#print axioms returnsInLeaving_of_lone
end Go.Proofs.Ytojbdaeidbmjgaa
