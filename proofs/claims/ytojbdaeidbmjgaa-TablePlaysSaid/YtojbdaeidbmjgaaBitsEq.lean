/- Comparing patterns (four words, by value). No conditions. -/
import Derived.Test.YtojbdaeidbmjgaaBase
import Derived.Laws.StructEq
namespace Go.Proofs.Ytojbdaeidbmjgaa
open Go.RowKit
theorem equalIn_words4 {P : Program} (w : World) (d : Nat) (t e : TypeId) (ht : P.underlying t = some (.array 4 e)) (he : P.underlying e = some (.int .u64)) (hsz : ∀ w, (sizeOf e).run P w = .ok 1 w) (a0 a1 a2 a3 : Int) :
    (Op.equalIn (d + 2) t (.agg #[.int .u64 a0, .int .u64 a1, .int .u64 a2, .int .u64 a3]) (.agg #[.int .u64 a0, .int .u64 a1, .int .u64 a2, .int .u64 a3])).run P w = .ok true w := by
  have pe : ∀ a : Int, (Op.equalIn (d + 1) e (.int .u64 a) (.int .u64 a)).run P w = .ok true w := fun a => by
    rw [run_equalIn_int w d e .u64 .u64 _ _ he]; simp
  have pp : ∀ i : Nat, i < 4 → ∃ a : Int, (part e #[.int .u64 a0, .int .u64 a1, .int .u64 a2, .int .u64 a3] (i * 1)).run P w = .ok (.int .u64 a) w := fun i hi => by
    rcases (show i = 0 ∨ i = 1 ∨ i = 2 ∨ i = 3 by omega) with rfl | rfl | rfl | rfl
    · exact ⟨a0, by simp [part, isAgg, run_underlying he]⟩
    · exact ⟨a1, by simp [part, isAgg, run_underlying he]⟩
    · exact ⟨a2, by simp [part, isAgg, run_underlying he]⟩
    · exact ⟨a3, by simp [part, isAgg, run_underlying he]⟩
  rw [Op.equalIn]
  simp only [Sem.run_bind, run_underlying ht, Result.andThen_ok, hsz, Std.Legacy.Range.forIn_eq_forIn_range', Std.Legacy.Range.size, Nat.sub_zero, Nat.add_sub_cancel, Nat.div_one]
  have hl : ∀ i ∈ List.range' 0 4 1, i < 4 := fun i hi => by simpa using (List.mem_range'_1.1 hi).2
  generalize List.range' 0 4 1 = l at hl ⊢
  induction l with
  | nil => simp
  | cons i l ih =>
    obtain ⟨a, pa⟩ := pp i (hl i (by simp))
    simp only [List.forIn_cons, Sem.run_bind, pa, pe, Result.andThen_ok]
    simp only [Bool.not_true, Bool.false_eq_true, if_false, Sem.run_pure, Result.andThen_ok]
    exact ih fun j hj => hl j (by simp [hj])
theorem bits_eql (w : World) (a0 a1 a2 a3 : Int) : (binOp .eql 31 (.agg #[.int .u64 a0, .int .u64 a1, .int .u64 a2, .int .u64 a3]) (.agg #[.int .u64 a0, .int .u64 a1, .int .u64 a2, .int .u64 a3])).run Try.prog w = .ok (.bool true) w := by
  rw [run_eql_struct, equalIn_words4 w 9998 31 29 Try.underlying31 Try.underlying29 (fun w => by kernel_rfl)]
  rfl
theorem bits_neq (w : World) (a0 a1 a2 a3 : Int) : (binOp .neq 31 (.agg #[.int .u64 a0, .int .u64 a1, .int .u64 a2, .int .u64 a3]) (.agg #[.int .u64 a0, .int .u64 a1, .int .u64 a2, .int .u64 a3])).run Try.prog w = .ok (.bool false) w := by
  rw [run_neq_struct, equalIn_words4 w 9998 31 29 Try.underlying31 Try.underlying29 (fun w => by kernel_rfl)]
  rfl
end Go.Proofs.Ytojbdaeidbmjgaa
