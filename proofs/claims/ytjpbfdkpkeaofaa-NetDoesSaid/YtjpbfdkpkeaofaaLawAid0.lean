/- 'max(i, 0)' in a walk. -/
import Derived.Test.YtjpbfdkpkeaofaaRows
import Derived.WalkKit
import Derived.OpenShut
set_option linter.unusedSimpArgs false
set_option linter.unusedVariables false
namespace Go.Proofs.Ytjpbfdkpkeaofaa
open Go.RowKit
theorem bounds_int {i : Int} (hi : (Lit.int .i64 i).wf = true) : -9223372036854775808 ≤ i ∧ i ≤ 9223372036854775807 := by
  simp [Lit.wf, IntKind.min, IntKind.max, IntKind.signed, IntKind.bits] at hi
  exact hi
theorem run_max0 (i : Int) (hi : (Lit.int .i64 i).wf = true) : ∃ i0 : Nat, (∀ w, (Builtin.max_ #[3, 3] 3 #[.int .i64 i, .int .i64 0]).run Try.prog w = .ok (.int .i64 i0) w) ∧ i0 ≤ maxLen := by
  refine ⟨(max i 0).toNat, fun w => ?_, ?_⟩
  · rw [run_max_int2, show (((max i 0).toNat : Nat) : Int) = if 0 > i then 0 else i from by split <;> omega]
  · have h := bounds_int hi
    simp only [maxLen]; omega
end Go.Proofs.Ytjpbfdkpkeaofaa
