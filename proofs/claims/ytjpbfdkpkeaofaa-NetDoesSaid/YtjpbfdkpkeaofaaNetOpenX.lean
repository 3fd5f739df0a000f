/- The net's operations, opened. -/
import Derived.Test.YtjpbfdkpkeaofaaOpenX
import Derived.Test.YtjpbfdkpkeaofaaNetLawA
set_option linter.unusedSimpArgs false
set_option linter.unusedVariables false
namespace Go.Proofs.Ytjpbfdkpkeaofaa
open Go.ChangeShapes Go.WideShapes Go.ChangeAt Go.RowKit Go.Deep
theorem op_op {H : Type} {enc : TypeId × Value → H} {W : World} {spare : Nat → Bool} {held : Bool} : Opens EOp enc Try.prog W spare held 30 (fun o => o.b.length ≤ reachBytes) := by
  refine (opens_struct Try.underlying30 (by kernel_rfl) (fop_cons rfl (opens_u8 Try.underlying5 (by kernel_rfl)) (fop_cons rfl (opens_int Try.underlying3 (by kernel_rfl)) (fop_cons rfl (opens_bool Try.underlying4 (by kernel_rfl))
    (fop_cons rfl (opens_slice EU8.ok Try.underlying28 (by kernel_rfl) (opens_u8 Try.underlying5 (by kernel_rfl))) (fop_one rfl (opens_int Try.underlying3 (by kernel_rfl)))))))).map rfl (fun x => ⟨x.1, x.2.1, x.2.2.1, x.2.2.2.1, x.2.2.2.2⟩) ?_ ?_
  · rintro w S cs x ⟨c1, _, rfl, h1, c2, _, rfl, h2, c3, _, rfl, h3, c4, c5, rfl, ⟨bv, h4, h4'⟩, h5⟩
    exact ⟨bv, by rw [show c1 = _ from h1, show c2 = _ from h2, show c3 = _ from h3, h4, show c5 = _ from h5]; rfl, h4'⟩
  · rintro x ⟨_, _, _, ⟨h, _⟩, _⟩
    have e : Try.prog.bytesOf 5 = 1 := by kernel_rfl
    rw [e, Nat.mul_one] at h
    exact h
end Go.Proofs.Ytjpbfdkpkeaofaa
