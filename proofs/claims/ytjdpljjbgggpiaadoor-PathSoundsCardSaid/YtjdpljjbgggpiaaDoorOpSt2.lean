/- A step, opened; its key is no longer than a process's memory. -/
import Derived.Test.YtjdpljjbgggpiaaDoorOpTok
import Derived.Test.YtjdpljjbgggpiaaDoorPathB
set_option linter.unusedSimpArgs false
set_option linter.unusedVariables false
namespace Go.Proofs.YtjdpljjbgggpiaaDoor
open Go.ChangeShapes Go.WideShapes Go.ChangeAt Go.RowKit Go.Deep
theorem op_st2 {H : Type} {enc : TypeId × Value → H} {W : World} {spare : Nat → Bool} {held : Bool} : Opens ESt enc Tryd.prog W spare held 57 (fun s => s.key.size ≤ reachBytes) := by
  refine (opens_struct Tryd.underlying57 (by kernel_rfl) (fop_cons rfl (opens_bool Tryd.underlying4 (by kernel_rfl)) (fop_cons rfl (opens_int Tryd.underlying3 (by kernel_rfl)) (fop_one rfl (opens_str Tryd.underlying9 (by kernel_rfl)))))).map rfl (fun x => ⟨x.1, x.2.1, x.2.2⟩) ?_ ?_
  · rintro w S cs x ⟨c1, _, rfl, h1, c2, c3, rfl, h2, h3⟩
    show _ = _
    rw [show c1 = _ from h1, show c2 = _ from h2, show c3 = _ from h3]; rfl
  · rintro x ⟨_, _, h⟩
    exact h
end Go.Proofs.YtjdpljjbgggpiaaDoor
