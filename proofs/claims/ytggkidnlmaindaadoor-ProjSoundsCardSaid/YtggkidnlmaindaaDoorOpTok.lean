/- A piece, opened. -/
import Derived.Test.YtggkidnlmaindaaDoorOpenX
import Derived.Test.YtggkidnlmaindaaDoorToks
set_option linter.unusedSimpArgs false
set_option linter.unusedVariables false
namespace Go.Proofs.YtggkidnlmaindaaDoor
open Go.ChangeShapes Go.WideShapes Go.ChangeAt Go.RowKit Go.Deep
theorem op_tok {H : Type} {enc : TypeId × Value → H} {W : World} {spare : Nat → Bool} {held : Bool} : Opens ETok enc Tryd.prog W spare held 65 (fun _ => True) := by
  refine (opens_struct Tryd.underlying65 (by kernel_rfl) (fop_cons rfl (opens_u8 Tryd.underlying5 (by kernel_rfl)) (fop_cons rfl (opens_int Tryd.underlying2 (by kernel_rfl)) (fop_cons rfl (opens_str Tryd.underlying9 (by kernel_rfl))
    (fop_one rfl (opens_u8 Tryd.underlying5 (by kernel_rfl))))))).map rfl (fun x => ⟨x.1, x.2.1, x.2.2.1, x.2.2.2⟩) ?_ ?_
  · rintro w S cs x ⟨c1, _, rfl, h1, c2, _, rfl, h2, c3, c4, rfl, h3, h4⟩
    show _ = _
    rw [show c1 = _ from h1, show c2 = _ from h2, show c3 = _ from h3, show c4 = _ from h4]; rfl
  · rintro x _
    trivial
end Go.Proofs.YtggkidnlmaindaaDoor
