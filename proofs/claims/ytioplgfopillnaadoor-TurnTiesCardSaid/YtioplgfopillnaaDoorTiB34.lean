/- TiesL: laid together. -/
import Derived.Test.YtioplgfopillnaaDoorTiB19
import Derived.Test.YtioplgfopillnaaDoorTiB33
import Derived.Test.YtioplgfopillnaaDoorTiB20
/- TurnTies's walk made ready for the lifting. -/
set_option linter.unusedSimpArgs false
set_option linter.unusedVariables false
namespace Go.Proofs.YtioplgfopillnaaDoor
open Go.ChangeShapes Go.WideShapes Go.ChangeAt Go.RowKit Go.Deep
set_option linter.unusedVariables false
theorem ties07_lift {Q : Prop} (lv : Value) (l : List Tk) (cs : Array Value) (a : Ac) (ds : Array Value) (b : Ac) (key : ByteArray) (w : World) (h0 : Sl ETok w (fun k => k < w.heap.size) lv l) (q0 : Q) (h1 : EAc.rd w (fun k => k < w.heap.size) cs.toList a) (q1 : Wf a) (h2 : EAc.rd w (fun k => k < w.heap.size) ds.toList b) (q2 : Wf b) (q3 : key.size ≤ reachBytes) (hV : ValAny w) :
    Calls Tryd.prog 6 #[lv, .agg cs, .agg ds, .string key] w fun e w' => e = .returned (.bool true) ∧ Below w.heap.size w w' := by
  obtain ⟨p1, v1, e1, a1, a2⟩ := h1
  obtain ⟨p2, v2, e2, b1, b2⟩ := h2
  exact (ties07_ok w w hV (Keep.refl _ _) _ _ _ lv _ _ l a b key h0 ⟨p1, v1, by rw [← Array.toArray_toList (xs := cs), e1], a1, a2⟩ ⟨p2, v2, by rw [← Array.toArray_toList (xs := ds), e2], b1, b2⟩).mono fun e w' h => ⟨h.1, h.2.toBelow⟩
end Go.Proofs.YtioplgfopillnaaDoor
