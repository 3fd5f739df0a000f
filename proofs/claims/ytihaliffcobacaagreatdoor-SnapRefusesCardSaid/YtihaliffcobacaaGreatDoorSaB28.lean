/- SnapFL: laid together. -/
import Derived.Test.YtihaliffcobacaaGreatDoorSaB2
import Derived.Test.YtihaliffcobacaaGreatDoorSaB26
import Derived.Test.YtihaliffcobacaaGreatDoorSaB7
set_option linter.unusedSimpArgs false
set_option linter.unusedVariables false
set_option maxHeartbeats 25600000
set_option maxRecDepth 20000
namespace Go.Proofs.YtihaliffcobacaaGreatDoor
open Go.ChangeShapes Go.WideShapes Go.ChangeAt Go.RowKit Go.Deep
theorem refuses15_lift (cs0 : Array Value) (r : Rs) (cs1 : Array Value) (bad : Rs) (n : Int) (w : World) (h0 : ERs.rd w (fun k => k < w.heap.size) cs0.toList r) (q0 : RsF r) (h1 : ERs.rd w (fun k => k < w.heap.size) cs1.toList bad) (q1 : RsF bad) (q2 : (Lit.int .u8 n).wf = true) (hT : ValAny w) :
  Calls Tryz.prog 3 #[.agg cs0, .agg cs1, .int .u8 n] w fun e w' => e = .returned (.bool true) ∧ Below w.heap.size w w' := by
 obtain ⟨A1, c1, e1, _, a1⟩ := ERs_cells h0
 obtain ⟨A2, c2, e2, _, a2⟩ := ERs_cells h1
 obtain rfl : cs0 = _ := by rw [← Array.toArray_toList (xs := cs0), e1]
 obtain rfl : cs1 = _ := by rw [← Array.toArray_toList (xs := cs1), e2]
 exact (refuses_walk r bad n q2 q0 q1 w hT _ A1 c1 a1 A2 c2 a2).mono fun e w' h => ⟨h.1, h.2.toBelow⟩
end Go.Proofs.YtihaliffcobacaaGreatDoor
