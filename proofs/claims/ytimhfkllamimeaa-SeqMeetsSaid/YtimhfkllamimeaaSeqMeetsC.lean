/- SeqMeets' walk, at cuts as they come in. -/
import Derived.Test.YtimhfkllamimeaaSeqMeets
import Derived.Test.YtimhfkllamimeaaSeqCut
set_option linter.unusedSimpArgs false
set_option linter.unusedVariables false
namespace Go.Proofs.Ytimhfkllamimeaa
open Go.RowKit
theorem meets_cuts (a : Int) (x1 : Array Value) (c1 : LCut) (x2 : Array Value) (c2 : LCut) (left : Bool) (w : World) (ha : (Lit.int .u8 a).wf = true) (h1 : ECut.rd w (fun k => k < w.heap.size) x1.toList c1) (o1 : CutOk c1) (h2 : ECut.rd w (fun k => k < w.heap.size) x2.toList c2) (o2 : CutOk c2) :
    Calls Try.prog 6 #[.int .u8 a, .agg x1, .agg x2, .bool left] w fun e w' => e = .returned (.bool true) ∧ Below w.heap.size w w' := by
  rw [cut_cells h1, cut_cells h2]
  exact meets_walk a _ _ _ _ _ _ _ _ left w ha o1.1 o1.2.1 o2.1 o2.2.1
end Go.Proofs.Ytimhfkllamimeaa
