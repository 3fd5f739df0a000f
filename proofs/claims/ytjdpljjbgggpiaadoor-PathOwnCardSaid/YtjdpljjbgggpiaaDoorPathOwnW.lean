/- What is got is new memory: the walk, as the lifting wants it. -/
import Derived.Test.YtjdpljjbgggpiaaDoorPathOwn
set_option linter.unusedSimpArgs false
set_option linter.unusedVariables false
namespace Go.Proofs.YtjdpljjbgggpiaaDoor
open Go.RowKit
theorem own_lift {Q0 Q1 : Prop} (v : Value) (ts : List Tk) (cv : Value) (cl : List UInt8) (w : World) (h0 : Sl ETok w (fun k => k < w.heap.size) v ts) (q0 : Q0) (h1 : BytesS w (fun k => k < w.heap.size) cv cl) (q1 : Q1) :
    Calls Tryd.prog 3 #[v, cv] w fun e w' => e = .returned (.bool true) ∧ Below w.heap.size w w' :=
  (own_walk v cv ts cl w (h0.more ETok.ok fun _ _ _ => trivial) (h1.more EU8.ok fun _ _ _ => trivial)).mono fun e w' h => ⟨h.1, h.2.toBelow⟩
end Go.Proofs.YtjdpljjbgggpiaaDoor
