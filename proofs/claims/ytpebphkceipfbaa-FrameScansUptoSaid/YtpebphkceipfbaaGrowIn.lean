/- A region that draws its order, in a round of a loop over a function: what the plain laws show of it holds there. No program. -/
import Derived.Test.YtpebphkceipfbaaGrowTail
import Derived.OrdersIn
import Derived.RangeFuncNested
import Derived.RangeFuncBound
import Derived.RangeFuncCalls
import Derived.RangeFuncLeaves
import Derived.RangeFuncFrom
set_option linter.unusedSimpArgs false
set_option linter.unusedVariables false
namespace Go.Proofs.Ytpebphkceipfbaa
open Go.RowKit

/-- The widest fence, in a round. -/
abbrev InR (l : Nat) : Fence := Fence.wide.inRound l

section
variable {P : Program} {l n : Nat}
theorem callsIn_round {f : FuncId} {args : Array Value} {w : World} {R : Ending → World → Prop} (h : Calls P f args w R) : CallsIn (InR l) n P f args w R := CallsIn.inRound l (callsIn_wide.2 h)
theorem opIn_of_op {o : Oper} (hd : ∀ c, o.op ≠ .defer c) {a : Act} {w : World} {K : Act → World → Prop} {Q : Exit → Act → World → Prop} (h : o.wp P a w K Q) : o.wpIn (InR l) n P a w K Q := by
  refine ⟨fun _ _ => trivial, ?_⟩
  unfold Oper.wp at h
  rw [Oper.semAt_eq _ _ _ hd]
  generalize (execOp a.eval o).run P w = r at *
  cases r with
  | ok x w' =>
    cases x <;> simp only [Oper.upon] at h <;> simp only [Oper.uponIn]
    case value v => exact h
    case skip => exact h
    case defer d => exact h
    case enter f args => exact ⟨(fun e => by cases e), (callsIn_round h).mono fun e w'' he => by cases e <;> exact he⟩
    case row r args => exact ⟨(fun e => by cases e), fun c cs _ => (let ⟨v, w', r, s⟩ := h c cs; ⟨v, w', r, stepsIn_wide.2 s⟩)⟩
  | halt x w' => cases x <;> simp only [Oper.upon] at h <;> simp only [Oper.uponIn] <;> exact h

def noDefer (ops : Array Oper) : Bool := ops.all fun o => match o.op with | .defer _ => false | _ => true
theorem noDefer_spec {ops : Array Oper} (h : noDefer ops = true) {i : Nat} {o : Oper} (ho : ops[i]? = some o) : ∀ c, o.op ≠ .defer c := by
  intro c e
  have := Array.all_eq_true.1 h i (Array.getElem?_eq_some_iff.1 ho).1
  rw [(Array.getElem?_eq_some_iff.1 ho).2, e] at this
  cases this
theorem anyIn_of_any {ops : Array Oper} (hd : noDefer ops = true) {Q : Exit → Act → World → Prop} (hO : ¬ LetsOut Q) {md : Region.Mode} : ∀ (fuel : Nat) (listed : Array Bool) (a : Act) (w : World), wpAny P md ops Q fuel listed a w → wpAnyIn (InR l) n P md ops Q fuel listed a w
  | 0, _, _, _, h => h
  | fuel + 1, listed, a, w, h => ⟨h.1, fun i hi => by
    have h := h.2 i hi
    unfold wpOp at h
    unfold wpOpIn
    split at h
    · rename_i ho; simp only [ho]; exact anyIn_of_any hd hO fuel _ _ _ h
    · rename_i o ho
      simp only [ho]
      split at h
      · rename_i hw
        simp only [hw, if_true]
        rcases h with h | h
        · exact opIn_of_op (noDefer_spec hd ho) (Oper.wp_mono (fun a w h => anyIn_of_any hd hO fuel _ a w h) h)
        · exact absurd h.2 hO
      · rename_i hw
        simp only [hw]
        exact ⟨fun _ _ => trivial, anyIn_of_any hd hO fuel _ _ _ h⟩⟩
theorem noPanic_out {Q : Exit → Act → World → Prop} (h : ¬ LetsOut Q) : ¬ LetsOut (NoPanic Q) := fun ⟨a, w, hq⟩ => h ⟨a, w, hq⟩
/-- A region in a round: what the plain law shows. -/
theorem regionIn {id : Nat} {ops : Array Oper} {Q : Exit → Act → World → Prop} {a : Act} {w : World} (hm : P.follows .mixedOrders = true) (hd : noDefer ops = true) (hO : ¬ LetsOut Q)
    (h : wpAny P .any ops (NoPanic Q) ops.size (Array.replicate ops.size false) a w.drew) : (Code.region id ops true).wpIn (InR l) n P Q a w :=
  wpIn_mono (wpIn_region_any hm (anyIn_of_any hd (noPanic_out hO) _ _ _ _ h)) NoPanic.imp
theorem then_out {K : Act → World → Prop} {Q : Exit → Act → World → Prop} (h : ¬ LetsOut Q) : ¬ LetsOut (Exit.then K Q) := fun ⟨a, w, hq⟩ => h ⟨a, w, hq⟩
theorem ownG_out {α : Type} {B : Nat} {Kp : World → World → Prop} {I : List α → World → Prop} {Ix : Code → List α → World → Prop} {xs : List α} {W : World} : ¬ LetsOut (ownPostG B Kp I Ix xs W) := fun ⟨_, _, h⟩ => h
/-- One walk in the order of the text, in a round. -/
theorem wpIn_region_grow (S : Spec) (C : World → Prop) {id : Nat} {Q : Exit → Act → World → Prop} {a : Act} {w : World} {l' : List Oper} (hS : StableS S) (hC : StableC C) (hm : P.follows .mixedOrders = true)
    (hB : Region.lexB .any l'.toArray = true) (hd : noDefer l'.toArray = true) (hO : ¬ LetsOut Q) (hw : C w.drew)
    (h : wpGrow P l'.toArray C S (fun a' w' => Q .normal a' w') 0 l' [] a) : (Code.region id l'.toArray true).wpIn (InR l) n P Q a w :=
  regionIn hm hd hO (any_grow S C hS hC hB hw h)
theorem wpIn_region_parts (p0 p1 p2 : List Nat) (S : Spec) (C : World → Prop) {id : Nat} {Q : Exit → Act → World → Prop} {a : Act} {w : World} {l' : List Oper} (hS : StableS S) (hC : StableC C) (hm : P.follows .mixedOrders = true)
    (hB : partB l' p0 p1 p2 = true) (hd : noDefer l'.toArray = true) (hO : ¬ LetsOut Q) (hw : C w.drew)
    (h : wpPure P l'.toArray (wpGrowP P l'.toArray C S (wpList P l'.toArray (NoPanic Q) (operOf l' p2)) p1 []) p0 a) : (Code.region id l'.toArray true).wpIn (InR l) n P Q a w :=
  regionIn hm hd hO (any_parts p0 p1 p2 S C hS hC hB hw h)
end
end Go.Proofs.Ytpebphkceipfbaa
