/-
  No cell of these rows narrows 'for every input' (looked for: loops, veiled, ifaces, maps, wideKeys, modest, calm, conditions, laid).
  DERIVED. THE GIVEN ROWS OF THIS SEAT. 8 by the template 'for every input the law returns true; each argument reads behind the call as it read before'; 0 by the template 'total and deterministic' (their statements: YtimhfkllamimeaaTotals.lean).
  GIVEN WITH THE SEED: the statements are not yours to turn. If you find one false, say at which input.
  Laid BY PROGRAM, IN A SANDBOX (cutbox-rows.mjs): the forced cells as the released guide's own fill.sh prints them over the translation 4795aa3b0bebd50f… (all of the seat's roots in one cut). By AI agents, Wed Nov 11 2026. No macro, syntax, notation, axiom, sorry.
-/
import Derived.Test.YtimhfkllamimeaaChecked
import GoSem.Claim
import GoSem.ClaimJoined
import GoSem.ClaimMapViews
import Derived.JoinedTies
import Derived.KernelRfl
namespace Go.Proofs.Ytimhfkllamimeaa
/- THE CELL 'sum', in the pinned program and in every row, IS THE sha256 OF THE DUMP (.gsa) THAT YtimhfkllamimeaaProg.lean LOADS. Nothing in Lean hashes anything: it is a label: what it is worth is what the hold of that sum in a sandbox is worth. -/
noncomputable def Try.pinned : Pinned := { name := "ytimhfkllamimeaa", sum := "4795aa3b0bebd50f642ae2be4b057bff41510591ec13f43e9f3aebde8acc5fc8", checked := Try.checked }
namespace Rows
def none {H : Type} : Left H := { results := [], args := [] }

/-- 'conciliatorlaw05.SeqGone': WHATEVER THE INPUT: true; the input reads as it did. -/
def seqGoneSpec : ChangeSpec := { name := "seqGone", fn := fun _ => fun
  | [d1, d2, d3] => { results := [.lit (.bool true)], args := [d1, d2, d3] }
  | _ => none }
def seqGoneRow : OpenClaim := { program := "ytimhfkllamimeaa", sum := "4795aa3b0bebd50f642ae2be4b057bff41510591ec13f43e9f3aebde8acc5fc8", func := "conciliator/conciliatorlaw05.SeqGone", spec := "seqGone", inPlace := ["slices.overlaps[conciliator/api.Val]"], recurses := true, apart := false }
def SeqGoneSaid : Prop := seqGoneRow.holds Try.pinned (OpenSpec.ofChange seqGoneSpec)

/-- ITS FALSE NEIGHBOUR: 'it returns false'. Refute it at one input. -/
def seqGoneWrong : ChangeSpec := { name := "seqGone", fn := fun _ => fun
  | [d1, d2, d3] => { results := [.lit (.bool false)], args := [d1, d2, d3] }
  | _ => none }
def SeqGoneWrongFalsely : Prop := seqGoneRow.holds Try.pinned (OpenSpec.ofChange seqGoneWrong)

/-- 'conciliatorlaw05.SeqDoes': WHATEVER THE INPUT: true; the input reads as it did. -/
def seqDoesSpec : ChangeSpec := { name := "seqDoes", fn := fun _ => fun
  | [d1, d2, d3] => { results := [.lit (.bool true)], args := [d1, d2, d3] }
  | _ => none }
def seqDoesRow : OpenClaim := { program := "ytimhfkllamimeaa", sum := "4795aa3b0bebd50f642ae2be4b057bff41510591ec13f43e9f3aebde8acc5fc8", func := "conciliator/conciliatorlaw05.SeqDoes", spec := "seqDoes", inPlace := ["slices.overlaps[conciliator/api.Val]"], recurses := true, apart := false }
def SeqDoesSaid : Prop := seqDoesRow.holds Try.pinned (OpenSpec.ofChange seqDoesSpec)

/-- ITS FALSE NEIGHBOUR: 'it returns false'. Refute it at one input. -/
def seqDoesWrong : ChangeSpec := { name := "seqDoes", fn := fun _ => fun
  | [d1, d2, d3] => { results := [.lit (.bool false)], args := [d1, d2, d3] }
  | _ => none }
def SeqDoesWrongFalsely : Prop := seqDoesRow.holds Try.pinned (OpenSpec.ofChange seqDoesWrong)

/-- 'conciliatorlaw05.SeqTurns': WHATEVER THE INPUT: true; the input reads as it did. -/
def seqTurnsSpec : ChangeSpec := { name := "seqTurns", fn := fun _ => fun
  | [d1, d2, d3, d4, d5] => { results := [.lit (.bool true)], args := [d1, d2, d3, d4, d5] }
  | _ => none }
def seqTurnsRow : OpenClaim := { program := "ytimhfkllamimeaa", sum := "4795aa3b0bebd50f642ae2be4b057bff41510591ec13f43e9f3aebde8acc5fc8", func := "conciliator/conciliatorlaw05.SeqTurns", spec := "seqTurns", inPlace := ["slices.overlaps[conciliator/api.Val]"], recurses := true, apart := false }
def SeqTurnsSaid : Prop := seqTurnsRow.holds Try.pinned (OpenSpec.ofChange seqTurnsSpec)

/-- ITS FALSE NEIGHBOUR: 'it returns false'. Refute it at one input. -/
def seqTurnsWrong : ChangeSpec := { name := "seqTurns", fn := fun _ => fun
  | [d1, d2, d3, d4, d5] => { results := [.lit (.bool false)], args := [d1, d2, d3, d4, d5] }
  | _ => none }
def SeqTurnsWrongFalsely : Prop := seqTurnsRow.holds Try.pinned (OpenSpec.ofChange seqTurnsWrong)

/-- 'conciliatorlaw05.SeqMeets': WHATEVER THE INPUT: true; the input reads as it did. -/
def seqMeetsSpec : ChangeSpec := { name := "seqMeets", fn := fun _ => fun
  | [d1, d2, d3, d4] => { results := [.lit (.bool true)], args := [d1, d2, d3, d4] }
  | _ => none }
def seqMeetsRow : OpenClaim := { program := "ytimhfkllamimeaa", sum := "4795aa3b0bebd50f642ae2be4b057bff41510591ec13f43e9f3aebde8acc5fc8", func := "conciliator/conciliatorlaw05.SeqMeets", spec := "seqMeets", inPlace := ["slices.overlaps[conciliator/api.Val]"], recurses := true, apart := false }
def SeqMeetsSaid : Prop := seqMeetsRow.holds Try.pinned (OpenSpec.ofChange seqMeetsSpec)

/-- ITS FALSE NEIGHBOUR: 'it returns false'. Refute it at one input. -/
def seqMeetsWrong : ChangeSpec := { name := "seqMeets", fn := fun _ => fun
  | [d1, d2, d3, d4] => { results := [.lit (.bool false)], args := [d1, d2, d3, d4] }
  | _ => none }
def SeqMeetsWrongFalsely : Prop := seqMeetsRow.holds Try.pinned (OpenSpec.ofChange seqMeetsWrong)

/-- 'conciliatorlaw05.SeqFollows': WHATEVER THE INPUT: true; the input reads as it did. -/
def seqFollowsSpec : ChangeSpec := { name := "seqFollows", fn := fun _ => fun
  | [d1, d2, d3] => { results := [.lit (.bool true)], args := [d1, d2, d3] }
  | _ => none }
def seqFollowsRow : OpenClaim := { program := "ytimhfkllamimeaa", sum := "4795aa3b0bebd50f642ae2be4b057bff41510591ec13f43e9f3aebde8acc5fc8", func := "conciliator/conciliatorlaw05.SeqFollows", spec := "seqFollows", inPlace := ["slices.overlaps[conciliator/api.Val]"], recurses := true, apart := false }
def SeqFollowsSaid : Prop := seqFollowsRow.holds Try.pinned (OpenSpec.ofChange seqFollowsSpec)

/-- ITS FALSE NEIGHBOUR: 'it returns false'. Refute it at one input. -/
def seqFollowsWrong : ChangeSpec := { name := "seqFollows", fn := fun _ => fun
  | [d1, d2, d3] => { results := [.lit (.bool false)], args := [d1, d2, d3] }
  | _ => none }
def SeqFollowsWrongFalsely : Prop := seqFollowsRow.holds Try.pinned (OpenSpec.ofChange seqFollowsWrong)

/-- 'conciliatorlaw05.SeqBack': WHATEVER THE INPUT: true; the input reads as it did. -/
def seqBackSpec : ChangeSpec := { name := "seqBack", fn := fun _ => fun
  | [d1, d2, d3] => { results := [.lit (.bool true)], args := [d1, d2, d3] }
  | _ => none }
def seqBackRow : OpenClaim := { program := "ytimhfkllamimeaa", sum := "4795aa3b0bebd50f642ae2be4b057bff41510591ec13f43e9f3aebde8acc5fc8", func := "conciliator/conciliatorlaw05.SeqBack", spec := "seqBack", inPlace := ["slices.overlaps[conciliator/api.Val]"], recurses := true, apart := false }
def SeqBackSaid : Prop := seqBackRow.holds Try.pinned (OpenSpec.ofChange seqBackSpec)

/-- ITS FALSE NEIGHBOUR: 'it returns false'. Refute it at one input. -/
def seqBackWrong : ChangeSpec := { name := "seqBack", fn := fun _ => fun
  | [d1, d2, d3] => { results := [.lit (.bool false)], args := [d1, d2, d3] }
  | _ => none }
def SeqBackWrongFalsely : Prop := seqBackRow.holds Try.pinned (OpenSpec.ofChange seqBackWrong)

/-- 'conciliatorlaw05.SeqMoves': WHATEVER THE INPUT: true; the input reads as it did. -/
def seqMovesSpec : ChangeSpec := { name := "seqMoves", fn := fun _ => fun
  | [d1, d2, d3] => { results := [.lit (.bool true)], args := [d1, d2, d3] }
  | _ => none }
def seqMovesRow : OpenClaim := { program := "ytimhfkllamimeaa", sum := "4795aa3b0bebd50f642ae2be4b057bff41510591ec13f43e9f3aebde8acc5fc8", func := "conciliator/conciliatorlaw05.SeqMoves", spec := "seqMoves", inPlace := ["slices.overlaps[conciliator/api.Val]"], recurses := true, apart := false }
def SeqMovesSaid : Prop := seqMovesRow.holds Try.pinned (OpenSpec.ofChange seqMovesSpec)

/-- ITS FALSE NEIGHBOUR: 'it returns false'. Refute it at one input. -/
def seqMovesWrong : ChangeSpec := { name := "seqMoves", fn := fun _ => fun
  | [d1, d2, d3] => { results := [.lit (.bool false)], args := [d1, d2, d3] }
  | _ => none }
def SeqMovesWrongFalsely : Prop := seqMovesRow.holds Try.pinned (OpenSpec.ofChange seqMovesWrong)

/-- 'conciliatorlaw05.SeqTies': WHATEVER THE INPUT: true; the input reads as it did. -/
def seqTiesSpec : ChangeSpec := { name := "seqTies", fn := fun _ => fun
  | [d1, d2, d3] => { results := [.lit (.bool true)], args := [d1, d2, d3] }
  | _ => none }
def seqTiesRow : OpenClaim := { program := "ytimhfkllamimeaa", sum := "4795aa3b0bebd50f642ae2be4b057bff41510591ec13f43e9f3aebde8acc5fc8", func := "conciliator/conciliatorlaw05.SeqTies", spec := "seqTies", inPlace := ["slices.overlaps[conciliator/api.Val]"], recurses := true, apart := false }
def SeqTiesSaid : Prop := seqTiesRow.holds Try.pinned (OpenSpec.ofChange seqTiesSpec)

/-- ITS FALSE NEIGHBOUR: 'it returns false'. Refute it at one input. -/
def seqTiesWrong : ChangeSpec := { name := "seqTies", fn := fun _ => fun
  | [d1, d2, d3] => { results := [.lit (.bool false)], args := [d1, d2, d3] }
  | _ => none }
def SeqTiesWrongFalsely : Prop := seqTiesRow.holds Try.pinned (OpenSpec.ofChange seqTiesWrong)

/- THE SECOND FORM. 'bulk': how many values and letters a reading holds, each counted each time it is reached (what is shared counts as often as it is met; a slice's spare places count too). A statement '..UptoSaid' is the law's where the arguments, and the package variables that the reading takes, are together of bulk at most 1048576: NARROWER than '..Said'. Prove '..Said' where nothing that the law and all that it calls make is longer than what came in: it says more and counts as full. Else prove '..UptoSaid'. A law counts once. -/
mutual
def uptoBulk {H : Type} : DataW H → Nat
  | .lit (.string bytes) => bytes.length + 1
  | .lit _ => 1
  | .nil => 1
  | .ptr d => uptoBulk d + 1
  | .slice elems spare => uptoBulkAll elems + uptoBulkAll spare + 1
  | .agg parts => uptoBulkAll parts + 1
  | .iface _ d => uptoBulk d + 1
  | .map entries => uptoBulkEntries entries + 1
  | .held _ => 1
def uptoBulkAll {H : Type} : List (DataW H) → Nat
  | [] => 0
  | d :: r => uptoBulk d + uptoBulkAll r
def uptoBulkEntries {H : Type} : List (Lit × DataW H) → Nat
  | [] => 0
  | x :: r => uptoBulkEntry x + uptoBulkEntries r
def uptoBulkEntry {H : Type} : Lit × DataW H → Nat
  | (.string bytes, d) => bytes.length + uptoBulk d + 1
  | (_, d) => uptoBulk d + 1
 end
def uptoSmall : (H : Type) → List (DataW H) → Bool := fun _ ds => decide (uptoBulkAll ds ≤ 1048576)
def OpenSpec.upto (s : _root_.Go.ChangeSpec) : _root_.Go.OpenSpec := { _root_.Go.OpenSpec.ofChange s with cond := some uptoSmall }

/-- 'conciliatorlaw05.SeqGone', WHERE WHAT IT READS IS OF BULK AT MOST 1048576: true; the input reads as it did. -/
def seqGoneUptoRow : OpenClaim := { program := "ytimhfkllamimeaa", sum := "4795aa3b0bebd50f642ae2be4b057bff41510591ec13f43e9f3aebde8acc5fc8", func := "conciliator/conciliatorlaw05.SeqGone", spec := "seqGone", inPlace := ["slices.overlaps[conciliator/api.Val]"], recurses := true, apart := false, narrowed := true }
def SeqGoneUptoSaid : Prop := seqGoneUptoRow.holds Try.pinned (OpenSpec.upto seqGoneSpec)

/-- 'conciliatorlaw05.SeqDoes', WHERE WHAT IT READS IS OF BULK AT MOST 1048576: true; the input reads as it did. -/
def seqDoesUptoRow : OpenClaim := { program := "ytimhfkllamimeaa", sum := "4795aa3b0bebd50f642ae2be4b057bff41510591ec13f43e9f3aebde8acc5fc8", func := "conciliator/conciliatorlaw05.SeqDoes", spec := "seqDoes", inPlace := ["slices.overlaps[conciliator/api.Val]"], recurses := true, apart := false, narrowed := true }
def SeqDoesUptoSaid : Prop := seqDoesUptoRow.holds Try.pinned (OpenSpec.upto seqDoesSpec)

/-- 'conciliatorlaw05.SeqTurns', WHERE WHAT IT READS IS OF BULK AT MOST 1048576: true; the input reads as it did. -/
def seqTurnsUptoRow : OpenClaim := { program := "ytimhfkllamimeaa", sum := "4795aa3b0bebd50f642ae2be4b057bff41510591ec13f43e9f3aebde8acc5fc8", func := "conciliator/conciliatorlaw05.SeqTurns", spec := "seqTurns", inPlace := ["slices.overlaps[conciliator/api.Val]"], recurses := true, apart := false, narrowed := true }
def SeqTurnsUptoSaid : Prop := seqTurnsUptoRow.holds Try.pinned (OpenSpec.upto seqTurnsSpec)

/-- 'conciliatorlaw05.SeqMeets', WHERE WHAT IT READS IS OF BULK AT MOST 1048576: true; the input reads as it did. -/
def seqMeetsUptoRow : OpenClaim := { program := "ytimhfkllamimeaa", sum := "4795aa3b0bebd50f642ae2be4b057bff41510591ec13f43e9f3aebde8acc5fc8", func := "conciliator/conciliatorlaw05.SeqMeets", spec := "seqMeets", inPlace := ["slices.overlaps[conciliator/api.Val]"], recurses := true, apart := false, narrowed := true }
def SeqMeetsUptoSaid : Prop := seqMeetsUptoRow.holds Try.pinned (OpenSpec.upto seqMeetsSpec)

/-- 'conciliatorlaw05.SeqFollows', WHERE WHAT IT READS IS OF BULK AT MOST 1048576: true; the input reads as it did. -/
def seqFollowsUptoRow : OpenClaim := { program := "ytimhfkllamimeaa", sum := "4795aa3b0bebd50f642ae2be4b057bff41510591ec13f43e9f3aebde8acc5fc8", func := "conciliator/conciliatorlaw05.SeqFollows", spec := "seqFollows", inPlace := ["slices.overlaps[conciliator/api.Val]"], recurses := true, apart := false, narrowed := true }
def SeqFollowsUptoSaid : Prop := seqFollowsUptoRow.holds Try.pinned (OpenSpec.upto seqFollowsSpec)

/-- 'conciliatorlaw05.SeqBack', WHERE WHAT IT READS IS OF BULK AT MOST 1048576: true; the input reads as it did. -/
def seqBackUptoRow : OpenClaim := { program := "ytimhfkllamimeaa", sum := "4795aa3b0bebd50f642ae2be4b057bff41510591ec13f43e9f3aebde8acc5fc8", func := "conciliator/conciliatorlaw05.SeqBack", spec := "seqBack", inPlace := ["slices.overlaps[conciliator/api.Val]"], recurses := true, apart := false, narrowed := true }
def SeqBackUptoSaid : Prop := seqBackUptoRow.holds Try.pinned (OpenSpec.upto seqBackSpec)

/-- 'conciliatorlaw05.SeqMoves', WHERE WHAT IT READS IS OF BULK AT MOST 1048576: true; the input reads as it did. -/
def seqMovesUptoRow : OpenClaim := { program := "ytimhfkllamimeaa", sum := "4795aa3b0bebd50f642ae2be4b057bff41510591ec13f43e9f3aebde8acc5fc8", func := "conciliator/conciliatorlaw05.SeqMoves", spec := "seqMoves", inPlace := ["slices.overlaps[conciliator/api.Val]"], recurses := true, apart := false, narrowed := true }
def SeqMovesUptoSaid : Prop := seqMovesUptoRow.holds Try.pinned (OpenSpec.upto seqMovesSpec)

/-- 'conciliatorlaw05.SeqTies', WHERE WHAT IT READS IS OF BULK AT MOST 1048576: true; the input reads as it did. -/
def seqTiesUptoRow : OpenClaim := { program := "ytimhfkllamimeaa", sum := "4795aa3b0bebd50f642ae2be4b057bff41510591ec13f43e9f3aebde8acc5fc8", func := "conciliator/conciliatorlaw05.SeqTies", spec := "seqTies", inPlace := ["slices.overlaps[conciliator/api.Val]"], recurses := true, apart := false, narrowed := true }
def SeqTiesUptoSaid : Prop := seqTiesUptoRow.holds Try.pinned (OpenSpec.upto seqTiesSpec)

end Rows
end Go.Proofs.Ytimhfkllamimeaa
