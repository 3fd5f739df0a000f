/-
  No cell of these rows narrows 'for every input' (looked for: loops, veiled, ifaces, maps, wideKeys, modest, calm, conditions, laid).
  DERIVED. THE GIVEN ROWS OF THIS SEAT. 3 by the template 'for every input the law returns true; each argument reads behind the call as it read before'; 0 by the template 'total and deterministic' (their statements: YtjpbfdkpkeaofaaTotals.lean).
  GIVEN WITH THE SEED: the statements are not yours to turn. If you find one false, say at which input.
  Laid BY PROGRAM, IN A SANDBOX (cutbox-rows.mjs): the forced cells as the released guide's own fill.sh prints them over the translation 2a2d100612615564… (all of the seat's roots in one cut). By AI agents, Wed Nov 11 2026. No macro, syntax, notation, axiom, sorry.
-/
import Derived.Test.YtjpbfdkpkeaofaaChecked
import GoSem.Claim
import GoSem.ClaimJoined
import GoSem.ClaimMapViews
import Derived.JoinedTies
import Derived.KernelRfl
namespace Go.Proofs.Ytjpbfdkpkeaofaa
/- THE CELL 'sum', in the pinned program and in every row, IS THE sha256 OF THE DUMP (.gsa) THAT YtjpbfdkpkeaofaaProg.lean LOADS. Nothing in Lean hashes anything: it is a label: what it is worth is what the hold of that sum in a sandbox is worth. -/
noncomputable def Try.pinned : Pinned := { name := "ytjpbfdkpkeaofaa", sum := "2a2d100612615564f928078e8445a060c718f15aff26b46d4cf13dcc48e76f08", checked := Try.checked }
namespace Rows
def none {H : Type} : Left H := { results := [], args := [] }

/-- 'conciliatorlaw20.NetKeeps': WHATEVER THE INPUT: true; the input reads as it did. -/
def netKeepsSpec : ChangeSpec := { name := "netKeeps", fn := fun _ => fun
  | [d] => { results := [.lit (.bool true)], args := [d] }
  | _ => none }
def netKeepsRow : OpenClaim := { program := "ytjpbfdkpkeaofaa", sum := "2a2d100612615564f928078e8445a060c718f15aff26b46d4cf13dcc48e76f08", func := "conciliator/conciliatorlaw20.NetKeeps", spec := "netKeeps", unfollowed := true, recurses := true, apart := false }
def NetKeepsSaid : Prop := netKeepsRow.holds Try.pinned (OpenSpec.ofChange netKeepsSpec)

/-- ITS FALSE NEIGHBOUR: 'it returns false'. Refute it at one input. -/
def netKeepsWrong : ChangeSpec := { name := "netKeeps", fn := fun _ => fun
  | [d] => { results := [.lit (.bool false)], args := [d] }
  | _ => none }
def NetKeepsWrongFalsely : Prop := netKeepsRow.holds Try.pinned (OpenSpec.ofChange netKeepsWrong)

/-- 'conciliatorlaw20.NetDoes': WHATEVER THE INPUT: true; the input reads as it did. -/
def netDoesSpec : ChangeSpec := { name := "netDoes", fn := fun _ => fun
  | [d] => { results := [.lit (.bool true)], args := [d] }
  | _ => none }
def netDoesRow : OpenClaim := { program := "ytjpbfdkpkeaofaa", sum := "2a2d100612615564f928078e8445a060c718f15aff26b46d4cf13dcc48e76f08", func := "conciliator/conciliatorlaw20.NetDoes", spec := "netDoes", inPlace := ["slices.overlaps[conciliator/api.Mail]"], unfollowed := true, recurses := true, apart := false }
def NetDoesSaid : Prop := netDoesRow.holds Try.pinned (OpenSpec.ofChange netDoesSpec)

/-- ITS FALSE NEIGHBOUR: 'it returns false'. Refute it at one input. -/
def netDoesWrong : ChangeSpec := { name := "netDoes", fn := fun _ => fun
  | [d] => { results := [.lit (.bool false)], args := [d] }
  | _ => none }
def NetDoesWrongFalsely : Prop := netDoesRow.holds Try.pinned (OpenSpec.ofChange netDoesWrong)

/-- 'conciliatorlaw20.NetLate': WHATEVER THE INPUT: true; the input reads as it did. -/
def netLateSpec : ChangeSpec := { name := "netLate", fn := fun _ => fun
  | [d1, d2, d3] => { results := [.lit (.bool true)], args := [d1, d2, d3] }
  | _ => none }
def netLateRow : OpenClaim := { program := "ytjpbfdkpkeaofaa", sum := "2a2d100612615564f928078e8445a060c718f15aff26b46d4cf13dcc48e76f08", func := "conciliator/conciliatorlaw20.NetLate", spec := "netLate", inPlace := ["slices.overlaps[conciliator/api.Mail]"], unfollowed := true, recurses := true, apart := false }
def NetLateSaid : Prop := netLateRow.holds Try.pinned (OpenSpec.ofChange netLateSpec)

/-- ITS FALSE NEIGHBOUR: 'it returns false'. Refute it at one input. -/
def netLateWrong : ChangeSpec := { name := "netLate", fn := fun _ => fun
  | [d1, d2, d3] => { results := [.lit (.bool false)], args := [d1, d2, d3] }
  | _ => none }
def NetLateWrongFalsely : Prop := netLateRow.holds Try.pinned (OpenSpec.ofChange netLateWrong)

/- THE SECOND FORM. 'bulk': how many values and letters a reading holds, each counted each time it is reached (what is shared counts as often as it is met; a slice's spare places count too). A statement '..UptoSaid' is the law's where the arguments, and the package variables that the reading takes, are together of bulk at most 1048576: NARROWER than '..Said'. Prove '..Said' where nothing that the law and all that it calls make is longer than what came in: it says more and counts as full. Else prove '..UptoSaid'. A law counts once. -/
mutual
def uptoBulk {H : Type} : DataW H → Nat
  | .lit (.string bytes) => bytes.length + 1
  | .lit _ => 1
  | .nil => 1
  | .ptr d => uptoBulk d + 1
  | .slice elems spare => uptoBulkAll elems + uptoBulkAll spare + 1
  | .agg parts => uptoBulkAll parts + 1
  | .iface _ d => uptoBulk d + 1
  | .map entries => uptoBulkEntries entries + 1
  | .held _ => 1
def uptoBulkAll {H : Type} : List (DataW H) → Nat
  | [] => 0
  | d :: r => uptoBulk d + uptoBulkAll r
def uptoBulkEntries {H : Type} : List (Lit × DataW H) → Nat
  | [] => 0
  | x :: r => uptoBulkEntry x + uptoBulkEntries r
def uptoBulkEntry {H : Type} : Lit × DataW H → Nat
  | (.string bytes, d) => bytes.length + uptoBulk d + 1
  | (_, d) => uptoBulk d + 1
 end
def uptoSmall : (H : Type) → List (DataW H) → Bool := fun _ ds => decide (uptoBulkAll ds ≤ 1048576)
def OpenSpec.upto (s : _root_.Go.ChangeSpec) : _root_.Go.OpenSpec := { _root_.Go.OpenSpec.ofChange s with cond := some uptoSmall }

/-- 'conciliatorlaw20.NetKeeps', WHERE WHAT IT READS IS OF BULK AT MOST 1048576: true; the input reads as it did. -/
def netKeepsUptoRow : OpenClaim := { program := "ytjpbfdkpkeaofaa", sum := "2a2d100612615564f928078e8445a060c718f15aff26b46d4cf13dcc48e76f08", func := "conciliator/conciliatorlaw20.NetKeeps", spec := "netKeeps", unfollowed := true, recurses := true, apart := false, narrowed := true }
def NetKeepsUptoSaid : Prop := netKeepsUptoRow.holds Try.pinned (OpenSpec.upto netKeepsSpec)

/-- 'conciliatorlaw20.NetDoes', WHERE WHAT IT READS IS OF BULK AT MOST 1048576: true; the input reads as it did. -/
def netDoesUptoRow : OpenClaim := { program := "ytjpbfdkpkeaofaa", sum := "2a2d100612615564f928078e8445a060c718f15aff26b46d4cf13dcc48e76f08", func := "conciliator/conciliatorlaw20.NetDoes", spec := "netDoes", inPlace := ["slices.overlaps[conciliator/api.Mail]"], unfollowed := true, recurses := true, apart := false, narrowed := true }
def NetDoesUptoSaid : Prop := netDoesUptoRow.holds Try.pinned (OpenSpec.upto netDoesSpec)

/-- 'conciliatorlaw20.NetLate', WHERE WHAT IT READS IS OF BULK AT MOST 1048576: true; the input reads as it did. -/
def netLateUptoRow : OpenClaim := { program := "ytjpbfdkpkeaofaa", sum := "2a2d100612615564f928078e8445a060c718f15aff26b46d4cf13dcc48e76f08", func := "conciliator/conciliatorlaw20.NetLate", spec := "netLate", inPlace := ["slices.overlaps[conciliator/api.Mail]"], unfollowed := true, recurses := true, apart := false, narrowed := true }
def NetLateUptoSaid : Prop := netLateUptoRow.holds Try.pinned (OpenSpec.upto netLateSpec)

end Rows
end Go.Proofs.Ytjpbfdkpkeaofaa
