/-
  NARROWER THAN 'FOR EVERY INPUT', by the rows' own cells (each row's printed sentence says how): ProjSounds: laid · ProjMeets: laid · ProjWithin: laid · ProjTwice: laid · ProjAll: laid.
  DERIVED. THE GIVEN ROWS OF THIS SEAT. 5 by the template 'for every input the law returns true; each argument reads behind the call as it read before'; 0 by the template 'total and deterministic' (their statements: YtggkidnlmaindaaDoorTotals.lean).
  GIVEN WITH THE SEED: the statements are not yours to turn. If you find one false, say at which input.
  Laid BY PROGRAM, IN A SANDBOX (cutbox-rows.mjs): the forced cells as the released guide's own fill.sh prints them over the translation 83142f42ec516398… (all of the seat's roots in one cut). By AI agents, Wed Nov 11 2026. No macro, syntax, notation, axiom, sorry.
-/
import Derived.Test.YtggkidnlmaindaaDoorChecked
import GoSem.PinnedTables
import GoSem.Claim
import GoSem.ClaimJoined
import GoSem.ClaimMapViews
import Derived.JoinedTies
import Derived.KernelRfl
namespace Go.Proofs.YtggkidnlmaindaaDoor
/- THE CELL 'sum', in the pinned program and in every row, IS THE sha256 OF THE DUMP (.gsa) THAT YtggkidnlmaindaaDoorProg.lean LOADS. Nothing in Lean hashes anything: it is a label: what it is worth is what the hold of that sum in a sandbox is worth. -/
noncomputable def Tryd.pinned : Pinned := { name := "ytggkidnlmaindaadoor", sum := "83142f42ec516398d79be91a9281e5c4b7287dc3fe632ffeafd6ee8ea60a160e", checked := Tryd.checked }
namespace Rows
def none {H : Type} : Left H := { results := [], args := [] }

/- WHAT THE LISTED PACKAGE-LEVEL VARIABLES READ AS WHEN THE CALL BEGINS. Each datum BY PROGRAM (the guide's laid-datum.mjs) off the statement by which the dump's own 'gosem.cut.vars' lays the variable. In a bare row this is a premise. The card (YtggkidnlmaindaaDoorCards.lean) ties it to the program's text. -/
def laid_unicode_utf8_acceptRanges {H : Type} : DataW H := .agg [.agg [.lit (.int .u8 128), .lit (.int .u8 191)], .agg [.lit (.int .u8 160), .lit (.int .u8 191)], .agg [.lit (.int .u8 128), .lit (.int .u8 159)], .agg [.lit (.int .u8 144), .lit (.int .u8 191)], .agg [.lit (.int .u8 128), .lit (.int .u8 143)], .agg [.lit (.int .u8 0), .lit (.int .u8 0)], .agg [.lit (.int .u8 0), .lit (.int .u8 0)], .agg [.lit (.int .u8 0), .lit (.int .u8 0)], .agg [.lit (.int .u8 0), .lit (.int .u8 0)], .agg [.lit (.int .u8 0), .lit (.int .u8 0)], .agg [.lit (.int .u8 0), .lit (.int .u8 0)], .agg [.lit (.int .u8 0), .lit (.int .u8 0)], .agg [.lit (.int .u8 0), .lit (.int .u8 0)], .agg [.lit (.int .u8 0), .lit (.int .u8 0)], .agg [.lit (.int .u8 0), .lit (.int .u8 0)], .agg [.lit (.int .u8 0), .lit (.int .u8 0)]]
/-- One of Go's own tables, pinned by name: the form's constant. -/
def laid_unicode_utf8_first : DataW Unit := Go.Pinned.utf8First

/-- 'conciliatorlaw18.ProjSounds': WHATEVER THE INPUT: true; the input reads as it did. -/
def projSoundsSpec : ChangeSpec := { name := "projSounds", fn := fun _ => fun
  | [d1, d2, d3] => { results := [.lit (.bool true)], args := [d1, d2, d3] }
  | _ => none }
def projSoundsRow : OpenClaim := { program := "ytggkidnlmaindaadoor", sum := "83142f42ec516398d79be91a9281e5c4b7287dc3fe632ffeafd6ee8ea60a160e", func := "conciliator/conciliatorlaw18.ProjSounds", spec := "projSounds", unfollowed := true, recurses := true, named := ["unicode/utf8.first", "unicode/utf8.acceptRanges"], apart := false, laid := [("unicode/utf8.acceptRanges", laid_unicode_utf8_acceptRanges), ("unicode/utf8.first", laid_unicode_utf8_first)] }
def ProjSoundsSaid : Prop := projSoundsRow.holds Tryd.pinned (OpenSpec.ofChange projSoundsSpec)

/-- ITS FALSE NEIGHBOUR: 'it returns false'. Refute it at one input. -/
def projSoundsWrong : ChangeSpec := { name := "projSounds", fn := fun _ => fun
  | [d1, d2, d3] => { results := [.lit (.bool false)], args := [d1, d2, d3] }
  | _ => none }
def ProjSoundsWrongFalsely : Prop := projSoundsRow.holds Tryd.pinned (OpenSpec.ofChange projSoundsWrong)

/-- 'conciliatorlaw18.ProjMeets': WHATEVER THE INPUT: true; the input reads as it did. -/
def projMeetsSpec : ChangeSpec := { name := "projMeets", fn := fun _ => fun
  | [d1, d2, d3] => { results := [.lit (.bool true)], args := [d1, d2, d3] }
  | _ => none }
def projMeetsRow : OpenClaim := { program := "ytggkidnlmaindaadoor", sum := "83142f42ec516398d79be91a9281e5c4b7287dc3fe632ffeafd6ee8ea60a160e", func := "conciliator/conciliatorlaw18.ProjMeets", spec := "projMeets", unfollowed := true, recurses := true, named := ["unicode/utf8.first", "unicode/utf8.acceptRanges"], apart := false, laid := [("unicode/utf8.acceptRanges", laid_unicode_utf8_acceptRanges), ("unicode/utf8.first", laid_unicode_utf8_first)] }
def ProjMeetsSaid : Prop := projMeetsRow.holds Tryd.pinned (OpenSpec.ofChange projMeetsSpec)

/-- ITS FALSE NEIGHBOUR: 'it returns false'. Refute it at one input. -/
def projMeetsWrong : ChangeSpec := { name := "projMeets", fn := fun _ => fun
  | [d1, d2, d3] => { results := [.lit (.bool false)], args := [d1, d2, d3] }
  | _ => none }
def ProjMeetsWrongFalsely : Prop := projMeetsRow.holds Tryd.pinned (OpenSpec.ofChange projMeetsWrong)

/-- 'conciliatorlaw18.ProjWithin': WHATEVER THE INPUT: true; the input reads as it did. -/
def projWithinSpec : ChangeSpec := { name := "projWithin", fn := fun _ => fun
  | [d1, d2, d3] => { results := [.lit (.bool true)], args := [d1, d2, d3] }
  | _ => none }
def projWithinRow : OpenClaim := { program := "ytggkidnlmaindaadoor", sum := "83142f42ec516398d79be91a9281e5c4b7287dc3fe632ffeafd6ee8ea60a160e", func := "conciliator/conciliatorlaw18.ProjWithin", spec := "projWithin", unfollowed := true, recurses := true, named := ["unicode/utf8.first", "unicode/utf8.acceptRanges"], apart := false, laid := [("unicode/utf8.acceptRanges", laid_unicode_utf8_acceptRanges), ("unicode/utf8.first", laid_unicode_utf8_first)] }
def ProjWithinSaid : Prop := projWithinRow.holds Tryd.pinned (OpenSpec.ofChange projWithinSpec)

/-- ITS FALSE NEIGHBOUR: 'it returns false'. Refute it at one input. -/
def projWithinWrong : ChangeSpec := { name := "projWithin", fn := fun _ => fun
  | [d1, d2, d3] => { results := [.lit (.bool false)], args := [d1, d2, d3] }
  | _ => none }
def ProjWithinWrongFalsely : Prop := projWithinRow.holds Tryd.pinned (OpenSpec.ofChange projWithinWrong)

/-- 'conciliatorlaw18.ProjTwice': WHATEVER THE INPUT: true; the input reads as it did. -/
def projTwiceSpec : ChangeSpec := { name := "projTwice", fn := fun _ => fun
  | [d1, d2, d3] => { results := [.lit (.bool true)], args := [d1, d2, d3] }
  | _ => none }
def projTwiceRow : OpenClaim := { program := "ytggkidnlmaindaadoor", sum := "83142f42ec516398d79be91a9281e5c4b7287dc3fe632ffeafd6ee8ea60a160e", func := "conciliator/conciliatorlaw18.ProjTwice", spec := "projTwice", unfollowed := true, recurses := true, named := ["unicode/utf8.first", "unicode/utf8.acceptRanges"], apart := false, laid := [("unicode/utf8.acceptRanges", laid_unicode_utf8_acceptRanges), ("unicode/utf8.first", laid_unicode_utf8_first)] }
def ProjTwiceSaid : Prop := projTwiceRow.holds Tryd.pinned (OpenSpec.ofChange projTwiceSpec)

/-- ITS FALSE NEIGHBOUR: 'it returns false'. Refute it at one input. -/
def projTwiceWrong : ChangeSpec := { name := "projTwice", fn := fun _ => fun
  | [d1, d2, d3] => { results := [.lit (.bool false)], args := [d1, d2, d3] }
  | _ => none }
def ProjTwiceWrongFalsely : Prop := projTwiceRow.holds Tryd.pinned (OpenSpec.ofChange projTwiceWrong)

/-- 'conciliatorlaw18.ProjAll': WHATEVER THE INPUT: true; the input reads as it did. -/
def projAllSpec : ChangeSpec := { name := "projAll", fn := fun _ => fun
  | [d1, d2, d3] => { results := [.lit (.bool true)], args := [d1, d2, d3] }
  | _ => none }
def projAllRow : OpenClaim := { program := "ytggkidnlmaindaadoor", sum := "83142f42ec516398d79be91a9281e5c4b7287dc3fe632ffeafd6ee8ea60a160e", func := "conciliator/conciliatorlaw18.ProjAll", spec := "projAll", unfollowed := true, recurses := true, named := ["unicode/utf8.first", "unicode/utf8.acceptRanges"], apart := false, laid := [("unicode/utf8.acceptRanges", laid_unicode_utf8_acceptRanges), ("unicode/utf8.first", laid_unicode_utf8_first)] }
def ProjAllSaid : Prop := projAllRow.holds Tryd.pinned (OpenSpec.ofChange projAllSpec)

/-- ITS FALSE NEIGHBOUR: 'it returns false'. Refute it at one input. -/
def projAllWrong : ChangeSpec := { name := "projAll", fn := fun _ => fun
  | [d1, d2, d3] => { results := [.lit (.bool false)], args := [d1, d2, d3] }
  | _ => none }
def ProjAllWrongFalsely : Prop := projAllRow.holds Tryd.pinned (OpenSpec.ofChange projAllWrong)

/- THE SECOND FORM. 'bulk': how many values and letters a reading holds, each counted each time it is reached (what is shared counts as often as it is met; a slice's spare places count too). A statement '..UptoSaid' is the law's where the arguments, and the package variables that the reading takes, are together of bulk at most 1048576: NARROWER than '..Said'. Prove '..Said' where nothing that the law and all that it calls make is longer than what came in: it says more and counts as full. Else prove '..UptoSaid'. A law counts once. -/
mutual
def uptoBulk {H : Type} : DataW H → Nat
  | .lit (.string bytes) => bytes.length + 1
  | .lit _ => 1
  | .nil => 1
  | .ptr d => uptoBulk d + 1
  | .slice elems spare => uptoBulkAll elems + uptoBulkAll spare + 1
  | .agg parts => uptoBulkAll parts + 1
  | .iface _ d => uptoBulk d + 1
  | .map entries => uptoBulkEntries entries + 1
  | .held _ => 1
def uptoBulkAll {H : Type} : List (DataW H) → Nat
  | [] => 0
  | d :: r => uptoBulk d + uptoBulkAll r
def uptoBulkEntries {H : Type} : List (Lit × DataW H) → Nat
  | [] => 0
  | x :: r => uptoBulkEntry x + uptoBulkEntries r
def uptoBulkEntry {H : Type} : Lit × DataW H → Nat
  | (.string bytes, d) => bytes.length + uptoBulk d + 1
  | (_, d) => uptoBulk d + 1
 end
def uptoSmall : (H : Type) → List (DataW H) → Bool := fun _ ds => decide (uptoBulkAll ds ≤ 1048576)
def OpenSpec.upto (s : _root_.Go.ChangeSpec) : _root_.Go.OpenSpec := { _root_.Go.OpenSpec.ofChange s with cond := some uptoSmall }

/-- 'conciliatorlaw18.ProjSounds', WHERE WHAT IT READS IS OF BULK AT MOST 1048576: true; the input reads as it did. -/
def projSoundsUptoRow : OpenClaim := { program := "ytggkidnlmaindaadoor", sum := "83142f42ec516398d79be91a9281e5c4b7287dc3fe632ffeafd6ee8ea60a160e", func := "conciliator/conciliatorlaw18.ProjSounds", spec := "projSounds", unfollowed := true, recurses := true, named := ["unicode/utf8.first", "unicode/utf8.acceptRanges"], apart := false, laid := [("unicode/utf8.acceptRanges", laid_unicode_utf8_acceptRanges), ("unicode/utf8.first", laid_unicode_utf8_first)], narrowed := true }
def ProjSoundsUptoSaid : Prop := projSoundsUptoRow.holds Tryd.pinned (OpenSpec.upto projSoundsSpec)

/-- 'conciliatorlaw18.ProjMeets', WHERE WHAT IT READS IS OF BULK AT MOST 1048576: true; the input reads as it did. -/
def projMeetsUptoRow : OpenClaim := { program := "ytggkidnlmaindaadoor", sum := "83142f42ec516398d79be91a9281e5c4b7287dc3fe632ffeafd6ee8ea60a160e", func := "conciliator/conciliatorlaw18.ProjMeets", spec := "projMeets", unfollowed := true, recurses := true, named := ["unicode/utf8.first", "unicode/utf8.acceptRanges"], apart := false, laid := [("unicode/utf8.acceptRanges", laid_unicode_utf8_acceptRanges), ("unicode/utf8.first", laid_unicode_utf8_first)], narrowed := true }
def ProjMeetsUptoSaid : Prop := projMeetsUptoRow.holds Tryd.pinned (OpenSpec.upto projMeetsSpec)

/-- 'conciliatorlaw18.ProjWithin', WHERE WHAT IT READS IS OF BULK AT MOST 1048576: true; the input reads as it did. -/
def projWithinUptoRow : OpenClaim := { program := "ytggkidnlmaindaadoor", sum := "83142f42ec516398d79be91a9281e5c4b7287dc3fe632ffeafd6ee8ea60a160e", func := "conciliator/conciliatorlaw18.ProjWithin", spec := "projWithin", unfollowed := true, recurses := true, named := ["unicode/utf8.first", "unicode/utf8.acceptRanges"], apart := false, laid := [("unicode/utf8.acceptRanges", laid_unicode_utf8_acceptRanges), ("unicode/utf8.first", laid_unicode_utf8_first)], narrowed := true }
def ProjWithinUptoSaid : Prop := projWithinUptoRow.holds Tryd.pinned (OpenSpec.upto projWithinSpec)

/-- 'conciliatorlaw18.ProjTwice', WHERE WHAT IT READS IS OF BULK AT MOST 1048576: true; the input reads as it did. -/
def projTwiceUptoRow : OpenClaim := { program := "ytggkidnlmaindaadoor", sum := "83142f42ec516398d79be91a9281e5c4b7287dc3fe632ffeafd6ee8ea60a160e", func := "conciliator/conciliatorlaw18.ProjTwice", spec := "projTwice", unfollowed := true, recurses := true, named := ["unicode/utf8.first", "unicode/utf8.acceptRanges"], apart := false, laid := [("unicode/utf8.acceptRanges", laid_unicode_utf8_acceptRanges), ("unicode/utf8.first", laid_unicode_utf8_first)], narrowed := true }
def ProjTwiceUptoSaid : Prop := projTwiceUptoRow.holds Tryd.pinned (OpenSpec.upto projTwiceSpec)

/-- 'conciliatorlaw18.ProjAll', WHERE WHAT IT READS IS OF BULK AT MOST 1048576: true; the input reads as it did. -/
def projAllUptoRow : OpenClaim := { program := "ytggkidnlmaindaadoor", sum := "83142f42ec516398d79be91a9281e5c4b7287dc3fe632ffeafd6ee8ea60a160e", func := "conciliator/conciliatorlaw18.ProjAll", spec := "projAll", unfollowed := true, recurses := true, named := ["unicode/utf8.first", "unicode/utf8.acceptRanges"], apart := false, laid := [("unicode/utf8.acceptRanges", laid_unicode_utf8_acceptRanges), ("unicode/utf8.first", laid_unicode_utf8_first)], narrowed := true }
def ProjAllUptoSaid : Prop := projAllUptoRow.holds Tryd.pinned (OpenSpec.upto projAllSpec)

end Rows
end Go.Proofs.YtggkidnlmaindaaDoor
