/-
  NARROWER THAN 'FOR EVERY INPUT', by the rows' own cells (each row's printed sentence says how): PathOwn: laid · PathDeep: laid · PathGets: laid · PathWalks: laid · PathBack: laid · PathSounds: laid · PathApart: laid.
  DERIVED. THE GIVEN ROWS OF THIS SEAT. 7 by the template 'for every input the law returns true; each argument reads behind the call as it read before'; 0 by the template 'total and deterministic' (their statements: YtjdpljjbgggpiaaDoorTotals.lean).
  GIVEN WITH THE SEED: the statements are not yours to turn. If you find one false, say at which input.
  Laid BY PROGRAM, IN A SANDBOX (cutbox-rows.mjs): the forced cells as the released guide's own fill.sh prints them over the translation 8fe1bcd46298c823… (all of the seat's roots in one cut). By AI agents, Wed Nov 11 2026. No macro, syntax, notation, axiom, sorry.
-/
import Derived.Test.YtjdpljjbgggpiaaDoorChecked
import GoSem.PinnedTables
import GoSem.Claim
import GoSem.ClaimJoined
import GoSem.ClaimMapViews
import Derived.JoinedTies
import Derived.KernelRfl
namespace Go.Proofs.YtjdpljjbgggpiaaDoor
/- THE CELL 'sum', in the pinned program and in every row, IS THE sha256 OF THE DUMP (.gsa) THAT YtjdpljjbgggpiaaDoorProg.lean LOADS. Nothing in Lean hashes anything: it is a label: what it is worth is what the hold of that sum in a sandbox is worth. -/
noncomputable def Tryd.pinned : Pinned := { name := "ytjdpljjbgggpiaadoor", sum := "8fe1bcd46298c823152f87e4122087242242c41d5460f153ace4d4578708b38b", checked := Tryd.checked }
namespace Rows
def none {H : Type} : Left H := { results := [], args := [] }

/- WHAT THE LISTED PACKAGE-LEVEL VARIABLES READ AS WHEN THE CALL BEGINS. Each datum BY PROGRAM (the guide's laid-datum.mjs) off the statement by which the dump's own 'gosem.cut.vars' lays the variable. In a bare row this is a premise. The card (YtjdpljjbgggpiaaDoorCards.lean) ties it to the program's text. -/
def laid_unicode_utf8_acceptRanges {H : Type} : DataW H := .agg [.agg [.lit (.int .u8 128), .lit (.int .u8 191)], .agg [.lit (.int .u8 160), .lit (.int .u8 191)], .agg [.lit (.int .u8 128), .lit (.int .u8 159)], .agg [.lit (.int .u8 144), .lit (.int .u8 191)], .agg [.lit (.int .u8 128), .lit (.int .u8 143)], .agg [.lit (.int .u8 0), .lit (.int .u8 0)], .agg [.lit (.int .u8 0), .lit (.int .u8 0)], .agg [.lit (.int .u8 0), .lit (.int .u8 0)], .agg [.lit (.int .u8 0), .lit (.int .u8 0)], .agg [.lit (.int .u8 0), .lit (.int .u8 0)], .agg [.lit (.int .u8 0), .lit (.int .u8 0)], .agg [.lit (.int .u8 0), .lit (.int .u8 0)], .agg [.lit (.int .u8 0), .lit (.int .u8 0)], .agg [.lit (.int .u8 0), .lit (.int .u8 0)], .agg [.lit (.int .u8 0), .lit (.int .u8 0)], .agg [.lit (.int .u8 0), .lit (.int .u8 0)]]
/-- One of Go's own tables, pinned by name: the form's constant. -/
def laid_unicode_utf8_first : DataW Unit := Go.Pinned.utf8First

/-- 'conciliatorlaw03.PathOwn': WHATEVER THE INPUT: true; the input reads as it did. -/
def pathOwnSpec : ChangeSpec := { name := "pathOwn", fn := fun _ => fun
  | [d1, d2] => { results := [.lit (.bool true)], args := [d1, d2] }
  | _ => none }
def pathOwnRow : OpenClaim := { program := "ytjdpljjbgggpiaadoor", sum := "8fe1bcd46298c823152f87e4122087242242c41d5460f153ace4d4578708b38b", func := "conciliator/conciliatorlaw03.PathOwn", spec := "pathOwn", unfollowed := true, recurses := true, named := ["unicode/utf8.first", "unicode/utf8.acceptRanges"], apart := false, laid := [("unicode/utf8.acceptRanges", laid_unicode_utf8_acceptRanges), ("unicode/utf8.first", laid_unicode_utf8_first)] }
def PathOwnSaid : Prop := pathOwnRow.holds Tryd.pinned (OpenSpec.ofChange pathOwnSpec)

/-- ITS FALSE NEIGHBOUR: 'it returns false'. Refute it at one input. -/
def pathOwnWrong : ChangeSpec := { name := "pathOwn", fn := fun _ => fun
  | [d1, d2] => { results := [.lit (.bool false)], args := [d1, d2] }
  | _ => none }
def PathOwnWrongFalsely : Prop := pathOwnRow.holds Tryd.pinned (OpenSpec.ofChange pathOwnWrong)

/-- 'conciliatorlaw03.PathDeep': WHATEVER THE INPUT: true; the input reads as it did. -/
def pathDeepSpec : ChangeSpec := { name := "pathDeep", fn := fun _ => fun
  | [d1, d2, d3, d4] => { results := [.lit (.bool true)], args := [d1, d2, d3, d4] }
  | _ => none }
def pathDeepRow : OpenClaim := { program := "ytjdpljjbgggpiaadoor", sum := "8fe1bcd46298c823152f87e4122087242242c41d5460f153ace4d4578708b38b", func := "conciliator/conciliatorlaw03.PathDeep", spec := "pathDeep", unfollowed := true, recurses := true, named := ["unicode/utf8.first", "unicode/utf8.acceptRanges"], apart := false, laid := [("unicode/utf8.acceptRanges", laid_unicode_utf8_acceptRanges), ("unicode/utf8.first", laid_unicode_utf8_first)] }
def PathDeepSaid : Prop := pathDeepRow.holds Tryd.pinned (OpenSpec.ofChange pathDeepSpec)

/-- ITS FALSE NEIGHBOUR: 'it returns false'. Refute it at one input. -/
def pathDeepWrong : ChangeSpec := { name := "pathDeep", fn := fun _ => fun
  | [d1, d2, d3, d4] => { results := [.lit (.bool false)], args := [d1, d2, d3, d4] }
  | _ => none }
def PathDeepWrongFalsely : Prop := pathDeepRow.holds Tryd.pinned (OpenSpec.ofChange pathDeepWrong)

/-- 'conciliatorlaw03.PathGets': WHATEVER THE INPUT: true; the input reads as it did. -/
def pathGetsSpec : ChangeSpec := { name := "pathGets", fn := fun _ => fun
  | [d1, d2, d3] => { results := [.lit (.bool true)], args := [d1, d2, d3] }
  | _ => none }
def pathGetsRow : OpenClaim := { program := "ytjdpljjbgggpiaadoor", sum := "8fe1bcd46298c823152f87e4122087242242c41d5460f153ace4d4578708b38b", func := "conciliator/conciliatorlaw03.PathGets", spec := "pathGets", unfollowed := true, recurses := true, named := ["unicode/utf8.first", "unicode/utf8.acceptRanges"], apart := false, laid := [("unicode/utf8.acceptRanges", laid_unicode_utf8_acceptRanges), ("unicode/utf8.first", laid_unicode_utf8_first)] }
def PathGetsSaid : Prop := pathGetsRow.holds Tryd.pinned (OpenSpec.ofChange pathGetsSpec)

/-- ITS FALSE NEIGHBOUR: 'it returns false'. Refute it at one input. -/
def pathGetsWrong : ChangeSpec := { name := "pathGets", fn := fun _ => fun
  | [d1, d2, d3] => { results := [.lit (.bool false)], args := [d1, d2, d3] }
  | _ => none }
def PathGetsWrongFalsely : Prop := pathGetsRow.holds Tryd.pinned (OpenSpec.ofChange pathGetsWrong)

/-- 'conciliatorlaw03.PathWalks': WHATEVER THE INPUT: true; the input reads as it did. -/
def pathWalksSpec : ChangeSpec := { name := "pathWalks", fn := fun _ => fun
  | [d1, d2, d3] => { results := [.lit (.bool true)], args := [d1, d2, d3] }
  | _ => none }
def pathWalksRow : OpenClaim := { program := "ytjdpljjbgggpiaadoor", sum := "8fe1bcd46298c823152f87e4122087242242c41d5460f153ace4d4578708b38b", func := "conciliator/conciliatorlaw03.PathWalks", spec := "pathWalks", unfollowed := true, recurses := true, named := ["unicode/utf8.first", "unicode/utf8.acceptRanges"], apart := false, laid := [("unicode/utf8.acceptRanges", laid_unicode_utf8_acceptRanges), ("unicode/utf8.first", laid_unicode_utf8_first)] }
def PathWalksSaid : Prop := pathWalksRow.holds Tryd.pinned (OpenSpec.ofChange pathWalksSpec)

/-- ITS FALSE NEIGHBOUR: 'it returns false'. Refute it at one input. -/
def pathWalksWrong : ChangeSpec := { name := "pathWalks", fn := fun _ => fun
  | [d1, d2, d3] => { results := [.lit (.bool false)], args := [d1, d2, d3] }
  | _ => none }
def PathWalksWrongFalsely : Prop := pathWalksRow.holds Tryd.pinned (OpenSpec.ofChange pathWalksWrong)

/-- 'conciliatorlaw03.PathBack': WHATEVER THE INPUT: true; the input reads as it did. -/
def pathBackSpec : ChangeSpec := { name := "pathBack", fn := fun _ => fun
  | [d1, d2, d3] => { results := [.lit (.bool true)], args := [d1, d2, d3] }
  | _ => none }
def pathBackRow : OpenClaim := { program := "ytjdpljjbgggpiaadoor", sum := "8fe1bcd46298c823152f87e4122087242242c41d5460f153ace4d4578708b38b", func := "conciliator/conciliatorlaw03.PathBack", spec := "pathBack", unfollowed := true, recurses := true, named := ["unicode/utf8.first", "unicode/utf8.acceptRanges"], apart := false, laid := [("unicode/utf8.acceptRanges", laid_unicode_utf8_acceptRanges), ("unicode/utf8.first", laid_unicode_utf8_first)] }
def PathBackSaid : Prop := pathBackRow.holds Tryd.pinned (OpenSpec.ofChange pathBackSpec)

/-- ITS FALSE NEIGHBOUR: 'it returns false'. Refute it at one input. -/
def pathBackWrong : ChangeSpec := { name := "pathBack", fn := fun _ => fun
  | [d1, d2, d3] => { results := [.lit (.bool false)], args := [d1, d2, d3] }
  | _ => none }
def PathBackWrongFalsely : Prop := pathBackRow.holds Tryd.pinned (OpenSpec.ofChange pathBackWrong)

/-- 'conciliatorlaw03.PathSounds': WHATEVER THE INPUT: true; the input reads as it did. -/
def pathSoundsSpec : ChangeSpec := { name := "pathSounds", fn := fun _ => fun
  | [d1, d2, d3] => { results := [.lit (.bool true)], args := [d1, d2, d3] }
  | _ => none }
def pathSoundsRow : OpenClaim := { program := "ytjdpljjbgggpiaadoor", sum := "8fe1bcd46298c823152f87e4122087242242c41d5460f153ace4d4578708b38b", func := "conciliator/conciliatorlaw03.PathSounds", spec := "pathSounds", unfollowed := true, recurses := true, named := ["unicode/utf8.first", "unicode/utf8.acceptRanges"], apart := false, laid := [("unicode/utf8.acceptRanges", laid_unicode_utf8_acceptRanges), ("unicode/utf8.first", laid_unicode_utf8_first)] }
def PathSoundsSaid : Prop := pathSoundsRow.holds Tryd.pinned (OpenSpec.ofChange pathSoundsSpec)

/-- ITS FALSE NEIGHBOUR: 'it returns false'. Refute it at one input. -/
def pathSoundsWrong : ChangeSpec := { name := "pathSounds", fn := fun _ => fun
  | [d1, d2, d3] => { results := [.lit (.bool false)], args := [d1, d2, d3] }
  | _ => none }
def PathSoundsWrongFalsely : Prop := pathSoundsRow.holds Tryd.pinned (OpenSpec.ofChange pathSoundsWrong)

/-- 'conciliatorlaw03.PathApart': WHATEVER THE INPUT: true; the input reads as it did. -/
def pathApartSpec : ChangeSpec := { name := "pathApart", fn := fun _ => fun
  | [d1, d2, d3, d4] => { results := [.lit (.bool true)], args := [d1, d2, d3, d4] }
  | _ => none }
def pathApartRow : OpenClaim := { program := "ytjdpljjbgggpiaadoor", sum := "8fe1bcd46298c823152f87e4122087242242c41d5460f153ace4d4578708b38b", func := "conciliator/conciliatorlaw03.PathApart", spec := "pathApart", unfollowed := true, recurses := true, named := ["unicode/utf8.first", "unicode/utf8.acceptRanges"], apart := false, laid := [("unicode/utf8.acceptRanges", laid_unicode_utf8_acceptRanges), ("unicode/utf8.first", laid_unicode_utf8_first)] }
def PathApartSaid : Prop := pathApartRow.holds Tryd.pinned (OpenSpec.ofChange pathApartSpec)

/-- ITS FALSE NEIGHBOUR: 'it returns false'. Refute it at one input. -/
def pathApartWrong : ChangeSpec := { name := "pathApart", fn := fun _ => fun
  | [d1, d2, d3, d4] => { results := [.lit (.bool false)], args := [d1, d2, d3, d4] }
  | _ => none }
def PathApartWrongFalsely : Prop := pathApartRow.holds Tryd.pinned (OpenSpec.ofChange pathApartWrong)

/- THE SECOND FORM. 'bulk': how many values and letters a reading holds, each counted each time it is reached (what is shared counts as often as it is met; a slice's spare places count too). A statement '..UptoSaid' is the law's where the arguments, and the package variables that the reading takes, are together of bulk at most 1048576: NARROWER than '..Said'. Prove '..Said' where nothing that the law and all that it calls make is longer than what came in: it says more and counts as full. Else prove '..UptoSaid'. A law counts once. -/
mutual
def uptoBulk {H : Type} : DataW H → Nat
  | .lit (.string bytes) => bytes.length + 1
  | .lit _ => 1
  | .nil => 1
  | .ptr d => uptoBulk d + 1
  | .slice elems spare => uptoBulkAll elems + uptoBulkAll spare + 1
  | .agg parts => uptoBulkAll parts + 1
  | .iface _ d => uptoBulk d + 1
  | .map entries => uptoBulkEntries entries + 1
  | .held _ => 1
def uptoBulkAll {H : Type} : List (DataW H) → Nat
  | [] => 0
  | d :: r => uptoBulk d + uptoBulkAll r
def uptoBulkEntries {H : Type} : List (Lit × DataW H) → Nat
  | [] => 0
  | x :: r => uptoBulkEntry x + uptoBulkEntries r
def uptoBulkEntry {H : Type} : Lit × DataW H → Nat
  | (.string bytes, d) => bytes.length + uptoBulk d + 1
  | (_, d) => uptoBulk d + 1
 end
def uptoSmall : (H : Type) → List (DataW H) → Bool := fun _ ds => decide (uptoBulkAll ds ≤ 1048576)
def OpenSpec.upto (s : _root_.Go.ChangeSpec) : _root_.Go.OpenSpec := { _root_.Go.OpenSpec.ofChange s with cond := some uptoSmall }

/-- 'conciliatorlaw03.PathOwn', WHERE WHAT IT READS IS OF BULK AT MOST 1048576: true; the input reads as it did. -/
def pathOwnUptoRow : OpenClaim := { program := "ytjdpljjbgggpiaadoor", sum := "8fe1bcd46298c823152f87e4122087242242c41d5460f153ace4d4578708b38b", func := "conciliator/conciliatorlaw03.PathOwn", spec := "pathOwn", unfollowed := true, recurses := true, named := ["unicode/utf8.first", "unicode/utf8.acceptRanges"], apart := false, laid := [("unicode/utf8.acceptRanges", laid_unicode_utf8_acceptRanges), ("unicode/utf8.first", laid_unicode_utf8_first)], narrowed := true }
def PathOwnUptoSaid : Prop := pathOwnUptoRow.holds Tryd.pinned (OpenSpec.upto pathOwnSpec)

/-- 'conciliatorlaw03.PathDeep', WHERE WHAT IT READS IS OF BULK AT MOST 1048576: true; the input reads as it did. -/
def pathDeepUptoRow : OpenClaim := { program := "ytjdpljjbgggpiaadoor", sum := "8fe1bcd46298c823152f87e4122087242242c41d5460f153ace4d4578708b38b", func := "conciliator/conciliatorlaw03.PathDeep", spec := "pathDeep", unfollowed := true, recurses := true, named := ["unicode/utf8.first", "unicode/utf8.acceptRanges"], apart := false, laid := [("unicode/utf8.acceptRanges", laid_unicode_utf8_acceptRanges), ("unicode/utf8.first", laid_unicode_utf8_first)], narrowed := true }
def PathDeepUptoSaid : Prop := pathDeepUptoRow.holds Tryd.pinned (OpenSpec.upto pathDeepSpec)

/-- 'conciliatorlaw03.PathGets', WHERE WHAT IT READS IS OF BULK AT MOST 1048576: true; the input reads as it did. -/
def pathGetsUptoRow : OpenClaim := { program := "ytjdpljjbgggpiaadoor", sum := "8fe1bcd46298c823152f87e4122087242242c41d5460f153ace4d4578708b38b", func := "conciliator/conciliatorlaw03.PathGets", spec := "pathGets", unfollowed := true, recurses := true, named := ["unicode/utf8.first", "unicode/utf8.acceptRanges"], apart := false, laid := [("unicode/utf8.acceptRanges", laid_unicode_utf8_acceptRanges), ("unicode/utf8.first", laid_unicode_utf8_first)], narrowed := true }
def PathGetsUptoSaid : Prop := pathGetsUptoRow.holds Tryd.pinned (OpenSpec.upto pathGetsSpec)

/-- 'conciliatorlaw03.PathWalks', WHERE WHAT IT READS IS OF BULK AT MOST 1048576: true; the input reads as it did. -/
def pathWalksUptoRow : OpenClaim := { program := "ytjdpljjbgggpiaadoor", sum := "8fe1bcd46298c823152f87e4122087242242c41d5460f153ace4d4578708b38b", func := "conciliator/conciliatorlaw03.PathWalks", spec := "pathWalks", unfollowed := true, recurses := true, named := ["unicode/utf8.first", "unicode/utf8.acceptRanges"], apart := false, laid := [("unicode/utf8.acceptRanges", laid_unicode_utf8_acceptRanges), ("unicode/utf8.first", laid_unicode_utf8_first)], narrowed := true }
def PathWalksUptoSaid : Prop := pathWalksUptoRow.holds Tryd.pinned (OpenSpec.upto pathWalksSpec)

/-- 'conciliatorlaw03.PathBack', WHERE WHAT IT READS IS OF BULK AT MOST 1048576: true; the input reads as it did. -/
def pathBackUptoRow : OpenClaim := { program := "ytjdpljjbgggpiaadoor", sum := "8fe1bcd46298c823152f87e4122087242242c41d5460f153ace4d4578708b38b", func := "conciliator/conciliatorlaw03.PathBack", spec := "pathBack", unfollowed := true, recurses := true, named := ["unicode/utf8.first", "unicode/utf8.acceptRanges"], apart := false, laid := [("unicode/utf8.acceptRanges", laid_unicode_utf8_acceptRanges), ("unicode/utf8.first", laid_unicode_utf8_first)], narrowed := true }
def PathBackUptoSaid : Prop := pathBackUptoRow.holds Tryd.pinned (OpenSpec.upto pathBackSpec)

/-- 'conciliatorlaw03.PathSounds', WHERE WHAT IT READS IS OF BULK AT MOST 1048576: true; the input reads as it did. -/
def pathSoundsUptoRow : OpenClaim := { program := "ytjdpljjbgggpiaadoor", sum := "8fe1bcd46298c823152f87e4122087242242c41d5460f153ace4d4578708b38b", func := "conciliator/conciliatorlaw03.PathSounds", spec := "pathSounds", unfollowed := true, recurses := true, named := ["unicode/utf8.first", "unicode/utf8.acceptRanges"], apart := false, laid := [("unicode/utf8.acceptRanges", laid_unicode_utf8_acceptRanges), ("unicode/utf8.first", laid_unicode_utf8_first)], narrowed := true }
def PathSoundsUptoSaid : Prop := pathSoundsUptoRow.holds Tryd.pinned (OpenSpec.upto pathSoundsSpec)

/-- 'conciliatorlaw03.PathApart', WHERE WHAT IT READS IS OF BULK AT MOST 1048576: true; the input reads as it did. -/
def pathApartUptoRow : OpenClaim := { program := "ytjdpljjbgggpiaadoor", sum := "8fe1bcd46298c823152f87e4122087242242c41d5460f153ace4d4578708b38b", func := "conciliator/conciliatorlaw03.PathApart", spec := "pathApart", unfollowed := true, recurses := true, named := ["unicode/utf8.first", "unicode/utf8.acceptRanges"], apart := false, laid := [("unicode/utf8.acceptRanges", laid_unicode_utf8_acceptRanges), ("unicode/utf8.first", laid_unicode_utf8_first)], narrowed := true }
def PathApartUptoSaid : Prop := pathApartUptoRow.holds Tryd.pinned (OpenSpec.upto pathApartSpec)

end Rows
end Go.Proofs.YtjdpljjbgggpiaaDoor
