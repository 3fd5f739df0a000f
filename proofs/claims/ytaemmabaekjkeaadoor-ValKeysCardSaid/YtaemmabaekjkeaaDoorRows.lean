/-
  NARROWER THAN 'FOR EVERY INPUT', by the rows' own cells (each row's printed sentence says how): ValSounds: laid · ValSame: laid · ValCopy: laid · ValFields: laid · ValBuilt: laid · ValKeys: laid.
  DERIVED. THE GIVEN ROWS OF THIS SEAT. 6 by the template 'for every input the law returns true; each argument reads behind the call as it read before'; 0 by the template 'total and deterministic' (their statements: YtaemmabaekjkeaaDoorTotals.lean).
  GIVEN WITH THE SEED: the statements are not yours to turn. If you find one false, say at which input.
  Laid BY PROGRAM, IN A SANDBOX (cutbox-rows.mjs): the forced cells as the released guide's own fill.sh prints them over the translation 65a738d65f61673c… (all of the seat's roots in one cut). By AI agents, Wed Nov 11 2026. No macro, syntax, notation, axiom, sorry.
-/
import Derived.Test.YtaemmabaekjkeaaDoorChecked
import GoSem.PinnedTables
import GoSem.Claim
import GoSem.ClaimJoined
import GoSem.ClaimMapViews
import Derived.JoinedTies
import Derived.KernelRfl
namespace Go.Proofs.YtaemmabaekjkeaaDoor
/- THE CELL 'sum', in the pinned program and in every row, IS THE sha256 OF THE DUMP (.gsa) THAT YtaemmabaekjkeaaDoorProg.lean LOADS. Nothing in Lean hashes anything: it is a label: what it is worth is what the hold of that sum in a sandbox is worth. -/
noncomputable def Tryd.pinned : Pinned := { name := "ytaemmabaekjkeaadoor", sum := "65a738d65f61673c2b24117912d06e09f10b8dd0a0b9d71032f5e0cab185e7f3", checked := Tryd.checked }
namespace Rows
def none {H : Type} : Left H := { results := [], args := [] }

/- WHAT THE LISTED PACKAGE-LEVEL VARIABLES READ AS WHEN THE CALL BEGINS. Each datum BY PROGRAM (the guide's laid-datum.mjs) off the statement by which the dump's own 'gosem.cut.vars' lays the variable. In a bare row this is a premise. The card (YtaemmabaekjkeaaDoorCards.lean) ties it to the program's text. -/
def laid_unicode_utf8_acceptRanges {H : Type} : DataW H := .agg [.agg [.lit (.int .u8 128), .lit (.int .u8 191)], .agg [.lit (.int .u8 160), .lit (.int .u8 191)], .agg [.lit (.int .u8 128), .lit (.int .u8 159)], .agg [.lit (.int .u8 144), .lit (.int .u8 191)], .agg [.lit (.int .u8 128), .lit (.int .u8 143)], .agg [.lit (.int .u8 0), .lit (.int .u8 0)], .agg [.lit (.int .u8 0), .lit (.int .u8 0)], .agg [.lit (.int .u8 0), .lit (.int .u8 0)], .agg [.lit (.int .u8 0), .lit (.int .u8 0)], .agg [.lit (.int .u8 0), .lit (.int .u8 0)], .agg [.lit (.int .u8 0), .lit (.int .u8 0)], .agg [.lit (.int .u8 0), .lit (.int .u8 0)], .agg [.lit (.int .u8 0), .lit (.int .u8 0)], .agg [.lit (.int .u8 0), .lit (.int .u8 0)], .agg [.lit (.int .u8 0), .lit (.int .u8 0)], .agg [.lit (.int .u8 0), .lit (.int .u8 0)]]
/-- One of Go's own tables, pinned by name: the form's constant. -/
def laid_unicode_utf8_first : DataW Unit := Go.Pinned.utf8First

/-- 'conciliatorlaw01.ValSounds': WHATEVER THE INPUT: true; the input reads as it did. -/
def valSoundsSpec : ChangeSpec := { name := "valSounds", fn := fun _ => fun
  | [d] => { results := [.lit (.bool true)], args := [d] }
  | _ => none }
def valSoundsRow : OpenClaim := { program := "ytaemmabaekjkeaadoor", sum := "65a738d65f61673c2b24117912d06e09f10b8dd0a0b9d71032f5e0cab185e7f3", func := "conciliator/conciliatorlaw01.ValSounds", spec := "valSounds", unfollowed := true, recurses := true, named := ["unicode/utf8.first", "unicode/utf8.acceptRanges"], apart := false, laid := [("unicode/utf8.acceptRanges", laid_unicode_utf8_acceptRanges), ("unicode/utf8.first", laid_unicode_utf8_first)] }
def ValSoundsSaid : Prop := valSoundsRow.holds Tryd.pinned (OpenSpec.ofChange valSoundsSpec)

/-- ITS FALSE NEIGHBOUR: 'it returns false'. Refute it at one input. -/
def valSoundsWrong : ChangeSpec := { name := "valSounds", fn := fun _ => fun
  | [d] => { results := [.lit (.bool false)], args := [d] }
  | _ => none }
def ValSoundsWrongFalsely : Prop := valSoundsRow.holds Tryd.pinned (OpenSpec.ofChange valSoundsWrong)

/-- 'conciliatorlaw01.ValSame': WHATEVER THE INPUT: true; the input reads as it did. -/
def valSameSpec : ChangeSpec := { name := "valSame", fn := fun _ => fun
  | [d1, d2] => { results := [.lit (.bool true)], args := [d1, d2] }
  | _ => none }
def valSameRow : OpenClaim := { program := "ytaemmabaekjkeaadoor", sum := "65a738d65f61673c2b24117912d06e09f10b8dd0a0b9d71032f5e0cab185e7f3", func := "conciliator/conciliatorlaw01.ValSame", spec := "valSame", unfollowed := true, recurses := true, named := ["unicode/utf8.first", "unicode/utf8.acceptRanges"], apart := false, laid := [("unicode/utf8.acceptRanges", laid_unicode_utf8_acceptRanges), ("unicode/utf8.first", laid_unicode_utf8_first)] }
def ValSameSaid : Prop := valSameRow.holds Tryd.pinned (OpenSpec.ofChange valSameSpec)

/-- ITS FALSE NEIGHBOUR: 'it returns false'. Refute it at one input. -/
def valSameWrong : ChangeSpec := { name := "valSame", fn := fun _ => fun
  | [d1, d2] => { results := [.lit (.bool false)], args := [d1, d2] }
  | _ => none }
def ValSameWrongFalsely : Prop := valSameRow.holds Tryd.pinned (OpenSpec.ofChange valSameWrong)

/-- 'conciliatorlaw01.ValCopy': WHATEVER THE INPUT: true; the input reads as it did. -/
def valCopySpec : ChangeSpec := { name := "valCopy", fn := fun _ => fun
  | [d] => { results := [.lit (.bool true)], args := [d] }
  | _ => none }
def valCopyRow : OpenClaim := { program := "ytaemmabaekjkeaadoor", sum := "65a738d65f61673c2b24117912d06e09f10b8dd0a0b9d71032f5e0cab185e7f3", func := "conciliator/conciliatorlaw01.ValCopy", spec := "valCopy", unfollowed := true, recurses := true, named := ["unicode/utf8.first", "unicode/utf8.acceptRanges"], apart := false, laid := [("unicode/utf8.acceptRanges", laid_unicode_utf8_acceptRanges), ("unicode/utf8.first", laid_unicode_utf8_first)] }
def ValCopySaid : Prop := valCopyRow.holds Tryd.pinned (OpenSpec.ofChange valCopySpec)

/-- ITS FALSE NEIGHBOUR: 'it returns false'. Refute it at one input. -/
def valCopyWrong : ChangeSpec := { name := "valCopy", fn := fun _ => fun
  | [d] => { results := [.lit (.bool false)], args := [d] }
  | _ => none }
def ValCopyWrongFalsely : Prop := valCopyRow.holds Tryd.pinned (OpenSpec.ofChange valCopyWrong)

/-- 'conciliatorlaw01.ValFields': WHATEVER THE INPUT: true; the input reads as it did. -/
def valFieldsSpec : ChangeSpec := { name := "valFields", fn := fun _ => fun
  | [d1, d2] => { results := [.lit (.bool true)], args := [d1, d2] }
  | _ => none }
def valFieldsRow : OpenClaim := { program := "ytaemmabaekjkeaadoor", sum := "65a738d65f61673c2b24117912d06e09f10b8dd0a0b9d71032f5e0cab185e7f3", func := "conciliator/conciliatorlaw01.ValFields", spec := "valFields", unfollowed := true, recurses := true, named := ["unicode/utf8.first", "unicode/utf8.acceptRanges"], apart := false, laid := [("unicode/utf8.acceptRanges", laid_unicode_utf8_acceptRanges), ("unicode/utf8.first", laid_unicode_utf8_first)] }
def ValFieldsSaid : Prop := valFieldsRow.holds Tryd.pinned (OpenSpec.ofChange valFieldsSpec)

/-- ITS FALSE NEIGHBOUR: 'it returns false'. Refute it at one input. -/
def valFieldsWrong : ChangeSpec := { name := "valFields", fn := fun _ => fun
  | [d1, d2] => { results := [.lit (.bool false)], args := [d1, d2] }
  | _ => none }
def ValFieldsWrongFalsely : Prop := valFieldsRow.holds Tryd.pinned (OpenSpec.ofChange valFieldsWrong)

/-- 'conciliatorlaw01.ValBuilt': WHATEVER THE INPUT: true; the input reads as it did. -/
def valBuiltSpec : ChangeSpec := { name := "valBuilt", fn := fun _ => fun
  | [d1, d2, d3] => { results := [.lit (.bool true)], args := [d1, d2, d3] }
  | _ => none }
def valBuiltRow : OpenClaim := { program := "ytaemmabaekjkeaadoor", sum := "65a738d65f61673c2b24117912d06e09f10b8dd0a0b9d71032f5e0cab185e7f3", func := "conciliator/conciliatorlaw01.ValBuilt", spec := "valBuilt", unfollowed := true, recurses := true, named := ["unicode/utf8.first", "unicode/utf8.acceptRanges"], apart := false, laid := [("unicode/utf8.acceptRanges", laid_unicode_utf8_acceptRanges), ("unicode/utf8.first", laid_unicode_utf8_first)] }
def ValBuiltSaid : Prop := valBuiltRow.holds Tryd.pinned (OpenSpec.ofChange valBuiltSpec)

/-- ITS FALSE NEIGHBOUR: 'it returns false'. Refute it at one input. -/
def valBuiltWrong : ChangeSpec := { name := "valBuilt", fn := fun _ => fun
  | [d1, d2, d3] => { results := [.lit (.bool false)], args := [d1, d2, d3] }
  | _ => none }
def ValBuiltWrongFalsely : Prop := valBuiltRow.holds Tryd.pinned (OpenSpec.ofChange valBuiltWrong)

/-- 'conciliatorlaw01.ValKeys': WHATEVER THE INPUT: true; the input reads as it did. -/
def valKeysSpec : ChangeSpec := { name := "valKeys", fn := fun _ => fun
  | [d1, d2, d3] => { results := [.lit (.bool true)], args := [d1, d2, d3] }
  | _ => none }
def valKeysRow : OpenClaim := { program := "ytaemmabaekjkeaadoor", sum := "65a738d65f61673c2b24117912d06e09f10b8dd0a0b9d71032f5e0cab185e7f3", func := "conciliator/conciliatorlaw01.ValKeys", spec := "valKeys", unfollowed := true, recurses := true, named := ["unicode/utf8.first", "unicode/utf8.acceptRanges"], apart := false, laid := [("unicode/utf8.acceptRanges", laid_unicode_utf8_acceptRanges), ("unicode/utf8.first", laid_unicode_utf8_first)] }
def ValKeysSaid : Prop := valKeysRow.holds Tryd.pinned (OpenSpec.ofChange valKeysSpec)

/-- ITS FALSE NEIGHBOUR: 'it returns false'. Refute it at one input. -/
def valKeysWrong : ChangeSpec := { name := "valKeys", fn := fun _ => fun
  | [d1, d2, d3] => { results := [.lit (.bool false)], args := [d1, d2, d3] }
  | _ => none }
def ValKeysWrongFalsely : Prop := valKeysRow.holds Tryd.pinned (OpenSpec.ofChange valKeysWrong)

/- THE SECOND FORM. 'bulk': how many values and letters a reading holds, each counted each time it is reached (what is shared counts as often as it is met; a slice's spare places count too). A statement '..UptoSaid' is the law's where the arguments, and the package variables that the reading takes, are together of bulk at most 1048576: NARROWER than '..Said'. Prove '..Said' where nothing that the law and all that it calls make is longer than what came in: it says more and counts as full. Else prove '..UptoSaid'. A law counts once. -/
mutual
def uptoBulk {H : Type} : DataW H → Nat
  | .lit (.string bytes) => bytes.length + 1
  | .lit _ => 1
  | .nil => 1
  | .ptr d => uptoBulk d + 1
  | .slice elems spare => uptoBulkAll elems + uptoBulkAll spare + 1
  | .agg parts => uptoBulkAll parts + 1
  | .iface _ d => uptoBulk d + 1
  | .map entries => uptoBulkEntries entries + 1
  | .held _ => 1
def uptoBulkAll {H : Type} : List (DataW H) → Nat
  | [] => 0
  | d :: r => uptoBulk d + uptoBulkAll r
def uptoBulkEntries {H : Type} : List (Lit × DataW H) → Nat
  | [] => 0
  | x :: r => uptoBulkEntry x + uptoBulkEntries r
def uptoBulkEntry {H : Type} : Lit × DataW H → Nat
  | (.string bytes, d) => bytes.length + uptoBulk d + 1
  | (_, d) => uptoBulk d + 1
 end
def uptoSmall : (H : Type) → List (DataW H) → Bool := fun _ ds => decide (uptoBulkAll ds ≤ 1048576)
def OpenSpec.upto (s : _root_.Go.ChangeSpec) : _root_.Go.OpenSpec := { _root_.Go.OpenSpec.ofChange s with cond := some uptoSmall }

/-- 'conciliatorlaw01.ValSounds', WHERE WHAT IT READS IS OF BULK AT MOST 1048576: true; the input reads as it did. -/
def valSoundsUptoRow : OpenClaim := { program := "ytaemmabaekjkeaadoor", sum := "65a738d65f61673c2b24117912d06e09f10b8dd0a0b9d71032f5e0cab185e7f3", func := "conciliator/conciliatorlaw01.ValSounds", spec := "valSounds", unfollowed := true, recurses := true, named := ["unicode/utf8.first", "unicode/utf8.acceptRanges"], apart := false, laid := [("unicode/utf8.acceptRanges", laid_unicode_utf8_acceptRanges), ("unicode/utf8.first", laid_unicode_utf8_first)], narrowed := true }
def ValSoundsUptoSaid : Prop := valSoundsUptoRow.holds Tryd.pinned (OpenSpec.upto valSoundsSpec)

/-- 'conciliatorlaw01.ValSame', WHERE WHAT IT READS IS OF BULK AT MOST 1048576: true; the input reads as it did. -/
def valSameUptoRow : OpenClaim := { program := "ytaemmabaekjkeaadoor", sum := "65a738d65f61673c2b24117912d06e09f10b8dd0a0b9d71032f5e0cab185e7f3", func := "conciliator/conciliatorlaw01.ValSame", spec := "valSame", unfollowed := true, recurses := true, named := ["unicode/utf8.first", "unicode/utf8.acceptRanges"], apart := false, laid := [("unicode/utf8.acceptRanges", laid_unicode_utf8_acceptRanges), ("unicode/utf8.first", laid_unicode_utf8_first)], narrowed := true }
def ValSameUptoSaid : Prop := valSameUptoRow.holds Tryd.pinned (OpenSpec.upto valSameSpec)

/-- 'conciliatorlaw01.ValCopy', WHERE WHAT IT READS IS OF BULK AT MOST 1048576: true; the input reads as it did. -/
def valCopyUptoRow : OpenClaim := { program := "ytaemmabaekjkeaadoor", sum := "65a738d65f61673c2b24117912d06e09f10b8dd0a0b9d71032f5e0cab185e7f3", func := "conciliator/conciliatorlaw01.ValCopy", spec := "valCopy", unfollowed := true, recurses := true, named := ["unicode/utf8.first", "unicode/utf8.acceptRanges"], apart := false, laid := [("unicode/utf8.acceptRanges", laid_unicode_utf8_acceptRanges), ("unicode/utf8.first", laid_unicode_utf8_first)], narrowed := true }
def ValCopyUptoSaid : Prop := valCopyUptoRow.holds Tryd.pinned (OpenSpec.upto valCopySpec)

/-- 'conciliatorlaw01.ValFields', WHERE WHAT IT READS IS OF BULK AT MOST 1048576: true; the input reads as it did. -/
def valFieldsUptoRow : OpenClaim := { program := "ytaemmabaekjkeaadoor", sum := "65a738d65f61673c2b24117912d06e09f10b8dd0a0b9d71032f5e0cab185e7f3", func := "conciliator/conciliatorlaw01.ValFields", spec := "valFields", unfollowed := true, recurses := true, named := ["unicode/utf8.first", "unicode/utf8.acceptRanges"], apart := false, laid := [("unicode/utf8.acceptRanges", laid_unicode_utf8_acceptRanges), ("unicode/utf8.first", laid_unicode_utf8_first)], narrowed := true }
def ValFieldsUptoSaid : Prop := valFieldsUptoRow.holds Tryd.pinned (OpenSpec.upto valFieldsSpec)

/-- 'conciliatorlaw01.ValBuilt', WHERE WHAT IT READS IS OF BULK AT MOST 1048576: true; the input reads as it did. -/
def valBuiltUptoRow : OpenClaim := { program := "ytaemmabaekjkeaadoor", sum := "65a738d65f61673c2b24117912d06e09f10b8dd0a0b9d71032f5e0cab185e7f3", func := "conciliator/conciliatorlaw01.ValBuilt", spec := "valBuilt", unfollowed := true, recurses := true, named := ["unicode/utf8.first", "unicode/utf8.acceptRanges"], apart := false, laid := [("unicode/utf8.acceptRanges", laid_unicode_utf8_acceptRanges), ("unicode/utf8.first", laid_unicode_utf8_first)], narrowed := true }
def ValBuiltUptoSaid : Prop := valBuiltUptoRow.holds Tryd.pinned (OpenSpec.upto valBuiltSpec)

/-- 'conciliatorlaw01.ValKeys', WHERE WHAT IT READS IS OF BULK AT MOST 1048576: true; the input reads as it did. -/
def valKeysUptoRow : OpenClaim := { program := "ytaemmabaekjkeaadoor", sum := "65a738d65f61673c2b24117912d06e09f10b8dd0a0b9d71032f5e0cab185e7f3", func := "conciliator/conciliatorlaw01.ValKeys", spec := "valKeys", unfollowed := true, recurses := true, named := ["unicode/utf8.first", "unicode/utf8.acceptRanges"], apart := false, laid := [("unicode/utf8.acceptRanges", laid_unicode_utf8_acceptRanges), ("unicode/utf8.first", laid_unicode_utf8_first)], narrowed := true }
def ValKeysUptoSaid : Prop := valKeysUptoRow.holds Tryd.pinned (OpenSpec.upto valKeysSpec)

end Rows
end Go.Proofs.YtaemmabaekjkeaaDoor
