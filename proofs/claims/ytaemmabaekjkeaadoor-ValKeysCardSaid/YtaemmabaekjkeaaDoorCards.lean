/-
  DERIVED. GIVEN WITH THE SEED: THE CARDS: each row of YtaemmabaekjkeaaDoorRows.lean that lists a variable, with what it lists TIED to the program's text (the seventh form; the later family's looks); each row that meets fmt, with fmt's text TOLD by the authors' own Lean function (tested against real Go, not proved from fmt's source: count such statements apart). THE CARD IS WHAT COUNTS. Prove the row's statement (the work); the ties are given (YtaemmabaekjkeaaDoorTie.lean); close each card by the builder's one call (the guide's Derived/Test/ToyasCard.lean, 'card_holds'). Laid BY PROGRAM, IN A SANDBOX (cutbox-door.mjs). By AI agents, Wed Nov 11 2026. No macro, syntax, notation, axiom, sorry.
-/
import Derived.Test.YtaemmabaekjkeaaDoorRows
import GoSem.ClaimSeven
namespace Go.Proofs.YtaemmabaekjkeaaDoor
namespace Rows

/-- THE TIED CARD OF 'conciliatorlaw01.ValSounds'. -/
def valSoundsCard : Claim7 := { stood := { row := valSoundsRow, standIns := [], harness := (true, "1c00cbd8d98d2f829237919e55062dc71612cafa9c5900c9e4cf412de2a2a724"), looks := false }, kinds := [], alts := [], laidByText := true, laidKinds := [.data, .pinned], laidTests := true, laidLooks := .later }
def ValSoundsCardSaid : Prop := Claim7.holds Tryd.pinned (.plain (OpenSpec.ofChange valSoundsSpec)) valSoundsCard

/-- THE TIED CARD OF 'conciliatorlaw01.ValSame'. -/
def valSameCard : Claim7 := { stood := { row := valSameRow, standIns := [], harness := (true, "1c00cbd8d98d2f829237919e55062dc71612cafa9c5900c9e4cf412de2a2a724"), looks := false }, kinds := [], alts := [], laidByText := true, laidKinds := [.data, .pinned], laidTests := true, laidLooks := .later }
def ValSameCardSaid : Prop := Claim7.holds Tryd.pinned (.plain (OpenSpec.ofChange valSameSpec)) valSameCard

/-- THE TIED CARD OF 'conciliatorlaw01.ValCopy'. -/
def valCopyCard : Claim7 := { stood := { row := valCopyRow, standIns := [], harness := (true, "1c00cbd8d98d2f829237919e55062dc71612cafa9c5900c9e4cf412de2a2a724"), looks := false }, kinds := [], alts := [], laidByText := true, laidKinds := [.data, .pinned], laidTests := true, laidLooks := .later }
def ValCopyCardSaid : Prop := Claim7.holds Tryd.pinned (.plain (OpenSpec.ofChange valCopySpec)) valCopyCard

/-- THE TIED CARD OF 'conciliatorlaw01.ValFields'. -/
def valFieldsCard : Claim7 := { stood := { row := valFieldsRow, standIns := [], harness := (true, "1c00cbd8d98d2f829237919e55062dc71612cafa9c5900c9e4cf412de2a2a724"), looks := false }, kinds := [], alts := [], laidByText := true, laidKinds := [.data, .pinned], laidTests := true, laidLooks := .later }
def ValFieldsCardSaid : Prop := Claim7.holds Tryd.pinned (.plain (OpenSpec.ofChange valFieldsSpec)) valFieldsCard

/-- THE TIED CARD OF 'conciliatorlaw01.ValBuilt'. -/
def valBuiltCard : Claim7 := { stood := { row := valBuiltRow, standIns := [], harness := (true, "1c00cbd8d98d2f829237919e55062dc71612cafa9c5900c9e4cf412de2a2a724"), looks := false }, kinds := [], alts := [], laidByText := true, laidKinds := [.data, .pinned], laidTests := true, laidLooks := .later }
def ValBuiltCardSaid : Prop := Claim7.holds Tryd.pinned (.plain (OpenSpec.ofChange valBuiltSpec)) valBuiltCard

/-- THE TIED CARD OF 'conciliatorlaw01.ValKeys'. -/
def valKeysCard : Claim7 := { stood := { row := valKeysRow, standIns := [], harness := (true, "1c00cbd8d98d2f829237919e55062dc71612cafa9c5900c9e4cf412de2a2a724"), looks := false }, kinds := [], alts := [], laidByText := true, laidKinds := [.data, .pinned], laidTests := true, laidLooks := .later }
def ValKeysCardSaid : Prop := Claim7.holds Tryd.pinned (.plain (OpenSpec.ofChange valKeysSpec)) valKeysCard

/-- THE SECOND FORM's CARD OF 'conciliatorlaw01.ValSounds'. -/
def valSoundsUptoCard : Claim7 := { stood := { row := valSoundsUptoRow, standIns := [], harness := (true, "1c00cbd8d98d2f829237919e55062dc71612cafa9c5900c9e4cf412de2a2a724"), looks := false }, kinds := [], alts := [], laidByText := true, laidKinds := [.data, .pinned], laidTests := true, laidLooks := .later }
def ValSoundsUptoCardSaid : Prop := Claim7.holds Tryd.pinned (.plain (OpenSpec.upto valSoundsSpec)) valSoundsUptoCard

/-- THE SECOND FORM's CARD OF 'conciliatorlaw01.ValSame'. -/
def valSameUptoCard : Claim7 := { stood := { row := valSameUptoRow, standIns := [], harness := (true, "1c00cbd8d98d2f829237919e55062dc71612cafa9c5900c9e4cf412de2a2a724"), looks := false }, kinds := [], alts := [], laidByText := true, laidKinds := [.data, .pinned], laidTests := true, laidLooks := .later }
def ValSameUptoCardSaid : Prop := Claim7.holds Tryd.pinned (.plain (OpenSpec.upto valSameSpec)) valSameUptoCard

/-- THE SECOND FORM's CARD OF 'conciliatorlaw01.ValCopy'. -/
def valCopyUptoCard : Claim7 := { stood := { row := valCopyUptoRow, standIns := [], harness := (true, "1c00cbd8d98d2f829237919e55062dc71612cafa9c5900c9e4cf412de2a2a724"), looks := false }, kinds := [], alts := [], laidByText := true, laidKinds := [.data, .pinned], laidTests := true, laidLooks := .later }
def ValCopyUptoCardSaid : Prop := Claim7.holds Tryd.pinned (.plain (OpenSpec.upto valCopySpec)) valCopyUptoCard

/-- THE SECOND FORM's CARD OF 'conciliatorlaw01.ValFields'. -/
def valFieldsUptoCard : Claim7 := { stood := { row := valFieldsUptoRow, standIns := [], harness := (true, "1c00cbd8d98d2f829237919e55062dc71612cafa9c5900c9e4cf412de2a2a724"), looks := false }, kinds := [], alts := [], laidByText := true, laidKinds := [.data, .pinned], laidTests := true, laidLooks := .later }
def ValFieldsUptoCardSaid : Prop := Claim7.holds Tryd.pinned (.plain (OpenSpec.upto valFieldsSpec)) valFieldsUptoCard

/-- THE SECOND FORM's CARD OF 'conciliatorlaw01.ValBuilt'. -/
def valBuiltUptoCard : Claim7 := { stood := { row := valBuiltUptoRow, standIns := [], harness := (true, "1c00cbd8d98d2f829237919e55062dc71612cafa9c5900c9e4cf412de2a2a724"), looks := false }, kinds := [], alts := [], laidByText := true, laidKinds := [.data, .pinned], laidTests := true, laidLooks := .later }
def ValBuiltUptoCardSaid : Prop := Claim7.holds Tryd.pinned (.plain (OpenSpec.upto valBuiltSpec)) valBuiltUptoCard

/-- THE SECOND FORM's CARD OF 'conciliatorlaw01.ValKeys'. -/
def valKeysUptoCard : Claim7 := { stood := { row := valKeysUptoRow, standIns := [], harness := (true, "1c00cbd8d98d2f829237919e55062dc71612cafa9c5900c9e4cf412de2a2a724"), looks := false }, kinds := [], alts := [], laidByText := true, laidKinds := [.data, .pinned], laidTests := true, laidLooks := .later }
def ValKeysUptoCardSaid : Prop := Claim7.holds Tryd.pinned (.plain (OpenSpec.upto valKeysSpec)) valKeysUptoCard
end Rows
end Go.Proofs.YtaemmabaekjkeaaDoor
