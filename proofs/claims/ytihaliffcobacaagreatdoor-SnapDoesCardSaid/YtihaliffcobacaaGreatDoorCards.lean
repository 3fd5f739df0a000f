/-
  DERIVED. GIVEN WITH THE SEED: THE CARDS: each row of YtihaliffcobacaaGreatDoorRows.lean that lists a variable, with what it lists TIED to the program's text (the seventh form; the later family's looks); each row that meets fmt, with fmt's text TOLD by the authors' own Lean function (tested against real Go, not proved from fmt's source: count such statements apart). THE CARD IS WHAT COUNTS. Prove the row's statement (the work); the ties are given (YtihaliffcobacaaGreatDoorTie.lean); close each card by the builder's one call (the guide's Derived/Test/ToyasCard.lean, 'card_holds'). Laid BY PROGRAM, IN A SANDBOX (cutbox-door.mjs). By AI agents, Wed Nov 11 2026. No macro, syntax, notation, axiom, sorry.
-/
import Derived.Test.YtihaliffcobacaaGreatDoorRows
import GoSem.ClaimSeven
namespace Go.Proofs.YtihaliffcobacaaGreatDoor
namespace Rows

/-- THE TIED CARD OF 'conciliatorlaw15.SnapRefuses'. -/
def snapRefusesCard : Claim7 := { stood := { row := snapRefusesRow, standIns := [], harness := (true, "5cb95fe7e65addda9dd8d72be57f0c3488d7ff1f36bf12b1d7e17213924b4048"), looks := true }, kinds := [], alts := [], laidByText := true, laidKinds := [.data, .pinned], laidTests := true, laidLooks := .later }
def SnapRefusesCardSaid : Prop := Claim7.holds Tryz.pinned (.plain (OpenSpec.ofChange snapRefusesSpec)) snapRefusesCard

/-- THE TIED CARD OF 'conciliatorlaw15.SnapLast'. -/
def snapLastCard : Claim7 := { stood := { row := snapLastRow, standIns := [], harness := (true, "5cb95fe7e65addda9dd8d72be57f0c3488d7ff1f36bf12b1d7e17213924b4048"), looks := true }, kinds := [], alts := [], laidByText := true, laidKinds := [.data, .pinned], laidTests := true, laidLooks := .later }
def SnapLastCardSaid : Prop := Claim7.holds Tryz.pinned (.plain (OpenSpec.ofChange snapLastSpec)) snapLastCard

/-- THE TIED CARD OF 'conciliatorlaw15.SnapDoes'. -/
def snapDoesCard : Claim7 := { stood := { row := snapDoesRow, standIns := [], harness := (true, "5cb95fe7e65addda9dd8d72be57f0c3488d7ff1f36bf12b1d7e17213924b4048"), looks := true }, kinds := [], alts := [], laidByText := true, laidKinds := [.data, .pinned], laidTests := true, laidLooks := .later }
def SnapDoesCardSaid : Prop := Claim7.holds Tryz.pinned (.plain (OpenSpec.ofChange snapDoesSpec)) snapDoesCard

/-- THE SECOND FORM's CARD OF 'conciliatorlaw15.SnapRefuses'. -/
def snapRefusesUptoCard : Claim7 := { stood := { row := snapRefusesUptoRow, standIns := [], harness := (true, "5cb95fe7e65addda9dd8d72be57f0c3488d7ff1f36bf12b1d7e17213924b4048"), looks := true }, kinds := [], alts := [], laidByText := true, laidKinds := [.data, .pinned], laidTests := true, laidLooks := .later }
def SnapRefusesUptoCardSaid : Prop := Claim7.holds Tryz.pinned (.plain (OpenSpec.upto snapRefusesSpec)) snapRefusesUptoCard

/-- THE SECOND FORM's CARD OF 'conciliatorlaw15.SnapLast'. -/
def snapLastUptoCard : Claim7 := { stood := { row := snapLastUptoRow, standIns := [], harness := (true, "5cb95fe7e65addda9dd8d72be57f0c3488d7ff1f36bf12b1d7e17213924b4048"), looks := true }, kinds := [], alts := [], laidByText := true, laidKinds := [.data, .pinned], laidTests := true, laidLooks := .later }
def SnapLastUptoCardSaid : Prop := Claim7.holds Tryz.pinned (.plain (OpenSpec.upto snapLastSpec)) snapLastUptoCard

/-- THE SECOND FORM's CARD OF 'conciliatorlaw15.SnapDoes'. -/
def snapDoesUptoCard : Claim7 := { stood := { row := snapDoesUptoRow, standIns := [], harness := (true, "5cb95fe7e65addda9dd8d72be57f0c3488d7ff1f36bf12b1d7e17213924b4048"), looks := true }, kinds := [], alts := [], laidByText := true, laidKinds := [.data, .pinned], laidTests := true, laidLooks := .later }
def SnapDoesUptoCardSaid : Prop := Claim7.holds Tryz.pinned (.plain (OpenSpec.upto snapDoesSpec)) snapDoesUptoCard
end Rows
end Go.Proofs.YtihaliffcobacaaGreatDoor
