/-
  DERIVED. GIVEN WITH THE SEED: THE CARDS: each row of YtioplgfopillnaaDoorRows.lean that lists a variable, with what it lists TIED to the program's text (the seventh form; the later family's looks); each row that meets fmt, with fmt's text TOLD by the authors' own Lean function (tested against real Go, not proved from fmt's source: count such statements apart). THE CARD IS WHAT COUNTS. Prove the row's statement (the work); the ties are given (YtioplgfopillnaaDoorTie.lean); close each card by the builder's one call (the guide's Derived/Test/ToyasCard.lean, 'card_holds'). Laid BY PROGRAM, IN A SANDBOX (cutbox-door.mjs). By AI agents, Wed Nov 11 2026. No macro, syntax, notation, axiom, sorry.
-/
import Derived.Test.YtioplgfopillnaaDoorRows
import GoSem.ClaimSeven
namespace Go.Proofs.YtioplgfopillnaaDoor
namespace Rows

/-- THE TIED CARD OF 'conciliatorlaw07.TurnTurns'. -/
def turnTurnsCard : Claim7 := { stood := { row := turnTurnsRow, standIns := [], harness := (true, "b26e78063368c9b261cd56da857d5ba35b31e3fde9ddf80e80c6f6a7147a78a6"), looks := false }, kinds := [], alts := [], laidByText := true, laidKinds := [.data, .pinned], laidTests := true, laidLooks := .later }
def TurnTurnsCardSaid : Prop := Claim7.holds Tryd.pinned (.plain (OpenSpec.ofChange turnTurnsSpec)) turnTurnsCard

/-- THE TIED CARD OF 'conciliatorlaw07.TurnActs'. -/
def turnActsCard : Claim7 := { stood := { row := turnActsRow, standIns := [], harness := (true, "b26e78063368c9b261cd56da857d5ba35b31e3fde9ddf80e80c6f6a7147a78a6"), looks := false }, kinds := [], alts := [], laidByText := true, laidKinds := [.data, .pinned], laidTests := true, laidLooks := .later }
def TurnActsCardSaid : Prop := Claim7.holds Tryd.pinned (.plain (OpenSpec.ofChange turnActsSpec)) turnActsCard

/-- THE TIED CARD OF 'conciliatorlaw07.TurnMeets'. -/
def turnMeetsCard : Claim7 := { stood := { row := turnMeetsRow, standIns := [], harness := (true, "b26e78063368c9b261cd56da857d5ba35b31e3fde9ddf80e80c6f6a7147a78a6"), looks := false }, kinds := [], alts := [], laidByText := true, laidKinds := [.data, .pinned], laidTests := true, laidLooks := .later }
def TurnMeetsCardSaid : Prop := Claim7.holds Tryd.pinned (.plain (OpenSpec.ofChange turnMeetsSpec)) turnMeetsCard

/-- THE TIED CARD OF 'conciliatorlaw07.TurnTies'. -/
def turnTiesCard : Claim7 := { stood := { row := turnTiesRow, standIns := [], harness := (true, "b26e78063368c9b261cd56da857d5ba35b31e3fde9ddf80e80c6f6a7147a78a6"), looks := false }, kinds := [], alts := [], laidByText := true, laidKinds := [.data, .pinned], laidTests := true, laidLooks := .later }
def TurnTiesCardSaid : Prop := Claim7.holds Tryd.pinned (.plain (OpenSpec.ofChange turnTiesSpec)) turnTiesCard

/-- THE SECOND FORM's CARD OF 'conciliatorlaw07.TurnTurns'. -/
def turnTurnsUptoCard : Claim7 := { stood := { row := turnTurnsUptoRow, standIns := [], harness := (true, "b26e78063368c9b261cd56da857d5ba35b31e3fde9ddf80e80c6f6a7147a78a6"), looks := false }, kinds := [], alts := [], laidByText := true, laidKinds := [.data, .pinned], laidTests := true, laidLooks := .later }
def TurnTurnsUptoCardSaid : Prop := Claim7.holds Tryd.pinned (.plain (OpenSpec.upto turnTurnsSpec)) turnTurnsUptoCard

/-- THE SECOND FORM's CARD OF 'conciliatorlaw07.TurnActs'. -/
def turnActsUptoCard : Claim7 := { stood := { row := turnActsUptoRow, standIns := [], harness := (true, "b26e78063368c9b261cd56da857d5ba35b31e3fde9ddf80e80c6f6a7147a78a6"), looks := false }, kinds := [], alts := [], laidByText := true, laidKinds := [.data, .pinned], laidTests := true, laidLooks := .later }
def TurnActsUptoCardSaid : Prop := Claim7.holds Tryd.pinned (.plain (OpenSpec.upto turnActsSpec)) turnActsUptoCard

/-- THE SECOND FORM's CARD OF 'conciliatorlaw07.TurnMeets'. -/
def turnMeetsUptoCard : Claim7 := { stood := { row := turnMeetsUptoRow, standIns := [], harness := (true, "b26e78063368c9b261cd56da857d5ba35b31e3fde9ddf80e80c6f6a7147a78a6"), looks := false }, kinds := [], alts := [], laidByText := true, laidKinds := [.data, .pinned], laidTests := true, laidLooks := .later }
def TurnMeetsUptoCardSaid : Prop := Claim7.holds Tryd.pinned (.plain (OpenSpec.upto turnMeetsSpec)) turnMeetsUptoCard

/-- THE SECOND FORM's CARD OF 'conciliatorlaw07.TurnTies'. -/
def turnTiesUptoCard : Claim7 := { stood := { row := turnTiesUptoRow, standIns := [], harness := (true, "b26e78063368c9b261cd56da857d5ba35b31e3fde9ddf80e80c6f6a7147a78a6"), looks := false }, kinds := [], alts := [], laidByText := true, laidKinds := [.data, .pinned], laidTests := true, laidLooks := .later }
def TurnTiesUptoCardSaid : Prop := Claim7.holds Tryd.pinned (.plain (OpenSpec.upto turnTiesSpec)) turnTiesUptoCard
end Rows
end Go.Proofs.YtioplgfopillnaaDoor
