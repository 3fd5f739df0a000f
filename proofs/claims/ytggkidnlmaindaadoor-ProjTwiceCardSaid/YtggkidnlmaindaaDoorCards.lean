/-
  DERIVED. GIVEN WITH THE SEED: THE CARDS: each row of YtggkidnlmaindaaDoorRows.lean that lists a variable, with what it lists TIED to the program's text (the seventh form; the later family's looks); each row that meets fmt, with fmt's text TOLD by the authors' own Lean function (tested against real Go, not proved from fmt's source: count such statements apart). THE CARD IS WHAT COUNTS. Prove the row's statement (the work); the ties are given (YtggkidnlmaindaaDoorTie.lean); close each card by the builder's one call (the guide's Derived/Test/ToyasCard.lean, 'card_holds'). Laid BY PROGRAM, IN A SANDBOX (cutbox-door.mjs). By AI agents, Wed Nov 11 2026. No macro, syntax, notation, axiom, sorry.
-/
import Derived.Test.YtggkidnlmaindaaDoorRows
import GoSem.ClaimSeven
namespace Go.Proofs.YtggkidnlmaindaaDoor
namespace Rows

/-- THE TIED CARD OF 'conciliatorlaw18.ProjSounds'. -/
def projSoundsCard : Claim7 := { stood := { row := projSoundsRow, standIns := [], harness := (true, "aa64305ff84decfdd657dbeb29e50d298be3f49ee15f5c07e19615b701c44969"), looks := false }, kinds := [], alts := [], laidByText := true, laidKinds := [.data, .pinned], laidTests := true, laidLooks := .later }
def ProjSoundsCardSaid : Prop := Claim7.holds Tryd.pinned (.plain (OpenSpec.ofChange projSoundsSpec)) projSoundsCard

/-- THE TIED CARD OF 'conciliatorlaw18.ProjMeets'. -/
def projMeetsCard : Claim7 := { stood := { row := projMeetsRow, standIns := [], harness := (true, "aa64305ff84decfdd657dbeb29e50d298be3f49ee15f5c07e19615b701c44969"), looks := false }, kinds := [], alts := [], laidByText := true, laidKinds := [.data, .pinned], laidTests := true, laidLooks := .later }
def ProjMeetsCardSaid : Prop := Claim7.holds Tryd.pinned (.plain (OpenSpec.ofChange projMeetsSpec)) projMeetsCard

/-- THE TIED CARD OF 'conciliatorlaw18.ProjWithin'. -/
def projWithinCard : Claim7 := { stood := { row := projWithinRow, standIns := [], harness := (true, "aa64305ff84decfdd657dbeb29e50d298be3f49ee15f5c07e19615b701c44969"), looks := false }, kinds := [], alts := [], laidByText := true, laidKinds := [.data, .pinned], laidTests := true, laidLooks := .later }
def ProjWithinCardSaid : Prop := Claim7.holds Tryd.pinned (.plain (OpenSpec.ofChange projWithinSpec)) projWithinCard

/-- THE TIED CARD OF 'conciliatorlaw18.ProjTwice'. -/
def projTwiceCard : Claim7 := { stood := { row := projTwiceRow, standIns := [], harness := (true, "aa64305ff84decfdd657dbeb29e50d298be3f49ee15f5c07e19615b701c44969"), looks := false }, kinds := [], alts := [], laidByText := true, laidKinds := [.data, .pinned], laidTests := true, laidLooks := .later }
def ProjTwiceCardSaid : Prop := Claim7.holds Tryd.pinned (.plain (OpenSpec.ofChange projTwiceSpec)) projTwiceCard

/-- THE TIED CARD OF 'conciliatorlaw18.ProjAll'. -/
def projAllCard : Claim7 := { stood := { row := projAllRow, standIns := [], harness := (true, "aa64305ff84decfdd657dbeb29e50d298be3f49ee15f5c07e19615b701c44969"), looks := false }, kinds := [], alts := [], laidByText := true, laidKinds := [.data, .pinned], laidTests := true, laidLooks := .later }
def ProjAllCardSaid : Prop := Claim7.holds Tryd.pinned (.plain (OpenSpec.ofChange projAllSpec)) projAllCard

/-- THE SECOND FORM's CARD OF 'conciliatorlaw18.ProjSounds'. -/
def projSoundsUptoCard : Claim7 := { stood := { row := projSoundsUptoRow, standIns := [], harness := (true, "aa64305ff84decfdd657dbeb29e50d298be3f49ee15f5c07e19615b701c44969"), looks := false }, kinds := [], alts := [], laidByText := true, laidKinds := [.data, .pinned], laidTests := true, laidLooks := .later }
def ProjSoundsUptoCardSaid : Prop := Claim7.holds Tryd.pinned (.plain (OpenSpec.upto projSoundsSpec)) projSoundsUptoCard

/-- THE SECOND FORM's CARD OF 'conciliatorlaw18.ProjMeets'. -/
def projMeetsUptoCard : Claim7 := { stood := { row := projMeetsUptoRow, standIns := [], harness := (true, "aa64305ff84decfdd657dbeb29e50d298be3f49ee15f5c07e19615b701c44969"), looks := false }, kinds := [], alts := [], laidByText := true, laidKinds := [.data, .pinned], laidTests := true, laidLooks := .later }
def ProjMeetsUptoCardSaid : Prop := Claim7.holds Tryd.pinned (.plain (OpenSpec.upto projMeetsSpec)) projMeetsUptoCard

/-- THE SECOND FORM's CARD OF 'conciliatorlaw18.ProjWithin'. -/
def projWithinUptoCard : Claim7 := { stood := { row := projWithinUptoRow, standIns := [], harness := (true, "aa64305ff84decfdd657dbeb29e50d298be3f49ee15f5c07e19615b701c44969"), looks := false }, kinds := [], alts := [], laidByText := true, laidKinds := [.data, .pinned], laidTests := true, laidLooks := .later }
def ProjWithinUptoCardSaid : Prop := Claim7.holds Tryd.pinned (.plain (OpenSpec.upto projWithinSpec)) projWithinUptoCard

/-- THE SECOND FORM's CARD OF 'conciliatorlaw18.ProjTwice'. -/
def projTwiceUptoCard : Claim7 := { stood := { row := projTwiceUptoRow, standIns := [], harness := (true, "aa64305ff84decfdd657dbeb29e50d298be3f49ee15f5c07e19615b701c44969"), looks := false }, kinds := [], alts := [], laidByText := true, laidKinds := [.data, .pinned], laidTests := true, laidLooks := .later }
def ProjTwiceUptoCardSaid : Prop := Claim7.holds Tryd.pinned (.plain (OpenSpec.upto projTwiceSpec)) projTwiceUptoCard

/-- THE SECOND FORM's CARD OF 'conciliatorlaw18.ProjAll'. -/
def projAllUptoCard : Claim7 := { stood := { row := projAllUptoRow, standIns := [], harness := (true, "aa64305ff84decfdd657dbeb29e50d298be3f49ee15f5c07e19615b701c44969"), looks := false }, kinds := [], alts := [], laidByText := true, laidKinds := [.data, .pinned], laidTests := true, laidLooks := .later }
def ProjAllUptoCardSaid : Prop := Claim7.holds Tryd.pinned (.plain (OpenSpec.upto projAllSpec)) projAllUptoCard
end Rows
end Go.Proofs.YtggkidnlmaindaaDoor
