/-
  DERIVED. GIVEN WITH THE SEED: THE CARDS: each row of YtjdpljjbgggpiaaDoorRows.lean that lists a variable, with what it lists TIED to the program's text (the seventh form; the later family's looks); each row that meets fmt, with fmt's text TOLD by the authors' own Lean function (tested against real Go, not proved from fmt's source: count such statements apart). THE CARD IS WHAT COUNTS. Prove the row's statement (the work); the ties are given (YtjdpljjbgggpiaaDoorTie.lean); close each card by the builder's one call (the guide's Derived/Test/ToyasCard.lean, 'card_holds'). Laid BY PROGRAM, IN A SANDBOX (cutbox-door.mjs). By AI agents, Wed Nov 11 2026. No macro, syntax, notation, axiom, sorry.
-/
import Derived.Test.YtjdpljjbgggpiaaDoorRows
import GoSem.ClaimSeven
namespace Go.Proofs.YtjdpljjbgggpiaaDoor
namespace Rows

/-- THE TIED CARD OF 'conciliatorlaw03.PathOwn'. -/
def pathOwnCard : Claim7 := { stood := { row := pathOwnRow, standIns := [], harness := (true, "bc26d2900aa6a637f728aaf9aa72a5ad42468468aa3eb938a87faed935fe56ef"), looks := false }, kinds := [], alts := [], laidByText := true, laidKinds := [.data, .pinned], laidTests := true, laidLooks := .later }
def PathOwnCardSaid : Prop := Claim7.holds Tryd.pinned (.plain (OpenSpec.ofChange pathOwnSpec)) pathOwnCard

/-- THE TIED CARD OF 'conciliatorlaw03.PathDeep'. -/
def pathDeepCard : Claim7 := { stood := { row := pathDeepRow, standIns := [], harness := (true, "bc26d2900aa6a637f728aaf9aa72a5ad42468468aa3eb938a87faed935fe56ef"), looks := false }, kinds := [], alts := [], laidByText := true, laidKinds := [.data, .pinned], laidTests := true, laidLooks := .later }
def PathDeepCardSaid : Prop := Claim7.holds Tryd.pinned (.plain (OpenSpec.ofChange pathDeepSpec)) pathDeepCard

/-- THE TIED CARD OF 'conciliatorlaw03.PathGets'. -/
def pathGetsCard : Claim7 := { stood := { row := pathGetsRow, standIns := [], harness := (true, "bc26d2900aa6a637f728aaf9aa72a5ad42468468aa3eb938a87faed935fe56ef"), looks := false }, kinds := [], alts := [], laidByText := true, laidKinds := [.data, .pinned], laidTests := true, laidLooks := .later }
def PathGetsCardSaid : Prop := Claim7.holds Tryd.pinned (.plain (OpenSpec.ofChange pathGetsSpec)) pathGetsCard

/-- THE TIED CARD OF 'conciliatorlaw03.PathWalks'. -/
def pathWalksCard : Claim7 := { stood := { row := pathWalksRow, standIns := [], harness := (true, "bc26d2900aa6a637f728aaf9aa72a5ad42468468aa3eb938a87faed935fe56ef"), looks := false }, kinds := [], alts := [], laidByText := true, laidKinds := [.data, .pinned], laidTests := true, laidLooks := .later }
def PathWalksCardSaid : Prop := Claim7.holds Tryd.pinned (.plain (OpenSpec.ofChange pathWalksSpec)) pathWalksCard

/-- THE TIED CARD OF 'conciliatorlaw03.PathBack'. -/
def pathBackCard : Claim7 := { stood := { row := pathBackRow, standIns := [], harness := (true, "bc26d2900aa6a637f728aaf9aa72a5ad42468468aa3eb938a87faed935fe56ef"), looks := false }, kinds := [], alts := [], laidByText := true, laidKinds := [.data, .pinned], laidTests := true, laidLooks := .later }
def PathBackCardSaid : Prop := Claim7.holds Tryd.pinned (.plain (OpenSpec.ofChange pathBackSpec)) pathBackCard

/-- THE TIED CARD OF 'conciliatorlaw03.PathSounds'. -/
def pathSoundsCard : Claim7 := { stood := { row := pathSoundsRow, standIns := [], harness := (true, "bc26d2900aa6a637f728aaf9aa72a5ad42468468aa3eb938a87faed935fe56ef"), looks := false }, kinds := [], alts := [], laidByText := true, laidKinds := [.data, .pinned], laidTests := true, laidLooks := .later }
def PathSoundsCardSaid : Prop := Claim7.holds Tryd.pinned (.plain (OpenSpec.ofChange pathSoundsSpec)) pathSoundsCard

/-- THE TIED CARD OF 'conciliatorlaw03.PathApart'. -/
def pathApartCard : Claim7 := { stood := { row := pathApartRow, standIns := [], harness := (true, "bc26d2900aa6a637f728aaf9aa72a5ad42468468aa3eb938a87faed935fe56ef"), looks := false }, kinds := [], alts := [], laidByText := true, laidKinds := [.data, .pinned], laidTests := true, laidLooks := .later }
def PathApartCardSaid : Prop := Claim7.holds Tryd.pinned (.plain (OpenSpec.ofChange pathApartSpec)) pathApartCard

/-- THE SECOND FORM's CARD OF 'conciliatorlaw03.PathOwn'. -/
def pathOwnUptoCard : Claim7 := { stood := { row := pathOwnUptoRow, standIns := [], harness := (true, "bc26d2900aa6a637f728aaf9aa72a5ad42468468aa3eb938a87faed935fe56ef"), looks := false }, kinds := [], alts := [], laidByText := true, laidKinds := [.data, .pinned], laidTests := true, laidLooks := .later }
def PathOwnUptoCardSaid : Prop := Claim7.holds Tryd.pinned (.plain (OpenSpec.upto pathOwnSpec)) pathOwnUptoCard

/-- THE SECOND FORM's CARD OF 'conciliatorlaw03.PathDeep'. -/
def pathDeepUptoCard : Claim7 := { stood := { row := pathDeepUptoRow, standIns := [], harness := (true, "bc26d2900aa6a637f728aaf9aa72a5ad42468468aa3eb938a87faed935fe56ef"), looks := false }, kinds := [], alts := [], laidByText := true, laidKinds := [.data, .pinned], laidTests := true, laidLooks := .later }
def PathDeepUptoCardSaid : Prop := Claim7.holds Tryd.pinned (.plain (OpenSpec.upto pathDeepSpec)) pathDeepUptoCard

/-- THE SECOND FORM's CARD OF 'conciliatorlaw03.PathGets'. -/
def pathGetsUptoCard : Claim7 := { stood := { row := pathGetsUptoRow, standIns := [], harness := (true, "bc26d2900aa6a637f728aaf9aa72a5ad42468468aa3eb938a87faed935fe56ef"), looks := false }, kinds := [], alts := [], laidByText := true, laidKinds := [.data, .pinned], laidTests := true, laidLooks := .later }
def PathGetsUptoCardSaid : Prop := Claim7.holds Tryd.pinned (.plain (OpenSpec.upto pathGetsSpec)) pathGetsUptoCard

/-- THE SECOND FORM's CARD OF 'conciliatorlaw03.PathWalks'. -/
def pathWalksUptoCard : Claim7 := { stood := { row := pathWalksUptoRow, standIns := [], harness := (true, "bc26d2900aa6a637f728aaf9aa72a5ad42468468aa3eb938a87faed935fe56ef"), looks := false }, kinds := [], alts := [], laidByText := true, laidKinds := [.data, .pinned], laidTests := true, laidLooks := .later }
def PathWalksUptoCardSaid : Prop := Claim7.holds Tryd.pinned (.plain (OpenSpec.upto pathWalksSpec)) pathWalksUptoCard

/-- THE SECOND FORM's CARD OF 'conciliatorlaw03.PathBack'. -/
def pathBackUptoCard : Claim7 := { stood := { row := pathBackUptoRow, standIns := [], harness := (true, "bc26d2900aa6a637f728aaf9aa72a5ad42468468aa3eb938a87faed935fe56ef"), looks := false }, kinds := [], alts := [], laidByText := true, laidKinds := [.data, .pinned], laidTests := true, laidLooks := .later }
def PathBackUptoCardSaid : Prop := Claim7.holds Tryd.pinned (.plain (OpenSpec.upto pathBackSpec)) pathBackUptoCard

/-- THE SECOND FORM's CARD OF 'conciliatorlaw03.PathSounds'. -/
def pathSoundsUptoCard : Claim7 := { stood := { row := pathSoundsUptoRow, standIns := [], harness := (true, "bc26d2900aa6a637f728aaf9aa72a5ad42468468aa3eb938a87faed935fe56ef"), looks := false }, kinds := [], alts := [], laidByText := true, laidKinds := [.data, .pinned], laidTests := true, laidLooks := .later }
def PathSoundsUptoCardSaid : Prop := Claim7.holds Tryd.pinned (.plain (OpenSpec.upto pathSoundsSpec)) pathSoundsUptoCard

/-- THE SECOND FORM's CARD OF 'conciliatorlaw03.PathApart'. -/
def pathApartUptoCard : Claim7 := { stood := { row := pathApartUptoRow, standIns := [], harness := (true, "bc26d2900aa6a637f728aaf9aa72a5ad42468468aa3eb938a87faed935fe56ef"), looks := false }, kinds := [], alts := [], laidByText := true, laidKinds := [.data, .pinned], laidTests := true, laidLooks := .later }
def PathApartUptoCardSaid : Prop := Claim7.holds Tryd.pinned (.plain (OpenSpec.upto pathApartSpec)) pathApartUptoCard
end Rows
end Go.Proofs.YtjdpljjbgggpiaaDoor
