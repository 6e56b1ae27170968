/-
  DERIVED. GIVEN WITH THE SEED: THE CARDS: each row of YthelgjfdkdaijaaDoorRows.lean that lists a variable, with what it lists TIED to the program's text (the seventh form; the later family's looks); each row that meets fmt, with fmt's text TOLD by the authors' own Lean function (tested against real Go, not proved from fmt's source: count such statements apart). THE CARD IS WHAT COUNTS. Prove the row's statement (the work); the ties are given (YthelgjfdkdaijaaDoorTie.lean); close each card by the builder's one call (the guide's Derived/Test/ToyasCard.lean, 'card_holds'). Laid BY PROGRAM, IN A SANDBOX (cutbox-door.mjs). By AI agents, Wed Nov 11 2026. No macro, syntax, notation, axiom, sorry.
-/
import Derived.Test.YthelgjfdkdaijaaDoorRows
import GoSem.ClaimSeven
namespace Go.Proofs.YthelgjfdkdaijaaDoor
namespace Rows

/-- THE TIED CARD OF 'quittancelaw02.WordLines'. -/
def wordLinesCard : Claim7 := { stood := { row := wordLinesRow, standIns := [], harness := (true, "9d84428e86bb4d2dc38c8c8e92e31495863553e7a1d0ba2aff6d20012d0671f1"), looks := true }, kinds := [], alts := [], laidByText := true, laidKinds := [.data, .data, .data, .data, .sentinel, .sentinel, .pinned], laidTests := true, laidLooks := .later }
def WordLinesCardSaid : Prop := Claim7.holds Tryd.pinned (.plain (OpenSpec.ofChange wordLinesSpec)) wordLinesCard

/-- THE TIED CARD OF 'quittancelaw02.WordDigits'. -/
def wordDigitsCard : Claim7 := { stood := { row := wordDigitsRow, standIns := [], harness := (true, "9d84428e86bb4d2dc38c8c8e92e31495863553e7a1d0ba2aff6d20012d0671f1"), looks := true }, kinds := [], alts := [], laidByText := true, laidKinds := [.data, .data, .data, .data, .sentinel, .sentinel, .pinned], laidTests := true, laidLooks := .later }
def WordDigitsCardSaid : Prop := Claim7.holds Tryd.pinned (.plain (OpenSpec.ofChange wordDigitsSpec)) wordDigitsCard

/-- THE TIED CARD OF 'quittancelaw02.WordBack'. -/
def wordBackCard : Claim7 := { stood := { row := wordBackRow, standIns := [], harness := (true, "9d84428e86bb4d2dc38c8c8e92e31495863553e7a1d0ba2aff6d20012d0671f1"), looks := true }, kinds := [], alts := [], laidByText := true, laidKinds := [.data, .data, .data, .data, .sentinel, .sentinel, .pinned], laidTests := true, laidLooks := .later }
def WordBackCardSaid : Prop := Claim7.holds Tryd.pinned (.plain (OpenSpec.ofChange wordBackSpec)) wordBackCard

/-- THE TIED CARD OF 'quittancelaw02.WordParts'. -/
def wordPartsCard : Claim7 := { stood := { row := wordPartsRow, standIns := [], harness := (true, "9d84428e86bb4d2dc38c8c8e92e31495863553e7a1d0ba2aff6d20012d0671f1"), looks := true }, kinds := [], alts := [], laidByText := true, laidKinds := [.data, .data, .data, .data, .sentinel, .sentinel, .pinned], laidTests := true, laidLooks := .later }
def WordPartsCardSaid : Prop := Claim7.holds Tryd.pinned (.plain (OpenSpec.ofChange wordPartsSpec)) wordPartsCard

/-- THE TIED CARD OF 'quittancelaw02.WordAsks'. -/
def wordAsksCard : Claim7 := { stood := { row := wordAsksRow, standIns := [], harness := (true, "9d84428e86bb4d2dc38c8c8e92e31495863553e7a1d0ba2aff6d20012d0671f1"), looks := true }, kinds := [], alts := [], laidByText := true, laidKinds := [.data, .data, .data, .data, .sentinel, .sentinel, .pinned], laidTests := true, laidLooks := .later }
def WordAsksCardSaid : Prop := Claim7.holds Tryd.pinned (.plain (OpenSpec.ofChange wordAsksSpec)) wordAsksCard

/-- THE TIED CARD OF 'quittancelaw02.WordCounts'. -/
def wordCountsCard : Claim7 := { stood := { row := wordCountsRow, standIns := [], harness := (true, "9d84428e86bb4d2dc38c8c8e92e31495863553e7a1d0ba2aff6d20012d0671f1"), looks := true }, kinds := [], alts := [], laidByText := true, laidKinds := [.data, .data, .data, .data, .sentinel, .sentinel, .pinned], laidTests := true, laidLooks := .later }
def WordCountsCardSaid : Prop := Claim7.holds Tryd.pinned (.plain (OpenSpec.ofChange wordCountsSpec)) wordCountsCard

/-- THE SECOND FORM's CARD OF 'quittancelaw02.WordLines'. -/
def wordLinesUptoCard : Claim7 := { stood := { row := wordLinesUptoRow, standIns := [], harness := (true, "9d84428e86bb4d2dc38c8c8e92e31495863553e7a1d0ba2aff6d20012d0671f1"), looks := true }, kinds := [], alts := [], laidByText := true, laidKinds := [.data, .data, .data, .data, .sentinel, .sentinel, .pinned], laidTests := true, laidLooks := .later }
def WordLinesUptoCardSaid : Prop := Claim7.holds Tryd.pinned (.plain (OpenSpec.upto wordLinesSpec)) wordLinesUptoCard

/-- THE SECOND FORM's CARD OF 'quittancelaw02.WordDigits'. -/
def wordDigitsUptoCard : Claim7 := { stood := { row := wordDigitsUptoRow, standIns := [], harness := (true, "9d84428e86bb4d2dc38c8c8e92e31495863553e7a1d0ba2aff6d20012d0671f1"), looks := true }, kinds := [], alts := [], laidByText := true, laidKinds := [.data, .data, .data, .data, .sentinel, .sentinel, .pinned], laidTests := true, laidLooks := .later }
def WordDigitsUptoCardSaid : Prop := Claim7.holds Tryd.pinned (.plain (OpenSpec.upto wordDigitsSpec)) wordDigitsUptoCard

/-- THE SECOND FORM's CARD OF 'quittancelaw02.WordBack'. -/
def wordBackUptoCard : Claim7 := { stood := { row := wordBackUptoRow, standIns := [], harness := (true, "9d84428e86bb4d2dc38c8c8e92e31495863553e7a1d0ba2aff6d20012d0671f1"), looks := true }, kinds := [], alts := [], laidByText := true, laidKinds := [.data, .data, .data, .data, .sentinel, .sentinel, .pinned], laidTests := true, laidLooks := .later }
def WordBackUptoCardSaid : Prop := Claim7.holds Tryd.pinned (.plain (OpenSpec.upto wordBackSpec)) wordBackUptoCard

/-- THE SECOND FORM's CARD OF 'quittancelaw02.WordParts'. -/
def wordPartsUptoCard : Claim7 := { stood := { row := wordPartsUptoRow, standIns := [], harness := (true, "9d84428e86bb4d2dc38c8c8e92e31495863553e7a1d0ba2aff6d20012d0671f1"), looks := true }, kinds := [], alts := [], laidByText := true, laidKinds := [.data, .data, .data, .data, .sentinel, .sentinel, .pinned], laidTests := true, laidLooks := .later }
def WordPartsUptoCardSaid : Prop := Claim7.holds Tryd.pinned (.plain (OpenSpec.upto wordPartsSpec)) wordPartsUptoCard

/-- THE SECOND FORM's CARD OF 'quittancelaw02.WordAsks'. -/
def wordAsksUptoCard : Claim7 := { stood := { row := wordAsksUptoRow, standIns := [], harness := (true, "9d84428e86bb4d2dc38c8c8e92e31495863553e7a1d0ba2aff6d20012d0671f1"), looks := true }, kinds := [], alts := [], laidByText := true, laidKinds := [.data, .data, .data, .data, .sentinel, .sentinel, .pinned], laidTests := true, laidLooks := .later }
def WordAsksUptoCardSaid : Prop := Claim7.holds Tryd.pinned (.plain (OpenSpec.upto wordAsksSpec)) wordAsksUptoCard

/-- THE SECOND FORM's CARD OF 'quittancelaw02.WordCounts'. -/
def wordCountsUptoCard : Claim7 := { stood := { row := wordCountsUptoRow, standIns := [], harness := (true, "9d84428e86bb4d2dc38c8c8e92e31495863553e7a1d0ba2aff6d20012d0671f1"), looks := true }, kinds := [], alts := [], laidByText := true, laidKinds := [.data, .data, .data, .data, .sentinel, .sentinel, .pinned], laidTests := true, laidLooks := .later }
def WordCountsUptoCardSaid : Prop := Claim7.holds Tryd.pinned (.plain (OpenSpec.upto wordCountsSpec)) wordCountsUptoCard
end Rows
end Go.Proofs.YthelgjfdkdaijaaDoor
