/-
  DERIVED. GIVEN WITH THE SEED: THE CARDS: each row of YtbnjeanldechnaaDoorRows.lean that lists a variable, with what it lists TIED to the program's text (the seventh form; the later family's looks); each row that meets fmt, with fmt's text TOLD by the authors' own Lean function (tested against real Go, not proved from fmt's source: count such statements apart). THE CARD IS WHAT COUNTS. Prove the row's statement (the work); the ties are given (YtbnjeanldechnaaDoorTie.lean); close each card by the builder's one call (the guide's Derived/Test/ToyasCard.lean, 'card_holds'). Laid BY PROGRAM, IN A SANDBOX (cutbox-door.mjs). By AI agents, Wed Nov 11 2026. No macro, syntax, notation, axiom, sorry.
-/
import Derived.Test.YtbnjeanldechnaaDoorRows
import GoSem.ClaimSeven
namespace Go.Proofs.YtbnjeanldechnaaDoor
namespace Rows

/-- THE TIED CARD OF 'quittancelaw17.LeafTree'. -/
def leafTreeCard : Claim7 := { stood := { row := leafTreeRow, standIns := [], harness := (true, "4d4f1b1dca8f0f994b217364fccc9ea3e927bfcfcd78df8633f0afbf5d37bbb6"), looks := true }, kinds := [], alts := [], laidByText := true, laidKinds := [.handle], laidTests := true, laidLooks := .later }
def LeafTreeCardSaid : Prop := Claim7.holds Tryd.pinned (.plain (OpenSpec.ofChange leafTreeSpec)) leafTreeCard

/-- THE SECOND FORM's CARD OF 'quittancelaw17.LeafTree'. -/
def leafTreeUptoCard : Claim7 := { stood := { row := leafTreeUptoRow, standIns := [], harness := (true, "4d4f1b1dca8f0f994b217364fccc9ea3e927bfcfcd78df8633f0afbf5d37bbb6"), looks := true }, kinds := [], alts := [], laidByText := true, laidKinds := [.handle], laidTests := true, laidLooks := .later }
def LeafTreeUptoCardSaid : Prop := Claim7.holds Tryd.pinned (.plain (OpenSpec.upto leafTreeSpec)) leafTreeUptoCard
end Rows
end Go.Proofs.YtbnjeanldechnaaDoor
