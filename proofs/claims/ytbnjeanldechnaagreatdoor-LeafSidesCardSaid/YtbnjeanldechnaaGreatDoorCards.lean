/-
  DERIVED. GIVEN WITH THE SEED: THE CARDS: each row of YtbnjeanldechnaaGreatDoorRows.lean that lists a variable, with what it lists TIED to the program's text (the seventh form; the later family's looks); each row that meets fmt, with fmt's text TOLD by the authors' own Lean function (tested against real Go, not proved from fmt's source: count such statements apart). THE CARD IS WHAT COUNTS. Prove the row's statement (the work); the ties are given (YtbnjeanldechnaaGreatDoorTie.lean); close each card by the builder's one call (the guide's Derived/Test/ToyasCard.lean, 'card_holds'). Laid BY PROGRAM, IN A SANDBOX (cutbox-door.mjs). By AI agents, Wed Nov 11 2026. No macro, syntax, notation, axiom, sorry.
-/
import Derived.Test.YtbnjeanldechnaaGreatDoorRows
import GoSem.ClaimSeven
namespace Go.Proofs.YtbnjeanldechnaaGreatDoor
namespace Rows

/-- THE TIED CARD OF 'quittancelaw17.LeafDoes'. -/
def leafDoesCard : Claim7 := { stood := { row := leafDoesRow, standIns := [], harness := (true, "d2c75a2e3da138af248a58ddfd071fcc3d1033b35e8fa350518be9e548bd3569"), looks := true }, kinds := [], alts := [], laidByText := true, laidKinds := [.handle], laidTests := true, laidLooks := .later }
def LeafDoesCardSaid : Prop := Claim7.holds Tryz.pinned (.plain (OpenSpec.ofChange leafDoesSpec)) leafDoesCard

/-- THE TIED CARD OF 'quittancelaw17.LeafSides'. -/
def leafSidesCard : Claim7 := { stood := { row := leafSidesRow, standIns := [], harness := (true, "d2c75a2e3da138af248a58ddfd071fcc3d1033b35e8fa350518be9e548bd3569"), looks := true }, kinds := [], alts := [], laidByText := true, laidKinds := [.handle], laidTests := true, laidLooks := .later }
def LeafSidesCardSaid : Prop := Claim7.holds Tryz.pinned (.plain (OpenSpec.ofChange leafSidesSpec)) leafSidesCard

/-- THE TIED CARD OF 'quittancelaw17.LeafForced'. -/
def leafForcedCard : Claim7 := { stood := { row := leafForcedRow, standIns := [], harness := (true, "d2c75a2e3da138af248a58ddfd071fcc3d1033b35e8fa350518be9e548bd3569"), looks := true }, kinds := [], alts := [], laidByText := true, laidKinds := [.handle], laidTests := true, laidLooks := .later }
def LeafForcedCardSaid : Prop := Claim7.holds Tryz.pinned (.plain (OpenSpec.ofChange leafForcedSpec)) leafForcedCard

/-- THE TIED CARD OF 'quittancelaw17.LeafLess'. -/
def leafLessCard : Claim7 := { stood := { row := leafLessRow, standIns := [], harness := (true, "d2c75a2e3da138af248a58ddfd071fcc3d1033b35e8fa350518be9e548bd3569"), looks := true }, kinds := [], alts := [], laidByText := true, laidKinds := [.handle], laidTests := true, laidLooks := .later }
def LeafLessCardSaid : Prop := Claim7.holds Tryz.pinned (.plain (OpenSpec.ofChange leafLessSpec)) leafLessCard

/-- THE TIED CARD OF 'quittancelaw17.LeafDead'. -/
def leafDeadCard : Claim7 := { stood := { row := leafDeadRow, standIns := [], harness := (true, "d2c75a2e3da138af248a58ddfd071fcc3d1033b35e8fa350518be9e548bd3569"), looks := true }, kinds := [], alts := [], laidByText := true, laidKinds := [.handle], laidTests := true, laidLooks := .later }
def LeafDeadCardSaid : Prop := Claim7.holds Tryz.pinned (.plain (OpenSpec.ofChange leafDeadSpec)) leafDeadCard

/-- THE SECOND FORM's CARD OF 'quittancelaw17.LeafDoes'. -/
def leafDoesUptoCard : Claim7 := { stood := { row := leafDoesUptoRow, standIns := [], harness := (true, "d2c75a2e3da138af248a58ddfd071fcc3d1033b35e8fa350518be9e548bd3569"), looks := true }, kinds := [], alts := [], laidByText := true, laidKinds := [.handle], laidTests := true, laidLooks := .later }
def LeafDoesUptoCardSaid : Prop := Claim7.holds Tryz.pinned (.plain (OpenSpec.upto leafDoesSpec)) leafDoesUptoCard

/-- THE SECOND FORM's CARD OF 'quittancelaw17.LeafSides'. -/
def leafSidesUptoCard : Claim7 := { stood := { row := leafSidesUptoRow, standIns := [], harness := (true, "d2c75a2e3da138af248a58ddfd071fcc3d1033b35e8fa350518be9e548bd3569"), looks := true }, kinds := [], alts := [], laidByText := true, laidKinds := [.handle], laidTests := true, laidLooks := .later }
def LeafSidesUptoCardSaid : Prop := Claim7.holds Tryz.pinned (.plain (OpenSpec.upto leafSidesSpec)) leafSidesUptoCard

/-- THE SECOND FORM's CARD OF 'quittancelaw17.LeafForced'. -/
def leafForcedUptoCard : Claim7 := { stood := { row := leafForcedUptoRow, standIns := [], harness := (true, "d2c75a2e3da138af248a58ddfd071fcc3d1033b35e8fa350518be9e548bd3569"), looks := true }, kinds := [], alts := [], laidByText := true, laidKinds := [.handle], laidTests := true, laidLooks := .later }
def LeafForcedUptoCardSaid : Prop := Claim7.holds Tryz.pinned (.plain (OpenSpec.upto leafForcedSpec)) leafForcedUptoCard

/-- THE SECOND FORM's CARD OF 'quittancelaw17.LeafLess'. -/
def leafLessUptoCard : Claim7 := { stood := { row := leafLessUptoRow, standIns := [], harness := (true, "d2c75a2e3da138af248a58ddfd071fcc3d1033b35e8fa350518be9e548bd3569"), looks := true }, kinds := [], alts := [], laidByText := true, laidKinds := [.handle], laidTests := true, laidLooks := .later }
def LeafLessUptoCardSaid : Prop := Claim7.holds Tryz.pinned (.plain (OpenSpec.upto leafLessSpec)) leafLessUptoCard

/-- THE SECOND FORM's CARD OF 'quittancelaw17.LeafDead'. -/
def leafDeadUptoCard : Claim7 := { stood := { row := leafDeadUptoRow, standIns := [], harness := (true, "d2c75a2e3da138af248a58ddfd071fcc3d1033b35e8fa350518be9e548bd3569"), looks := true }, kinds := [], alts := [], laidByText := true, laidKinds := [.handle], laidTests := true, laidLooks := .later }
def LeafDeadUptoCardSaid : Prop := Claim7.holds Tryz.pinned (.plain (OpenSpec.upto leafDeadSpec)) leafDeadUptoCard
end Rows
end Go.Proofs.YtbnjeanldechnaaGreatDoor
