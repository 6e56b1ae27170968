/-
  NARROWER THAN 'FOR EVERY INPUT', by the rows' own cells (each row's printed sentence says how): LeafDoes: laid · LeafSides: laid · LeafForced: laid · LeafLess: laid · LeafDead: laid.
  DERIVED. THE GIVEN ROWS OF THIS SEAT. 5 by the template 'for every input the law returns true; each argument reads behind the call as it read before'; 0 by the template 'total and deterministic' (their statements: YtbnjeanldechnaaGreatDoorTotals.lean).
  GIVEN WITH THE SEED: the statements are not yours to turn. If you find one false, say at which input.
  Laid BY PROGRAM, IN A SANDBOX (cutbox-rows.mjs): the forced cells as the released guide's own fill.sh prints them over the translation 03228f3ca23342bb… (all of the seat's roots in one cut). By AI agents, Wed Nov 11 2026. No macro, syntax, notation, axiom, sorry.
-/
import Derived.Test.YtbnjeanldechnaaGreatDoorChecked
import GoSem.Claim
import GoSem.ClaimJoined
import GoSem.ClaimMapViews
import Derived.JoinedTies
import Derived.KernelRfl
namespace Go.Proofs.YtbnjeanldechnaaGreatDoor
/- THE CELL 'sum', in the pinned program and in every row, IS THE sha256 OF THE DUMP (.gsa) THAT YtbnjeanldechnaaGreatDoorProg.lean LOADS. Nothing in Lean hashes anything: it is a label: what it is worth is what the hold of that sum in a sandbox is worth. -/
noncomputable def Tryz.pinned : Pinned := { name := "ytbnjeanldechnaagreatdoor", sum := "03228f3ca23342bbde9e48300b2eb04c4e61c3ce3db7cf18efbd3b9e0328823a", checked := Tryz.checked }
namespace Rows
def none {H : Type} : Left H := { results := [], args := [] }

/- WHAT THE LISTED PACKAGE-LEVEL VARIABLES READ AS WHEN THE CALL BEGINS. Each datum BY PROGRAM (the guide's laid-datum.mjs) off the statement by which the dump's own 'gosem.cut.vars' lays the variable. In a bare row this is a premise. The card (YtbnjeanldechnaaGreatDoorCards.lean) ties it to the program's text. -/
def laid_errors_errorType {H : Type} : DataW H := .iface "internal/reflectlite.rtype" (.agg [.ptr (.lit (.string [101, 114, 114, 111, 114]))])

/-- 'quittancelaw17.LeafDoes': WHATEVER THE INPUT: true; the input reads as it did. -/
def leafDoesSpec : ChangeSpec := { name := "leafDoes", fn := fun _ => fun
  | [d1, d2, d3, d4, d5, d6] => { results := [.lit (.bool true)], args := [d1, d2, d3, d4, d5, d6] }
  | _ => none }
def leafDoesRow : OpenClaim := { program := "ytbnjeanldechnaagreatdoor", sum := "03228f3ca23342bbde9e48300b2eb04c4e61c3ce3db7cf18efbd3b9e0328823a", func := "quittance/quittancelaw17.LeafDoes", spec := "leafDoes", inPlace := ["internal/reflectlite.ValueOf", "(internal/reflectlite.Value).Type", "(internal/reflectlite.Value).IsNil", "internal/reflectlite.TypeOf", "(internal/reflectlite.Value).Elem", "(internal/reflectlite.Value).Set"], unfollowed := true, recurses := true, named := ["errors.errorType"], apart := false, laid := [("errors.errorType", laid_errors_errorType)] }
def LeafDoesSaid : Prop := leafDoesRow.holds Tryz.pinned (OpenSpec.ofChange leafDoesSpec)

/-- ITS FALSE NEIGHBOUR: 'it returns false'. Refute it at one input. -/
def leafDoesWrong : ChangeSpec := { name := "leafDoes", fn := fun _ => fun
  | [d1, d2, d3, d4, d5, d6] => { results := [.lit (.bool false)], args := [d1, d2, d3, d4, d5, d6] }
  | _ => none }
def LeafDoesWrongFalsely : Prop := leafDoesRow.holds Tryz.pinned (OpenSpec.ofChange leafDoesWrong)

/-- 'quittancelaw17.LeafSides': WHATEVER THE INPUT: true; the input reads as it did. -/
def leafSidesSpec : ChangeSpec := { name := "leafSides", fn := fun _ => fun
  | [d1, d2, d3] => { results := [.lit (.bool true)], args := [d1, d2, d3] }
  | _ => none }
def leafSidesRow : OpenClaim := { program := "ytbnjeanldechnaagreatdoor", sum := "03228f3ca23342bbde9e48300b2eb04c4e61c3ce3db7cf18efbd3b9e0328823a", func := "quittance/quittancelaw17.LeafSides", spec := "leafSides", inPlace := ["internal/reflectlite.ValueOf", "(internal/reflectlite.Value).Type", "(internal/reflectlite.Value).IsNil", "internal/reflectlite.TypeOf", "(internal/reflectlite.Value).Elem", "(internal/reflectlite.Value).Set", "math/bits.Sub64", "math/bits.Add64"], unfollowed := true, recurses := true, named := ["errors.errorType"], apart := false, laid := [("errors.errorType", laid_errors_errorType)] }
def LeafSidesSaid : Prop := leafSidesRow.holds Tryz.pinned (OpenSpec.ofChange leafSidesSpec)

/-- ITS FALSE NEIGHBOUR: 'it returns false'. Refute it at one input. -/
def leafSidesWrong : ChangeSpec := { name := "leafSides", fn := fun _ => fun
  | [d1, d2, d3] => { results := [.lit (.bool false)], args := [d1, d2, d3] }
  | _ => none }
def LeafSidesWrongFalsely : Prop := leafSidesRow.holds Tryz.pinned (OpenSpec.ofChange leafSidesWrong)

/-- 'quittancelaw17.LeafForced': WHATEVER THE INPUT: true; the input reads as it did. -/
def leafForcedSpec : ChangeSpec := { name := "leafForced", fn := fun _ => fun
  | [d1, d2, d3, d4] => { results := [.lit (.bool true)], args := [d1, d2, d3, d4] }
  | _ => none }
def leafForcedRow : OpenClaim := { program := "ytbnjeanldechnaagreatdoor", sum := "03228f3ca23342bbde9e48300b2eb04c4e61c3ce3db7cf18efbd3b9e0328823a", func := "quittance/quittancelaw17.LeafForced", spec := "leafForced", inPlace := ["internal/reflectlite.ValueOf", "(internal/reflectlite.Value).Type", "(internal/reflectlite.Value).IsNil", "internal/reflectlite.TypeOf", "(internal/reflectlite.Value).Elem", "(internal/reflectlite.Value).Set", "math/bits.Add64", "math/bits.Sub64"], unfollowed := true, recurses := true, named := ["errors.errorType"], apart := false, laid := [("errors.errorType", laid_errors_errorType)] }
def LeafForcedSaid : Prop := leafForcedRow.holds Tryz.pinned (OpenSpec.ofChange leafForcedSpec)

/-- ITS FALSE NEIGHBOUR: 'it returns false'. Refute it at one input. -/
def leafForcedWrong : ChangeSpec := { name := "leafForced", fn := fun _ => fun
  | [d1, d2, d3, d4] => { results := [.lit (.bool false)], args := [d1, d2, d3, d4] }
  | _ => none }
def LeafForcedWrongFalsely : Prop := leafForcedRow.holds Tryz.pinned (OpenSpec.ofChange leafForcedWrong)

/-- 'quittancelaw17.LeafLess': WHATEVER THE INPUT: true; the input reads as it did. -/
def leafLessSpec : ChangeSpec := { name := "leafLess", fn := fun _ => fun
  | [d1, d2, d3] => { results := [.lit (.bool true)], args := [d1, d2, d3] }
  | _ => none }
def leafLessRow : OpenClaim := { program := "ytbnjeanldechnaagreatdoor", sum := "03228f3ca23342bbde9e48300b2eb04c4e61c3ce3db7cf18efbd3b9e0328823a", func := "quittance/quittancelaw17.LeafLess", spec := "leafLess", inPlace := ["internal/reflectlite.ValueOf", "(internal/reflectlite.Value).Type", "(internal/reflectlite.Value).IsNil", "internal/reflectlite.TypeOf", "(internal/reflectlite.Value).Elem", "(internal/reflectlite.Value).Set", "math/bits.Add64", "math/bits.Sub64"], unfollowed := true, recurses := true, named := ["errors.errorType"], apart := false, laid := [("errors.errorType", laid_errors_errorType)] }
def LeafLessSaid : Prop := leafLessRow.holds Tryz.pinned (OpenSpec.ofChange leafLessSpec)

/-- ITS FALSE NEIGHBOUR: 'it returns false'. Refute it at one input. -/
def leafLessWrong : ChangeSpec := { name := "leafLess", fn := fun _ => fun
  | [d1, d2, d3] => { results := [.lit (.bool false)], args := [d1, d2, d3] }
  | _ => none }
def LeafLessWrongFalsely : Prop := leafLessRow.holds Tryz.pinned (OpenSpec.ofChange leafLessWrong)

/-- 'quittancelaw17.LeafDead': WHATEVER THE INPUT: true; the input reads as it did. -/
def leafDeadSpec : ChangeSpec := { name := "leafDead", fn := fun _ => fun
  | [d1, d2, d3] => { results := [.lit (.bool true)], args := [d1, d2, d3] }
  | _ => none }
def leafDeadRow : OpenClaim := { program := "ytbnjeanldechnaagreatdoor", sum := "03228f3ca23342bbde9e48300b2eb04c4e61c3ce3db7cf18efbd3b9e0328823a", func := "quittance/quittancelaw17.LeafDead", spec := "leafDead", inPlace := ["internal/reflectlite.ValueOf", "(internal/reflectlite.Value).Type", "(internal/reflectlite.Value).IsNil", "internal/reflectlite.TypeOf", "(internal/reflectlite.Value).Elem", "(internal/reflectlite.Value).Set", "math/bits.Add64", "math/bits.Sub64"], unfollowed := true, recurses := true, named := ["errors.errorType"], apart := false, laid := [("errors.errorType", laid_errors_errorType)] }
def LeafDeadSaid : Prop := leafDeadRow.holds Tryz.pinned (OpenSpec.ofChange leafDeadSpec)

/-- ITS FALSE NEIGHBOUR: 'it returns false'. Refute it at one input. -/
def leafDeadWrong : ChangeSpec := { name := "leafDead", fn := fun _ => fun
  | [d1, d2, d3] => { results := [.lit (.bool false)], args := [d1, d2, d3] }
  | _ => none }
def LeafDeadWrongFalsely : Prop := leafDeadRow.holds Tryz.pinned (OpenSpec.ofChange leafDeadWrong)

/- THE SECOND FORM. 'bulk': how many values and letters a reading holds, each counted each time it is reached (what is shared counts as often as it is met; a slice's spare places count too). A statement '..UptoSaid' is the law's where the arguments, and the package variables that the reading takes, are together of bulk at most 1048576: NARROWER than '..Said'. Prove '..Said' where nothing that the law and all that it calls make is longer than what came in: it says more and counts as full. Else prove '..UptoSaid'. A law counts once. -/
mutual
def uptoBulk {H : Type} : DataW H → Nat
  | .lit (.string bytes) => bytes.length + 1
  | .lit _ => 1
  | .nil => 1
  | .ptr d => uptoBulk d + 1
  | .slice elems spare => uptoBulkAll elems + uptoBulkAll spare + 1
  | .agg parts => uptoBulkAll parts + 1
  | .iface _ d => uptoBulk d + 1
  | .map entries => uptoBulkEntries entries + 1
  | .held _ => 1
def uptoBulkAll {H : Type} : List (DataW H) → Nat
  | [] => 0
  | d :: r => uptoBulk d + uptoBulkAll r
def uptoBulkEntries {H : Type} : List (Lit × DataW H) → Nat
  | [] => 0
  | x :: r => uptoBulkEntry x + uptoBulkEntries r
def uptoBulkEntry {H : Type} : Lit × DataW H → Nat
  | (.string bytes, d) => bytes.length + uptoBulk d + 1
  | (_, d) => uptoBulk d + 1
 end
def uptoSmall : (H : Type) → List (DataW H) → Bool := fun _ ds => decide (uptoBulkAll ds ≤ 1048576)
def OpenSpec.upto (s : _root_.Go.ChangeSpec) : _root_.Go.OpenSpec := { _root_.Go.OpenSpec.ofChange s with cond := some uptoSmall }

/-- 'quittancelaw17.LeafDoes', WHERE WHAT IT READS IS OF BULK AT MOST 1048576: true; the input reads as it did. -/
def leafDoesUptoRow : OpenClaim := { program := "ytbnjeanldechnaagreatdoor", sum := "03228f3ca23342bbde9e48300b2eb04c4e61c3ce3db7cf18efbd3b9e0328823a", func := "quittance/quittancelaw17.LeafDoes", spec := "leafDoes", inPlace := ["internal/reflectlite.ValueOf", "(internal/reflectlite.Value).Type", "(internal/reflectlite.Value).IsNil", "internal/reflectlite.TypeOf", "(internal/reflectlite.Value).Elem", "(internal/reflectlite.Value).Set"], unfollowed := true, recurses := true, named := ["errors.errorType"], apart := false, laid := [("errors.errorType", laid_errors_errorType)], narrowed := true }
def LeafDoesUptoSaid : Prop := leafDoesUptoRow.holds Tryz.pinned (OpenSpec.upto leafDoesSpec)

/-- 'quittancelaw17.LeafSides', WHERE WHAT IT READS IS OF BULK AT MOST 1048576: true; the input reads as it did. -/
def leafSidesUptoRow : OpenClaim := { program := "ytbnjeanldechnaagreatdoor", sum := "03228f3ca23342bbde9e48300b2eb04c4e61c3ce3db7cf18efbd3b9e0328823a", func := "quittance/quittancelaw17.LeafSides", spec := "leafSides", inPlace := ["internal/reflectlite.ValueOf", "(internal/reflectlite.Value).Type", "(internal/reflectlite.Value).IsNil", "internal/reflectlite.TypeOf", "(internal/reflectlite.Value).Elem", "(internal/reflectlite.Value).Set", "math/bits.Sub64", "math/bits.Add64"], unfollowed := true, recurses := true, named := ["errors.errorType"], apart := false, laid := [("errors.errorType", laid_errors_errorType)], narrowed := true }
def LeafSidesUptoSaid : Prop := leafSidesUptoRow.holds Tryz.pinned (OpenSpec.upto leafSidesSpec)

/-- 'quittancelaw17.LeafForced', WHERE WHAT IT READS IS OF BULK AT MOST 1048576: true; the input reads as it did. -/
def leafForcedUptoRow : OpenClaim := { program := "ytbnjeanldechnaagreatdoor", sum := "03228f3ca23342bbde9e48300b2eb04c4e61c3ce3db7cf18efbd3b9e0328823a", func := "quittance/quittancelaw17.LeafForced", spec := "leafForced", inPlace := ["internal/reflectlite.ValueOf", "(internal/reflectlite.Value).Type", "(internal/reflectlite.Value).IsNil", "internal/reflectlite.TypeOf", "(internal/reflectlite.Value).Elem", "(internal/reflectlite.Value).Set", "math/bits.Add64", "math/bits.Sub64"], unfollowed := true, recurses := true, named := ["errors.errorType"], apart := false, laid := [("errors.errorType", laid_errors_errorType)], narrowed := true }
def LeafForcedUptoSaid : Prop := leafForcedUptoRow.holds Tryz.pinned (OpenSpec.upto leafForcedSpec)

/-- 'quittancelaw17.LeafLess', WHERE WHAT IT READS IS OF BULK AT MOST 1048576: true; the input reads as it did. -/
def leafLessUptoRow : OpenClaim := { program := "ytbnjeanldechnaagreatdoor", sum := "03228f3ca23342bbde9e48300b2eb04c4e61c3ce3db7cf18efbd3b9e0328823a", func := "quittance/quittancelaw17.LeafLess", spec := "leafLess", inPlace := ["internal/reflectlite.ValueOf", "(internal/reflectlite.Value).Type", "(internal/reflectlite.Value).IsNil", "internal/reflectlite.TypeOf", "(internal/reflectlite.Value).Elem", "(internal/reflectlite.Value).Set", "math/bits.Add64", "math/bits.Sub64"], unfollowed := true, recurses := true, named := ["errors.errorType"], apart := false, laid := [("errors.errorType", laid_errors_errorType)], narrowed := true }
def LeafLessUptoSaid : Prop := leafLessUptoRow.holds Tryz.pinned (OpenSpec.upto leafLessSpec)

/-- 'quittancelaw17.LeafDead', WHERE WHAT IT READS IS OF BULK AT MOST 1048576: true; the input reads as it did. -/
def leafDeadUptoRow : OpenClaim := { program := "ytbnjeanldechnaagreatdoor", sum := "03228f3ca23342bbde9e48300b2eb04c4e61c3ce3db7cf18efbd3b9e0328823a", func := "quittance/quittancelaw17.LeafDead", spec := "leafDead", inPlace := ["internal/reflectlite.ValueOf", "(internal/reflectlite.Value).Type", "(internal/reflectlite.Value).IsNil", "internal/reflectlite.TypeOf", "(internal/reflectlite.Value).Elem", "(internal/reflectlite.Value).Set", "math/bits.Add64", "math/bits.Sub64"], unfollowed := true, recurses := true, named := ["errors.errorType"], apart := false, laid := [("errors.errorType", laid_errors_errorType)], narrowed := true }
def LeafDeadUptoSaid : Prop := leafDeadUptoRow.holds Tryz.pinned (OpenSpec.upto leafDeadSpec)

end Rows
end Go.Proofs.YtbnjeanldechnaaGreatDoor
