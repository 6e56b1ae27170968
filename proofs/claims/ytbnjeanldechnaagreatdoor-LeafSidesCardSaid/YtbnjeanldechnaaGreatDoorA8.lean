/- Adj: Other. -/
import Derived.Test.YtbnjeanldechnaaGreatDoorA7
namespace Go.Proofs.YtbnjeanldechnaaGreatDoor
open Go.RowKit Go.Qe
def otherOf (i : Inst) (a n : Int) : Int := if fitB i a = true ∧ (arcGet i a).src = n then (arcGet i a).dst else if fitB i a = true ∧ (arcGet i a).dst = n then (arcGet i a).src else -1
end Go.Proofs.YtbnjeanldechnaaGreatDoor
