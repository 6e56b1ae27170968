/- An arc that came in. -/
import Derived.Test.YtbnjeanldechnaaGreatDoorTys
import Derived.Test.YtbnjeanldechnaaGreatDoorDat
import Derived.ProofKit
import Derived.ChangeArms
import Derived.KernelRfl
namespace Go.Proofs.YtbnjeanldechnaaGreatDoor
open Go.RowKit Go.Qe Go.ChangeShapes Go.WideShapes
end Go.Proofs.YtbnjeanldechnaaGreatDoor
