/- Adj: lists of places compared; the document's lists; copies of a list. -/
import Derived.Test.YtbnjeanldechnaaGreatDoorA2
namespace Go.Proofs.YtbnjeanldechnaaGreatDoor
open Go.RowKit Go.Qe
end Go.Proofs.YtbnjeanldechnaaGreatDoor
