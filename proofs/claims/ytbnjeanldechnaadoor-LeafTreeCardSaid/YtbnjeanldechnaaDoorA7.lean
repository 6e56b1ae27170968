/- Adj: Arc and Other. -/
import Derived.Test.YtbnjeanldechnaaDoorA6
namespace Go.Proofs.YtbnjeanldechnaaDoor
open Go.RowKit Go.Qe
def arcGet (i : Inst) (a : Int) : Arc := if fitB i a = true then arcAt i.arcs a.toNat else default
end Go.Proofs.YtbnjeanldechnaaDoor
