/- Adj: lists of places compared; the document's lists; copies of a list. -/
import Derived.Test.YtbnjeanldechnaaDoorA2
namespace Go.Proofs.YtbnjeanldechnaaDoor
open Go.RowKit Go.Qe
end Go.Proofs.YtbnjeanldechnaaDoor
