/- Adj: lists of places compared; the document's lists; copies of a list. -/
import Derived.Test.YtpnohbdfgmjdbaaA2
namespace Go.Proofs.Ytpnohbdfgmjdbaa
open Go.RowKit Go.Qe
end Go.Proofs.Ytpnohbdfgmjdbaa
