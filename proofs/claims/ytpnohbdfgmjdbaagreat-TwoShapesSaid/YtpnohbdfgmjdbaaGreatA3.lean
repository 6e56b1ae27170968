/- Adj: lists of places compared; the document's lists; copies of a list. -/
import Derived.Test.YtpnohbdfgmjdbaaGreatA2
namespace Go.Proofs.YtpnohbdfgmjdbaaGreat
open Go.RowKit Go.Qe
end Go.Proofs.YtpnohbdfgmjdbaaGreat
