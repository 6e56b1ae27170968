/- Functions that the model stands in for; bounds as pointers. -/
import Derived.Test.YtcmcbiojkanlnaaDat
import Derived.Test.YtcmcbiojkanlnaaTys
import Derived.KernelRfl
namespace Go.Proofs.Ytcmcbiojkanlnaa
open Go.RowKit Go.Qe
end Go.Proofs.Ytcmcbiojkanlnaa
