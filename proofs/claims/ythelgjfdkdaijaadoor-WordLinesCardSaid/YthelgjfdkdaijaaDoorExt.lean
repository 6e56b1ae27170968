/- Functions that the model stands in for; bounds as pointers. -/
import Derived.Test.YthelgjfdkdaijaaDoorDat
import Derived.Test.YthelgjfdkdaijaaDoorTys
import Derived.KernelRfl
namespace Go.Proofs.YthelgjfdkdaijaaDoor
open Go.RowKit Go.Qe
end Go.Proofs.YthelgjfdkdaijaaDoor
