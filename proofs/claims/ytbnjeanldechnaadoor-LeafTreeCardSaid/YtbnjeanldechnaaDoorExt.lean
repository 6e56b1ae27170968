/- Functions that the model stands in for; bounds as pointers. -/
import Derived.Test.YtbnjeanldechnaaDoorDat
import Derived.Test.YtbnjeanldechnaaDoorTys
import Derived.KernelRfl
namespace Go.Proofs.YtbnjeanldechnaaDoor
open Go.RowKit Go.Qe
end Go.Proofs.YtbnjeanldechnaaDoor
