/- Two: the walks and the laws together. -/
import Derived.Test.YtpnohbdfgmjdbaaTTW4
import Derived.Test.YtpnohbdfgmjdbaaTwoQ
import Derived.Test.YtpnohbdfgmjdbaaInp
namespace Go.Proofs.Ytpnohbdfgmjdbaa
open Go.RowKit Go.Qe
theorem never_c {w : World} {k v n : Int} (hk : 0 ≤ k ∧ k ≤ 255) (hv : 0 ≤ v ∧ v ≤ 255) :
    Calls Try.prog 5 #[.int .u8 k, .int .u8 v, .int .i64 n] w fun e w' => e = .returned (.bool true) ∧ Below w.heap.size w w' := law18_TwoNever_w (never_true hk.1 hv)
end Go.Proofs.Ytpnohbdfgmjdbaa
