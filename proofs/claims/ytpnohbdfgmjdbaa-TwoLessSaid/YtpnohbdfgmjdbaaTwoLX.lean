/- Two: TwoLess, the walk and the law together. -/
import Derived.Test.YtpnohbdfgmjdbaaGW4
import Derived.Test.YtpnohbdfgmjdbaaTwoL
namespace Go.Proofs.Ytpnohbdfgmjdbaa
open Go.RowKit Go.Qe
theorem less_c {w : World} {vc vd : Value} {c d : List Int} {s : Bool} (hc : U8Z (PH.of w) vc c) (hd : U8Z (PH.of w) vd d) (h8 : Byt c) (hd8 : Byt d) :
    Calls Try.prog 6 #[vc, vd, .bool s] w fun e w' => e = .returned (.bool true) ∧ Below w.heap.size w w' := law18_TwoLess_w (less_true h8 hd8 s) (ints_F hc) (ints_F hd)
end Go.Proofs.Ytpnohbdfgmjdbaa
