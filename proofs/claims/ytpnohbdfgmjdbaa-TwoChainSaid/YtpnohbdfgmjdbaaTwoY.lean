/- Two: TwoChain, the walk and the law together. -/
import Derived.Test.YtpnohbdfgmjdbaaTTW4
import Derived.Test.YtpnohbdfgmjdbaaTwoS
namespace Go.Proofs.Ytpnohbdfgmjdbaa
open Go.RowKit Go.Qe
theorem chain_c {w : World} {vc vd : Value} {c d : List Int} {n : Int} (hc : U8Z (PH.of w) vc c) (hd : U8Z (PH.of w) vd d) (h8 : Byt c) (hd8 : Byt d) (hn : 0 ≤ n ∧ n ≤ 255) :
    Calls Try.prog 4 #[.int .u8 n, vc, vd] w fun e w' => e = .returned (.bool true) ∧ Below w.heap.size w w' := law18_TwoChain_w (chain_true hn.1 h8 hd8) (ints_F hc) (ints_F hd)
end Go.Proofs.Ytpnohbdfgmjdbaa
