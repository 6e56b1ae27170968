/- Adj: the walks and the laws together. -/
import Derived.Test.YtcmcbiojkanlnaaGAW1
import Derived.Test.YtcmcbiojkanlnaaAdjP
namespace Go.Proofs.Ytcmcbiojkanlnaa
open Go.RowKit Go.Qe
theorem keeps_c {w : World} {vc vd : Value} {c d : List Int} {n : Int} (hc : U8Z (PH.of w) vc c) (hd : U8Z (PH.of w) vd d) (h8 : Byt c) (hd8 : Byt d) (hn : 0 ≤ n ∧ n ≤ 255) :
    Calls Try.prog 3 #[vc, vd, .int .u8 n] w fun e w' => e = .returned (.bool true) ∧ Below w.heap.size w w' := law04_AdjKeeps_w (keeps_true h8 hd8 hn) (ints_F hc) (ints_F hd)
theorem more_c {w : World} {vc vd : Value} {c d : List Int} {u v : Int} (hc : U8Z (PH.of w) vc c) (hd : U8Z (PH.of w) vd d) (h8 : Byt c) (hd8 : Byt d) (hu : 0 ≤ u ∧ u ≤ 255) (hv : 0 ≤ v ∧ v ≤ 255) :
    Calls Try.prog 4 #[vc, vd, .int .u8 u, .int .u8 v] w fun e w' => e = .returned (.bool true) ∧ Below w.heap.size w w' := law04_AdjMore_w (more_true h8 hd8 hu hv) (ints_F hc) (ints_F hd)
theorem turned_c {w : World} {vc vd : Value} {c d : List Int} (hc : U8Z (PH.of w) vc c) (hd : U8Z (PH.of w) vd d) (h8 : Byt c) (hd8 : Byt d) :
    Calls Try.prog 6 #[vc, vd] w fun e w' => e = .returned (.bool true) ∧ Below w.heap.size w w' := law04_AdjTurned_w (turned_true h8 hd8) (ints_F hc) (ints_F hd)
end Go.Proofs.Ytcmcbiojkanlnaa
