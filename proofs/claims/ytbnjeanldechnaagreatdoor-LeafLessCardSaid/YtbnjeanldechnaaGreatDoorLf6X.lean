/- Leaf: LeafLess, the walk and the law together. -/
import Derived.Test.YtbnjeanldechnaaGreatDoorGW3
import Derived.Test.YtbnjeanldechnaaGreatDoorLf6
namespace Go.Proofs.YtbnjeanldechnaaGreatDoor
open Go.RowKit Go.Qe
theorem less_c {w : World} {vc vd vx : Value} {c d x : List Int} (hc : U8Z (PH.of w) vc c) (hd : U8Z (PH.of w) vd d) (hx : KintsZ .i64 (PH.of w) vx x) (h8 : Byt c) (hd8 : Byt d) (pg : GlobE (PH.of w)) :
    Calls Tryz.prog 6 #[vc, vd, vx] w fun e w' => e = .returned (.bool true) ∧ Below w.heap.size w w' := law17_LeafLess_w (less_true h8 hd8) (ints_F hc) (ints_F hd) (ints_F hx) pg
end Go.Proofs.YtbnjeanldechnaaGreatDoor
