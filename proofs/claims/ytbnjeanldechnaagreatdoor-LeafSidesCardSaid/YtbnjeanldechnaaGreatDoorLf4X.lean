/- Leaf: LeafSides, the walk and the law together. -/
import Derived.Test.YtbnjeanldechnaaGreatDoorGW3
import Derived.Test.YtbnjeanldechnaaGreatDoorLf4
namespace Go.Proofs.YtbnjeanldechnaaGreatDoor
open Go.RowKit Go.Qe
theorem sides_c {w : World} {vc vd ve : Value} {c d e : List Int} (hc : U8Z (PH.of w) vc c) (hd : U8Z (PH.of w) vd d) (he : U8Z (PH.of w) ve e) (h8 : Byt c) (hd8 : Byt d) (pg : GlobE (PH.of w)) :
    Calls Tryz.prog 4 #[vc, vd, ve] w fun e w' => e = .returned (.bool true) ∧ Below w.heap.size w w' := law17_LeafSides_w (sides_true h8 hd8) (ints_F hc) (ints_F hd) (ints_F he) pg
end Go.Proofs.YtbnjeanldechnaaGreatDoor
