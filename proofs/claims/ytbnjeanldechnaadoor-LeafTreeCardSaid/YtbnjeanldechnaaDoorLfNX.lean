/- Leaf: LeafTree, the walk and the law together. -/
import Derived.Test.YtbnjeanldechnaaDoorGW2
import Derived.Test.YtbnjeanldechnaaDoorLfN
namespace Go.Proofs.YtbnjeanldechnaaDoor
open Go.RowKit Go.Qe
theorem tree_c {w : World} {vc vd : Value} {c d : List Int} (hc : U8Z (PH.of w) vc c) (hd : U8Z (PH.of w) vd d) (h8 : Byt c) (hd8 : Byt d) (pg : GlobE (PH.of w)) :
    Calls Tryd.prog 3 #[vc, vd] w fun e w' => e = .returned (.bool true) ∧ Below w.heap.size w w' := law17_LeafTree_w (tree_true h8 hd8) (ints_F hc) (ints_F hd) pg
end Go.Proofs.YtbnjeanldechnaaDoor
