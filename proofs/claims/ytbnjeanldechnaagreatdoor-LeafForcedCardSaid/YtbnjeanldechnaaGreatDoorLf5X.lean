/- Leaf: LeafForced, the walk and the law together. -/
import Derived.Test.YtbnjeanldechnaaGreatDoorGW3
import Derived.Test.YtbnjeanldechnaaGreatDoorLf5
namespace Go.Proofs.YtbnjeanldechnaaGreatDoor
open Go.RowKit Go.Qe
theorem i64_rng {x : Int} (h : (Lit.int .i64 x).wf = true) : I64 x := by
  have e1 : IntKind.i64.min = -9223372036854775808 := rfl
  have e2 : IntKind.i64.max = 9223372036854775807 := rfl
  simp only [Lit.wf, e1, e2, Bool.and_eq_true, decide_eq_true_eq] at h
  exact h
theorem forced_c {w : World} {vc vd ve vx : Value} {c d e x : List Int} (hc : U8Z (PH.of w) vc c) (hd : U8Z (PH.of w) vd d) (he : U8Z (PH.of w) ve e) (hx : KintsZ .i64 (PH.of w) vx x) (h8 : Byt c) (hd8 : Byt d) (he8 : Byt e) (hx8 : ∀ v ∈ x, (Lit.int .i64 v).wf = true) (pg : GlobE (PH.of w)) :
    Calls Tryz.prog 5 #[vc, vd, ve, vx] w fun e w' => e = .returned (.bool true) ∧ Below w.heap.size w w' := law17_LeafForced_w (forcedlaw_true h8 hd8 he8 fun v hv => i64_rng (hx8 v hv)) (ints_F hc) (ints_F hd) (ints_F he) (ints_F hx) pg
end Go.Proofs.YtbnjeanldechnaaGreatDoor
