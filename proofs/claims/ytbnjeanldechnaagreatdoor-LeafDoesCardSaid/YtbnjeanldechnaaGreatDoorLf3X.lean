/- Leaf: LeafDoes, the walk and the law together. -/
import Derived.Test.YtbnjeanldechnaaGreatDoorGW3
import Derived.Test.YtbnjeanldechnaaGreatDoorLf3
import Derived.Test.YtbnjeanldechnaaGreatDoorOpI
namespace Go.Proofs.YtbnjeanldechnaaGreatDoor
open Go.RowKit Go.Qe
theorem kints_len {k : IntKind} {Z : PH} {v : Value} {xs : List Int} (h : KintsZ k Z v xs) : xs.length ≤ 9223372036854775807 := by
  obtain ⟨A, c, _, hs⟩ := ints_F h
  have := hs.le; have := hs.cap; omega
theorem does_c {w : World} {vi vc vd : Value} {i : Inst} {c d : List Int} {n k m : Int} (hi : InsZ (PH.of w) vi i) (hc : U8Z (PH.of w) vc c) (hd : U8Z (PH.of w) vd d) (h8 : Byt c) (hd8 : Byt d) (pg : GlobE (PH.of w)) :
    Calls Tryz.prog 3 #[vi, .int .i64 n, vc, vd, .int .u8 k, .int .i64 m] w fun e w' => e = .returned (.bool true) ∧ Below w.heap.size w w' := law17_LeafDoes_w (doeslaw_true h8 hd8 (kints_len hd)) hi (ints_F hc) (ints_F hd) pg
end Go.Proofs.YtbnjeanldechnaaGreatDoor
