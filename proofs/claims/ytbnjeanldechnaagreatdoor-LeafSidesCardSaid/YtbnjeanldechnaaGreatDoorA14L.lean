/- Adj: Loops. -/
import Derived.Test.YtbnjeanldechnaaGreatDoorA14
namespace Go.Proofs.YtbnjeanldechnaaGreatDoor
open Go.RowKit Go.Qe
def loopsOf (i : Inst) (n : Int) : Int := (someL i n true false).length + (someL i n false true).length - (someL i n true true).length
set_option maxRecDepth 20000 in
set_option maxHeartbeats 1000000 in
theorem loops_c {w : World} {vg : Value} {i : Inst} {n : Int} (hg : GraphZ (PH.of w) vg i) (hb : i.arcs.length ≤ 3518437208883) :
    Calls Tryz.prog 73 #[vg, .int .i64 n] w fun e w' => e = .returned (.int .i64 (loopsOf i n)) ∧ Below w.heap.size w w' := by
  unfold loopsOf
  have l1 := someL_len i n true false
  have l2 := someL_len i n false true
  have l3 := someL_len i n true true
  refine enter_ Tryz.func73 rfl Tryz.ntmps73 rfl ?_
  repeat' (first | (refine WP.st tysOk false rfl (by first | exact True.intro | exact rfl | exact ⟨⟨rfl, rfl⟩, rfl⟩) rfl rfl rfl rfl ?_ ?_; · (first | exact True.intro | exact ⟨by omega, by omega⟩ | exact ⟨by omega, by omega, by omega, by omega⟩ | omega)))
  refine WP.callR (fun v : Value => v) (fun v => [.own v 3 1 (someL i n true false).length (ints (someL i n true false))]) (fun _ => True) rfl rfl rfl rfl rfl rfl rfl (by kernel_rfl) (fun w1 hw1 => out_c (hg.le (hw1.le (by simp))) (by omega)) ?_
  intro v1 _
  refine WP.shape .head ?_
  rintro A1 c1 rfl
  repeat' (first | (refine WP.st tysOk false rfl (by first | exact True.intro | exact rfl | exact ⟨⟨rfl, rfl⟩, rfl⟩) rfl rfl rfl rfl ?_ ?_; · (first | exact True.intro | exact ⟨by omega, by omega⟩ | exact ⟨by omega, by omega, by omega, by omega⟩ | omega)))
  refine WP.callR (fun v : Value => v) (fun v => [.own v 3 1 (someL i n false true).length (ints (someL i n false true))]) (fun _ => True) rfl rfl rfl rfl rfl rfl rfl (by kernel_rfl) (fun w1 hw1 => in_c (hg.le (hw1.le (by simp))) (by omega)) ?_
  intro v2 _
  refine WP.shape .head ?_
  rintro A2 c2 rfl
  repeat' (first | (refine WP.st tysOk false rfl (by first | exact True.intro | exact rfl | exact ⟨⟨rfl, rfl⟩, rfl⟩) rfl rfl rfl rfl ?_ ?_; · (first | exact True.intro | exact ⟨by omega, by omega⟩ | exact ⟨by omega, by omega, by omega, by omega⟩ | omega)))
  refine WP.callR (fun v : Value => v) (fun v => [.own v 3 1 (someL i n true true).length (ints (someL i n true true))]) (fun _ => True) rfl rfl rfl rfl rfl rfl rfl (by kernel_rfl) (fun w1 hw1 => at_c (hg.le (hw1.le (by simp))) hb) ?_
  intro v3 _
  refine WP.shape .head ?_
  rintro A3 c3 rfl
  repeat' (first | (refine WP.st tysOk false rfl (by first | exact True.intro | exact rfl | exact ⟨⟨rfl, rfl⟩, rfl⟩) rfl rfl rfl rfl ?_ ?_; · (first | exact True.intro | exact ⟨by omega, by omega⟩ | exact ⟨by omega, by omega, by omega, by omega⟩ | omega)))
  refine WP.ret1 rfl rfl rfl (fun w hw => ⟨rfl, Ret.below_ hw (by repeat (first | exact Pick.nil | (apply Pick.cons; (· repeat' (first | exact Rem.head | apply Rem.tail)
                                                                    )))
    )⟩)
end Go.Proofs.YtbnjeanldechnaaGreatDoor
