/- Functions that the model stands in for; bounds as pointers. -/
import Derived.Test.YtpnohbdfgmjdbaaGreatDat
import Derived.Test.YtpnohbdfgmjdbaaGreatTys
import Derived.KernelRfl
namespace Go.Proofs.YtpnohbdfgmjdbaaGreat
open Go.RowKit Go.Qe
abbrev two_bound_S (n : Int) : Value → Heap → Prop := fun v L => ∃ g, v = .pointer (some ⟨g, 0, none⟩) ∧ L = [.blk g 2 [.int .i64 n]]
theorem two_bound_nil {w : World} {n : Int} (h : n = 4611686018427387904) : Calls Tryz.prog 70 #[.int .i64 n] w fun e w' => e = .returned (.pointer none) ∧ Below w.heap.size w w' := by
  refine enter_ Tryz.func70 rfl Tryz.ntmps70 rfl ?_
  refine WP.box rfl rfl rfl rfl rfl rfl ?_
  intro g1
  refine WP.st tysOk true rfl True.intro rfl rfl rfl rfl True.intro ?_
  refine WP.ld1 tysOk rfl True.intro rfl rfl rfl rfl rfl rfl rfl (CellAt.blk .head rfl) ?_
  refine WP.st tysOk true rfl True.intro rfl rfl rfl rfl True.intro ?_
  refine WP.cond_d rfl rfl (fun _ => ?_) (fun hh => absurd h hh)
  refine WP.st tysOk true rfl True.intro rfl rfl rfl rfl True.intro ?_
  refine WP.retR tysOk rfl rfl ⟨_, _, rfl, rfl, rfl⟩ (fun w1 hw1 => ⟨rfl, Ret.below_ hw1 (.cons (.tail .head) .nil)⟩)
theorem two_bound_some {w : World} {n : Int} (h : ¬ n = 4611686018427387904) : Calls Tryz.prog 70 #[.int .i64 n] w fun e w' => ∃ v L, e = .returned v ∧ two_bound_S n v L ∧ Ret w w' L := by
  refine enter_ Tryz.func70 rfl Tryz.ntmps70 rfl ?_
  refine WP.box rfl rfl rfl rfl rfl rfl ?_
  intro g1
  refine WP.st tysOk true rfl True.intro rfl rfl rfl rfl True.intro ?_
  refine WP.ld1 tysOk rfl True.intro rfl rfl rfl rfl rfl rfl rfl (CellAt.blk .head rfl) ?_
  refine WP.st tysOk true rfl True.intro rfl rfl rfl rfl True.intro ?_
  refine WP.cond_d rfl rfl (fun hh => absurd hh h) (fun _ => ?_)
  refine WP.st tysOk true rfl True.intro rfl rfl rfl rfl True.intro ?_
  refine WP.retR tysOk rfl rfl ⟨_, _, rfl, rfl, rfl⟩ (fun w1 hw1 => ⟨_, _, rfl, ⟨g1, rfl, rfl⟩, Ret.of_KH hw1 (.cons .head (.cons .head .nil))⟩)
end Go.Proofs.YtpnohbdfgmjdbaaGreat
