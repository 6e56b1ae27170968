/- Functions that the model stands in for; bounds as pointers. -/
import Derived.Test.YtpnohbdfgmjdbaaDat
import Derived.Test.YtpnohbdfgmjdbaaTys
import Derived.KernelRfl
namespace Go.Proofs.Ytpnohbdfgmjdbaa
open Go.RowKit Go.Qe
def add64R : Array Value → Sem Value := fun args => do
  let (x, y, c) ← Extern.MathBitsCarry.three "Add64" args
  pure (Extern.MathBitsCarry.pair ((x + y + c) % Extern.MathBitsCarry.m64) ((x + y + c) / Extern.MathBitsCarry.m64))
theorem add64_w (x y c : Int) (hc : c = 0 ∨ c = 1) (w : World) : (callFunc 44 #[.int .u64 x, .int .u64 y, .int .u64 c]).run Try.prog w = .ok (.value (.tuple #[.int .u64 (add64 x y c).1, .int .u64 (add64 x y c).2])) w := by
  rw [run_callFunc_extern Try.func44 (by kernel_rfl) (by kernel_rfl) (by kernel_rfl) (e := add64R) (by kernel_rfl)]
  rcases hc with rfl | rfl <;> rfl
def sub64R : Array Value → Sem Value := fun args => do
  let (x, y, b) ← Extern.MathBitsCarry.three "Sub64" args
  pure (Extern.MathBitsCarry.pair ((x + Extern.MathBitsCarry.m64 - y - b) % Extern.MathBitsCarry.m64) (if x < y + b then 1 else 0))
theorem sub64_w (x y c : Int) (hc : c = 0 ∨ c = 1) (w : World) : (callFunc 85 #[.int .u64 x, .int .u64 y, .int .u64 c]).run Try.prog w = .ok (.value (.tuple #[.int .u64 (sub64 x y c).1, .int .u64 (sub64 x y c).2])) w := by
  rw [run_callFunc_extern Try.func85 (by kernel_rfl) (by kernel_rfl) (by kernel_rfl) (e := sub64R) (by kernel_rfl)]
  rcases hc with rfl | rfl <;> rfl
abbrev two_bound_S (n : Int) : Value → Heap → Prop := fun v L => ∃ g, v = .pointer (some ⟨g, 0, none⟩) ∧ L = [.blk g 2 [.int .i64 n]]
theorem two_bound_nil {w : World} {n : Int} (h : n = 4611686018427387904) : Calls Try.prog 73 #[.int .i64 n] w fun e w' => e = .returned (.pointer none) ∧ Below w.heap.size w w' := by
  refine enter_ Try.func73 rfl Try.ntmps73 rfl ?_
  refine WP.box rfl rfl rfl rfl rfl rfl ?_
  intro g1
  refine WP.st tysOk true rfl True.intro rfl rfl rfl rfl True.intro ?_
  refine WP.ld1 tysOk rfl True.intro rfl rfl rfl rfl rfl rfl rfl (CellAt.blk .head rfl) ?_
  refine WP.st tysOk true rfl True.intro rfl rfl rfl rfl True.intro ?_
  refine WP.cond_d rfl rfl (fun _ => ?_) (fun hh => absurd h hh)
  refine WP.st tysOk true rfl True.intro rfl rfl rfl rfl True.intro ?_
  refine WP.retR tysOk rfl rfl ⟨_, _, rfl, rfl, rfl⟩ (fun w1 hw1 => ⟨rfl, Ret.below_ hw1 (.cons (.tail .head) .nil)⟩)
theorem two_bound_some {w : World} {n : Int} (h : ¬ n = 4611686018427387904) : Calls Try.prog 73 #[.int .i64 n] w fun e w' => ∃ v L, e = .returned v ∧ two_bound_S n v L ∧ Ret w w' L := by
  refine enter_ Try.func73 rfl Try.ntmps73 rfl ?_
  refine WP.box rfl rfl rfl rfl rfl rfl ?_
  intro g1
  refine WP.st tysOk true rfl True.intro rfl rfl rfl rfl True.intro ?_
  refine WP.ld1 tysOk rfl True.intro rfl rfl rfl rfl rfl rfl rfl (CellAt.blk .head rfl) ?_
  refine WP.st tysOk true rfl True.intro rfl rfl rfl rfl True.intro ?_
  refine WP.cond_d rfl rfl (fun hh => absurd hh h) (fun _ => ?_)
  refine WP.st tysOk true rfl True.intro rfl rfl rfl rfl True.intro ?_
  refine WP.retR tysOk rfl rfl ⟨_, _, rfl, rfl, rfl⟩ (fun w1 hw1 => ⟨_, _, rfl, ⟨g1, rfl, rfl⟩, Ret.of_KH hw1 (.cons .head (.cons .head .nil))⟩)
end Go.Proofs.Ytpnohbdfgmjdbaa
