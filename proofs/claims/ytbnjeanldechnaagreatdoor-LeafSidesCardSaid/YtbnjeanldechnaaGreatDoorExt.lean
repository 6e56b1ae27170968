/- Functions that the model stands in for; bounds as pointers. -/
import Derived.Test.YtbnjeanldechnaaGreatDoorDat
import Derived.Test.YtbnjeanldechnaaGreatDoorTys
import Derived.KernelRfl
namespace Go.Proofs.YtbnjeanldechnaaGreatDoor
open Go.RowKit Go.Qe
def add64R : Array Value → Sem Value := fun args => do
  let (x, y, c) ← Extern.MathBitsCarry.three "Add64" args
  pure (Extern.MathBitsCarry.pair ((x + y + c) % Extern.MathBitsCarry.m64) ((x + y + c) / Extern.MathBitsCarry.m64))
theorem add64_w (x y c : Int) (hc : c = 0 ∨ c = 1) (w : World) : (callFunc 50 #[.int .u64 x, .int .u64 y, .int .u64 c]).run Tryz.prog w = .ok (.value (.tuple #[.int .u64 (add64 x y c).1, .int .u64 (add64 x y c).2])) w := by
  rw [run_callFunc_extern Tryz.func50 (by kernel_rfl) (by kernel_rfl) (by kernel_rfl) (e := add64R) (by kernel_rfl)]
  rcases hc with rfl | rfl <;> rfl
def sub64R : Array Value → Sem Value := fun args => do
  let (x, y, b) ← Extern.MathBitsCarry.three "Sub64" args
  pure (Extern.MathBitsCarry.pair ((x + Extern.MathBitsCarry.m64 - y - b) % Extern.MathBitsCarry.m64) (if x < y + b then 1 else 0))
theorem sub64_w (x y c : Int) (hc : c = 0 ∨ c = 1) (w : World) : (callFunc 43 #[.int .u64 x, .int .u64 y, .int .u64 c]).run Tryz.prog w = .ok (.value (.tuple #[.int .u64 (sub64 x y c).1, .int .u64 (sub64 x y c).2])) w := by
  rw [run_callFunc_extern Tryz.func43 (by kernel_rfl) (by kernel_rfl) (by kernel_rfl) (e := sub64R) (by kernel_rfl)]
  rcases hc with rfl | rfl <;> rfl
end Go.Proofs.YtbnjeanldechnaaGreatDoor
