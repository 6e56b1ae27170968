/- Plain facts for what the printed functions compute. -/
import Derived.Test.YtbnjeanldechnaaGreatDoorDat
namespace Go.Qe
open Go.RowKit
theorem w64_id {x : Int} (h1 : -9223372036854775808 ≤ x) (h2 : x ≤ 9223372036854775807) : w64 x = x := wrap_rng ⟨h1, h2⟩
theorem gt_arc (xs : List Arc) (k : Nat) : gt xs (k : Int) = arcAt xs k := by simp [gt, arcAt]
theorem upd_nat {α : Type} (xs : List α) (k : Nat) (y : α) : upd xs (k : Int) y = xs.set k y := by simp [upd]
theorem upd_len {α : Type} (xs : List α) (j : Int) (y : α) : (upd xs j y).length = xs.length := by simp [upd]
theorem lt_eq {α β : Type} (x : α) (K : α → β) : lt x K = K x := rfl
end Go.Qe
