/- Leaf: what a row's condition says of errors.errorType; a world that meets it. -/
import Derived.Test.YtbnjeanldechnaaGreatDoorCards
import Derived.Test.YtbnjeanldechnaaGreatDoorTie
import Derived.Test.YtbnjeanldechnaaGreatDoorLfG
import Derived.ChangeSame
import Derived.ChangeVars
import Derived.JoinedOf
import Derived.LaidLaws
import Derived.LaidHandle
import Derived.Stop.Joined
import Derived.SevenTiedAt
namespace Go.Proofs.YtbnjeanldechnaaGreatDoor
open Go.RowKit Go.Qe
abbrev laidL : List (String × DataW Unit) := [("errors.errorType", Rows.laid_errors_errorType)]
theorem l_et : Tryz.prog.globalNamed "errors.errorType" = some 0 := by kernel_rfl
theorem l_rt : (Tryz.prog.cutTypes.find? (·.1 == "internal/reflectlite.rtype")).map (·.2) = some 163 := by kernel_rfl
theorem l_one : ((List.range Tryz.prog.types.size).filter fun t => Tryz.prog.rowNamed t [101, 114, 114, 111, 114]) = [103] := by kernel_rfl
theorem l_th : typeHandle Tryz.prog 103 = .pointer (some ⟨1, 103, none⟩) := by kernel_rfl
theorem glob_of {W : World} (h : laidMetH Tryz.prog laidL W) : GlobE (PH.of W) := by
  have h' : laidMet Tryz.prog [] W ∧ handlesMet Tryz.prog laidL W := h
  obtain ⟨name, u, ty, e1, e2, e3, e4, e5⟩ := h'.2 _ (List.mem_singleton.2 rfl)
  have en : name = [101, 114, 114, 111, 114] := (Option.some.inj e1).symm
  subst en
  obtain rfl := Option.some.inj (l_rt.symm.trans e2)
  have hm : ty ∈ (List.range Tryz.prog.types.size).filter fun t => Tryz.prog.rowNamed t [101, 114, 114, 111, 114] := List.mem_filter.2 ⟨List.mem_range.2 e3, e4⟩
  rw [l_one] at hm
  obtain rfl := List.mem_singleton.1 hm
  rw [l_th] at e5
  have hc : W.cell? ⟨0, 0, none⟩ = some gErr := (World.var?_cell l_et e5 0).trans rfl
  unfold GlobE
  rw [Zc_of]
  exact hc
noncomputable def laidWorld (os : Os) : World :=
  let w0 := World.holding Tryz.prog os ⟨#[], #[], []⟩
  { w0 with heap := w0.heap.modify 0 fun
      | .cells _ t frozen => .cells #[.iface 163 (.agg #[.pointer (some ⟨1, 103, none⟩)])] t frozen
      | o => o }
theorem laidWorld_met (os : Os) (args : Array Value) : laidMetH Tryz.prog laidL ((laidWorld os).forCall (fun _ _ => 0) ⟨#[], args, []⟩).memory :=
  laidMetH_of_parts (laidMet_nil _ _) (by kernel_rfl)
end Go.Proofs.YtbnjeanldechnaaGreatDoor
