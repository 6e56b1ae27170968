/- Adj: ref04.some, Out, At. -/
import Derived.Test.YtbnjeanldechnaaDoorA1
namespace Go.Proofs.YtbnjeanldechnaaDoor
open Go.RowKit Go.Qe
def pickB (i : Inst) (n : Int) (out inn : Bool) (k : Nat) : Bool := fitB i k && (out && decide ((arcAt i.arcs k).src = n) || inn && decide ((arcAt i.arcs k).dst = n))
/-- the arcs up to k that are picked -/
def someTo (i : Inst) (n : Int) (out inn : Bool) (k : Nat) : List Int := ((List.range k).filter (pickB i n out inn)).map fun k : Nat => (k : Int)
def someL (i : Inst) (n : Int) (out inn : Bool) : List Int := someTo i n out inn i.arcs.length
theorem someTo_yes {i : Inst} {n : Int} {out inn : Bool} {k : Nat} (h : pickB i n out inn k = true) : someTo i n out inn (k + 1) = someTo i n out inn k ++ [(k : Int)] := by
  simp [someTo, List.range_succ, List.filter_append, h]
theorem someTo_no {i : Inst} {n : Int} {out inn : Bool} {k : Nat} (h : pickB i n out inn k = false) : someTo i n out inn (k + 1) = someTo i n out inn k := by
  simp [someTo, List.range_succ, List.filter_append, h]
theorem someTo_len (i : Inst) (n : Int) (out inn : Bool) (k : Nat) : (someTo i n out inn k).length ≤ k := by
  simp only [someTo, List.length_map]
  exact Nat.le_trans (List.length_filter_le _ _) (by simp)
end Go.Proofs.YtbnjeanldechnaaDoor
