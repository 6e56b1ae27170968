/- Adj: lists of places compared; the document's lists; copies of a list. -/
import Derived.Test.YtbnjeanldechnaaGreatDoorTys
import Derived.Test.YtbnjeanldechnaaGreatDoorRd
namespace Go.Proofs.YtbnjeanldechnaaGreatDoor
open Go.RowKit Go.Qe
def wholeB (n : Nat) (a : Arc) : Bool := decide (0 ≤ a.src ∧ a.src < n ∧ 0 ≤ a.dst ∧ a.dst < n)
set_option maxHeartbeats 400000 in
theorem whole_c {w : World} {vi : Value} {i : Inst} {a : Arc} (hi : InstZ (PH.of w) vi i) :
    Calls Tryz.prog 104 #[vi, a.val] w fun e w' => e = .returned (.bool (wholeB i.supply.length a)) ∧ Below w.heap.size w w' := by
  obtain ⟨s, l, rfl, hs, hl⟩ := hi
  obtain ⟨A, c, rfl, hc, hm, hcell⟩ := hs.open_
  clear hs hl hcell
  obtain ⟨a0, a1, a2, a3, a4⟩ := a
  generalize i.supply.length = n at *
  refine enter_ Tryz.func104 rfl Tryz.ntmps104 rfl ?_
  repeat' (first | (refine WP.st tysOk false rfl (by first | exact True.intro | exact rfl | exact ⟨⟨rfl, rfl⟩, rfl⟩) rfl rfl rfl rfl ?_ ?_; · (first | exact True.intro | exact ⟨by omega, by omega⟩ | exact ⟨by omega, by omega, by omega, by omega⟩ | omega)) | (refine WP.ld tysOk rfl (by first | exact True.intro | exact rfl | exact ⟨⟨rfl, rfl⟩, rfl⟩) rfl rfl rfl rfl rfl rfl rfl ?_; apply ex2; (· first | (apply CellAt.blk; (· repeat' (first | exact Rem.head | apply Rem.tail)); (· rfl)) | (refine CellAt.fz ?_ (by assumption); repeat' (first | exact List.Mem.head _ | apply List.Mem.tail)) )) | (refine WP.box rfl rfl rfl rfl rfl rfl ?_; intro g) | refine WP.yes rfl rfl rfl ?_ | refine WP.no rfl rfl rfl rfl rfl ?_ | (refine WP.gs rfl rfl rfl rfl (fun hh => ?_) (fun hh => ?_) <;> (try simp only [decide_eq_true_eq, decide_eq_false_iff_not, Bool.not_true, Bool.not_false] at hh) <;> (try (exfalso; omega))))
  all_goals refine WP.ret1 rfl rfl rfl (fun w hw => ⟨ret_bool ?_, Ret.below_ hw (by repeat (first | exact Pick.nil | (apply Pick.cons; (· repeat' (first | exact Rem.head | apply Rem.tail)
                                                                                      )))
    )⟩)
  all_goals simp only [wholeB]
  all_goals (rw [Bool.eq_iff_iff]; simp <;> omega)
/-- a node or an arc is there (ref04.fit) -/
def fitB (i : Inst) (a : Int) : Bool := decide (0 ≤ a ∧ a < i.arcs.length) && wholeB i.supply.length (arcAt i.arcs a.toNat)
end Go.Proofs.YtbnjeanldechnaaGreatDoor
namespace Go.Proofs.YtbnjeanldechnaaGreatDoor
open Go.RowKit Go.Qe
def pickB (i : Inst) (n : Int) (out inn : Bool) (k : Nat) : Bool := fitB i k && (out && decide ((arcAt i.arcs k).src = n) || inn && decide ((arcAt i.arcs k).dst = n))
/-- the arcs up to k that are picked -/
def someTo (i : Inst) (n : Int) (out inn : Bool) (k : Nat) : List Int := ((List.range k).filter (pickB i n out inn)).map fun k : Nat => (k : Int)
def someL (i : Inst) (n : Int) (out inn : Bool) : List Int := someTo i n out inn i.arcs.length
theorem someTo_len (i : Inst) (n : Int) (out inn : Bool) (k : Nat) : (someTo i n out inn k).length ≤ k := by
  simp only [someTo, List.length_map]
  exact Nat.le_trans (List.length_filter_le _ _) (by simp)
end Go.Proofs.YtbnjeanldechnaaGreatDoor
namespace Go.Proofs.YtbnjeanldechnaaGreatDoor
open Go.RowKit Go.Qe
end Go.Proofs.YtbnjeanldechnaaGreatDoor
