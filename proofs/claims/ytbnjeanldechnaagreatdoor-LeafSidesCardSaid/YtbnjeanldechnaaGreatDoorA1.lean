/- Adj: the small functions. -/
import Derived.Test.YtbnjeanldechnaaGreatDoorTys
import Derived.Test.YtbnjeanldechnaaGreatDoorRd
namespace Go.Proofs.YtbnjeanldechnaaGreatDoor
open Go.RowKit Go.Qe
def wholeB (n : Nat) (a : Arc) : Bool := decide (0 ≤ a.src ∧ a.src < n ∧ 0 ≤ a.dst ∧ a.dst < n)
set_option maxHeartbeats 400000 in
theorem whole_c {w : World} {vi : Value} {i : Inst} {a : Arc} (hi : InstZ (PH.of w) vi i) :
    Calls Tryz.prog 104 #[vi, a.val] w fun e w' => e = .returned (.bool (wholeB i.supply.length a)) ∧ Below w.heap.size w w' := by
  obtain ⟨s, l, rfl, hs, hl⟩ := hi
  obtain ⟨A, c, rfl, hc, hm, hcell⟩ := hs.open_
  clear hs hl hcell
  obtain ⟨a0, a1, a2, a3, a4⟩ := a
  generalize i.supply.length = n at *
  refine enter_ Tryz.func104 rfl Tryz.ntmps104 rfl ?_
  repeat' (first | (refine WP.st tysOk false rfl (by first | exact True.intro | exact rfl | exact ⟨⟨rfl, rfl⟩, rfl⟩) rfl rfl rfl rfl ?_ ?_; · (first | exact True.intro | exact ⟨by omega, by omega⟩ | exact ⟨by omega, by omega, by omega, by omega⟩ | omega)) | (refine WP.ld tysOk rfl (by first | exact True.intro | exact rfl | exact ⟨⟨rfl, rfl⟩, rfl⟩) rfl rfl rfl rfl rfl rfl rfl ?_; apply ex2; (· first | (apply CellAt.blk; (· repeat' (first | exact Rem.head | apply Rem.tail)); (· rfl)) | (refine CellAt.fz ?_ (by assumption); repeat' (first | exact List.Mem.head _ | apply List.Mem.tail)) )) | (refine WP.box rfl rfl rfl rfl rfl rfl ?_; intro g) | refine WP.yes rfl rfl rfl ?_ | refine WP.no rfl rfl rfl rfl rfl ?_ | (refine WP.gs rfl rfl rfl rfl (fun hh => ?_) (fun hh => ?_) <;> (try simp only [decide_eq_true_eq, decide_eq_false_iff_not, Bool.not_true, Bool.not_false] at hh) <;> (try (exfalso; omega))))
  all_goals refine WP.ret1 rfl rfl rfl (fun w hw => ⟨ret_bool ?_, Ret.below_ hw (by repeat (first | exact Pick.nil | (apply Pick.cons; (· repeat' (first | exact Rem.head | apply Rem.tail)
                                                                                      )))
    )⟩)
  all_goals simp only [wholeB]
  all_goals (rw [Bool.eq_iff_iff]; simp <;> omega)
/-- a node or an arc is there (ref04.fit) -/
def fitB (i : Inst) (a : Int) : Bool := decide (0 ≤ a ∧ a < i.arcs.length) && wholeB i.supply.length (arcAt i.arcs a.toNat)
set_option maxHeartbeats 1000000 in
theorem fit_c {w : World} {vi : Value} {i : Inst} {a : Int} (hi : InstZ (PH.of w) vi i) :
    Calls Tryz.prog 93 #[vi, .int .i64 a] w fun e w' => e = .returned (.bool (fitB i a)) ∧ Below w.heap.size w w' := by
  obtain ⟨s, l, rfl, hs, hl⟩ := hi
  obtain ⟨A, c, rfl, hc, hm, hcell⟩ := hs.open_
  obtain ⟨A', c', rfl, hc', hm', hcell'⟩ := hl.open_
  clear hs hl hcell
  by_cases ha : 0 ≤ a ∧ a < i.arcs.length
  · obtain ⟨k, rfl⟩ := Int.eq_ofNat_of_zero_le ha.1
    obtain ⟨b, off, rfl, hk⟩ := hcell' (by omega)
    obtain ⟨_, _, _, _, _, g5⟩ := hk k (by omega)
    have H : fitB i k = wholeB i.supply.length (arcAt i.arcs k) := by simp [fitB]; omega
    rw [H]
    clear hcell' hk H
    generalize arcAt i.arcs k = x at *
    obtain ⟨a0, a1, a2, a3, a4⟩ := x
    generalize i.supply.length = n at *
    generalize i.arcs.length = m at *
    refine enter_ Tryz.func93 rfl Tryz.ntmps93 rfl ?_
    repeat' (first | (refine WP.st tysOk false rfl (by first | exact True.intro | exact rfl | exact ⟨⟨rfl, rfl⟩, rfl⟩) rfl rfl rfl rfl ?_ ?_; · (first | exact True.intro | exact ⟨by omega, by omega⟩ | exact ⟨by omega, by omega, by omega, by omega⟩ | omega)) | (refine WP.ld tysOk rfl (by first | exact True.intro | exact rfl | exact ⟨⟨rfl, rfl⟩, rfl⟩) rfl rfl rfl rfl rfl rfl rfl ?_; apply ex2; (· first | (apply CellAt.blk; (· repeat' (first | exact Rem.head | apply Rem.tail)); (· rfl)) | (refine CellAt.fz ?_ (by assumption); repeat' (first | exact List.Mem.head _ | apply List.Mem.tail)) )) | (refine WP.ldn tysOk rfl (by first | exact True.intro | exact rfl | exact ⟨⟨rfl, rfl⟩, rfl⟩) rfl rfl rfl rfl rfl rfl rfl ?_; apply ex2; (· first | (apply SegAt.blk'; (· repeat' (first | exact Rem.head | apply Rem.tail)); (· rfl)) | (refine ⟨SegAt.fz ?_ (by assumption), rfl⟩; repeat' (first | exact List.Mem.head _ | apply List.Mem.tail)) )) | (refine WP.sto tysOk rfl rfl rfl rfl rfl rfl rfl rfl rfl ?_; apply ex3; (· repeat' (first | exact Rem.head | apply Rem.tail) ); (· first | exact Nat.le_of_ble_eq_true rfl | (simp [kints_length, arcsCells_length]; omega) )) | refine WP.ix1 tysOk rfl (by first | exact True.intro | exact rfl | exact ⟨⟨rfl, rfl⟩, rfl⟩) rfl rfl rfl rfl rfl rfl rfl rfl (by first | omega | (simp only []; omega)) ?_ | refine WP.ix tysOk rfl (by first | exact True.intro | exact rfl | exact ⟨⟨rfl, rfl⟩, rfl⟩) rfl rfl rfl rfl rfl rfl rfl rfl (by first | omega | (simp only []; omega)) ?_ | (refine WP.box rfl rfl rfl rfl rfl rfl ?_; intro g) | (refine WP.al tysOk rfl rfl rfl rfl rfl rfl ?_; intro g) | (refine WP.bs tysOk rfl rfl rfl rfl rfl rfl rfl rfl rfl rfl rfl rfl ?_; intro g) | refine WP.yes rfl rfl rfl ?_ | refine WP.no rfl rfl rfl rfl rfl ?_ | refine WP.noU rfl rfl rfl rfl ?_ | (refine WP.gs rfl rfl rfl rfl (fun hh => ?_) (fun hh => ?_) <;> (try simp only [decide_eq_true_eq, decide_eq_false_iff_not, Bool.not_true, Bool.not_false] at hh) <;> (try (exfalso; omega))) | refine WP.condT rfl rfl ?_ | refine WP.condF rfl rfl ?_ | (refine WP.cond_d rfl rfl (fun hh => ?_) (fun hh => ?_) <;> try (exfalso; omega)) | refine WP.cond rfl rfl (fun hh => ?_) (fun hh => ?_) | refine WP.bld tysOk rfl (by first | exact True.intro | exact rfl | exact ⟨⟨rfl, rfl⟩, rfl⟩) rfl rfl rfl rfl rfl rfl rfl ?_ | (refine WP.lal tysOk rfl ⟨rfl, rfl⟩ rfl rfl rfl rfl rfl rfl rfl ?_; intro g) | refine WP.lend rfl ⟨rfl, rfl⟩ ?_ | refine WP.qend rfl ?_ | refine WP.mn rfl (by first | exact True.intro | exact rfl | exact ⟨⟨rfl, rfl⟩, rfl⟩) rfl rfl rfl rfl rfl rfl ?_ | refine WP.mx rfl (by first | exact True.intro | exact rfl | exact ⟨⟨rfl, rfl⟩, rfl⟩) rfl rfl rfl rfl rfl rfl ?_)
    all_goals refine WP.ret1 rfl rfl rfl (fun w hw => ⟨ret_bool ?_, Ret.below_ hw (by repeat (first | exact Pick.nil | (apply Pick.cons; (· repeat' (first | exact Rem.head | apply Rem.tail)
                                                                                        )))
      )⟩)
    all_goals simp only [wholeB]
    all_goals (rw [Bool.eq_iff_iff]; simp <;> omega)
  · have H : fitB i a = false := by simp [fitB]; omega
    rw [H]
    generalize i.supply.length = n at *
    generalize i.arcs.length = m at *
    refine enter_ Tryz.func93 rfl Tryz.ntmps93 rfl ?_
    repeat' (first | (refine WP.st tysOk false rfl (by first | exact True.intro | exact rfl | exact ⟨⟨rfl, rfl⟩, rfl⟩) rfl rfl rfl rfl ?_ ?_; · (first | exact True.intro | exact ⟨by omega, by omega⟩ | exact ⟨by omega, by omega, by omega, by omega⟩ | omega)) | (refine WP.ld tysOk rfl (by first | exact True.intro | exact rfl | exact ⟨⟨rfl, rfl⟩, rfl⟩) rfl rfl rfl rfl rfl rfl rfl ?_; apply ex2; (· first | (apply CellAt.blk; (· repeat' (first | exact Rem.head | apply Rem.tail)); (· rfl)) | (refine CellAt.fz ?_ (by assumption); repeat' (first | exact List.Mem.head _ | apply List.Mem.tail)) )) | (refine WP.ldn tysOk rfl (by first | exact True.intro | exact rfl | exact ⟨⟨rfl, rfl⟩, rfl⟩) rfl rfl rfl rfl rfl rfl rfl ?_; apply ex2; (· first | (apply SegAt.blk'; (· repeat' (first | exact Rem.head | apply Rem.tail)); (· rfl)) | (refine ⟨SegAt.fz ?_ (by assumption), rfl⟩; repeat' (first | exact List.Mem.head _ | apply List.Mem.tail)) )) | (refine WP.sto tysOk rfl rfl rfl rfl rfl rfl rfl rfl rfl ?_; apply ex3; (· repeat' (first | exact Rem.head | apply Rem.tail) ); (· first | exact Nat.le_of_ble_eq_true rfl | (simp [kints_length, arcsCells_length]; omega) )) | refine WP.ix1 tysOk rfl (by first | exact True.intro | exact rfl | exact ⟨⟨rfl, rfl⟩, rfl⟩) rfl rfl rfl rfl rfl rfl rfl rfl (by first | omega | (simp only []; omega)) ?_ | refine WP.ix tysOk rfl (by first | exact True.intro | exact rfl | exact ⟨⟨rfl, rfl⟩, rfl⟩) rfl rfl rfl rfl rfl rfl rfl rfl (by first | omega | (simp only []; omega)) ?_ | (refine WP.box rfl rfl rfl rfl rfl rfl ?_; intro g) | (refine WP.al tysOk rfl rfl rfl rfl rfl rfl ?_; intro g) | (refine WP.bs tysOk rfl rfl rfl rfl rfl rfl rfl rfl rfl rfl rfl rfl ?_; intro g) | refine WP.yes rfl rfl rfl ?_ | refine WP.no rfl rfl rfl rfl rfl ?_ | refine WP.noU rfl rfl rfl rfl ?_ | (refine WP.gs rfl rfl rfl rfl (fun hh => ?_) (fun hh => ?_) <;> (try simp only [decide_eq_true_eq, decide_eq_false_iff_not, Bool.not_true, Bool.not_false] at hh) <;> (try (exfalso; omega))) | refine WP.condT rfl rfl ?_ | refine WP.condF rfl rfl ?_ | (refine WP.cond_d rfl rfl (fun hh => ?_) (fun hh => ?_) <;> try (exfalso; omega)) | refine WP.cond rfl rfl (fun hh => ?_) (fun hh => ?_) | refine WP.bld tysOk rfl (by first | exact True.intro | exact rfl | exact ⟨⟨rfl, rfl⟩, rfl⟩) rfl rfl rfl rfl rfl rfl rfl ?_ | (refine WP.lal tysOk rfl ⟨rfl, rfl⟩ rfl rfl rfl rfl rfl rfl rfl ?_; intro g) | refine WP.lend rfl ⟨rfl, rfl⟩ ?_ | refine WP.qend rfl ?_ | refine WP.mn rfl (by first | exact True.intro | exact rfl | exact ⟨⟨rfl, rfl⟩, rfl⟩) rfl rfl rfl rfl rfl rfl ?_ | refine WP.mx rfl (by first | exact True.intro | exact rfl | exact ⟨⟨rfl, rfl⟩, rfl⟩) rfl rfl rfl rfl rfl rfl ?_)
    all_goals refine WP.ret1 rfl rfl rfl (fun w hw => ⟨rfl, Ret.below_ hw (by repeat (first | exact Pick.nil | (apply Pick.cons; (· repeat' (first | exact Rem.head | apply Rem.tail)
                                                                                )))
      )⟩)
end Go.Proofs.YtbnjeanldechnaaGreatDoor
