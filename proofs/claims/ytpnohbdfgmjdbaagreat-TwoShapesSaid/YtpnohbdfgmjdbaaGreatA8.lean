/- Adj: Other. -/
import Derived.Test.YtpnohbdfgmjdbaaGreatA7
namespace Go.Proofs.YtpnohbdfgmjdbaaGreat
open Go.RowKit Go.Qe
def otherOf (i : Inst) (a n : Int) : Int := if fitB i a = true ∧ (arcGet i a).src = n then (arcGet i a).dst else if fitB i a = true ∧ (arcGet i a).dst = n then (arcGet i a).src else -1
set_option maxHeartbeats 1000000 in
theorem other_c {w : World} {vg : Value} {i : Inst} {a n : Int} (hg : GraphZ (PH.of w) vg i) :
    Calls Tryz.prog 50 #[vg, .int .i64 a, .int .i64 n] w fun e w' => e = .returned (.int .i64 (otherOf i a n)) ∧ Below w.heap.size w w' := by
  have hc := fun w' (h : (PH.of w).le (PH.of w')) => arc_c (a := a) (hg.le h)
  unfold otherOf
  generalize arcGet i a = x at *
  generalize fitB i a = b at *
  obtain ⟨x0, x1, x2, x3, x4⟩ := x
  refine enter_ Tryz.func50 rfl Tryz.ntmps50 rfl ?_
  repeat' (first | (refine WP.st tysOk false rfl (by first | exact True.intro | exact rfl | exact ⟨⟨rfl, rfl⟩, rfl⟩) rfl rfl rfl rfl ?_ ?_; · (first | exact True.intro | exact ⟨by omega, by omega⟩ | exact ⟨by omega, by omega, by omega, by omega⟩ | omega)))
  refine WP.callV rfl rfl rfl rfl rfl rfl rfl (by kernel_rfl) (fun w1 hw1 => hc _ (hw1.le (by simp))) (by first | exact True.intro | exact rfl | exact ⟨⟨rfl, rfl⟩, rfl⟩) ?_
  repeat' (first | (refine WP.st tysOk false rfl (by first | exact True.intro | exact rfl | exact ⟨⟨rfl, rfl⟩, rfl⟩) rfl rfl rfl rfl ?_ ?_; · (first | exact True.intro | exact ⟨by omega, by omega⟩ | exact ⟨by omega, by omega, by omega, by omega⟩ | omega)) | (refine WP.ld tysOk rfl (by first | exact True.intro | exact rfl | exact ⟨⟨rfl, rfl⟩, rfl⟩) rfl rfl rfl rfl rfl rfl rfl ?_; apply ex2; (· first | (apply CellAt.blk; (· repeat' (first | exact Rem.head | apply Rem.tail)); (· rfl)) | (refine CellAt.fz ?_ (by assumption); repeat' (first | exact List.Mem.head _ | apply List.Mem.tail)) )) | (refine WP.sto tysOk rfl rfl rfl rfl rfl rfl rfl rfl rfl ?_; apply ex3; (· repeat' (first | exact Rem.head | apply Rem.tail) ); (· first | exact Nat.le_of_ble_eq_true rfl | (simp [kints_length, arcsCells_length]; omega) )) | (refine WP.al tysOk rfl rfl rfl rfl rfl rfl ?_; intro g) | refine WP.yes rfl rfl rfl ?_ | refine WP.no rfl rfl rfl rfl rfl ?_ | (refine WP.gs rfl rfl rfl rfl (fun hh => ?_) (fun hh => ?_) <;> (try simp only [decide_eq_true_eq, decide_eq_false_iff_not, Bool.not_true, Bool.not_false] at hh) <;> (try (exfalso; omega))) | refine WP.condF rfl rfl ?_ | (refine WP.cond_d rfl rfl (fun hh => ?_) (fun hh => ?_) <;> try (exfalso; omega)))
  all_goals refine WP.ret1 rfl rfl rfl (fun w hw => ⟨ret_int (by simp_all), Ret.below_ hw (by repeat (first | exact Pick.nil | (apply Pick.cons; (· repeat' (first | exact Rem.head | apply Rem.tail)
                                                                                                )))
      )⟩)
end Go.Proofs.YtpnohbdfgmjdbaaGreat
