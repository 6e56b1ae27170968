/- Adj: Arc and Other. -/
import Derived.Test.YtbnjeanldechnaaGreatDoorA6
namespace Go.Proofs.YtbnjeanldechnaaGreatDoor
open Go.RowKit Go.Qe
def arcGet (i : Inst) (a : Int) : Arc := if fitB i a = true then arcAt i.arcs a.toNat else default
set_option maxHeartbeats 1000000 in
theorem arc_c {w : World} {vg : Value} {i : Inst} {a : Int} (hg : GraphZ (PH.of w) vg i) :
    Calls Tryz.prog 107 #[vg, .int .i64 a] w fun e w' => e = .returned (.tuple #[(arcGet i a).val, .bool (fitB i a)]) ∧ Below w.heap.size w w' := by
  obtain ⟨g, s, l, o, m, f, t, rfl, h1, h2, h3, h4, h5, h6, h7, h8, h9, h10⟩ := hg
  have hi : InstZ (PH.of w) (.agg #[s, l]) i := ⟨s, l, rfl, h7, h8⟩
  obtain ⟨A', c', rfl, hc', hm', hcell'⟩ := h8.open_
  clear h7 h8 h9 h10 h3 h4 h5 h6
  have hs : ∀ j u, [s, .slice A' i.arcs.length c'][j]? = some u → Zc (PH.of w) g (0 + j) = some u := by
    intro j u hj
    match j with
    | 0 => simp at hj; subst hj; exact h1
    | 1 => simp at hj; subst hj; exact h2
    | _ + 2 => simp at hj
  by_cases ha : 0 ≤ a ∧ a < i.arcs.length
  · obtain ⟨k, rfl⟩ := Int.eq_ofNat_of_zero_le ha.1
    obtain ⟨b, off, rfl, hk⟩ := hcell' (by omega)
    obtain ⟨_, _, _, _, _, g5⟩ := hk k (by omega)
    have H : fitB i k = wholeB i.supply.length (arcAt i.arcs k) := by simp [fitB]; omega
    clear hcell' hk
    refine enter_ Tryz.func107 rfl Tryz.ntmps107 rfl ?_
    repeat' (first | (refine WP.st tysOk false rfl (by first | exact True.intro | exact rfl | exact ⟨⟨rfl, rfl⟩, rfl⟩) rfl rfl rfl rfl ?_ ?_; · (first | exact True.intro | exact ⟨by omega, by omega⟩ | exact ⟨by omega, by omega, by omega, by omega⟩ | omega)) | (refine WP.al tysOk rfl rfl rfl rfl rfl rfl ?_; intro g))
    refine WP.draw rfl (by kernel_rfl) (by kernel_rfl) ?_
    repeat' (first | (refine WP.st tysOk false rfl (by first | exact True.intro | exact rfl | exact ⟨⟨rfl, rfl⟩, rfl⟩) rfl rfl rfl rfl ?_ ?_; · (first | exact True.intro | exact ⟨by omega, by omega⟩ | exact ⟨by omega, by omega, by omega, by omega⟩ | omega)) | (refine WP.ld tysOk rfl (by first | exact True.intro | exact rfl | exact ⟨⟨rfl, rfl⟩, rfl⟩) rfl rfl rfl rfl rfl rfl rfl ?_; apply ex2; (· first | (apply CellAt.blk; (· repeat' (first | exact Rem.head | apply Rem.tail)); (· rfl)) | (refine CellAt.fz ?_ (by assumption); repeat' (first | exact List.Mem.head _ | apply List.Mem.tail)) )) | (refine WP.ldn tysOk rfl (by first | exact True.intro | exact rfl | exact ⟨⟨rfl, rfl⟩, rfl⟩) rfl rfl rfl rfl rfl rfl rfl ?_; apply ex2; (· first | (apply SegAt.blk'; (· repeat' (first | exact Rem.head | apply Rem.tail)); (· rfl)) | (refine ⟨SegAt.fz ?_ (by assumption), rfl⟩; repeat' (first | exact List.Mem.head _ | apply List.Mem.tail)) )) | refine WP.ix tysOk rfl (by first | exact True.intro | exact rfl | exact ⟨⟨rfl, rfl⟩, rfl⟩) rfl rfl rfl rfl rfl rfl rfl rfl (by first | omega | (simp only []; omega)) ?_ | refine WP.yes rfl rfl rfl ?_ | (refine WP.gs rfl rfl rfl rfl (fun hh => ?_) (fun hh => ?_) <;> (try simp only [decide_eq_true_eq, decide_eq_false_iff_not, Bool.not_true, Bool.not_false] at hh) <;> (try (exfalso; omega))))
    refine WP.callV rfl rfl rfl rfl rfl rfl rfl (by kernel_rfl) (fun w1 hw1 => whole_c (hi.le (hw1.le (by simp)))) (by first | exact True.intro | exact rfl | exact ⟨⟨rfl, rfl⟩, rfl⟩) ?_
    repeat' (first | (refine WP.st tysOk false rfl (by first | exact True.intro | exact rfl | exact ⟨⟨rfl, rfl⟩, rfl⟩) rfl rfl rfl rfl ?_ ?_; · (first | exact True.intro | exact ⟨by omega, by omega⟩ | exact ⟨by omega, by omega, by omega, by omega⟩ | omega)) | (refine WP.ld tysOk rfl (by first | exact True.intro | exact rfl | exact ⟨⟨rfl, rfl⟩, rfl⟩) rfl rfl rfl rfl rfl rfl rfl ?_; apply ex2; (· first | (apply CellAt.blk; (· repeat' (first | exact Rem.head | apply Rem.tail)); (· rfl)) | (refine CellAt.fz ?_ (by assumption); repeat' (first | exact List.Mem.head _ | apply List.Mem.tail)) )) | (refine WP.ldn tysOk rfl (by first | exact True.intro | exact rfl | exact ⟨⟨rfl, rfl⟩, rfl⟩) rfl rfl rfl rfl rfl rfl rfl ?_; apply ex2; (· first | (apply SegAt.blk'; (· repeat' (first | exact Rem.head | apply Rem.tail)); (· rfl)) | (refine ⟨SegAt.fz ?_ (by assumption), rfl⟩; repeat' (first | exact List.Mem.head _ | apply List.Mem.tail)) )) | (refine WP.sto tysOk rfl rfl rfl rfl rfl rfl rfl rfl rfl ?_; apply ex3; (· repeat' (first | exact Rem.head | apply Rem.tail) ); (· first | exact Nat.le_of_ble_eq_true rfl | (simp [kints_length, arcsCells_length]; omega) )) | refine WP.ix tysOk rfl (by first | exact True.intro | exact rfl | exact ⟨⟨rfl, rfl⟩, rfl⟩) rfl rfl rfl rfl rfl rfl rfl rfl (by first | omega | (simp only []; omega)) ?_ | refine WP.yes rfl rfl rfl ?_ | refine WP.cond rfl rfl (fun hh => ?_) (fun hh => ?_) | refine WP.bld tysOk rfl (by first | exact True.intro | exact rfl | exact ⟨⟨rfl, rfl⟩, rfl⟩) rfl rfl rfl rfl rfl rfl rfl ?_ | refine WP.qend rfl ?_)
    first | refine WP.qend rfl ?_ | skip
    skip
    · have hf : fitB i k = false := by simp_all
      have hx : arcGet i k = default := by simp [arcGet, hf]
      rw [hf, hx]
      skip
      first | (refine WP.bld tysOk rfl True.intro rfl rfl rfl rfl rfl rfl rfl ?_) | skip
      skip
      refine WP.retR tysOk rfl rfl ⟨_, _, _, _, rfl, ⟨_, rfl, .inr ⟨rfl, Arc.cells default, rfl, rfl, (SegAt.blk' (z := 5) .head rfl).1⟩⟩, ⟨_, _, rfl, rfl, rfl⟩, rfl⟩ (fun w hw => ⟨rfl, Ret.below_ hw (by repeat (first | exact Pick.nil | (apply Pick.cons; (· repeat' (first | exact Rem.head | apply Rem.tail)
                                                                                                                                                                                                              )))
        )⟩)
    · have hf : fitB i k = true := by simp_all
      have hx : arcGet i k = arcAt i.arcs k := by simp [arcGet, hf]
      rw [hf, hx]
      refine WP.retR tysOk rfl rfl ⟨_, _, _, _, rfl, ⟨_, rfl, .inr ⟨rfl, Arc.cells (arcAt i.arcs k), rfl, rfl, (SegAt.blk' (z := 5) .head rfl).1⟩⟩, ⟨_, _, rfl, rfl, rfl⟩, rfl⟩ (fun w hw => ⟨rfl, Ret.below_ hw (by repeat (first | exact Pick.nil | (apply Pick.cons; (· repeat' (first | exact Rem.head | apply Rem.tail)
                                                                                                                                                                                                                       )))
        )⟩)
  · have hf : fitB i a = false := by simp [fitB]; omega
    have hx : arcGet i a = default := by simp [arcGet, hf]
    rw [hf, hx]
    refine enter_ Tryz.func107 rfl Tryz.ntmps107 rfl ?_
    repeat' (first | (refine WP.st tysOk false rfl (by first | exact True.intro | exact rfl | exact ⟨⟨rfl, rfl⟩, rfl⟩) rfl rfl rfl rfl ?_ ?_; · (first | exact True.intro | exact ⟨by omega, by omega⟩ | exact ⟨by omega, by omega, by omega, by omega⟩ | omega)) | (refine WP.al tysOk rfl rfl rfl rfl rfl rfl ?_; intro g))
    refine WP.draw rfl (by kernel_rfl) (by kernel_rfl) ?_
    repeat' (first | (refine WP.st tysOk false rfl (by first | exact True.intro | exact rfl | exact ⟨⟨rfl, rfl⟩, rfl⟩) rfl rfl rfl rfl ?_ ?_; · (first | exact True.intro | exact ⟨by omega, by omega⟩ | exact ⟨by omega, by omega, by omega, by omega⟩ | omega)) | (refine WP.ld tysOk rfl (by first | exact True.intro | exact rfl | exact ⟨⟨rfl, rfl⟩, rfl⟩) rfl rfl rfl rfl rfl rfl rfl ?_; apply ex2; (· first | (apply CellAt.blk; (· repeat' (first | exact Rem.head | apply Rem.tail)); (· rfl)) | (refine CellAt.fz ?_ (by assumption); repeat' (first | exact List.Mem.head _ | apply List.Mem.tail)) )) | (refine WP.sto tysOk rfl rfl rfl rfl rfl rfl rfl rfl rfl ?_; apply ex3; (· repeat' (first | exact Rem.head | apply Rem.tail) ); (· first | exact Nat.le_of_ble_eq_true rfl | (simp [kints_length, arcsCells_length]; omega) )) | refine WP.yes rfl rfl rfl ?_ | refine WP.no rfl rfl rfl rfl rfl ?_ | (refine WP.gs rfl rfl rfl rfl (fun hh => ?_) (fun hh => ?_) <;> (try simp only [decide_eq_true_eq, decide_eq_false_iff_not, Bool.not_true, Bool.not_false] at hh) <;> (try (exfalso; omega))) | refine WP.condT rfl rfl ?_ | refine WP.bld tysOk rfl (by first | exact True.intro | exact rfl | exact ⟨⟨rfl, rfl⟩, rfl⟩) rfl rfl rfl rfl rfl rfl rfl ?_ | refine WP.qend rfl ?_)
    all_goals
      first | refine WP.qend rfl ?_ | skip
      skip
      first | (refine WP.bld tysOk rfl True.intro rfl rfl rfl rfl rfl rfl rfl ?_) | skip
      skip
      refine WP.retR tysOk rfl rfl ⟨_, _, _, _, rfl, ⟨_, rfl, .inr ⟨rfl, Arc.cells default, rfl, rfl, (SegAt.blk' (z := 5) .head rfl).1⟩⟩, ⟨_, _, rfl, rfl, rfl⟩, rfl⟩ (fun w hw => ⟨rfl, Ret.below_ hw (by repeat (first | exact Pick.nil | (apply Pick.cons; (· repeat' (first | exact Rem.head | apply Rem.tail)
                                                                                                                                                                                                              )))
        )⟩)
end Go.Proofs.YtbnjeanldechnaaGreatDoor
