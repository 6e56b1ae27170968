/- The walks: the code computes that. -/
import Derived.Test.YtpnohbdfgmjdbaaGreatGW2
import Derived.Test.YtpnohbdfgmjdbaaGreatTys
import Derived.Test.YtpnohbdfgmjdbaaGreatEngG
import Derived.KernelRfl
namespace Go.Proofs.YtpnohbdfgmjdbaaGreat
open Go.RowKit Go.Qe
set_option maxRecDepth 20000 in
set_option maxHeartbeats 8000000 in
theorem ref03_in_w {w : World} {n1 : Int} {r : Bool} (h : ref03_in n1 = some r) :
    Calls Tryz.prog 33 #[iv n1] w fun e w' => e = .returned (.bool (r)) ∧ Below w.heap.size w w' := by
  unfold ref03_in at h
  refine enter_ Tryz.func33 rfl Tryz.ntmps33 rfl ?_
  iterate 4 (refine WP.sx tysOk rfl ⟨⟨⟩, ⟨⟩⟩ ?_)
  by_cases hh1 : (-4398046511104) ≤ n1
  ·rw [if_pos hh1] at h
   refine WP.yes rfl rfl (decide_eq_true hh1) ?_
   refine WP.sx tysOk rfl ⟨⟨⟩, ⟨⟩⟩ ?_
   refine WP.yes rfl rfl rfl ?_
   iterate 3 (refine WP.sx tysOk rfl ⟨⟨⟩, ⟨⟩⟩ ?_)
   cases h
   refine WP.retR tysOk rfl rfl ⟨_, _, rfl, rfl, rfl⟩ (fun w1 hw1 => ⟨rfl, Ret.below_ hw1 (.cons .head .nil)⟩)
  rw [if_neg hh1] at h
  refine WP.no rfl rfl (decide_eq_false hh1) rfl rfl ?_
  refine WP.no rfl rfl rfl rfl rfl ?_
  iterate 2 (refine WP.sx tysOk rfl ⟨⟨⟩, ⟨⟩⟩ ?_)
  cases h
  refine WP.retR tysOk rfl rfl ⟨_, _, rfl, rfl, rfl⟩ (fun w1 hw1 => ⟨rfl, Ret.below_ hw1 (.cons .head .nil)⟩)

set_option maxRecDepth 20000 in
set_option maxHeartbeats 8000000 in
theorem ref03_arc_w {w : World} {a1 : Arc} {n1 : Int} {r : Int} (h : ref03_arc a1 n1 = some r) :
    Calls Tryz.prog 32 #[.agg #[iv a1.src, iv a1.dst, iv a1.low, iv a1.cap, iv a1.cost], iv n1] w fun e w' => e = .returned (iv r) ∧ Below w.heap.size w w' := by
  unfold ref03_arc at h
  refine enter_ Tryz.func32 rfl Tryz.ntmps32 rfl ?_
  refine WP.box rfl rfl rfl rfl rfl rfl ?_
  intro g1
  iterate 2 (refine WP.sx tysOk rfl ⟨⟨⟩, ⟨⟩⟩ ?_)
  refine WP.lx tysOk rfl ⟨⟩ (CellAt.blk .head rfl) ?_
  iterate 2 (refine WP.sx tysOk rfl ⟨⟨⟩, ⟨⟩⟩ ?_)
  by_cases hh1 : a1.src < 0
  ·rw [if_pos hh1] at h
   refine WP.no rfl rfl (decide_eq_true hh1) rfl rfl ?_
   iterate 2 (refine WP.no rfl rfl rfl rfl rfl ?_; refine WP.no rfl rfl rfl rfl rfl ?_; refine WP.no rfl rfl rfl rfl rfl ?_; (iterate 2 (refine WP.sx tysOk rfl ⟨⟨⟩, ⟨⟩⟩ ?_)))
   iterate 4 (refine WP.no rfl rfl rfl rfl rfl ?_)
   iterate 2 (refine WP.sx tysOk rfl ⟨⟨⟩, ⟨⟩⟩ ?_)
   refine WP.condT rfl rfl ?_
   refine WP.sx tysOk rfl ⟨⟨⟩, ⟨⟩⟩ ?_
   cases h
   refine WP.retR tysOk rfl rfl ⟨_, _, rfl, rfl, rfl⟩ (fun w1 hw1 => ⟨rfl, Ret.below_ hw1 (.cons (.tail .head) .nil)⟩)
  rw [if_neg hh1] at h
  refine WP.yes rfl rfl (decide_eq_false hh1) ?_
  refine WP.sx tysOk rfl ⟨⟨⟩, ⟨⟩⟩ ?_
  refine WP.yes rfl rfl rfl ?_
  refine WP.lx tysOk rfl ⟨⟩ (CellAt.blk .head rfl) ?_
  refine WP.yes rfl rfl rfl ?_
  refine WP.sx tysOk rfl ⟨⟨⟩, ⟨⟩⟩ ?_
  refine WP.yes rfl rfl rfl ?_
  iterate 3 (refine WP.sx tysOk rfl ⟨⟨⟩, ⟨⟩⟩ ?_)
  by_cases hh2 : n1 ≤ a1.src
  ·rw [if_pos hh2] at h
   refine WP.no rfl rfl (decide_eq_true hh2) rfl rfl ?_
   iterate 2 (refine WP.no rfl rfl rfl rfl rfl ?_)
   iterate 2 (refine WP.sx tysOk rfl ⟨⟨⟩, ⟨⟩⟩ ?_)
   iterate 4 (refine WP.no rfl rfl rfl rfl rfl ?_)
   iterate 2 (refine WP.sx tysOk rfl ⟨⟨⟩, ⟨⟩⟩ ?_)
   refine WP.condT rfl rfl ?_
   refine WP.sx tysOk rfl ⟨⟨⟩, ⟨⟩⟩ ?_
   cases h
   refine WP.retR tysOk rfl rfl ⟨_, _, rfl, rfl, rfl⟩ (fun w1 hw1 => ⟨rfl, Ret.below_ hw1 (.cons (.tail .head) .nil)⟩)
  rw [if_neg hh2] at h
  refine WP.yes rfl rfl (decide_eq_false hh2) ?_
  refine WP.sx tysOk rfl ⟨⟨⟩, ⟨⟩⟩ ?_
  refine WP.yes rfl rfl rfl ?_
  refine WP.lx tysOk rfl ⟨⟩ (CellAt.blk .head rfl) ?_
  refine WP.yes rfl rfl rfl ?_
  iterate 3 (refine WP.sx tysOk rfl ⟨⟨⟩, ⟨⟩⟩ ?_)
  by_cases hh3 : a1.dst < 0
  ·rw [if_pos hh3] at h
   refine WP.no rfl rfl (decide_eq_true hh3) rfl rfl ?_
   iterate 3 (refine WP.no rfl rfl rfl rfl rfl ?_)
   iterate 2 (refine WP.sx tysOk rfl ⟨⟨⟩, ⟨⟩⟩ ?_)
   refine WP.condT rfl rfl ?_
   refine WP.sx tysOk rfl ⟨⟨⟩, ⟨⟩⟩ ?_
   cases h
   refine WP.retR tysOk rfl rfl ⟨_, _, rfl, rfl, rfl⟩ (fun w1 hw1 => ⟨rfl, Ret.below_ hw1 (.cons (.tail .head) .nil)⟩)
  rw [if_neg hh3] at h
  refine WP.yes rfl rfl (decide_eq_false hh3) ?_
  refine WP.sx tysOk rfl ⟨⟨⟩, ⟨⟩⟩ ?_
  refine WP.yes rfl rfl rfl ?_
  refine WP.lx tysOk rfl ⟨⟩ (CellAt.blk .head rfl) ?_
  refine WP.yes rfl rfl rfl ?_
  refine WP.sx tysOk rfl ⟨⟨⟩, ⟨⟩⟩ ?_
  refine WP.yes rfl rfl rfl ?_
  iterate 3 (refine WP.sx tysOk rfl ⟨⟨⟩, ⟨⟩⟩ ?_)
  refine WP.cond_d rfl rfl (fun hh4 => ?_) (fun hh4 => ?_)
  ·rw [if_pos hh4] at h
   refine WP.sx tysOk rfl ⟨⟨⟩, ⟨⟩⟩ ?_
   cases h
   refine WP.retR tysOk rfl rfl ⟨_, _, rfl, rfl, rfl⟩ (fun w1 hw1 => ⟨rfl, Ret.below_ hw1 (.cons (.tail .head) .nil)⟩)
  rw [if_neg hh4] at h
  refine WP.sx tysOk rfl ⟨⟨⟩, ⟨⟩⟩ ?_
  refine WP.lx tysOk rfl ⟨⟩ (CellAt.blk .head rfl) ?_
  iterate 2 (refine WP.sx tysOk rfl ⟨⟨⟩, ⟨⟩⟩ ?_)
  by_cases hh5 : a1.low < 0
  ·rw [if_pos hh5] at h
   refine WP.no rfl rfl (decide_eq_true hh5) rfl rfl ?_
   iterate 2 (refine WP.no rfl rfl rfl rfl rfl ?_)
   iterate 2 (refine WP.sx tysOk rfl ⟨⟨⟩, ⟨⟩⟩ ?_)
   iterate 4 (refine WP.no rfl rfl rfl rfl rfl ?_)
   iterate 10 (refine WP.noU rfl rfl rfl rfl ?_)
   refine WP.no rfl rfl rfl rfl rfl ?_
   iterate 2 (refine WP.sx tysOk rfl ⟨⟨⟩, ⟨⟩⟩ ?_)
   refine WP.condT rfl rfl ?_
   refine WP.sx tysOk rfl ⟨⟨⟩, ⟨⟩⟩ ?_
   cases h
   refine WP.retR tysOk rfl rfl ⟨_, _, rfl, rfl, rfl⟩ (fun w1 hw1 => ⟨rfl, Ret.below_ hw1 (.cons (.tail .head) .nil)⟩)
  rw [if_neg hh5] at h
  refine WP.yes rfl rfl (decide_eq_false hh5) ?_
  refine WP.sx tysOk rfl ⟨⟨⟩, ⟨⟩⟩ ?_
  refine WP.yes rfl rfl rfl ?_
  refine WP.lx tysOk rfl ⟨⟩ (CellAt.blk .head rfl) ?_
  refine WP.yes rfl rfl rfl ?_
  iterate 3 (refine WP.sx tysOk rfl ⟨⟨⟩, ⟨⟩⟩ ?_)
  by_cases hh6 : 4398046511104 < a1.low
  ·rw [if_pos hh6] at h
   refine WP.no rfl rfl (decide_eq_true hh6) rfl rfl ?_
   iterate 3 (refine WP.no rfl rfl rfl rfl rfl ?_)
   iterate 10 (refine WP.noU rfl rfl rfl rfl ?_)
   refine WP.no rfl rfl rfl rfl rfl ?_
   iterate 2 (refine WP.sx tysOk rfl ⟨⟨⟩, ⟨⟩⟩ ?_)
   refine WP.condT rfl rfl ?_
   refine WP.sx tysOk rfl ⟨⟨⟩, ⟨⟩⟩ ?_
   cases h
   refine WP.retR tysOk rfl rfl ⟨_, _, rfl, rfl, rfl⟩ (fun w1 hw1 => ⟨rfl, Ret.below_ hw1 (.cons (.tail .head) .nil)⟩)
  rw [if_neg hh6] at h
  refine WP.yes rfl rfl (decide_eq_false hh6) ?_
  refine WP.sx tysOk rfl ⟨⟨⟩, ⟨⟩⟩ ?_
  refine WP.yes rfl rfl rfl ?_
  refine WP.lx tysOk rfl ⟨⟩ (CellAt.blk .head rfl) ?_
  iterate 2 (refine WP.yes rfl rfl rfl ?_; refine WP.sx tysOk rfl ⟨⟨⟩, ⟨⟩⟩ ?_)
  by_cases hh7 : ¬ a1.cap = 4611686018427387904
  ·rw [if_pos hh7] at h
   refine WP.yes rfl rfl (decide_eq_true hh7) ?_
   refine WP.sx tysOk rfl ⟨⟨⟩, ⟨⟩⟩ ?_
   refine WP.yes rfl rfl rfl ?_
   refine WP.lx tysOk rfl ⟨⟩ (CellAt.blk .head rfl) ?_
   refine WP.yes rfl rfl rfl ?_
   refine WP.sx tysOk rfl ⟨⟨⟩, ⟨⟩⟩ ?_
   refine WP.yes rfl rfl rfl ?_
   refine WP.lx tysOk rfl ⟨⟩ (CellAt.blk .head rfl) ?_
   iterate 2 (refine WP.yes rfl rfl rfl ?_; refine WP.sx tysOk rfl ⟨⟨⟩, ⟨⟩⟩ ?_)
   by_cases hh8 : a1.cap < a1.low
   ·rw [if_pos hh8] at h
    refine WP.no rfl rfl (decide_eq_true hh8) rfl rfl ?_
    iterate 2 (refine WP.no rfl rfl rfl rfl rfl ?_)
    refine WP.yes rfl rfl rfl ?_
    refine WP.sx tysOk rfl ⟨⟨⟩, ⟨⟩⟩ ?_
    refine WP.yes rfl rfl rfl ?_
    iterate 3 (refine WP.sx tysOk rfl ⟨⟨⟩, ⟨⟩⟩ ?_)
    refine WP.condT rfl rfl ?_
    refine WP.sx tysOk rfl ⟨⟨⟩, ⟨⟩⟩ ?_
    cases h
    refine WP.retR tysOk rfl rfl ⟨_, _, rfl, rfl, rfl⟩ (fun w1 hw1 => ⟨rfl, Ret.below_ hw1 (.cons (.tail .head) .nil)⟩)
   rw [if_neg hh8] at h
   refine WP.yes rfl rfl (decide_eq_false hh8) ?_
   refine WP.sx tysOk rfl ⟨⟨⟩, ⟨⟩⟩ ?_
   refine WP.yes rfl rfl rfl ?_
   refine WP.lx tysOk rfl ⟨⟩ (CellAt.blk .head rfl) ?_
   iterate 2 (refine WP.yes rfl rfl rfl ?_; refine WP.sx tysOk rfl ⟨⟨⟩, ⟨⟩⟩ ?_)
   refine WP.yes rfl rfl rfl ?_
   iterate 3 (refine WP.sx tysOk rfl ⟨⟨⟩, ⟨⟩⟩ ?_)
   refine WP.cond_d rfl rfl (fun hh9 => ?_) (fun hh9 => ?_)
   ·rw [if_pos hh9] at h
    refine WP.sx tysOk rfl ⟨⟨⟩, ⟨⟩⟩ ?_
    cases h
    refine WP.retR tysOk rfl rfl ⟨_, _, rfl, rfl, rfl⟩ (fun w1 hw1 => ⟨rfl, Ret.below_ hw1 (.cons (.tail .head) .nil)⟩)
   rw [if_neg hh9] at h
   refine WP.sx tysOk rfl ⟨⟨⟩, ⟨⟩⟩ ?_
   refine WP.lx tysOk rfl ⟨⟩ (CellAt.blk .head rfl) ?_
   obtain ⟨r1, hg1, h⟩ := bind_some h
   refine WP.callV rfl rfl rfl rfl rfl rfl rfl (by kernel_rfl) (fun w1 hw1 => (ref03_in_w hg1  :)) ⟨⟩ ?_
   iterate 2 (refine WP.sx tysOk rfl ⟨⟨⟩, ⟨⟩⟩ ?_)
   refine WP.cond_n rfl rfl (fun hh10 => ?_) (fun hh10 => ?_)
   ·rw [if_neg (bneg hh10)] at h
    refine WP.sx tysOk rfl ⟨⟨⟩, ⟨⟩⟩ ?_
    cases h
    refine WP.retR tysOk rfl rfl ⟨_, _, rfl, rfl, rfl⟩ (fun w1 hw1 => ⟨rfl, Ret.below_ hw1 (.cons (.tail .head) .nil)⟩)
   rw [if_pos hh10] at h
   refine WP.sx tysOk rfl ⟨⟨⟩, ⟨⟩⟩ ?_
   cases h
   refine WP.retR tysOk rfl rfl ⟨_, _, rfl, rfl, rfl⟩ (fun w1 hw1 => ⟨rfl, Ret.below_ hw1 (.cons (.tail .head) .nil)⟩)
  rw [if_neg hh7] at h
  refine WP.no rfl rfl (decide_eq_false hh7) rfl rfl ?_
  iterate 5 (refine WP.no rfl rfl rfl rfl rfl ?_)
  iterate 3 (refine WP.noU rfl rfl rfl rfl ?_)
  refine WP.no rfl rfl rfl rfl rfl ?_
  refine WP.yes rfl rfl rfl ?_
  iterate 3 (refine WP.sx tysOk rfl ⟨⟨⟩, ⟨⟩⟩ ?_)
  refine WP.condF rfl rfl ?_
  refine WP.sx tysOk rfl ⟨⟨⟩, ⟨⟩⟩ ?_
  refine WP.lx tysOk rfl ⟨⟩ (CellAt.blk .head rfl) ?_
  obtain ⟨r2, hg2, h⟩ := bind_some h
  refine WP.callV rfl rfl rfl rfl rfl rfl rfl (by kernel_rfl) (fun w1 hw1 => (ref03_in_w hg2  :)) ⟨⟩ ?_
  iterate 2 (refine WP.sx tysOk rfl ⟨⟨⟩, ⟨⟩⟩ ?_)
  refine WP.cond_n rfl rfl (fun hh11 => ?_) (fun hh11 => ?_)
  ·rw [if_neg (bneg hh11)] at h
   refine WP.sx tysOk rfl ⟨⟨⟩, ⟨⟩⟩ ?_
   cases h
   refine WP.retR tysOk rfl rfl ⟨_, _, rfl, rfl, rfl⟩ (fun w1 hw1 => ⟨rfl, Ret.below_ hw1 (.cons (.tail .head) .nil)⟩)
  rw [if_pos hh11] at h
  refine WP.sx tysOk rfl ⟨⟨⟩, ⟨⟩⟩ ?_
  cases h
  refine WP.retR tysOk rfl rfl ⟨_, _, rfl, rfl, rfl⟩ (fun w1 hw1 => ⟨rfl, Ret.below_ hw1 (.cons (.tail .head) .nil)⟩)

set_option maxRecDepth 20000 in
set_option maxHeartbeats 8000000 in
theorem ref03_Right_w {w : World} {v0 : Value} {i1 : Inst} {r : Int} (h : ref03_Right i1 = some r) (p1 : InsZ (PH.of w) v0 i1) :
    Calls Tryz.prog 20 #[v0] w fun e w' => e = .returned (iv r) ∧ Below w.heap.size w w' := by
  obtain ⟨A1, c1, A2, c2, rfl, hs1, hs2⟩ := p1
  unfold ref03_Right at h
  refine enter_ Tryz.func20 rfl Tryz.ntmps20 rfl ?_
  refine WP.box rfl rfl rfl rfl rfl rfl ?_
  intro g1
  iterate 2 (refine WP.sx tysOk rfl ⟨⟨⟩, ⟨⟩⟩ ?_)
  refine WP.lx tysOk rfl ⟨⟩ (CellAt.blk .head rfl) ?_
  iterate 3 (refine WP.sx tysOk rfl ⟨⟨⟩, ⟨⟩⟩ ?_)
  by_cases hh1 : 64 < (i1.supply.length : Int)
  ·rw [if_pos hh1] at h
   refine WP.no rfl rfl (decide_eq_true hh1) rfl rfl ?_
   iterate 3 (refine WP.no rfl rfl rfl rfl rfl ?_)
   refine WP.sx tysOk rfl ⟨⟨⟩, ⟨⟩⟩ ?_
   refine WP.condT rfl rfl ?_
   refine WP.sx tysOk rfl ⟨⟨⟩, ⟨⟩⟩ ?_
   cases h
   refine WP.retR tysOk rfl rfl ⟨_, _, rfl, rfl, rfl⟩ (fun w1 hw1 => ⟨rfl, Ret.below_ hw1 (.cons (.tail .head) .nil)⟩)
  rw [if_neg hh1] at h
  refine WP.yes rfl rfl (decide_eq_false hh1) ?_
  refine WP.sx tysOk rfl ⟨⟨⟩, ⟨⟩⟩ ?_
  refine WP.yes rfl rfl rfl ?_
  refine WP.lx tysOk rfl ⟨⟩ (CellAt.blk .head rfl) ?_
  refine WP.yes rfl rfl rfl ?_
  refine WP.sx tysOk rfl ⟨⟨⟩, ⟨⟩⟩ ?_
  refine WP.yes rfl rfl rfl ?_
  iterate 2 (refine WP.sx tysOk rfl ⟨⟨⟩, ⟨⟩⟩ ?_)
  refine WP.cond_d rfl rfl (fun hh2 => ?_) (fun hh2 => ?_)
  ·rw [if_pos hh2] at h
   refine WP.sx tysOk rfl ⟨⟨⟩, ⟨⟩⟩ ?_
   cases h
   refine WP.retR tysOk rfl rfl ⟨_, _, rfl, rfl, rfl⟩ (fun w1 hw1 => ⟨rfl, Ret.below_ hw1 (.cons (.tail .head) .nil)⟩)
  rw [if_neg hh2] at h
  refine WP.sx tysOk rfl ⟨⟨⟩, ⟨⟩⟩ ?_
  refine WP.loop (α := Nat × Int) (fun x => lp (ref03_Right_b1 i1) x.1 x.2 = some r) (fun x => [(1, .pointer (some ⟨g1, 0, none⟩)), (3, iv x.2)]) (fun x => [.blk g1 25 [.slice A1 i1.supply.length c1, .slice A2 i1.arcs.length c2], .fz (PH.of w)]) (fun x => x.1) rfl (big, 0) h ?_ ?_ ?_
  ·repeat first | exact ⟨⟩ | refine ⟨rfl, ?_⟩
  ·exact (.cons .head (.cons .head .nil))
  rintro ⟨n7, k4⟩ h
  dsimp only at h ⊢
  rcases n7 with _ | n7
  · exact (lp_no h).elim
  replace h := lp_succ h
  unfold ref03_Right_b1 at h
  try dsimp only at h
  iterate 2 (refine WP.sx tysOk rfl ⟨⟨⟩, ⟨⟩⟩ ?_)
  refine WP.lx tysOk rfl ⟨⟩ (CellAt.blk .head rfl) ?_
  iterate 2 (refine WP.sx tysOk rfl ⟨⟨⟩, ⟨⟩⟩ ?_)
  refine WP.cond_d rfl rfl (fun hh25 => ?_) (fun hh25 => ?_)
  ·rw [if_pos hh25] at h
   refine WP.draw rfl (by kernel_rfl) (by kernel_rfl) ?_
   refine WP.sx tysOk rfl ⟨rfl, ⟨⟩⟩ ?_
   refine WP.lx tysOk rfl rfl (CellAt.blk .head rfl) ?_
   refine WP.sx tysOk rfl ⟨rfl, ⟨⟩⟩ ?_
   obtain ⟨hj9, h⟩ := ck_some h
   refine WP.ixA tysOk rfl rfl rfl rfl rfl rfl rfl rfl rfl rfl hj9 (hs2.ex hj9) ?_
   intro b15 b15v hA15
   refine WP.mx_ tysOk rfl rfl (hs2.seg hA15 (Held.mem (List.Mem.tail _ (List.Mem.head _))) hj9) ?_
   refine WP.sx tysOk rfl ⟨rfl, ⟨⟩⟩ ?_
   refine WP.lx tysOk rfl rfl (CellAt.blk .head rfl) ?_
   refine WP.sx tysOk rfl ⟨rfl, ⟨⟩⟩ ?_
   obtain ⟨r9, hg9, h⟩ := bind_some h
   refine WP.callV rfl rfl rfl rfl rfl rfl rfl (by kernel_rfl) (fun w1 hw1 => (ref03_arc_w hg9  :)) rfl ?_
   refine WP.sx tysOk rfl ⟨rfl, ⟨⟩⟩ ?_
   refine WP.qend rfl ?_
   iterate 2 (refine WP.sx tysOk rfl ⟨⟨⟩, ⟨⟩⟩ ?_)
   refine WP.cond_d rfl rfl (fun hh26 => ?_) (fun hh26 => ?_)
   ·rw [if_pos hh26] at h
    iterate 2 (refine WP.sx tysOk rfl ⟨⟨⟩, ⟨⟩⟩ ?_)
    cases h
    refine WP.retR tysOk rfl rfl ⟨_, _, rfl, rfl, rfl⟩ (fun w1 hw1 => ⟨rfl, Ret.below_ hw1 (.cons (.tail .head) .nil)⟩)
   rw [if_neg hh26] at h
   iterate 3 (refine WP.sx tysOk rfl ⟨⟨⟩, ⟨⟩⟩ ?_)
   refine WP.stop rfl (n7, w64 (k4 + 1)) ⟨h, Nat.lt_succ_self _⟩ ?_ ?_
   ·repeat first | exact ⟨⟩ | refine ⟨rfl, ?_⟩
   exact (.cons .head (.cons .head .nil))
  rw [if_neg hh25] at h
  iterate 2 (refine WP.sx tysOk rfl ⟨⟨⟩, ⟨⟩⟩ ?_)
  refine WP.loop (α := Nat × Int × Int) (fun x => lp (ref03_Right_b2 i1) x.1 (x.2.1, x.2.2) = some r) (fun x => [(1, .pointer (some ⟨g1, 0, none⟩)), (5, iv x.2.1), (6, iv x.2.2)]) (fun x => [.blk g1 25 [.slice A1 i1.supply.length c1, .slice A2 i1.arcs.length c2], .fz (PH.of w)]) (fun x => x.1) rfl (big, 0, 0) h ?_ ?_ ?_
  ·repeat first | exact ⟨⟩ | refine ⟨rfl, ?_⟩
  ·exact (.cons .head (.cons .head .nil))
  rintro ⟨n10, sum14, n9⟩ h
  dsimp only at h ⊢
  rcases n10 with _ | n10
  · exact (lp_no h).elim
  replace h := lp_succ h
  unfold ref03_Right_b2 at h
  try dsimp only at h
  iterate 2 (refine WP.sx tysOk rfl ⟨⟨⟩, ⟨⟩⟩ ?_)
  refine WP.lx tysOk rfl ⟨⟩ (CellAt.blk .head rfl) ?_
  iterate 2 (refine WP.sx tysOk rfl ⟨⟨⟩, ⟨⟩⟩ ?_)
  refine WP.cond_d rfl rfl (fun hh33 => ?_) (fun hh33 => ?_)
  ·rw [if_pos hh33] at h
   refine WP.sx tysOk rfl ⟨⟨⟩, ⟨⟩⟩ ?_
   refine WP.lx tysOk rfl ⟨⟩ (CellAt.blk .head rfl) ?_
   refine WP.sx tysOk rfl ⟨⟨⟩, ⟨⟩⟩ ?_
   obtain ⟨hj12, h⟩ := ck_some h
   refine WP.ixA tysOk rfl ⟨⟩ rfl rfl rfl rfl rfl rfl rfl rfl hj12 (hs1.ex hj12) ?_
   intro b20 b20v hA20
   refine WP.lx tysOk rfl ⟨⟩ (hs1.at0 hA20 (Held.mem (List.Mem.tail _ (List.Mem.head _))) hj12 rfl) ?_
   obtain ⟨r12, hg12, h⟩ := bind_some h
   refine WP.callV rfl rfl rfl rfl rfl rfl rfl (by kernel_rfl) (fun w1 hw1 => (ref03_in_w hg12  :)) ⟨⟩ ?_
   refine WP.sx tysOk rfl ⟨⟨⟩, ⟨⟩⟩ ?_
   refine WP.cond_n rfl rfl (fun hh34 => ?_) (fun hh34 => ?_)
   ·rw [if_neg (bneg hh34)] at h
    refine WP.sx tysOk rfl ⟨⟨⟩, ⟨⟩⟩ ?_
    cases h
    refine WP.retR tysOk rfl rfl ⟨_, _, rfl, rfl, rfl⟩ (fun w1 hw1 => ⟨rfl, Ret.below_ hw1 (.cons (.tail .head) .nil)⟩)
   rw [if_pos hh34] at h
   iterate 2 (refine WP.sx tysOk rfl ⟨⟨⟩, ⟨⟩⟩ ?_)
   refine WP.lx tysOk rfl ⟨⟩ (CellAt.blk .head rfl) ?_
   refine WP.sx tysOk rfl ⟨⟨⟩, ⟨⟩⟩ ?_
   refine WP.ixA tysOk rfl ⟨⟩ rfl rfl rfl rfl rfl rfl rfl rfl hj12 (hs1.ex hj12) ?_
   intro b21 b21v hA21
   refine WP.lx tysOk rfl ⟨⟩ (hs1.at0 hA21 (Held.mem (List.Mem.tail _ (List.Mem.head _))) hj12 rfl) ?_
   refine WP.sx tysOk rfl ⟨⟨⟩, ⟨⟩⟩ ?_
   obtain ⟨sum15, hx9, h⟩ := lt_some h
   refine WP.sx tysOk rfl ⟨⟨⟩, ⟨⟩⟩ ?_
   refine WP.retell (s := 5) (.int .i64 sum15) rfl (congrArg (Value.int .i64) hx9.symm) ?_
   iterate 3 (refine WP.sx tysOk rfl ⟨⟨⟩, ⟨⟩⟩ ?_)
   refine WP.stop rfl (n10, sum15, w64 (n9 + 1)) ⟨h, Nat.lt_succ_self _⟩ ?_ ?_
   ·repeat first | exact ⟨⟩ | refine ⟨rfl, ?_⟩
   exact (.cons .head (.cons .head .nil))
  rw [if_neg hh33] at h
  iterate 2 (refine WP.sx tysOk rfl ⟨⟨⟩, ⟨⟩⟩ ?_)
  refine WP.cond_d rfl rfl (fun hh35 => ?_) (fun hh35 => ?_)
  ·rw [if_pos hh35] at h
   refine WP.sx tysOk rfl ⟨⟨⟩, ⟨⟩⟩ ?_
   cases h
   refine WP.retR tysOk rfl rfl ⟨_, _, rfl, rfl, rfl⟩ (fun w1 hw1 => ⟨rfl, Ret.below_ hw1 (.cons (.tail .head) .nil)⟩)
  rw [if_neg hh35] at h
  refine WP.sx tysOk rfl ⟨⟨⟩, ⟨⟩⟩ ?_
  cases h
  refine WP.retR tysOk rfl rfl ⟨_, _, rfl, rfl, rfl⟩ (fun w1 hw1 => ⟨rfl, Ret.below_ hw1 (.cons (.tail .head) .nil)⟩)

set_option maxRecDepth 20000 in
set_option maxHeartbeats 8000000 in
theorem ref04_fit_w {w : World} {v0 : Value} {i1 : Inst} {a1 : Int} {r : Bool} (h : ref04_fit i1 a1 = some r) (p1 : InsZ (PH.of w) v0 i1) :
    Calls Tryz.prog 86 #[v0, iv a1] w fun e w' => e = .returned (.bool (r)) ∧ Below w.heap.size w w' := by
  obtain ⟨A1, c1, A2, c2, rfl, hs1, hs2⟩ := p1
  unfold ref04_fit at h
  refine enter_ Tryz.func86 rfl Tryz.ntmps86 rfl ?_
  refine WP.box rfl rfl rfl rfl rfl rfl ?_
  intro g1
  iterate 4 (refine WP.sx tysOk rfl ⟨⟨⟩, ⟨⟩⟩ ?_)
  by_cases hh1 : a1 < 0
  ·rw [if_pos hh1] at h
   refine WP.no rfl rfl (decide_eq_true hh1) rfl rfl ?_
   iterate 4 (refine WP.no rfl rfl rfl rfl rfl ?_)
   refine WP.sx tysOk rfl ⟨⟨⟩, ⟨⟩⟩ ?_
   refine WP.condT rfl rfl ?_
   refine WP.sx tysOk rfl ⟨⟨⟩, ⟨⟩⟩ ?_
   cases h
   refine WP.retR tysOk rfl rfl ⟨_, _, rfl, rfl, rfl⟩ (fun w1 hw1 => ⟨rfl, Ret.below_ hw1 (.cons (.tail .head) .nil)⟩)
  rw [if_neg hh1] at h
  refine WP.yes rfl rfl (decide_eq_false hh1) ?_
  iterate 2 (refine WP.sx tysOk rfl ⟨⟨⟩, ⟨⟩⟩ ?_; refine WP.yes rfl rfl rfl ?_)
  refine WP.lx tysOk rfl ⟨⟩ (CellAt.blk .head rfl) ?_
  refine WP.yes rfl rfl rfl ?_
  refine WP.sx tysOk rfl ⟨⟨⟩, ⟨⟩⟩ ?_
  refine WP.yes rfl rfl rfl ?_
  iterate 2 (refine WP.sx tysOk rfl ⟨⟨⟩, ⟨⟩⟩ ?_)
  refine WP.cond_d rfl rfl (fun hh2 => ?_) (fun hh2 => ?_)
  ·rw [if_pos hh2] at h
   refine WP.sx tysOk rfl ⟨⟨⟩, ⟨⟩⟩ ?_
   cases h
   refine WP.retR tysOk rfl rfl ⟨_, _, rfl, rfl, rfl⟩ (fun w1 hw1 => ⟨rfl, Ret.below_ hw1 (.cons (.tail .head) .nil)⟩)
  rw [if_neg hh2] at h
  refine WP.sx tysOk rfl ⟨⟨⟩, ⟨⟩⟩ ?_
  refine WP.lx tysOk rfl ⟨⟩ (CellAt.blk .head rfl) ?_
  refine WP.sx tysOk rfl ⟨⟨⟩, ⟨⟩⟩ ?_
  obtain ⟨hj1, h⟩ := ck_some h
  refine WP.ixA tysOk rfl ⟨⟩ rfl rfl rfl rfl rfl rfl rfl rfl hj1 (hs2.ex hj1) ?_
  intro b1 b1v hA1
  refine WP.mx_ tysOk rfl ⟨⟩ (hs2.seg hA1 (Held.mem (List.Mem.tail _ (List.Mem.head _))) hj1) ?_
  refine WP.al tysOk rfl rfl rfl rfl rfl rfl ?_
  intro g2
  refine WP.sto' tysOk [iv ((gt i1.arcs a1).src), iv ((gt i1.arcs a1).dst), iv ((gt i1.arcs a1).low), iv ((gt i1.arcs a1).cap), iv ((gt i1.arcs a1).cost)] rfl rfl rfl rfl rfl rfl rfl rfl rfl .head rfl rfl ?_
  refine WP.sx tysOk rfl ⟨⟨⟩, ⟨⟩⟩ ?_
  refine WP.lx tysOk rfl ⟨⟩ (CellAt.blk .head rfl) ?_
  iterate 2 (refine WP.sx tysOk rfl ⟨⟨⟩, ⟨⟩⟩ ?_)
  by_cases hh3 : 0 ≤ ((gt i1.arcs a1).src)
  ·rw [if_pos hh3] at h
   refine WP.yes rfl rfl (decide_eq_true hh3) ?_
   refine WP.sx tysOk rfl ⟨⟨⟩, ⟨⟩⟩ ?_
   refine WP.yes rfl rfl rfl ?_
   refine WP.lx tysOk rfl ⟨⟩ (CellAt.blk .head rfl) ?_
   refine WP.yes rfl rfl rfl ?_
   refine WP.sx tysOk rfl ⟨⟨⟩, ⟨⟩⟩ ?_
   refine WP.yes rfl rfl rfl ?_
   refine WP.lx tysOk rfl ⟨⟩ (CellAt.blk (.tail .head) rfl) ?_
   refine WP.yes rfl rfl rfl ?_
   refine WP.sx tysOk rfl ⟨⟨⟩, ⟨⟩⟩ ?_
   refine WP.yes rfl rfl rfl ?_
   iterate 3 (refine WP.sx tysOk rfl ⟨⟨⟩, ⟨⟩⟩ ?_)
   by_cases hh4 : ((gt i1.arcs a1).src) < (i1.supply.length : Int)
   ·rw [if_pos hh4] at h
    refine WP.yes rfl rfl (decide_eq_true hh4) ?_
    refine WP.sx tysOk rfl ⟨⟨⟩, ⟨⟩⟩ ?_
    refine WP.yes rfl rfl rfl ?_
    refine WP.lx tysOk rfl ⟨⟩ (CellAt.blk .head rfl) ?_
    refine WP.yes rfl rfl rfl ?_
    iterate 3 (refine WP.sx tysOk rfl ⟨⟨⟩, ⟨⟩⟩ ?_)
    by_cases hh5 : 0 ≤ ((gt i1.arcs a1).dst)
    ·rw [if_pos hh5] at h
     refine WP.yes rfl rfl (decide_eq_true hh5) ?_
     refine WP.sx tysOk rfl ⟨⟨⟩, ⟨⟩⟩ ?_
     refine WP.yes rfl rfl rfl ?_
     refine WP.lx tysOk rfl ⟨⟩ (CellAt.blk .head rfl) ?_
     refine WP.yes rfl rfl rfl ?_
     refine WP.sx tysOk rfl ⟨⟨⟩, ⟨⟩⟩ ?_
     refine WP.yes rfl rfl rfl ?_
     refine WP.lx tysOk rfl ⟨⟩ (CellAt.blk (.tail .head) rfl) ?_
     refine WP.yes rfl rfl rfl ?_
     refine WP.sx tysOk rfl ⟨⟨⟩, ⟨⟩⟩ ?_
     refine WP.yes rfl rfl rfl ?_
     iterate 3 (refine WP.sx tysOk rfl ⟨⟨⟩, ⟨⟩⟩ ?_)
     cases h
     refine WP.retR tysOk rfl rfl ⟨_, _, rfl, rfl, rfl⟩ (fun w1 hw1 => ⟨rfl, Ret.below_ hw1 (.cons (.tail (.tail .head)) .nil)⟩)
    rw [if_neg hh5] at h
    refine WP.no rfl rfl (decide_eq_false hh5) rfl rfl ?_
    iterate 5 (refine WP.no rfl rfl rfl rfl rfl ?_)
    iterate 2 (refine WP.sx tysOk rfl ⟨⟨⟩, ⟨⟩⟩ ?_)
    cases h
    refine WP.retR tysOk rfl rfl ⟨_, _, rfl, rfl, rfl⟩ (fun w1 hw1 => ⟨rfl, Ret.below_ hw1 (.cons (.tail (.tail .head)) .nil)⟩)
   rw [if_neg hh4] at h
   refine WP.no rfl rfl (decide_eq_false hh4) rfl rfl ?_
   iterate 2 (refine WP.no rfl rfl rfl rfl rfl ?_)
   iterate 2 (refine WP.sx tysOk rfl ⟨⟨⟩, ⟨⟩⟩ ?_)
   iterate 6 (refine WP.no rfl rfl rfl rfl rfl ?_)
   iterate 2 (refine WP.sx tysOk rfl ⟨⟨⟩, ⟨⟩⟩ ?_)
   cases h
   refine WP.retR tysOk rfl rfl ⟨_, _, rfl, rfl, rfl⟩ (fun w1 hw1 => ⟨rfl, Ret.below_ hw1 (.cons (.tail (.tail .head)) .nil)⟩)
  rw [if_neg hh3] at h
  refine WP.no rfl rfl (decide_eq_false hh3) rfl rfl ?_
  iterate 5 (refine WP.no rfl rfl rfl rfl rfl ?_)
  iterate 2 ((iterate 2 (refine WP.sx tysOk rfl ⟨⟨⟩, ⟨⟩⟩ ?_)); refine WP.no rfl rfl rfl rfl rfl ?_; refine WP.no rfl rfl rfl rfl rfl ?_; refine WP.no rfl rfl rfl rfl rfl ?_)
  iterate 3 (refine WP.no rfl rfl rfl rfl rfl ?_)
  iterate 2 (refine WP.sx tysOk rfl ⟨⟨⟩, ⟨⟩⟩ ?_)
  cases h
  refine WP.retR tysOk rfl rfl ⟨_, _, rfl, rfl, rfl⟩ (fun w1 hw1 => ⟨rfl, Ret.below_ hw1 (.cons (.tail (.tail .head)) .nil)⟩)

abbrev ref04_some_S (r : (List Int)) : Value → Heap → Prop := fun v L => ∃ (A1 : Option Addr) (n1 c1 : Nat), v = .slice A1 n1 c1 ∧ OwF A1 n1 r ∧ L = [Ow (fI .i64) 3 A1 n1 c1 r]
set_option maxRecDepth 20000 in
set_option maxHeartbeats 8000000 in
theorem ref04_some_w {w : World} {v0 : Value} {i1 : Inst} {n1 : Int} {outv1 : Bool} {inv1 : Bool} {r : (List Int)} (h : ref04_some i1 n1 outv1 inv1 = some r) (p1 : InsZ (PH.of w) v0 i1) :
    Calls Tryz.prog 85 #[v0, iv n1, .bool (outv1), .bool (inv1)] w fun e w' => ∃ v L, e = .returned v ∧ ref04_some_S r v L ∧ Ret w w' L := by
  obtain ⟨A1, c1, A2, c2, rfl, hs1, hs2⟩ := p1
  unfold ref04_some at h
  refine enter_ Tryz.func85 rfl Tryz.ntmps85 rfl ?_
  refine WP.box rfl rfl rfl rfl rfl rfl ?_
  intro g1
  iterate 3 (refine WP.sx tysOk rfl ⟨⟨⟩, ⟨⟩⟩ ?_)
  refine WP.own_nil 3 (fI .i64).z ?_
  refine WP.loop (α := Nat × Int × (List Int) × (Option Addr) × Nat × Nat) (fun x => lp (ref04_some_b1 i1 n1 outv1 inv1) x.1 (x.2.1, x.2.2.1) = some r ∧ OwF x.2.2.2.1 x.2.2.2.2.1 x.2.2.1) (fun x => [(1, iv n1), (2, .bool (outv1)), (3, .bool (inv1)), (4, .pointer (some ⟨g1, 0, none⟩)), (9, .slice x.2.2.2.1 x.2.2.2.2.1 x.2.2.2.2.2), (10, iv x.2.1)]) (fun x => [Ow (fI .i64) 3 x.2.2.2.1 x.2.2.2.2.1 x.2.2.2.2.2 x.2.2.1, .blk g1 25 [.slice A1 i1.supply.length c1, .slice A2 i1.arcs.length c2], .fz (PH.of w)]) (fun x => x.1) rfl (big, 0, ([] : List Int), none, 0, 0) ⟨h, OwF.nil_⟩ ?_ ?_ ?_
  ·repeat first | exact ⟨⟩ | refine ⟨rfl, ?_⟩
  ·exact (.cons .head (.cons .head (.cons .head .nil)))
  rintro ⟨n2, a3, xs14, A16, m2, c16⟩ ⟨h, hf26⟩
  dsimp only at h hf26 ⊢
  rcases n2 with _ | n2
  · exact (lp_no h).elim
  replace h := lp_succ h
  unfold ref04_some_b1 at h
  try dsimp only at h
  iterate 2 (refine WP.sx tysOk rfl ⟨⟨⟩, ⟨⟩⟩ ?_)
  refine WP.lx tysOk rfl ⟨⟩ (CellAt.blk (.tail .head) rfl) ?_
  iterate 2 (refine WP.sx tysOk rfl ⟨⟨⟩, ⟨⟩⟩ ?_)
  refine WP.cond_d rfl rfl (fun hh33 => ?_) (fun hh33 => ?_)
  ·rw [if_pos hh33] at h
   refine WP.mx_ tysOk rfl ⟨⟩ (SegAt.blk' (.tail .head) rfl) ?_
   refine WP.sx tysOk rfl ⟨⟨⟩, ⟨⟩⟩ ?_
   obtain ⟨r5, hg5, h⟩ := bind_some h
   refine WP.callV rfl rfl rfl rfl rfl rfl rfl (by kernel_rfl) (fun w1 hw1 => (ref04_fit_w hg5 (InsZ.mk_ ((hs1.le' ((Held.mem (List.Mem.tail _ (List.Mem.tail _ (List.Mem.head _)))) _ _ hw1)).of) ((hs2.le' ((Held.mem (List.Mem.tail _ (List.Mem.tail _ (List.Mem.head _)))) _ _ hw1)).of)) :)) ⟨⟩ ?_
   refine WP.sx tysOk rfl ⟨⟨⟩, ⟨⟩⟩ ?_
   by_cases hh34 : r5 = true
   ·rw [if_pos hh34] at h
    refine WP.yes rfl rfl hh34 ?_
    refine WP.sx tysOk rfl ⟨⟨⟩, ⟨⟩⟩ ?_
    refine WP.yes rfl rfl rfl ?_
    refine WP.sx tysOk rfl ⟨⟨⟩, ⟨⟩⟩ ?_
    by_cases hh35 : outv1 = true
    ·rw [if_pos hh35] at h
     refine WP.yes rfl rfl hh35 ?_
     refine WP.sx tysOk rfl ⟨⟨⟩, ⟨⟩⟩ ?_
     refine WP.yes rfl rfl rfl ?_
     refine WP.lx tysOk rfl ⟨⟩ (CellAt.blk (.tail .head) rfl) ?_
     refine WP.yes rfl rfl rfl ?_
     refine WP.sx tysOk rfl ⟨⟨⟩, ⟨⟩⟩ ?_
     refine WP.yes rfl rfl rfl ?_
     obtain ⟨hj9, h⟩ := ck_some h
     refine WP.ixA tysOk rfl ⟨⟩ rfl rfl rfl rfl rfl rfl rfl rfl hj9 (hs2.ex hj9) ?_
     intro b13 b13v hA13
     refine WP.yes rfl rfl rfl ?_
     refine WP.sx tysOk rfl ⟨⟨⟩, ⟨⟩⟩ ?_
     refine WP.yes rfl rfl rfl ?_
     refine WP.lx tysOk rfl ⟨⟩ (hs2.at0 hA13 (Held.mem (List.Mem.tail _ (List.Mem.tail _ (List.Mem.head _)))) hj9 rfl) ?_
     iterate 4 (refine WP.yes rfl rfl rfl ?_; refine WP.sx tysOk rfl ⟨⟨⟩, ⟨⟩⟩ ?_)
     by_cases hh36 : ((gt i1.arcs a3).src) = n1
     ·rw [if_pos hh36] at h
      refine WP.no rfl rfl (decide_eq_true hh36) rfl rfl ?_
      refine WP.no rfl rfl rfl rfl rfl ?_
      iterate 8 (refine WP.noU rfl rfl rfl rfl ?_)
      refine WP.no rfl rfl rfl rfl rfl ?_
      refine WP.yes rfl rfl rfl ?_
      iterate 2 (refine WP.sx tysOk rfl ⟨⟨⟩, ⟨⟩⟩ ?_)
      refine WP.condT rfl rfl ?_
      iterate 2 (refine WP.sx tysOk rfl ⟨⟨⟩, ⟨⟩⟩ ?_)
      refine WP.bsO (f := (fI .i64)) [a3] tysOk rfl rfl rfl rfl rfl rfl rfl rfl rfl rfl rfl rfl rfl rfl ?_
      intro g14 hf27
      obtain ⟨hl13, h⟩ := ck_some h
      obtain ⟨xs15, hz13, h⟩ := lt_some h
      refine WP.appO (f := (fI .i64)) (xs := xs14) (ys := [a3]) tysOk rfl rfl rfl rfl rfl rfl rfl rfl rfl rfl rfl rfl (.tail .head) hf26 hf27.len (OwS.app .head hf27) hl13 hz13 ?_
      intro A17 c17 hf28
      iterate 4 (refine WP.sx tysOk rfl ⟨⟨⟩, ⟨⟩⟩ ?_)
      refine WP.stop rfl (n2, w64 (a3 + 1), xs15, A17, xs15.length, c17) ⟨⟨h, hf28⟩, Nat.lt_succ_self _⟩ ?_ ?_
      ·repeat first | exact ⟨⟩ | refine ⟨rfl, ?_⟩
      exact (.cons .head (.cons (.tail .head) (.cons (.tail .head) .nil)))
     rw [if_neg hh36] at h
     refine WP.yes rfl rfl (decide_eq_false hh36) ?_
     refine WP.sx tysOk rfl ⟨⟨⟩, ⟨⟩⟩ ?_
     refine WP.yes rfl rfl rfl ?_
     refine WP.sx tysOk rfl ⟨⟨⟩, ⟨⟩⟩ ?_
     by_cases hh37 : inv1 = true
     ·rw [if_pos hh37] at h
      refine WP.yes rfl rfl hh37 ?_
      refine WP.sx tysOk rfl ⟨⟨⟩, ⟨⟩⟩ ?_
      refine WP.yes rfl rfl rfl ?_
      refine WP.lx tysOk rfl ⟨⟩ (CellAt.blk (.tail .head) rfl) ?_
      refine WP.yes rfl rfl rfl ?_
      refine WP.sx tysOk rfl ⟨⟨⟩, ⟨⟩⟩ ?_
      refine WP.yes rfl rfl rfl ?_
      refine WP.ixA tysOk rfl ⟨⟩ rfl rfl rfl rfl rfl rfl rfl rfl hj9 (hs2.ex hj9) ?_
      intro b14 b14v hA14
      refine WP.yes rfl rfl rfl ?_
      refine WP.sx tysOk rfl ⟨⟨⟩, ⟨⟩⟩ ?_
      refine WP.yes rfl rfl rfl ?_
      refine WP.lx tysOk rfl ⟨⟩ (hs2.at hA14 (Held.mem (List.Mem.tail _ (List.Mem.tail _ (List.Mem.head _)))) hj9 1 rfl) ?_
      iterate 3 (refine WP.yes rfl rfl rfl ?_; refine WP.sx tysOk rfl ⟨⟨⟩, ⟨⟩⟩ ?_)
      refine WP.yes rfl rfl rfl ?_
      iterate 2 (refine WP.sx tysOk rfl ⟨⟨⟩, ⟨⟩⟩ ?_)
      refine WP.cond_d rfl rfl (fun hh38 => ?_) (fun hh38 => ?_)
      ·rw [if_pos hh38] at h
       iterate 2 (refine WP.sx tysOk rfl ⟨⟨⟩, ⟨⟩⟩ ?_)
       refine WP.bsO (f := (fI .i64)) [a3] tysOk rfl rfl rfl rfl rfl rfl rfl rfl rfl rfl rfl rfl rfl rfl ?_
       intro g15 hf29
       obtain ⟨hl14, h⟩ := ck_some h
       obtain ⟨xs16, hz14, h⟩ := lt_some h
       refine WP.appO (f := (fI .i64)) (xs := xs14) (ys := [a3]) tysOk rfl rfl rfl rfl rfl rfl rfl rfl rfl rfl rfl rfl (.tail .head) hf26 hf29.len (OwS.app .head hf29) hl14 hz14 ?_
       intro A18 c18 hf30
       iterate 4 (refine WP.sx tysOk rfl ⟨⟨⟩, ⟨⟩⟩ ?_)
       refine WP.stop rfl (n2, w64 (a3 + 1), xs16, A18, xs16.length, c18) ⟨⟨h, hf30⟩, Nat.lt_succ_self _⟩ ?_ ?_
       ·repeat first | exact ⟨⟩ | refine ⟨rfl, ?_⟩
       exact (.cons .head (.cons (.tail .head) (.cons (.tail .head) .nil)))
      rw [if_neg hh38] at h
      iterate 3 (refine WP.sx tysOk rfl ⟨⟨⟩, ⟨⟩⟩ ?_)
      refine WP.stop rfl (n2, w64 (a3 + 1), xs14, A16, m2, c16) ⟨⟨h, hf26⟩, Nat.lt_succ_self _⟩ ?_ ?_
      ·repeat first | exact ⟨⟩ | refine ⟨rfl, ?_⟩
      exact (.cons .head (.cons .head (.cons .head .nil)))
     rw [if_neg hh37] at h
     refine WP.no rfl rfl (bfalse hh37) rfl rfl ?_
     iterate 7 (refine WP.no rfl rfl rfl rfl rfl ?_)
     refine WP.yes rfl rfl rfl ?_
     refine WP.sx tysOk rfl ⟨⟨⟩, ⟨⟩⟩ ?_
     refine WP.yes rfl rfl rfl ?_
     iterate 2 (refine WP.sx tysOk rfl ⟨⟨⟩, ⟨⟩⟩ ?_)
     refine WP.condF rfl rfl ?_
     iterate 3 (refine WP.sx tysOk rfl ⟨⟨⟩, ⟨⟩⟩ ?_)
     refine WP.stop rfl (n2, w64 (a3 + 1), xs14, A16, m2, c16) ⟨⟨h, hf26⟩, Nat.lt_succ_self _⟩ ?_ ?_
     ·repeat first | exact ⟨⟩ | refine ⟨rfl, ?_⟩
     exact (.cons .head (.cons .head (.cons .head .nil)))
    rw [if_neg hh35] at h
    refine WP.no rfl rfl (bfalse hh35) rfl rfl ?_
    iterate 7 (refine WP.no rfl rfl rfl rfl rfl ?_)
    iterate 4 (refine WP.yes rfl rfl rfl ?_; refine WP.sx tysOk rfl ⟨⟨⟩, ⟨⟩⟩ ?_)
    by_cases hh39 : inv1 = true
    ·rw [if_pos hh39] at h
     refine WP.yes rfl rfl hh39 ?_
     refine WP.sx tysOk rfl ⟨⟨⟩, ⟨⟩⟩ ?_
     refine WP.yes rfl rfl rfl ?_
     refine WP.lx tysOk rfl ⟨⟩ (CellAt.blk (.tail .head) rfl) ?_
     refine WP.yes rfl rfl rfl ?_
     refine WP.sx tysOk rfl ⟨⟨⟩, ⟨⟩⟩ ?_
     refine WP.yes rfl rfl rfl ?_
     obtain ⟨hj10, h⟩ := ck_some h
     refine WP.ixA tysOk rfl ⟨⟩ rfl rfl rfl rfl rfl rfl rfl rfl hj10 (hs2.ex hj10) ?_
     intro b15 b15v hA15
     refine WP.yes rfl rfl rfl ?_
     refine WP.sx tysOk rfl ⟨⟨⟩, ⟨⟩⟩ ?_
     refine WP.yes rfl rfl rfl ?_
     refine WP.lx tysOk rfl ⟨⟩ (hs2.at hA15 (Held.mem (List.Mem.tail _ (List.Mem.tail _ (List.Mem.head _)))) hj10 1 rfl) ?_
     iterate 3 (refine WP.yes rfl rfl rfl ?_; refine WP.sx tysOk rfl ⟨⟨⟩, ⟨⟩⟩ ?_)
     refine WP.yes rfl rfl rfl ?_
     iterate 2 (refine WP.sx tysOk rfl ⟨⟨⟩, ⟨⟩⟩ ?_)
     refine WP.cond_d rfl rfl (fun hh40 => ?_) (fun hh40 => ?_)
     ·rw [if_pos hh40] at h
      iterate 2 (refine WP.sx tysOk rfl ⟨⟨⟩, ⟨⟩⟩ ?_)
      refine WP.bsO (f := (fI .i64)) [a3] tysOk rfl rfl rfl rfl rfl rfl rfl rfl rfl rfl rfl rfl rfl rfl ?_
      intro g16 hf31
      obtain ⟨hl15, h⟩ := ck_some h
      obtain ⟨xs17, hz15, h⟩ := lt_some h
      refine WP.appO (f := (fI .i64)) (xs := xs14) (ys := [a3]) tysOk rfl rfl rfl rfl rfl rfl rfl rfl rfl rfl rfl rfl (.tail .head) hf26 hf31.len (OwS.app .head hf31) hl15 hz15 ?_
      intro A19 c19 hf32
      iterate 4 (refine WP.sx tysOk rfl ⟨⟨⟩, ⟨⟩⟩ ?_)
      refine WP.stop rfl (n2, w64 (a3 + 1), xs17, A19, xs17.length, c19) ⟨⟨h, hf32⟩, Nat.lt_succ_self _⟩ ?_ ?_
      ·repeat first | exact ⟨⟩ | refine ⟨rfl, ?_⟩
      exact (.cons .head (.cons (.tail .head) (.cons (.tail .head) .nil)))
     rw [if_neg hh40] at h
     iterate 3 (refine WP.sx tysOk rfl ⟨⟨⟩, ⟨⟩⟩ ?_)
     refine WP.stop rfl (n2, w64 (a3 + 1), xs14, A16, m2, c16) ⟨⟨h, hf26⟩, Nat.lt_succ_self _⟩ ?_ ?_
     ·repeat first | exact ⟨⟩ | refine ⟨rfl, ?_⟩
     exact (.cons .head (.cons .head (.cons .head .nil)))
    rw [if_neg hh39] at h
    refine WP.no rfl rfl (bfalse hh39) rfl rfl ?_
    iterate 7 (refine WP.no rfl rfl rfl rfl rfl ?_)
    refine WP.yes rfl rfl rfl ?_
    refine WP.sx tysOk rfl ⟨⟨⟩, ⟨⟩⟩ ?_
    refine WP.yes rfl rfl rfl ?_
    iterate 2 (refine WP.sx tysOk rfl ⟨⟨⟩, ⟨⟩⟩ ?_)
    refine WP.condF rfl rfl ?_
    iterate 3 (refine WP.sx tysOk rfl ⟨⟨⟩, ⟨⟩⟩ ?_)
    refine WP.stop rfl (n2, w64 (a3 + 1), xs14, A16, m2, c16) ⟨⟨h, hf26⟩, Nat.lt_succ_self _⟩ ?_ ?_
    ·repeat first | exact ⟨⟩ | refine ⟨rfl, ?_⟩
    exact (.cons .head (.cons .head (.cons .head .nil)))
   rw [if_neg hh34] at h
   refine WP.no rfl rfl (bfalse hh34) rfl rfl ?_
   refine WP.no rfl rfl rfl rfl rfl ?_
   iterate 8 (refine WP.noU rfl rfl rfl rfl ?_)
   iterate 2 (refine WP.no rfl rfl rfl rfl rfl ?_)
   iterate 11 (refine WP.noU rfl rfl rfl rfl ?_)
   refine WP.no rfl rfl rfl rfl rfl ?_
   refine WP.sx tysOk rfl ⟨⟨⟩, ⟨⟩⟩ ?_
   refine WP.condF rfl rfl ?_
   iterate 3 (refine WP.sx tysOk rfl ⟨⟨⟩, ⟨⟩⟩ ?_)
   refine WP.stop rfl (n2, w64 (a3 + 1), xs14, A16, m2, c16) ⟨⟨h, hf26⟩, Nat.lt_succ_self _⟩ ?_ ?_
   ·repeat first | exact ⟨⟩ | refine ⟨rfl, ?_⟩
   exact (.cons .head (.cons .head (.cons .head .nil)))
  rw [if_neg hh33] at h
  iterate 2 (refine WP.sx tysOk rfl ⟨⟨⟩, ⟨⟩⟩ ?_)
  cases h
  refine WP.retR tysOk rfl rfl ⟨_, _, rfl, rfl, rfl⟩ (fun w1 hw1 => ⟨_, _, rfl, ⟨A16, m2, c16, rfl, hf26, rfl⟩, Ret.of_KH hw1 (.cons .head (.cons (.tail .head) .nil))⟩)

abbrev ref04_At_S (r : (List Int)) : Value → Heap → Prop := fun v L => ∃ (A1 : Option Addr) (n1 c1 : Nat), v = .slice A1 n1 c1 ∧ OwF A1 n1 r ∧ L = [Ow (fI .i64) 3 A1 n1 c1 r]
set_option maxRecDepth 20000 in
set_option maxHeartbeats 8000000 in
theorem ref04_At_w {w : World} {v0 : Value} {i1 : Inst} {n1 : Int} {r : (List Int)} (h : ref04_At i1 n1 = some r) (p1 : InsZ (PH.of w) v0 i1) :
    Calls Tryz.prog 58 #[v0, iv n1] w fun e w' => ∃ v L, e = .returned v ∧ ref04_At_S r v L ∧ Ret w w' L := by
  obtain ⟨A1, c1, A2, c2, rfl, hs1, hs2⟩ := p1
  unfold ref04_At at h
  refine enter_ Tryz.func58 rfl Tryz.ntmps58 rfl ?_
  refine WP.box rfl rfl rfl rfl rfl rfl ?_
  intro g1
  refine WP.sx tysOk rfl ⟨⟨⟩, ⟨⟩⟩ ?_
  refine WP.mx_ tysOk rfl ⟨⟩ (SegAt.blk' .head rfl) ?_
  refine WP.sx tysOk rfl ⟨⟨⟩, ⟨⟩⟩ ?_
  obtain ⟨r1, hg1, h⟩ := bind_some h
  refine WP.callS (ref04_some_S r1) rfl rfl rfl rfl rfl rfl rfl (by kernel_rfl) (fun w1 hw1 => (ref04_some_w hg1 (InsZ.mk_ ((hs1.le' ((Held.mem (List.Mem.tail _ (List.Mem.head _))) _ _ hw1)).of) ((hs2.le' ((Held.mem (List.Mem.tail _ (List.Mem.head _))) _ _ hw1)).of)) :)) ?_
  rintro _ _ ⟨A3, n2, c3, rfl, hf1, rfl⟩
  refine WP.sx tysOk rfl ⟨⟨⟩, ⟨⟩⟩ ?_
  cases h
  refine WP.retR tysOk rfl rfl ⟨_, _, rfl, rfl, rfl⟩ (fun w1 hw1 => ⟨_, _, rfl, ⟨A3, n2, c3, rfl, hf1, rfl⟩, Ret.of_KH hw1 (.cons .head (.cons (.tail .head) .nil))⟩)

set_option maxRecDepth 20000 in
set_option maxHeartbeats 8000000 in
theorem ref04_Loops_w {w : World} {v0 : Value} {i1 : Inst} {n1 : Int} {r : Int} (h : ref04_Loops i1 n1 = some r) (p1 : InsZ (PH.of w) v0 i1) :
    Calls Tryz.prog 59 #[v0, iv n1] w fun e w' => e = .returned (iv r) ∧ Below w.heap.size w w' := by
  obtain ⟨A1, c1, A2, c2, rfl, hs1, hs2⟩ := p1
  unfold ref04_Loops at h
  refine enter_ Tryz.func59 rfl Tryz.ntmps59 rfl ?_
  refine WP.box rfl rfl rfl rfl rfl rfl ?_
  intro g1
  iterate 3 (refine WP.sx tysOk rfl ⟨⟨⟩, ⟨⟩⟩ ?_)
  refine WP.loop (α := Nat × Int × Int) (fun x => lp (ref04_Loops_b1 i1 n1) x.1 (x.2.1, x.2.2) = some r) (fun x => [(1, iv n1), (2, .pointer (some ⟨g1, 0, none⟩)), (5, iv x.2.1), (6, iv x.2.2)]) (fun x => [.blk g1 25 [.slice A1 i1.supply.length c1, .slice A2 i1.arcs.length c2], .fz (PH.of w)]) (fun x => x.1) rfl (big, 0, 0) h ?_ ?_ ?_
  ·repeat first | exact ⟨⟩ | refine ⟨rfl, ?_⟩
  ·exact (.cons .head (.cons .head .nil))
  rintro ⟨n2, k2, a2⟩ h
  dsimp only at h ⊢
  rcases n2 with _ | n2
  · exact (lp_no h).elim
  replace h := lp_succ h
  unfold ref04_Loops_b1 at h
  try dsimp only at h
  iterate 2 (refine WP.sx tysOk rfl ⟨⟨⟩, ⟨⟩⟩ ?_)
  refine WP.lx tysOk rfl ⟨⟩ (CellAt.blk .head rfl) ?_
  iterate 2 (refine WP.sx tysOk rfl ⟨⟨⟩, ⟨⟩⟩ ?_)
  refine WP.cond_d rfl rfl (fun hh9 => ?_) (fun hh9 => ?_)
  ·rw [if_pos hh9] at h
   refine WP.mx_ tysOk rfl ⟨⟩ (SegAt.blk' .head rfl) ?_
   refine WP.sx tysOk rfl ⟨⟨⟩, ⟨⟩⟩ ?_
   obtain ⟨r3, hg3, h⟩ := bind_some h
   refine WP.callV rfl rfl rfl rfl rfl rfl rfl (by kernel_rfl) (fun w1 hw1 => (ref04_fit_w hg3 (InsZ.mk_ ((hs1.le' ((Held.mem (List.Mem.tail _ (List.Mem.head _))) _ _ hw1)).of) ((hs2.le' ((Held.mem (List.Mem.tail _ (List.Mem.head _))) _ _ hw1)).of)) :)) ⟨⟩ ?_
   refine WP.sx tysOk rfl ⟨⟨⟩, ⟨⟩⟩ ?_
   by_cases hh10 : r3 = true
   ·rw [if_pos hh10] at h
    refine WP.yes rfl rfl hh10 ?_
    refine WP.sx tysOk rfl ⟨⟨⟩, ⟨⟩⟩ ?_
    refine WP.yes rfl rfl rfl ?_
    refine WP.lx tysOk rfl ⟨⟩ (CellAt.blk .head rfl) ?_
    refine WP.yes rfl rfl rfl ?_
    refine WP.sx tysOk rfl ⟨⟨⟩, ⟨⟩⟩ ?_
    refine WP.yes rfl rfl rfl ?_
    obtain ⟨hj3, h⟩ := ck_some h
    refine WP.ixA tysOk rfl ⟨⟩ rfl rfl rfl rfl rfl rfl rfl rfl hj3 (hs2.ex hj3) ?_
    intro b5 b5v hA5
    refine WP.yes rfl rfl rfl ?_
    refine WP.sx tysOk rfl ⟨⟨⟩, ⟨⟩⟩ ?_
    refine WP.yes rfl rfl rfl ?_
    refine WP.lx tysOk rfl ⟨⟩ (hs2.at0 hA5 (Held.mem (List.Mem.tail _ (List.Mem.head _))) hj3 rfl) ?_
    refine WP.yes rfl rfl rfl ?_
    refine WP.sx tysOk rfl ⟨⟨⟩, ⟨⟩⟩ ?_
    refine WP.yes rfl rfl rfl ?_
    iterate 3 (refine WP.sx tysOk rfl ⟨⟨⟩, ⟨⟩⟩ ?_)
    by_cases hh11 : ((gt i1.arcs a2).src) = n1
    ·rw [if_pos hh11] at h
     refine WP.yes rfl rfl (decide_eq_true hh11) ?_
     refine WP.sx tysOk rfl ⟨⟨⟩, ⟨⟩⟩ ?_
     refine WP.yes rfl rfl rfl ?_
     refine WP.lx tysOk rfl ⟨⟩ (CellAt.blk .head rfl) ?_
     refine WP.yes rfl rfl rfl ?_
     refine WP.sx tysOk rfl ⟨⟨⟩, ⟨⟩⟩ ?_
     refine WP.yes rfl rfl rfl ?_
     refine WP.ixA tysOk rfl ⟨⟩ rfl rfl rfl rfl rfl rfl rfl rfl hj3 (hs2.ex hj3) ?_
     intro b6 b6v hA6
     refine WP.yes rfl rfl rfl ?_
     refine WP.sx tysOk rfl ⟨⟨⟩, ⟨⟩⟩ ?_
     refine WP.yes rfl rfl rfl ?_
     refine WP.lx tysOk rfl ⟨⟩ (hs2.at hA6 (Held.mem (List.Mem.tail _ (List.Mem.head _))) hj3 1 rfl) ?_
     refine WP.yes rfl rfl rfl ?_
     refine WP.sx tysOk rfl ⟨⟨⟩, ⟨⟩⟩ ?_
     refine WP.yes rfl rfl rfl ?_
     iterate 2 (refine WP.sx tysOk rfl ⟨⟨⟩, ⟨⟩⟩ ?_)
     refine WP.cond_d rfl rfl (fun hh12 => ?_) (fun hh12 => ?_)
     ·rw [if_pos hh12] at h
      iterate 6 (refine WP.sx tysOk rfl ⟨⟨⟩, ⟨⟩⟩ ?_)
      refine WP.stop rfl (n2, w64 (k2 + 1), w64 (a2 + 1)) ⟨h, Nat.lt_succ_self _⟩ ?_ ?_
      ·repeat first | exact ⟨⟩ | refine ⟨rfl, ?_⟩
      exact (.cons .head (.cons .head .nil))
     rw [if_neg hh12] at h
     iterate 3 (refine WP.sx tysOk rfl ⟨⟨⟩, ⟨⟩⟩ ?_)
     refine WP.stop rfl (n2, k2, w64 (a2 + 1)) ⟨h, Nat.lt_succ_self _⟩ ?_ ?_
     ·repeat first | exact ⟨⟩ | refine ⟨rfl, ?_⟩
     exact (.cons .head (.cons .head .nil))
    rw [if_neg hh11] at h
    refine WP.no rfl rfl (decide_eq_false hh11) rfl rfl ?_
    iterate 7 (refine WP.no rfl rfl rfl rfl rfl ?_)
    refine WP.sx tysOk rfl ⟨⟨⟩, ⟨⟩⟩ ?_
    refine WP.condF rfl rfl ?_
    iterate 3 (refine WP.sx tysOk rfl ⟨⟨⟩, ⟨⟩⟩ ?_)
    refine WP.stop rfl (n2, k2, w64 (a2 + 1)) ⟨h, Nat.lt_succ_self _⟩ ?_ ?_
    ·repeat first | exact ⟨⟩ | refine ⟨rfl, ?_⟩
    exact (.cons .head (.cons .head .nil))
   rw [if_neg hh10] at h
   refine WP.no rfl rfl (bfalse hh10) rfl rfl ?_
   iterate 7 (refine WP.no rfl rfl rfl rfl rfl ?_)
   iterate 2 (refine WP.sx tysOk rfl ⟨⟨⟩, ⟨⟩⟩ ?_)
   iterate 8 (refine WP.no rfl rfl rfl rfl rfl ?_)
   refine WP.sx tysOk rfl ⟨⟨⟩, ⟨⟩⟩ ?_
   refine WP.condF rfl rfl ?_
   iterate 3 (refine WP.sx tysOk rfl ⟨⟨⟩, ⟨⟩⟩ ?_)
   refine WP.stop rfl (n2, k2, w64 (a2 + 1)) ⟨h, Nat.lt_succ_self _⟩ ?_ ?_
   ·repeat first | exact ⟨⟩ | refine ⟨rfl, ?_⟩
   exact (.cons .head (.cons .head .nil))
  rw [if_neg hh9] at h
  iterate 2 (refine WP.sx tysOk rfl ⟨⟨⟩, ⟨⟩⟩ ?_)
  cases h
  refine WP.retR tysOk rfl rfl ⟨_, _, rfl, rfl, rfl⟩ (fun w1 hw1 => ⟨rfl, Ret.below_ hw1 (.cons (.tail .head) .nil)⟩)

abbrev ref18_two_S (r : (List Int) × Bool) : Value → Heap → Prop := fun v L => ∃ (A1 : Option Addr) (n1 c1 : Nat), v = .tuple #[.slice A1 n1 c1, .bool (r.2)] ∧ OwF A1 n1 r.1 ∧ L = [Ow (fI .i64) 3 A1 n1 c1 r.1]
set_option maxRecDepth 20000 in
set_option maxHeartbeats 8000000 in
theorem ref18_two_w {w : World} {v0 : Value} {i1 : Inst} {n1 : Int} {r : (List Int) × Bool} (h : ref18_two i1 n1 = some r) (p1 : InsZ (PH.of w) v0 i1) :
    Calls Tryz.prog 34 #[v0, iv n1] w fun e w' => ∃ v L, e = .returned v ∧ ref18_two_S r v L ∧ Ret w w' L := by
  obtain ⟨A1, c1, A2, c2, rfl, hs1, hs2⟩ := p1
  unfold ref18_two at h
  refine enter_ Tryz.func34 rfl Tryz.ntmps34 rfl ?_
  refine WP.box rfl rfl rfl rfl rfl rfl ?_
  intro g1
  iterate 2 (refine WP.sx tysOk rfl ⟨⟨⟩, ⟨⟩⟩ ?_)
  refine WP.mx_ tysOk rfl ⟨⟩ (SegAt.blk' .head rfl) ?_
  refine WP.sx tysOk rfl ⟨⟨⟩, ⟨⟩⟩ ?_
  obtain ⟨r1, hg1, h⟩ := bind_some h
  refine WP.callS (ref04_At_S r1) rfl rfl rfl rfl rfl rfl rfl (by kernel_rfl) (fun w1 hw1 => (ref04_At_w hg1 (InsZ.mk_ ((hs1.le' ((Held.mem (List.Mem.tail _ (List.Mem.head _))) _ _ hw1)).of) ((hs2.le' ((Held.mem (List.Mem.tail _ (List.Mem.head _))) _ _ hw1)).of)) :)) ?_
  rintro _ _ ⟨A3, n2, c3, rfl, hf1, rfl⟩
  iterate 5 (refine WP.sx tysOk rfl ⟨⟨⟩, ⟨⟩⟩ ?_)
  by_cases hh1 : 0 ≤ n1
  ·rw [if_pos hh1] at h
   refine WP.yes rfl rfl (decide_eq_true hh1) ?_
   iterate 2 (refine WP.sx tysOk rfl ⟨⟨⟩, ⟨⟩⟩ ?_; refine WP.yes rfl rfl rfl ?_)
   refine WP.lx tysOk rfl ⟨⟩ (CellAt.blk (.tail .head) rfl) ?_
   refine WP.yes rfl rfl rfl ?_
   refine WP.sx tysOk rfl ⟨⟨⟩, ⟨⟩⟩ ?_
   refine WP.yes rfl rfl rfl ?_
   iterate 3 (refine WP.sx tysOk rfl ⟨⟨⟩, ⟨⟩⟩ ?_)
   by_cases hh2 : n1 < (i1.supply.length : Int)
   ·rw [if_pos hh2] at h
    refine WP.yes rfl rfl (decide_eq_true hh2) ?_
    refine WP.sx tysOk rfl ⟨⟨⟩, ⟨⟩⟩ ?_
    refine WP.yes rfl rfl rfl ?_
    refine WP.lenO (xs := r1) tysOk rfl ⟨⟩ rfl rfl rfl rfl rfl rfl hf1 ?_
    refine WP.yes rfl rfl rfl ?_
    iterate 3 (refine WP.sx tysOk rfl ⟨⟨⟩, ⟨⟩⟩ ?_)
    by_cases hh3 : (r1.length : Int) = 2
    ·rw [if_pos hh3] at h
     refine WP.yes rfl rfl (decide_eq_true hh3) ?_
     refine WP.mx_ tysOk rfl ⟨⟩ (SegAt.blk' (.tail .head) rfl) ?_
     refine WP.yes rfl rfl rfl ?_
     refine WP.sx tysOk rfl ⟨⟨⟩, ⟨⟩⟩ ?_
     refine WP.yes rfl rfl rfl ?_
     obtain ⟨r2, hg2, h⟩ := bind_some h
     refine WP.callV rfl rfl rfl rfl rfl rfl rfl (by kernel_rfl) (fun w1 hw1 => (ref04_Loops_w hg2 (InsZ.mk_ ((hs1.le' ((Held.mem (List.Mem.tail _ (List.Mem.tail _ (List.Mem.head _)))) _ _ hw1)).of) ((hs2.le' ((Held.mem (List.Mem.tail _ (List.Mem.tail _ (List.Mem.head _)))) _ _ hw1)).of)) :)) ⟨⟩ ?_
     refine WP.yes rfl rfl rfl ?_
     iterate 4 (refine WP.sx tysOk rfl ⟨⟨⟩, ⟨⟩⟩ ?_)
     cases h
     refine WP.retR tysOk rfl rfl ⟨_, _, rfl, ⟨_, _, rfl, rfl, rfl⟩, rfl⟩ (fun w1 hw1 => ⟨_, _, rfl, ⟨A3, n2, c3, rfl, hf1, rfl⟩, Ret.of_KH hw1 (.cons .head (.cons (.tail .head) .nil))⟩)
    rw [if_neg hh3] at h
    refine WP.no rfl rfl (decide_eq_false hh3) rfl rfl ?_
    iterate 3 (refine WP.no rfl rfl rfl rfl rfl ?_)
    iterate 3 (refine WP.sx tysOk rfl ⟨⟨⟩, ⟨⟩⟩ ?_)
    cases h
    refine WP.retR tysOk rfl rfl ⟨_, _, rfl, ⟨_, _, rfl, rfl, rfl⟩, rfl⟩ (fun w1 hw1 => ⟨_, _, rfl, ⟨A3, n2, c3, rfl, hf1, rfl⟩, Ret.of_KH hw1 (.cons .head (.cons (.tail .head) .nil))⟩)
   rw [if_neg hh2] at h
   refine WP.no rfl rfl (decide_eq_false hh2) rfl rfl ?_
   iterate 2 (refine WP.no rfl rfl rfl rfl rfl ?_)
   iterate 2 (refine WP.sx tysOk rfl ⟨⟨⟩, ⟨⟩⟩ ?_)
   iterate 4 (refine WP.no rfl rfl rfl rfl rfl ?_)
   iterate 3 (refine WP.sx tysOk rfl ⟨⟨⟩, ⟨⟩⟩ ?_)
   cases h
   refine WP.retR tysOk rfl rfl ⟨_, _, rfl, ⟨_, _, rfl, rfl, rfl⟩, rfl⟩ (fun w1 hw1 => ⟨_, _, rfl, ⟨A3, n2, c3, rfl, hf1, rfl⟩, Ret.of_KH hw1 (.cons .head (.cons (.tail .head) .nil))⟩)
  rw [if_neg hh1] at h
  refine WP.no rfl rfl (decide_eq_false hh1) rfl rfl ?_
  iterate 4 (refine WP.no rfl rfl rfl rfl rfl ?_)
  iterate 2 ((iterate 2 (refine WP.sx tysOk rfl ⟨⟨⟩, ⟨⟩⟩ ?_)); refine WP.no rfl rfl rfl rfl rfl ?_; refine WP.no rfl rfl rfl rfl rfl ?_; refine WP.no rfl rfl rfl rfl rfl ?_)
  refine WP.no rfl rfl rfl rfl rfl ?_
  iterate 3 (refine WP.sx tysOk rfl ⟨⟨⟩, ⟨⟩⟩ ?_)
  cases h
  refine WP.retR tysOk rfl rfl ⟨_, _, rfl, ⟨_, _, rfl, rfl, rfl⟩, rfl⟩ (fun w1 hw1 => ⟨_, _, rfl, ⟨A3, n2, c3, rfl, hf1, rfl⟩, Ret.of_KH hw1 (.cons .head (.cons (.tail .head) .nil))⟩)

set_option maxRecDepth 20000 in
set_option maxHeartbeats 8000000 in
theorem ref18_less_w {w : World} {n1 : Int} {s1 : Int} {r : Int} (h : ref18_less n1 s1 = some r) :
    Calls Tryz.prog 36 #[iv n1, iv s1] w fun e w' => e = .returned (iv r) ∧ Below w.heap.size w w' := by
  unfold ref18_less at h
  refine enter_ Tryz.func36 rfl Tryz.ntmps36 rfl ?_
  iterate 3 (refine WP.sx tysOk rfl ⟨⟨⟩, ⟨⟩⟩ ?_)
  refine WP.cond_d rfl rfl (fun hh1 => ?_) (fun hh1 => ?_)
  ·rw [if_pos hh1] at h
   iterate 2 (refine WP.sx tysOk rfl ⟨⟨⟩, ⟨⟩⟩ ?_)
   cases h
   refine WP.retR tysOk rfl rfl ⟨_, _, rfl, rfl, rfl⟩ (fun w1 hw1 => ⟨rfl, Ret.below_ hw1 (.cons .head .nil)⟩)
  rw [if_neg hh1] at h
  iterate 4 (refine WP.sx tysOk rfl ⟨⟨⟩, ⟨⟩⟩ ?_)
  cases h
  refine WP.retR tysOk rfl rfl ⟨_, _, rfl, rfl, rfl⟩ (fun w1 hw1 => ⟨rfl, Ret.below_ hw1 (.cons .head .nil)⟩)

set_option maxRecDepth 20000 in
set_option maxHeartbeats 8000000 in
theorem ref18_spot_w {w : World} {n1 : Int} {a1 : Int} {b1 : Int} {x1 : Arc} {r : Spot × Bool} (h : ref18_spot n1 a1 b1 x1 = some r) :
    Calls Tryz.prog 35 #[iv n1, iv a1, iv b1, .agg #[iv x1.src, iv x1.dst, iv x1.low, iv x1.cap, iv x1.cost]] w fun e w' => e = .returned (.tuple #[.agg #[iv r.1.node, iv r.1.a, iv r.1.b, iv r.1.new.src, iv r.1.new.dst, iv r.1.new.low, iv r.1.new.cap, iv r.1.new.cost], .bool (r.2)]) ∧ Below w.heap.size w w' := by
  unfold ref18_spot at h
  refine enter_ Tryz.func35 rfl Tryz.ntmps35 rfl ?_
  refine WP.box rfl rfl rfl rfl rfl rfl ?_
  intro g1
  refine WP.al tysOk rfl rfl rfl rfl rfl rfl ?_
  intro g2
  iterate 2 (refine WP.sx tysOk rfl ⟨⟨⟩, ⟨⟩⟩ ?_)
  refine WP.lx tysOk rfl ⟨⟩ (CellAt.blk (.tail .head) rfl) ?_
  refine WP.sx tysOk rfl ⟨⟨⟩, ⟨⟩⟩ ?_
  refine WP.lx tysOk rfl ⟨⟩ (CellAt.blk (.tail .head) rfl) ?_
  refine WP.sx tysOk rfl ⟨⟨⟩, ⟨⟩⟩ ?_
  refine WP.cond_d rfl rfl (fun hh1 => ?_) (fun hh1 => ?_)
  ·rw [if_pos hh1] at h
   refine WP.bld (cs := [iv 0, iv 0, iv 0, iv 0, iv 0, iv 0, iv 0, iv 0]) tysOk rfl ⟨⟩ rfl rfl rfl rfl rfl rfl rfl ?_
   refine WP.sto' tysOk [iv 0, iv 0, iv 0, iv 0, iv 0, iv 0, iv 0, iv 0] rfl rfl rfl rfl rfl rfl rfl rfl rfl .head rfl rfl ?_
   refine WP.sx tysOk rfl ⟨⟨⟩, ⟨⟩⟩ ?_
   cases h
   refine WP.retR tysOk rfl rfl ⟨_, _, _, _, rfl, ⟨_, rfl, .inr ⟨rfl, _, rfl, rfl, (SegAt.blk' (z := 8) .head rfl).1⟩⟩, ⟨_, _, rfl, rfl, rfl⟩, rfl⟩ (fun w1 hw1 => ⟨rfl, Ret.below_ hw1 (.cons (.tail (.tail .head)) .nil)⟩)
  rw [if_neg hh1] at h
  iterate 3 (refine WP.sx tysOk rfl ⟨⟨⟩, ⟨⟩⟩ ?_)
  refine WP.mx_ tysOk rfl ⟨⟩ (SegAt.blk' (.tail .head) rfl) ?_
  refine WP.bld (cs := [iv n1, iv a1, iv b1, iv x1.src, iv x1.dst, iv x1.low, iv x1.cap, iv x1.cost]) tysOk rfl ⟨⟩ rfl rfl rfl rfl rfl rfl rfl ?_
  refine WP.sto' tysOk [iv n1, iv a1, iv b1, iv x1.src, iv x1.dst, iv x1.low, iv x1.cap, iv x1.cost] rfl rfl rfl rfl rfl rfl rfl rfl rfl .head rfl rfl ?_
  refine WP.sx tysOk rfl ⟨⟨⟩, ⟨⟩⟩ ?_
  cases h
  refine WP.retR tysOk rfl rfl ⟨_, _, _, _, rfl, ⟨_, rfl, .inr ⟨rfl, _, rfl, rfl, (SegAt.blk' (z := 8) .head rfl).1⟩⟩, ⟨_, _, rfl, rfl, rfl⟩, rfl⟩ (fun w1 hw1 => ⟨rfl, Ret.below_ hw1 (.cons (.tail (.tail .head)) .nil)⟩)

set_option maxRecDepth 20000 in
set_option maxHeartbeats 8000000 in
theorem ref18_Chain_w {w : World} {v0 : Value} {d1 : Inst} {i1 : Int} {r : Spot × Bool} (h : ref18_Chain d1 i1 = some r) (p1 : InsZ (PH.of w) v0 d1) :
    Calls Tryz.prog 21 #[v0, iv i1] w fun e w' => e = .returned (.tuple #[.agg #[iv r.1.node, iv r.1.a, iv r.1.b, iv r.1.new.src, iv r.1.new.dst, iv r.1.new.low, iv r.1.new.cap, iv r.1.new.cost], .bool (r.2)]) ∧ Below w.heap.size w w' := by
  obtain ⟨A1, c1, A2, c2, rfl, hs1, hs2⟩ := p1
  unfold ref18_Chain at h
  refine enter_ Tryz.func21 rfl Tryz.ntmps21 rfl ?_
  refine WP.box rfl rfl rfl rfl rfl rfl ?_
  intro g1
  refine WP.al tysOk rfl rfl rfl rfl rfl rfl ?_
  intro g2
  refine WP.sx tysOk rfl ⟨⟨⟩, ⟨⟩⟩ ?_
  refine WP.mx_ tysOk rfl ⟨⟩ (SegAt.blk' (.tail .head) rfl) ?_
  refine WP.sx tysOk rfl ⟨⟨⟩, ⟨⟩⟩ ?_
  obtain ⟨r1, hg1, h⟩ := bind_some h
  refine WP.callS (ref18_two_S r1) rfl rfl rfl rfl rfl rfl rfl (by kernel_rfl) (fun w1 hw1 => (ref18_two_w hg1 (InsZ.mk_ ((hs1.le' ((Held.mem (List.Mem.tail _ (List.Mem.tail _ (List.Mem.head _)))) _ _ hw1)).of) ((hs2.le' ((Held.mem (List.Mem.tail _ (List.Mem.tail _ (List.Mem.head _)))) _ _ hw1)).of)) :)) ?_
  rintro _ _ ⟨A3, n1, c3, rfl, hf1, rfl⟩
  iterate 5 (refine WP.sx tysOk rfl ⟨⟨⟩, ⟨⟩⟩ ?_)
  refine WP.draw rfl (by kernel_rfl) (by kernel_rfl) ?_
  iterate 3 (refine WP.sx tysOk rfl ⟨rfl, ⟨⟩⟩ ?_)
  by_cases hh1 : r1.2 = true
  ·rw [if_pos hh1] at h
   refine WP.yes rfl rfl (by simp [hh1]) ?_
   refine WP.sx tysOk rfl ⟨rfl, ⟨⟩⟩ ?_
   refine WP.yes rfl rfl rfl ?_
   refine WP.lx tysOk rfl rfl (CellAt.blk (.tail (.tail .head)) rfl) ?_
   refine WP.yes rfl rfl rfl ?_
   refine WP.sx tysOk rfl ⟨rfl, ⟨⟩⟩ ?_
   refine WP.yes rfl rfl rfl ?_
   obtain ⟨hj1, h⟩ := ck_some h
   refine WP.ixO tysOk rfl rfl rfl rfl rfl rfl rfl rfl rfl rfl hf1 hj1 ?_
   intro b1 hA1
   refine WP.yes rfl rfl rfl ?_
   refine WP.lx tysOk rfl rfl (OwS.at0 .head hA1 hj1 rfl) ?_
   refine WP.yes rfl rfl rfl ?_
   obtain ⟨hj2, h⟩ := ck_some h
   refine WP.ixA tysOk rfl rfl rfl rfl rfl rfl rfl rfl rfl rfl hj2 (hs2.ex hj2) ?_
   intro b2 b2v hA2
   refine WP.yes rfl rfl rfl ?_
   refine WP.sx tysOk rfl ⟨rfl, ⟨⟩⟩ ?_
   refine WP.yes rfl rfl rfl ?_
   refine WP.lx tysOk rfl rfl (hs2.at hA2 (Held.mem (List.Mem.tail _ (List.Mem.tail _ (List.Mem.tail _ (List.Mem.head _))))) hj2 1 rfl) ?_
   iterate 3 (refine WP.yes rfl rfl rfl ?_; refine WP.sx tysOk rfl ⟨rfl, ⟨⟩⟩ ?_)
   refine WP.yes rfl rfl rfl ?_
   refine WP.lx tysOk rfl rfl (CellAt.blk (.tail (.tail .head)) rfl) ?_
   refine WP.yes rfl rfl rfl ?_
   refine WP.sx tysOk rfl ⟨rfl, ⟨⟩⟩ ?_
   refine WP.yes rfl rfl rfl ?_
   obtain ⟨hj3, h⟩ := ck_some h
   refine WP.ixO tysOk rfl rfl rfl rfl rfl rfl rfl rfl rfl rfl hf1 hj3 ?_
   intro b3 hA3
   refine WP.yes rfl rfl rfl ?_
   refine WP.lx tysOk rfl rfl (OwS.at0 .head hA3 hj3 rfl) ?_
   refine WP.yes rfl rfl rfl ?_
   obtain ⟨hj4, h⟩ := ck_some h
   refine WP.ixA tysOk rfl rfl rfl rfl rfl rfl rfl rfl rfl rfl hj4 (hs2.ex hj4) ?_
   intro b4 b4v hA4
   refine WP.yes rfl rfl rfl ?_
   refine WP.sx tysOk rfl ⟨rfl, ⟨⟩⟩ ?_
   refine WP.yes rfl rfl rfl ?_
   refine WP.lx tysOk rfl rfl (hs2.at hA4 (Held.mem (List.Mem.tail _ (List.Mem.tail _ (List.Mem.tail _ (List.Mem.head _))))) hj4 1 rfl) ?_
   iterate 2 (refine WP.yes rfl rfl rfl ?_; refine WP.sx tysOk rfl ⟨rfl, ⟨⟩⟩ ?_)
   refine WP.yes rfl rfl rfl ?_
   iterate 2 (refine WP.sx tysOk rfl ⟨rfl, ⟨⟩⟩ ?_)
   refine WP.qend rfl ?_
   refine WP.cond rfl rfl (fun hh2 => ?_) (fun hh2 => ?_)
   ·rw [if_pos hh2] at h
    refine WP.bld (cs := [iv 0, iv 0, iv 0, iv 0, iv 0, iv 0, iv 0, iv 0]) tysOk rfl ⟨⟩ rfl rfl rfl rfl rfl rfl rfl ?_
    refine WP.sto' tysOk [iv 0, iv 0, iv 0, iv 0, iv 0, iv 0, iv 0, iv 0] rfl rfl rfl rfl rfl rfl rfl rfl rfl (.tail .head) rfl rfl ?_
    refine WP.sx tysOk rfl ⟨⟨⟩, ⟨⟩⟩ ?_
    cases h
    refine WP.retR tysOk rfl rfl ⟨_, _, _, _, rfl, ⟨_, rfl, .inr ⟨rfl, _, rfl, rfl, (SegAt.blk' (z := 8) .head rfl).1⟩⟩, ⟨_, _, rfl, rfl, rfl⟩, rfl⟩ (fun w1 hw1 => ⟨rfl, Ret.below_ hw1 (.cons (.tail (.tail (.tail .head))) .nil)⟩)
   rw [if_neg (bneg hh2)] at h
   refine WP.sx tysOk rfl ⟨⟨⟩, ⟨⟩⟩ ?_
   refine WP.ixO tysOk rfl ⟨⟩ rfl rfl rfl rfl rfl rfl rfl rfl hf1 hj1 ?_
   intro b5 hA5
   refine WP.lx tysOk rfl ⟨⟩ (OwS.at0 .head hA5 hj1 rfl) ?_
   iterate 2 (refine WP.sx tysOk rfl ⟨⟨⟩, ⟨⟩⟩ ?_)
   refine WP.ixO tysOk rfl ⟨⟩ rfl rfl rfl rfl rfl rfl rfl rfl hf1 hj3 ?_
   intro b6 hA6
   refine WP.lx tysOk rfl ⟨⟩ (OwS.at0 .head hA6 hj3 rfl) ?_
   iterate 2 (refine WP.sx tysOk rfl ⟨⟨⟩, ⟨⟩⟩ ?_)
   refine WP.lx tysOk rfl ⟨⟩ (CellAt.blk (.tail (.tail .head)) rfl) ?_
   refine WP.sx tysOk rfl ⟨⟨⟩, ⟨⟩⟩ ?_
   refine WP.ixA tysOk rfl ⟨⟩ rfl rfl rfl rfl rfl rfl rfl rfl hj2 (hs2.ex hj2) ?_
   intro b7 b7v hA7
   refine WP.sx tysOk rfl ⟨⟨⟩, ⟨⟩⟩ ?_
   refine WP.lx tysOk rfl ⟨⟩ (hs2.at0 hA7 (Held.mem (List.Mem.tail _ (List.Mem.tail _ (List.Mem.tail _ (List.Mem.head _))))) hj2 rfl) ?_
   iterate 2 (refine WP.sx tysOk rfl ⟨⟨⟩, ⟨⟩⟩ ?_)
   refine WP.cond_d rfl rfl (fun hh3 => ?_) (fun hh3 => ?_)
   ·rw [if_pos hh3] at h
    refine WP.sx tysOk rfl ⟨⟨⟩, ⟨⟩⟩ ?_
    refine WP.ixO tysOk rfl ⟨⟩ rfl rfl rfl rfl rfl rfl rfl rfl hf1 hj3 ?_
    intro b8 hA8
    refine WP.lx tysOk rfl ⟨⟩ (OwS.at0 .head hA8 hj3 rfl) ?_
    iterate 2 (refine WP.sx tysOk rfl ⟨⟨⟩, ⟨⟩⟩ ?_)
    refine WP.ixO tysOk rfl ⟨⟩ rfl rfl rfl rfl rfl rfl rfl rfl hf1 hj1 ?_
    intro b9 hA9
    refine WP.lx tysOk rfl ⟨⟩ (OwS.at0 .head hA9 hj1 rfl) ?_
    iterate 2 (refine WP.sx tysOk rfl ⟨⟨⟩, ⟨⟩⟩ ?_)
    refine WP.lx tysOk rfl ⟨⟩ (CellAt.blk (.tail (.tail .head)) rfl) ?_
    refine WP.sx tysOk rfl ⟨⟨⟩, ⟨⟩⟩ ?_
    refine WP.ixA tysOk rfl ⟨⟩ rfl rfl rfl rfl rfl rfl rfl rfl hj4 (hs2.ex hj4) ?_
    intro b10 b10v hA10
    refine WP.mx_ tysOk rfl ⟨⟩ (hs2.seg hA10 (Held.mem (List.Mem.tail _ (List.Mem.tail _ (List.Mem.tail _ (List.Mem.head _))))) hj4) ?_
    refine WP.al tysOk rfl rfl rfl rfl rfl rfl ?_
    intro g3
    refine WP.sto' tysOk [iv ((gt d1.arcs (gt r1.1 1)).src), iv ((gt d1.arcs (gt r1.1 1)).dst), iv ((gt d1.arcs (gt r1.1 1)).low), iv ((gt d1.arcs (gt r1.1 1)).cap), iv ((gt d1.arcs (gt r1.1 1)).cost)] rfl rfl rfl rfl rfl rfl rfl rfl rfl .head rfl rfl ?_
    refine WP.sx tysOk rfl ⟨⟨⟩, ⟨⟩⟩ ?_
    refine WP.lx tysOk rfl ⟨⟩ (CellAt.blk (.tail (.tail (.tail .head))) rfl) ?_
    refine WP.sx tysOk rfl ⟨⟨⟩, ⟨⟩⟩ ?_
    refine WP.ixA tysOk rfl ⟨⟩ rfl rfl rfl rfl rfl rfl rfl rfl hj2 (hs2.ex hj2) ?_
    intro b11 b11v hA11
    refine WP.mx_ tysOk rfl ⟨⟩ (hs2.seg hA11 (Held.mem (List.Mem.tail _ (List.Mem.tail _ (List.Mem.tail _ (List.Mem.tail _ (List.Mem.head _)))))) hj2) ?_
    refine WP.al tysOk rfl rfl rfl rfl rfl rfl ?_
    intro g4
    refine WP.sto' tysOk [iv ((gt d1.arcs (gt r1.1 0)).src), iv ((gt d1.arcs (gt r1.1 0)).dst), iv ((gt d1.arcs (gt r1.1 0)).low), iv ((gt d1.arcs (gt r1.1 0)).cap), iv ((gt d1.arcs (gt r1.1 0)).cost)] rfl rfl rfl rfl rfl rfl rfl rfl rfl .head rfl rfl ?_
    refine WP.sx tysOk rfl ⟨⟨⟩, ⟨⟩⟩ ?_
    refine WP.lx tysOk rfl ⟨⟩ (CellAt.blk (.tail (.tail (.tail (.tail .head)))) rfl) ?_
    refine WP.sx tysOk rfl ⟨⟨⟩, ⟨⟩⟩ ?_
    obtain ⟨hj5, h⟩ := ck_some h
    refine WP.ixA tysOk rfl ⟨⟩ rfl rfl rfl rfl rfl rfl rfl rfl hj5 (hs1.ex hj5) ?_
    intro b12 b12v hA12
    refine WP.lx tysOk rfl ⟨⟩ (hs1.at0 hA12 (Held.mem (List.Mem.tail _ (List.Mem.tail _ (List.Mem.tail _ (List.Mem.tail _ (List.Mem.tail _ (List.Mem.head _))))))) hj5 rfl) ?_
    refine WP.sx tysOk rfl ⟨⟨⟩, ⟨⟩⟩ ?_
    obtain ⟨r2, hg2, h⟩ := bind_some h
    obtain ⟨r3, hg3, h⟩ := bind_some h
    refine WP.edges [(32, 30)] putInv_body rfl rfl (by kernel_rfl) (by kernel_rfl) ?_
    refine WP.heads [0, 1, 2, 3, 4, 5, 6, 7, 8, 9, 10, 11, 12, 13, 14, 15, 16, 17, 18, 19, 20, 21, 22, 23, 24, 25, 26, 27, 28, 29, 30, 31] [32, 33] [(19, [], fun _ => constSpec (iv r2)), (27, [], fun _ => constSpec (.tuple #[.agg #[iv r3.1.node, iv r3.1.a, iv r3.1.b, iv r3.1.new.src, iv r3.1.new.dst, iv r3.1.new.low, iv r3.1.new.cap, iv r3.1.new.cost], .bool (r3.2)])), (31, [], fun _ => blkSpec 56 [iv 0, iv 0, iv 0, iv 0, iv 0, iv 0, iv 0, iv 0])] rfl (by kernel_rfl) (by decide) rfl (by kernel_rfl) (by kernel_rfl) ?_
    iterate 4 (refine WP.sx tysOk rfl ⟨⟨⟨rfl, rfl⟩, rfl⟩, ⟨⟩⟩ ?_)
    refine WP.lx tysOk rfl ⟨⟨rfl, rfl⟩, rfl⟩ (CellAt.blk (.tail .head) rfl) ?_
    refine WP.sx tysOk rfl ⟨⟨⟨rfl, rfl⟩, rfl⟩, ⟨⟩⟩ ?_
    refine WP.lx tysOk rfl ⟨⟨rfl, rfl⟩, rfl⟩ (CellAt.blk .head rfl) ?_
    refine WP.sx tysOk rfl ⟨⟨⟨rfl, rfl⟩, rfl⟩, ⟨⟩⟩ ?_
    refine WP.lx tysOk rfl ⟨⟨rfl, rfl⟩, rfl⟩ (CellAt.blk (.tail .head) rfl) ?_
    refine WP.sx tysOk rfl ⟨⟨⟨rfl, rfl⟩, rfl⟩, ⟨⟩⟩ ?_
    refine WP.lx tysOk rfl ⟨⟨rfl, rfl⟩, rfl⟩ (CellAt.blk .head rfl) ?_
    iterate 2 (refine WP.sx tysOk rfl ⟨⟨⟨rfl, rfl⟩, rfl⟩, ⟨⟩⟩ ?_)
    refine WP.mx rfl ⟨⟨rfl, rfl⟩, rfl⟩ rfl rfl rfl rfl rfl rfl ?_
    refine WP.sx tysOk rfl ⟨⟨⟨rfl, rfl⟩, rfl⟩, ⟨⟩⟩ ?_
    refine WP.lx tysOk rfl ⟨⟨rfl, rfl⟩, rfl⟩ (CellAt.blk (.tail .head) rfl) ?_
    refine WP.sx tysOk rfl ⟨⟨⟨rfl, rfl⟩, rfl⟩, ⟨⟩⟩ ?_
    refine WP.lx tysOk rfl ⟨⟨rfl, rfl⟩, rfl⟩ (CellAt.blk .head rfl) ?_
    refine WP.sx tysOk rfl ⟨⟨⟨rfl, rfl⟩, rfl⟩, ⟨⟩⟩ ?_
    refine WP.callV rfl rfl rfl rfl rfl rfl rfl (by kernel_rfl) (fun w1 hw1 => (ref18_less_w hg2  :)) ⟨⟨rfl, rfl⟩, rfl⟩ ?_
    refine WP.mn rfl ⟨⟨rfl, rfl⟩, rfl⟩ rfl rfl rfl rfl rfl rfl ?_
    refine WP.sx tysOk rfl ⟨⟨⟨rfl, rfl⟩, rfl⟩, ⟨⟩⟩ ?_
    refine WP.lx tysOk rfl ⟨⟨rfl, rfl⟩, rfl⟩ (CellAt.blk (.tail .head) rfl) ?_
    refine WP.sx tysOk rfl ⟨⟨⟨rfl, rfl⟩, rfl⟩, ⟨⟩⟩ ?_
    refine WP.lx tysOk rfl ⟨⟨rfl, rfl⟩, rfl⟩ (CellAt.blk .head rfl) ?_
    refine WP.sx tysOk rfl ⟨⟨⟨rfl, rfl⟩, rfl⟩, ⟨⟩⟩ ?_
    refine WP.bld (cs := [iv ((gt d1.arcs (gt r1.1 1)).src), iv ((gt d1.arcs (gt r1.1 0)).dst), iv (if (w64 (((gt d1.arcs (gt r1.1 0)).low) - (gt d1.supply i1))) > ((gt d1.arcs (gt r1.1 1)).low) then w64 (((gt d1.arcs (gt r1.1 0)).low) - (gt d1.supply i1)) else (gt d1.arcs (gt r1.1 1)).low), iv (if r2 < ((gt d1.arcs (gt r1.1 1)).cap) then r2 else (gt d1.arcs (gt r1.1 1)).cap), iv (w64 (((gt d1.arcs (gt r1.1 1)).cost) + ((gt d1.arcs (gt r1.1 0)).cost)))]) tysOk rfl ⟨⟨rfl, rfl⟩, rfl⟩ rfl rfl rfl rfl rfl rfl rfl ?_
    refine WP.callV rfl rfl rfl rfl rfl rfl rfl (by kernel_rfl) (fun w1 hw1 => (ref18_spot_w hg3  :)) ⟨⟨rfl, rfl⟩, rfl⟩ ?_
    iterate 3 (refine WP.sx tysOk rfl ⟨⟨⟨rfl, rfl⟩, rfl⟩, ⟨⟩⟩ ?_)
    refine WP.lal tysOk rfl ⟨rfl, rfl⟩ rfl rfl rfl rfl rfl rfl rfl ?_
    intro g5
    refine WP.lend rfl ⟨rfl, rfl⟩ ?_
    refine WP.joinA (α := Unit) (fun x => True) (fun x => [(4, .pointer (some ⟨g2, 0, none⟩)), (13, .pointer (some ⟨g5, 0, none⟩)), (14, .bool (r3.2))]) (fun x => [.blk g5 56 [iv r3.1.node, iv r3.1.a, iv r3.1.b, iv r3.1.new.src, iv r3.1.new.dst, iv r3.1.new.low, iv r3.1.new.cap, iv r3.1.new.cost], .blk g4 34 [iv ((gt d1.arcs (gt r1.1 0)).src), iv ((gt d1.arcs (gt r1.1 0)).dst), iv ((gt d1.arcs (gt r1.1 0)).low), iv ((gt d1.arcs (gt r1.1 0)).cap), iv ((gt d1.arcs (gt r1.1 0)).cost)], .blk g3 34 [iv ((gt d1.arcs (gt r1.1 1)).src), iv ((gt d1.arcs (gt r1.1 1)).dst), iv ((gt d1.arcs (gt r1.1 1)).low), iv ((gt d1.arcs (gt r1.1 1)).cap), iv ((gt d1.arcs (gt r1.1 1)).cost)], Ow (fI .i64) 3 A3 n1 c3 r1.1, .blk g2 56 [iv 0, iv 0, iv 0, iv 0, iv 0, iv 0, iv 0, iv 0], .blk g1 25 [.slice A1 d1.supply.length c1, .slice A2 d1.arcs.length c2], .fz (PH.of w)]) rfl ?_ ?_
    ·refine WP.any1 32 rfl (by kernel_rfl) rfl ?_
     refine WP.sto' tysOk [iv r3.1.node, iv r3.1.a, iv r3.1.b, iv r3.1.new.src, iv r3.1.new.dst, iv r3.1.new.low, iv r3.1.new.cap, iv r3.1.new.cost] rfl rfl rfl rfl rfl rfl rfl rfl rfl .head rfl rfl ?_
     refine WP.anyP 33 tysOk putInv_body rfl rfl rfl (by kernel_rfl) (by kernel_rfl) rfl rfl rfl rfl rfl True.intro ?_
     refine WP.any0 rfl (by kernel_rfl) ?_
     refine WP.stop rfl () True.intro ?_ ?_
     ·repeat first | exact ⟨⟩ | refine ⟨rfl, ?_⟩
     exact (.cons .head (.cons .head (.cons .head (.cons .head (.cons .head (.cons .head (.cons .head .nil)))))))
    rintro _ _
    refine WP.mx_ tysOk rfl ⟨⟩ (SegAt.blk' .head rfl) ?_
    refine WP.sx tysOk rfl ⟨⟨⟩, ⟨⟩⟩ ?_
    refine WP.sto' tysOk [iv r3.1.node, iv r3.1.a, iv r3.1.b, iv r3.1.new.src, iv r3.1.new.dst, iv r3.1.new.low, iv r3.1.new.cap, iv r3.1.new.cost] rfl rfl rfl rfl rfl rfl rfl rfl rfl (.tail (.tail (.tail (.tail .head)))) rfl rfl ?_
    refine WP.sx tysOk rfl ⟨⟨⟩, ⟨⟩⟩ ?_
    cases h
    refine WP.retR tysOk rfl rfl ⟨_, _, _, _, rfl, ⟨_, rfl, .inr ⟨rfl, _, rfl, rfl, (SegAt.blk' (z := 8) .head rfl).1⟩⟩, ⟨_, _, rfl, rfl, rfl⟩, rfl⟩ (fun w1 hw1 => ⟨rfl, Ret.below_ hw1 (.cons (.tail (.tail (.tail (.tail (.tail (.tail .head)))))) .nil)⟩)
   rw [if_neg hh3] at h
   refine WP.sx tysOk rfl ⟨⟨⟩, ⟨⟩⟩ ?_
   refine WP.lx tysOk rfl ⟨⟩ (CellAt.blk (.tail (.tail .head)) rfl) ?_
   refine WP.sx tysOk rfl ⟨⟨⟩, ⟨⟩⟩ ?_
   refine WP.ixA tysOk rfl ⟨⟩ rfl rfl rfl rfl rfl rfl rfl rfl hj2 (hs2.ex hj2) ?_
   intro b13 b13v hA13
   refine WP.mx_ tysOk rfl ⟨⟩ (hs2.seg hA13 (Held.mem (List.Mem.tail _ (List.Mem.tail _ (List.Mem.tail _ (List.Mem.head _))))) hj2) ?_
   refine WP.al tysOk rfl rfl rfl rfl rfl rfl ?_
   intro g6
   refine WP.sto' tysOk [iv ((gt d1.arcs (gt r1.1 0)).src), iv ((gt d1.arcs (gt r1.1 0)).dst), iv ((gt d1.arcs (gt r1.1 0)).low), iv ((gt d1.arcs (gt r1.1 0)).cap), iv ((gt d1.arcs (gt r1.1 0)).cost)] rfl rfl rfl rfl rfl rfl rfl rfl rfl .head rfl rfl ?_
   refine WP.sx tysOk rfl ⟨⟨⟩, ⟨⟩⟩ ?_
   refine WP.lx tysOk rfl ⟨⟩ (CellAt.blk (.tail (.tail (.tail .head))) rfl) ?_
   refine WP.sx tysOk rfl ⟨⟨⟩, ⟨⟩⟩ ?_
   refine WP.ixA tysOk rfl ⟨⟩ rfl rfl rfl rfl rfl rfl rfl rfl hj4 (hs2.ex hj4) ?_
   intro b14 b14v hA14
   refine WP.mx_ tysOk rfl ⟨⟩ (hs2.seg hA14 (Held.mem (List.Mem.tail _ (List.Mem.tail _ (List.Mem.tail _ (List.Mem.tail _ (List.Mem.head _)))))) hj4) ?_
   refine WP.al tysOk rfl rfl rfl rfl rfl rfl ?_
   intro g7
   refine WP.sto' tysOk [iv ((gt d1.arcs (gt r1.1 1)).src), iv ((gt d1.arcs (gt r1.1 1)).dst), iv ((gt d1.arcs (gt r1.1 1)).low), iv ((gt d1.arcs (gt r1.1 1)).cap), iv ((gt d1.arcs (gt r1.1 1)).cost)] rfl rfl rfl rfl rfl rfl rfl rfl rfl .head rfl rfl ?_
   refine WP.sx tysOk rfl ⟨⟨⟩, ⟨⟩⟩ ?_
   refine WP.lx tysOk rfl ⟨⟩ (CellAt.blk (.tail (.tail (.tail (.tail .head)))) rfl) ?_
   refine WP.sx tysOk rfl ⟨⟨⟩, ⟨⟩⟩ ?_
   obtain ⟨hj6, h⟩ := ck_some h
   refine WP.ixA tysOk rfl ⟨⟩ rfl rfl rfl rfl rfl rfl rfl rfl hj6 (hs1.ex hj6) ?_
   intro b15 b15v hA15
   refine WP.lx tysOk rfl ⟨⟩ (hs1.at0 hA15 (Held.mem (List.Mem.tail _ (List.Mem.tail _ (List.Mem.tail _ (List.Mem.tail _ (List.Mem.tail _ (List.Mem.head _))))))) hj6 rfl) ?_
   refine WP.sx tysOk rfl ⟨⟨⟩, ⟨⟩⟩ ?_
   obtain ⟨r4, hg4, h⟩ := bind_some h
   obtain ⟨r5, hg5, h⟩ := bind_some h
   refine WP.edges [(32, 30)] putInv_body rfl rfl (by kernel_rfl) (by kernel_rfl) ?_
   refine WP.heads [0, 1, 2, 3, 4, 5, 6, 7, 8, 9, 10, 11, 12, 13, 14, 15, 16, 17, 18, 19, 20, 21, 22, 23, 24, 25, 26, 27, 28, 29, 30, 31] [32, 33] [(19, [], fun _ => constSpec (iv r4)), (27, [], fun _ => constSpec (.tuple #[.agg #[iv r5.1.node, iv r5.1.a, iv r5.1.b, iv r5.1.new.src, iv r5.1.new.dst, iv r5.1.new.low, iv r5.1.new.cap, iv r5.1.new.cost], .bool (r5.2)])), (31, [], fun _ => blkSpec 56 [iv 0, iv 0, iv 0, iv 0, iv 0, iv 0, iv 0, iv 0])] rfl (by kernel_rfl) (by decide) rfl (by kernel_rfl) (by kernel_rfl) ?_
   iterate 4 (refine WP.sx tysOk rfl ⟨⟨⟨rfl, rfl⟩, rfl⟩, ⟨⟩⟩ ?_)
   refine WP.lx tysOk rfl ⟨⟨rfl, rfl⟩, rfl⟩ (CellAt.blk (.tail .head) rfl) ?_
   refine WP.sx tysOk rfl ⟨⟨⟨rfl, rfl⟩, rfl⟩, ⟨⟩⟩ ?_
   refine WP.lx tysOk rfl ⟨⟨rfl, rfl⟩, rfl⟩ (CellAt.blk .head rfl) ?_
   refine WP.sx tysOk rfl ⟨⟨⟨rfl, rfl⟩, rfl⟩, ⟨⟩⟩ ?_
   refine WP.lx tysOk rfl ⟨⟨rfl, rfl⟩, rfl⟩ (CellAt.blk (.tail .head) rfl) ?_
   refine WP.sx tysOk rfl ⟨⟨⟨rfl, rfl⟩, rfl⟩, ⟨⟩⟩ ?_
   refine WP.lx tysOk rfl ⟨⟨rfl, rfl⟩, rfl⟩ (CellAt.blk .head rfl) ?_
   iterate 2 (refine WP.sx tysOk rfl ⟨⟨⟨rfl, rfl⟩, rfl⟩, ⟨⟩⟩ ?_)
   refine WP.mx rfl ⟨⟨rfl, rfl⟩, rfl⟩ rfl rfl rfl rfl rfl rfl ?_
   refine WP.sx tysOk rfl ⟨⟨⟨rfl, rfl⟩, rfl⟩, ⟨⟩⟩ ?_
   refine WP.lx tysOk rfl ⟨⟨rfl, rfl⟩, rfl⟩ (CellAt.blk (.tail .head) rfl) ?_
   refine WP.sx tysOk rfl ⟨⟨⟨rfl, rfl⟩, rfl⟩, ⟨⟩⟩ ?_
   refine WP.lx tysOk rfl ⟨⟨rfl, rfl⟩, rfl⟩ (CellAt.blk .head rfl) ?_
   refine WP.sx tysOk rfl ⟨⟨⟨rfl, rfl⟩, rfl⟩, ⟨⟩⟩ ?_
   refine WP.callV rfl rfl rfl rfl rfl rfl rfl (by kernel_rfl) (fun w1 hw1 => (ref18_less_w hg4  :)) ⟨⟨rfl, rfl⟩, rfl⟩ ?_
   refine WP.mn rfl ⟨⟨rfl, rfl⟩, rfl⟩ rfl rfl rfl rfl rfl rfl ?_
   refine WP.sx tysOk rfl ⟨⟨⟨rfl, rfl⟩, rfl⟩, ⟨⟩⟩ ?_
   refine WP.lx tysOk rfl ⟨⟨rfl, rfl⟩, rfl⟩ (CellAt.blk (.tail .head) rfl) ?_
   refine WP.sx tysOk rfl ⟨⟨⟨rfl, rfl⟩, rfl⟩, ⟨⟩⟩ ?_
   refine WP.lx tysOk rfl ⟨⟨rfl, rfl⟩, rfl⟩ (CellAt.blk .head rfl) ?_
   refine WP.sx tysOk rfl ⟨⟨⟨rfl, rfl⟩, rfl⟩, ⟨⟩⟩ ?_
   refine WP.bld (cs := [iv ((gt d1.arcs (gt r1.1 0)).src), iv ((gt d1.arcs (gt r1.1 1)).dst), iv (if (w64 (((gt d1.arcs (gt r1.1 1)).low) - (gt d1.supply i1))) > ((gt d1.arcs (gt r1.1 0)).low) then w64 (((gt d1.arcs (gt r1.1 1)).low) - (gt d1.supply i1)) else (gt d1.arcs (gt r1.1 0)).low), iv (if r4 < ((gt d1.arcs (gt r1.1 0)).cap) then r4 else (gt d1.arcs (gt r1.1 0)).cap), iv (w64 (((gt d1.arcs (gt r1.1 0)).cost) + ((gt d1.arcs (gt r1.1 1)).cost)))]) tysOk rfl ⟨⟨rfl, rfl⟩, rfl⟩ rfl rfl rfl rfl rfl rfl rfl ?_
   refine WP.callV rfl rfl rfl rfl rfl rfl rfl (by kernel_rfl) (fun w1 hw1 => (ref18_spot_w hg5  :)) ⟨⟨rfl, rfl⟩, rfl⟩ ?_
   iterate 3 (refine WP.sx tysOk rfl ⟨⟨⟨rfl, rfl⟩, rfl⟩, ⟨⟩⟩ ?_)
   refine WP.lal tysOk rfl ⟨rfl, rfl⟩ rfl rfl rfl rfl rfl rfl rfl ?_
   intro g8
   refine WP.lend rfl ⟨rfl, rfl⟩ ?_
   refine WP.joinA (α := Unit) (fun x => True) (fun x => [(4, .pointer (some ⟨g2, 0, none⟩)), (13, .pointer (some ⟨g8, 0, none⟩)), (14, .bool (r5.2))]) (fun x => [.blk g8 56 [iv r5.1.node, iv r5.1.a, iv r5.1.b, iv r5.1.new.src, iv r5.1.new.dst, iv r5.1.new.low, iv r5.1.new.cap, iv r5.1.new.cost], .blk g7 34 [iv ((gt d1.arcs (gt r1.1 1)).src), iv ((gt d1.arcs (gt r1.1 1)).dst), iv ((gt d1.arcs (gt r1.1 1)).low), iv ((gt d1.arcs (gt r1.1 1)).cap), iv ((gt d1.arcs (gt r1.1 1)).cost)], .blk g6 34 [iv ((gt d1.arcs (gt r1.1 0)).src), iv ((gt d1.arcs (gt r1.1 0)).dst), iv ((gt d1.arcs (gt r1.1 0)).low), iv ((gt d1.arcs (gt r1.1 0)).cap), iv ((gt d1.arcs (gt r1.1 0)).cost)], Ow (fI .i64) 3 A3 n1 c3 r1.1, .blk g2 56 [iv 0, iv 0, iv 0, iv 0, iv 0, iv 0, iv 0, iv 0], .blk g1 25 [.slice A1 d1.supply.length c1, .slice A2 d1.arcs.length c2], .fz (PH.of w)]) rfl ?_ ?_
   ·refine WP.any1 32 rfl (by kernel_rfl) rfl ?_
    refine WP.sto' tysOk [iv r5.1.node, iv r5.1.a, iv r5.1.b, iv r5.1.new.src, iv r5.1.new.dst, iv r5.1.new.low, iv r5.1.new.cap, iv r5.1.new.cost] rfl rfl rfl rfl rfl rfl rfl rfl rfl .head rfl rfl ?_
    refine WP.anyP 33 tysOk putInv_body rfl rfl rfl (by kernel_rfl) (by kernel_rfl) rfl rfl rfl rfl rfl True.intro ?_
    refine WP.any0 rfl (by kernel_rfl) ?_
    refine WP.stop rfl () True.intro ?_ ?_
    ·repeat first | exact ⟨⟩ | refine ⟨rfl, ?_⟩
    exact (.cons .head (.cons .head (.cons .head (.cons .head (.cons .head (.cons .head (.cons .head .nil)))))))
   rintro _ _
   refine WP.mx_ tysOk rfl ⟨⟩ (SegAt.blk' .head rfl) ?_
   refine WP.sx tysOk rfl ⟨⟨⟩, ⟨⟩⟩ ?_
   refine WP.sto' tysOk [iv r5.1.node, iv r5.1.a, iv r5.1.b, iv r5.1.new.src, iv r5.1.new.dst, iv r5.1.new.low, iv r5.1.new.cap, iv r5.1.new.cost] rfl rfl rfl rfl rfl rfl rfl rfl rfl (.tail (.tail (.tail (.tail .head)))) rfl rfl ?_
   refine WP.sx tysOk rfl ⟨⟨⟩, ⟨⟩⟩ ?_
   cases h
   refine WP.retR tysOk rfl rfl ⟨_, _, _, _, rfl, ⟨_, rfl, .inr ⟨rfl, _, rfl, rfl, (SegAt.blk' (z := 8) .head rfl).1⟩⟩, ⟨_, _, rfl, rfl, rfl⟩, rfl⟩ (fun w1 hw1 => ⟨rfl, Ret.below_ hw1 (.cons (.tail (.tail (.tail (.tail (.tail (.tail .head)))))) .nil)⟩)
  rw [if_neg hh1] at h
  refine WP.no rfl rfl (by simp [hh1]) rfl rfl ?_
  iterate 20 (refine WP.no rfl rfl rfl rfl rfl ?_)
  refine WP.sx tysOk rfl ⟨rfl, ⟨⟩⟩ ?_
  refine WP.qend rfl ?_
  refine WP.condT rfl rfl ?_
  refine WP.bld (cs := [iv 0, iv 0, iv 0, iv 0, iv 0, iv 0, iv 0, iv 0]) tysOk rfl ⟨⟩ rfl rfl rfl rfl rfl rfl rfl ?_
  refine WP.sto' tysOk [iv 0, iv 0, iv 0, iv 0, iv 0, iv 0, iv 0, iv 0] rfl rfl rfl rfl rfl rfl rfl rfl rfl (.tail .head) rfl rfl ?_
  refine WP.sx tysOk rfl ⟨⟨⟩, ⟨⟩⟩ ?_
  cases h
  refine WP.retR tysOk rfl rfl ⟨_, _, _, _, rfl, ⟨_, rfl, .inr ⟨rfl, _, rfl, rfl, (SegAt.blk' (z := 8) .head rfl).1⟩⟩, ⟨_, _, rfl, rfl, rfl⟩, rfl⟩ (fun w1 hw1 => ⟨rfl, Ret.below_ hw1 (.cons (.tail (.tail (.tail .head))) .nil)⟩)

abbrev ref03_Copy_S (r : Inst) : Value → Heap → Prop := fun v L => ∃ (A1 : Option Addr) (n1 c1 : Nat) (A2 : Option Addr) (n2 c2 : Nat), v = .agg #[.slice A1 n1 c1, .slice A2 n2 c2] ∧ OwF A1 n1 r.supply ∧ OwF A2 n2 r.arcs ∧ L = [Ow (fI .i64) 2 A1 n1 c1 r.supply, Ow fA 34 A2 n2 c2 r.arcs]
set_option maxRecDepth 20000 in
set_option maxHeartbeats 8000000 in
theorem ref03_Copy_w {w : World} {v0 : Value} {i1 : Inst} {r : Inst} (h : ref03_Copy i1 = some r) (p1 : InsZ (PH.of w) v0 i1) :
    Calls Tryz.prog 53 #[v0] w fun e w' => ∃ v L, e = .returned v ∧ ref03_Copy_S r v L ∧ Ret w w' L := by
  obtain ⟨A1, c1, A2, c2, rfl, hs1, hs2⟩ := p1
  unfold ref03_Copy at h
  refine enter_ Tryz.func53 rfl Tryz.ntmps53 rfl ?_
  refine WP.box rfl rfl rfl rfl rfl rfl ?_
  intro g1
  refine WP.al tysOk rfl rfl rfl rfl rfl rfl ?_
  intro g2
  refine WP.bld (cs := [.slice none 0 0, .slice none 0 0]) tysOk rfl ⟨⟩ rfl rfl rfl rfl rfl rfl rfl ?_
  refine WP.al tysOk rfl rfl rfl rfl rfl rfl ?_
  intro g3
  refine WP.sto' tysOk [.slice none 0 0, .slice none 0 0] rfl rfl rfl rfl rfl rfl rfl rfl rfl .head rfl rfl ?_
  refine WP.sx tysOk rfl ⟨⟨⟩, ⟨⟩⟩ ?_
  refine WP.lx tysOk rfl ⟨⟩ (CellAt.blk .head rfl) ?_
  refine WP.sx tysOk rfl ⟨⟨⟩, ⟨⟩⟩ ?_
  refine WP.lx tysOk rfl ⟨⟩ (CellAt.blk (.tail (.tail .head)) rfl) ?_
  refine WP.own_nil 2 (fI .i64).z ?_
  obtain ⟨hl1, h⟩ := ck_some h
  obtain ⟨xs1, hz1, h⟩ := lt_some h
  refine WP.appO (f := (fI .i64)) (xs := ([] : List Int)) (ys := i1.supply) tysOk rfl rfl rfl rfl rfl rfl rfl rfl rfl rfl rfl rfl .head OwF.nil_ rfl (hs1.app (Held.mem (List.Mem.tail _ (List.Mem.tail _ (List.Mem.tail _ (List.Mem.tail _ (List.Mem.head _))))))) hl1 hz1 ?_
  intro A3 c3 hf1
  refine WP.sx tysOk rfl ⟨⟨⟩, ⟨⟩⟩ ?_
  refine WP.sto' tysOk [.slice A3 xs1.length c3, .slice none 0 0] rfl rfl rfl rfl rfl rfl rfl rfl rfl (.tail .head) rfl rfl ?_
  refine WP.sx tysOk rfl ⟨⟨⟩, ⟨⟩⟩ ?_
  refine WP.lx tysOk rfl ⟨⟩ (CellAt.blk .head rfl) ?_
  refine WP.sx tysOk rfl ⟨⟨⟩, ⟨⟩⟩ ?_
  refine WP.lx tysOk rfl ⟨⟩ (CellAt.blk (.tail (.tail (.tail .head))) rfl) ?_
  refine WP.own_nil 34 fA.z ?_
  obtain ⟨hl2, h⟩ := ck_some h
  obtain ⟨xs2, hz2, h⟩ := lt_some h
  refine WP.appO (f := fA) (xs := ([] : List Arc)) (ys := i1.arcs) tysOk rfl rfl rfl rfl rfl rfl rfl rfl rfl rfl rfl rfl .head OwF.nil_ rfl (hs2.app (Held.mem (List.Mem.tail _ (List.Mem.tail _ (List.Mem.tail _ (List.Mem.tail _ (List.Mem.tail _ (List.Mem.head _)))))))) hl2 hz2 ?_
  intro A4 c4 hf2
  refine WP.sx tysOk rfl ⟨⟨⟩, ⟨⟩⟩ ?_
  refine WP.sto' tysOk [.slice A3 xs1.length c3, .slice A4 xs2.length c4] rfl rfl rfl rfl rfl rfl rfl rfl rfl (.tail .head) rfl rfl ?_
  refine WP.mx_ tysOk rfl ⟨⟩ (SegAt.blk' .head rfl) ?_
  refine WP.sto' tysOk [.slice A3 xs1.length c3, .slice A4 xs2.length c4] rfl rfl rfl rfl rfl rfl rfl rfl rfl (.tail (.tail (.tail .head))) rfl rfl ?_
  cases h
  refine WP.retR tysOk rfl rfl ⟨_, _, _, _, rfl, ⟨_, rfl, .inr ⟨rfl, _, rfl, rfl, (SegAt.blk' (z := 2) .head rfl).1⟩⟩, rfl, rfl⟩ (fun w1 hw1 => ⟨_, _, rfl, ⟨A3, xs1.length, c3, A4, xs2.length, c4, rfl, hf1, hf2, rfl⟩, Ret.of_KH hw1 (.cons (.tail (.tail (.tail .head))) (.cons (.tail (.tail .head)) (.cons (.tail (.tail (.tail .head))) .nil)))⟩)

set_option maxRecDepth 20000 in
set_option maxHeartbeats 8000000 in
theorem ref18_Ends_w {w : World} {a1 : Arc} {n1 : Int} {r : Int} (h : ref18_Ends a1 n1 = some r) :
    Calls Tryz.prog 54 #[.agg #[iv a1.src, iv a1.dst, iv a1.low, iv a1.cap, iv a1.cost], iv n1] w fun e w' => e = .returned (iv r) ∧ Below w.heap.size w w' := by
  unfold ref18_Ends at h
  refine enter_ Tryz.func54 rfl Tryz.ntmps54 rfl ?_
  refine WP.box rfl rfl rfl rfl rfl rfl ?_
  intro g1
  iterate 2 (refine WP.sx tysOk rfl ⟨⟨⟩, ⟨⟩⟩ ?_)
  refine WP.lx tysOk rfl ⟨⟩ (CellAt.blk .head rfl) ?_
  iterate 2 (refine WP.sx tysOk rfl ⟨⟨⟩, ⟨⟩⟩ ?_)
  refine WP.cond_d rfl rfl (fun hh1 => ?_) (fun hh1 => ?_)
  ·rw [if_pos hh1] at h
   refine WP.sx tysOk rfl ⟨⟨⟩, ⟨⟩⟩ ?_
   refine WP.lx tysOk rfl ⟨⟩ (CellAt.blk .head rfl) ?_
   refine WP.sx tysOk rfl ⟨⟨⟩, ⟨⟩⟩ ?_
   cases h
   refine WP.retR tysOk rfl rfl ⟨_, _, rfl, rfl, rfl⟩ (fun w1 hw1 => ⟨rfl, Ret.below_ hw1 (.cons (.tail .head) .nil)⟩)
  rw [if_neg hh1] at h
  refine WP.sx tysOk rfl ⟨⟨⟩, ⟨⟩⟩ ?_
  refine WP.lx tysOk rfl ⟨⟩ (CellAt.blk .head rfl) ?_
  refine WP.sx tysOk rfl ⟨⟨⟩, ⟨⟩⟩ ?_
  cases h
  refine WP.retR tysOk rfl rfl ⟨_, _, rfl, rfl, rfl⟩ (fun w1 hw1 => ⟨rfl, Ret.below_ hw1 (.cons (.tail .head) .nil)⟩)

set_option maxRecDepth 20000 in
set_option maxHeartbeats 8000000 in
theorem ref03_Off_w {w : World} {v0 : Value} {off1 : List Bool} {k1 : Int} {r : Bool} (h : ref03_Off off1 k1 = some r) (p1 : SlF fB (PH.of w) v0 off1) :
    Calls Tryz.prog 92 #[v0, iv k1] w fun e w' => e = .returned (.bool (r)) ∧ Below w.heap.size w w' := by
  obtain ⟨A1, c1, rfl, hs1⟩ := p1
  unfold ref03_Off at h
  refine enter_ Tryz.func92 rfl Tryz.ntmps92 rfl ?_
  iterate 6 (refine WP.sx tysOk rfl ⟨⟨⟩, ⟨⟩⟩ ?_)
  by_cases hh1 : k1 < (off1.length : Int)
  ·rw [if_pos hh1] at h
   refine WP.yes rfl rfl (decide_eq_true hh1) ?_
   iterate 2 (refine WP.sx tysOk rfl ⟨⟨⟩, ⟨⟩⟩ ?_; refine WP.yes rfl rfl rfl ?_)
   obtain ⟨hj1, h⟩ := ck_some h
   refine WP.ixA tysOk rfl ⟨⟩ rfl rfl rfl rfl rfl rfl rfl rfl hj1 (hs1.ex hj1) ?_
   intro b1 b1v hA1
   refine WP.yes rfl rfl rfl ?_
   refine WP.lx tysOk rfl ⟨⟩ (hs1.at0 hA1 (Held.mem (List.Mem.head _)) hj1 rfl) ?_
   iterate 2 (refine WP.sx tysOk rfl ⟨⟨⟩, ⟨⟩⟩ ?_)
   cases h
   refine WP.retR tysOk rfl rfl ⟨_, _, rfl, rfl, rfl⟩ (fun w1 hw1 => ⟨rfl, Ret.below_ hw1 (.cons .head .nil)⟩)
  rw [if_neg hh1] at h
  refine WP.no rfl rfl (decide_eq_false hh1) rfl rfl ?_
  iterate 3 (refine WP.no rfl rfl rfl rfl rfl ?_)
  iterate 2 (refine WP.sx tysOk rfl ⟨⟨⟩, ⟨⟩⟩ ?_)
  cases h
  refine WP.retR tysOk rfl rfl ⟨_, _, rfl, rfl, rfl⟩ (fun w1 hw1 => ⟨rfl, Ret.below_ hw1 (.cons .head .nil)⟩)

abbrev ref03_Kept_S (r : (List Int)) : Value → Heap → Prop := fun v L => ∃ (A1 : Option Addr) (n1 c1 : Nat), v = .slice A1 n1 c1 ∧ OwF A1 n1 r ∧ L = [Ow (fI .i64) 3 A1 n1 c1 r]
set_option maxRecDepth 20000 in
set_option maxHeartbeats 8000000 in
theorem ref03_Kept_w {w : World} {v0 : Value} {off1 : List Bool} {n1 : Int} {r : (List Int)} (h : ref03_Kept off1 n1 = some r) (p1 : SlF fB (PH.of w) v0 off1) :
    Calls Tryz.prog 79 #[v0, iv n1] w fun e w' => ∃ v L, e = .returned v ∧ ref03_Kept_S r v L ∧ Ret w w' L := by
  obtain ⟨A1, c1, rfl, hs1⟩ := p1
  unfold ref03_Kept at h
  refine enter_ Tryz.func79 rfl Tryz.ntmps79 rfl ?_
  iterate 3 (refine WP.sx tysOk rfl ⟨⟨⟩, ⟨⟩⟩ ?_)
  refine WP.own_nil 3 (fI .i64).z ?_
  refine WP.loop (α := Nat × Int × (List Int) × (Option Addr) × Nat × Nat) (fun x => lp (ref03_Kept_b1 off1 n1) x.1 (x.2.1, x.2.2.1) = some r ∧ OwF x.2.2.2.1 x.2.2.2.2.1 x.2.2.1) (fun x => [(0, .slice A1 off1.length c1), (1, iv n1), (5, .slice x.2.2.2.1 x.2.2.2.2.1 x.2.2.2.2.2), (6, iv x.2.1)]) (fun x => [Ow (fI .i64) 3 x.2.2.2.1 x.2.2.2.2.1 x.2.2.2.2.2 x.2.2.1, .fz (PH.of w)]) (fun x => x.1) rfl (big, 0, ([] : List Int), none, 0, 0) ⟨h, OwF.nil_⟩ ?_ ?_ ?_
  ·repeat first | exact ⟨⟩ | refine ⟨rfl, ?_⟩
  ·exact (.cons .head (.cons .head .nil))
  rintro ⟨n2, k3, xs6, A7, m2, c7⟩ ⟨h, hf10⟩
  dsimp only at h hf10 ⊢
  rcases n2 with _ | n2
  · exact (lp_no h).elim
  replace h := lp_succ h
  unfold ref03_Kept_b1 at h
  try dsimp only at h
  iterate 4 (refine WP.sx tysOk rfl ⟨⟨⟩, ⟨⟩⟩ ?_)
  by_cases hh13 : k3 < n1
  ·rw [if_pos hh13] at h
   refine WP.yes rfl rfl (decide_eq_true hh13) ?_
   refine WP.sx tysOk rfl ⟨⟨⟩, ⟨⟩⟩ ?_
   refine WP.yes rfl rfl rfl ?_
   iterate 2 (refine WP.sx tysOk rfl ⟨⟨⟩, ⟨⟩⟩ ?_)
   refine WP.cond_d rfl rfl (fun hh14 => ?_) (fun hh14 => ?_)
   ·rw [if_pos hh14] at h
    iterate 2 (refine WP.sx tysOk rfl ⟨⟨⟩, ⟨⟩⟩ ?_)
    obtain ⟨r5, hg5, h⟩ := bind_some h
    refine WP.callV rfl rfl rfl rfl rfl rfl rfl (by kernel_rfl) (fun w1 hw1 => (ref03_Off_w hg5 (hs1.le' ((Held.mem (List.Mem.tail _ (List.Mem.head _))) _ _ hw1)).of :)) ⟨⟩ ?_
    refine WP.sx tysOk rfl ⟨⟨⟩, ⟨⟩⟩ ?_
    refine WP.cond_n rfl rfl (fun hh15 => ?_) (fun hh15 => ?_)
    ·rw [if_neg (bneg hh15)] at h
     iterate 2 (refine WP.sx tysOk rfl ⟨⟨⟩, ⟨⟩⟩ ?_)
     refine WP.bsO (f := (fI .i64)) [k3] tysOk rfl rfl rfl rfl rfl rfl rfl rfl rfl rfl rfl rfl rfl rfl ?_
     intro g5 hf11
     obtain ⟨hl5, h⟩ := ck_some h
     obtain ⟨xs7, hz5, h⟩ := lt_some h
     refine WP.appO (f := (fI .i64)) (xs := xs6) (ys := [k3]) tysOk rfl rfl rfl rfl rfl rfl rfl rfl rfl rfl rfl rfl (.tail .head) hf10 hf11.len (OwS.app .head hf11) hl5 hz5 ?_
     intro A8 c8 hf12
     iterate 4 (refine WP.sx tysOk rfl ⟨⟨⟩, ⟨⟩⟩ ?_)
     refine WP.stop rfl (n2, w64 (k3 + 1), xs7, A8, xs7.length, c8) ⟨⟨h, hf12⟩, Nat.lt_succ_self _⟩ ?_ ?_
     ·repeat first | exact ⟨⟩ | refine ⟨rfl, ?_⟩
     exact (.cons .head (.cons (.tail .head) .nil))
    rw [if_pos hh15] at h
    iterate 3 (refine WP.sx tysOk rfl ⟨⟨⟩, ⟨⟩⟩ ?_)
    refine WP.stop rfl (n2, w64 (k3 + 1), xs6, A7, m2, c7) ⟨⟨h, hf10⟩, Nat.lt_succ_self _⟩ ?_ ?_
    ·repeat first | exact ⟨⟩ | refine ⟨rfl, ?_⟩
    exact (.cons .head (.cons .head .nil))
   rw [if_neg hh14] at h
   iterate 2 (refine WP.sx tysOk rfl ⟨⟨⟩, ⟨⟩⟩ ?_)
   cases h
   refine WP.retR tysOk rfl rfl ⟨_, _, rfl, rfl, rfl⟩ (fun w1 hw1 => ⟨_, _, rfl, ⟨A7, m2, c7, rfl, hf10, rfl⟩, Ret.of_KH hw1 (.cons .head (.cons .head .nil))⟩)
  rw [if_neg hh13] at h
  refine WP.no rfl rfl (decide_eq_false hh13) rfl rfl ?_
  refine WP.no rfl rfl rfl rfl rfl ?_
  refine WP.sx tysOk rfl ⟨⟨⟩, ⟨⟩⟩ ?_
  refine WP.condF rfl rfl ?_
  iterate 2 (refine WP.sx tysOk rfl ⟨⟨⟩, ⟨⟩⟩ ?_)
  cases h
  refine WP.retR tysOk rfl rfl ⟨_, _, rfl, rfl, rfl⟩ (fun w1 hw1 => ⟨_, _, rfl, ⟨A7, m2, c7, rfl, hf10, rfl⟩, Ret.of_KH hw1 (.cons .head (.cons .head .nil))⟩)

set_option maxRecDepth 20000 in
set_option maxHeartbeats 8000000 in
theorem ref03_Place_w {w : World} {v0 : Value} {l1 : List Int} {n1 : Int} {r : Int} (h : ref03_Place l1 n1 = some r) (p1 : SlF (fI .i64) (PH.of w) v0 l1) :
    Calls Tryz.prog 80 #[v0, iv n1] w fun e w' => e = .returned (iv r) ∧ Below w.heap.size w w' := by
  obtain ⟨A1, c1, rfl, hs1⟩ := p1
  unfold ref03_Place at h
  refine enter_ Tryz.func80 rfl Tryz.ntmps80 rfl ?_
  iterate 2 (refine WP.sx tysOk rfl ⟨⟨⟩, ⟨⟩⟩ ?_)
  refine WP.loop (α := Nat × Int) (fun x => lp (ref03_Place_b1 l1 n1) x.1 x.2 = some r) (fun x => [(0, .slice A1 l1.length c1), (1, iv n1), (5, iv x.2)]) (fun x => [.fz (PH.of w)]) (fun x => x.1) rfl (big, 0) h ?_ ?_ ?_
  ·repeat first | exact ⟨⟩ | refine ⟨rfl, ?_⟩
  ·exact (.cons .head .nil)
  rintro ⟨n2, k2⟩ h
  dsimp only at h ⊢
  rcases n2 with _ | n2
  · exact (lp_no h).elim
  replace h := lp_succ h
  unfold ref03_Place_b1 at h
  try dsimp only at h
  iterate 4 (refine WP.sx tysOk rfl ⟨⟨⟩, ⟨⟩⟩ ?_)
  refine WP.cond_d rfl rfl (fun hh5 => ?_) (fun hh5 => ?_)
  ·rw [if_pos hh5] at h
   iterate 2 (refine WP.sx tysOk rfl ⟨⟨⟩, ⟨⟩⟩ ?_)
   obtain ⟨hj3, h⟩ := ck_some h
   refine WP.ixA tysOk rfl ⟨⟩ rfl rfl rfl rfl rfl rfl rfl rfl hj3 (hs1.ex hj3) ?_
   intro b3 b3v hA3
   refine WP.lx tysOk rfl ⟨⟩ (hs1.at0 hA3 (Held.mem (List.Mem.head _)) hj3 rfl) ?_
   iterate 2 (refine WP.sx tysOk rfl ⟨⟨⟩, ⟨⟩⟩ ?_)
   refine WP.cond_d rfl rfl (fun hh6 => ?_) (fun hh6 => ?_)
   ·rw [if_pos hh6] at h
    iterate 2 (refine WP.sx tysOk rfl ⟨⟨⟩, ⟨⟩⟩ ?_)
    cases h
    refine WP.retR tysOk rfl rfl ⟨_, _, rfl, rfl, rfl⟩ (fun w1 hw1 => ⟨rfl, Ret.below_ hw1 (.cons .head .nil)⟩)
   rw [if_neg hh6] at h
   iterate 3 (refine WP.sx tysOk rfl ⟨⟨⟩, ⟨⟩⟩ ?_)
   refine WP.stop rfl (n2, w64 (k2 + 1)) ⟨h, Nat.lt_succ_self _⟩ ?_ ?_
   ·repeat first | exact ⟨⟩ | refine ⟨rfl, ?_⟩
   exact (.cons .head .nil)
  rw [if_neg hh5] at h
  refine WP.sx tysOk rfl ⟨⟨⟩, ⟨⟩⟩ ?_
  cases h
  refine WP.retR tysOk rfl rfl ⟨_, _, rfl, rfl, rfl⟩ (fun w1 hw1 => ⟨rfl, Ret.below_ hw1 (.cons .head .nil)⟩)

abbrev ref03_Without_S (r : Inst) : Value → Heap → Prop := fun v L => ∃ (A1 : Option Addr) (n1 c1 : Nat) (A2 : Option Addr) (n2 c2 : Nat), v = .agg #[.slice A1 n1 c1, .slice A2 n2 c2] ∧ OwF A1 n1 r.supply ∧ OwF A2 n2 r.arcs ∧ L = [Ow (fI .i64) 2 A1 n1 c1 r.supply, Ow fA 34 A2 n2 c2 r.arcs]
set_option maxRecDepth 20000 in
set_option maxHeartbeats 8000000 in
theorem ref03_Without_w {w : World} {v0 : Value} {v1 : Value} {v2 : Value} {d1 : Inst} {i1 : List Bool} {x1 : List Bool} {r : Inst} (h : ref03_Without d1 i1 x1 = some r) (p1 : InsZ (PH.of w) v0 d1) (p2 : SlF fB (PH.of w) v1 i1) (p3 : SlF fB (PH.of w) v2 x1) :
    Calls Tryz.prog 56 #[v0, v1, v2] w fun e w' => ∃ v L, e = .returned v ∧ ref03_Without_S r v L ∧ Ret w w' L := by
  obtain ⟨A1, c1, A2, c2, rfl, hs1, hs2⟩ := p1
  obtain ⟨A3, c3, rfl, hs3⟩ := p2
  obtain ⟨A4, c4, rfl, hs4⟩ := p3
  unfold ref03_Without at h
  refine enter_ Tryz.func56 rfl Tryz.ntmps56 rfl ?_
  refine WP.box rfl rfl rfl rfl rfl rfl ?_
  intro g1
  refine WP.al tysOk rfl rfl rfl rfl rfl rfl ?_
  intro g2
  refine WP.bld (cs := [.slice none 0 0, .slice none 0 0]) tysOk rfl ⟨⟩ rfl rfl rfl rfl rfl rfl rfl ?_
  refine WP.al tysOk rfl rfl rfl rfl rfl rfl ?_
  intro g3
  refine WP.sto' tysOk [.slice none 0 0, .slice none 0 0] rfl rfl rfl rfl rfl rfl rfl rfl rfl .head rfl rfl ?_
  iterate 2 (refine WP.sx tysOk rfl ⟨⟨⟩, ⟨⟩⟩ ?_)
  refine WP.lx tysOk rfl ⟨⟩ (CellAt.blk (.tail (.tail .head)) rfl) ?_
  refine WP.sx tysOk rfl ⟨⟨⟩, ⟨⟩⟩ ?_
  obtain ⟨r1, hg1, h⟩ := bind_some h
  refine WP.callS (ref03_Kept_S r1) rfl rfl rfl rfl rfl rfl rfl (by kernel_rfl) (fun w1 hw1 => (ref03_Kept_w hg1 (hs3.le' ((Held.mem (List.Mem.tail _ (List.Mem.tail _ (List.Mem.tail _ (List.Mem.head _))))) _ _ hw1)).of :)) ?_
  rintro _ _ ⟨A5, n1, c5, rfl, hf1, rfl⟩
  iterate 2 (refine WP.sx tysOk rfl ⟨⟨⟩, ⟨⟩⟩ ?_)
  refine WP.own_nil 2 (fI .i64).z ?_
  refine WP.loop (α := Nat × Int × (List Int) × (Option Addr) × Nat × Nat) (fun x => lp (ref03_Without_b1 d1 x1 r1) x.1 (x.2.1, x.2.2.1) = some r ∧ OwF x.2.2.2.1 x.2.2.2.2.1 x.2.2.1) (fun x => [(2, .slice A4 x1.length c4), (3, .pointer (some ⟨g1, 0, none⟩)), (6, .pointer (some ⟨g2, 0, none⟩)), (7, .pointer (some ⟨g3, 0, none⟩)), (8, .slice A5 n1 c5), (9, iv x.2.1)]) (fun x => [Ow (fI .i64) 2 x.2.2.2.1 x.2.2.2.2.1 x.2.2.2.2.2 x.2.2.1, Ow (fI .i64) 3 A5 n1 c5 r1, .blk g3 25 [.slice x.2.2.2.1 x.2.2.2.2.1 x.2.2.2.2.2, .slice none 0 0], .blk g2 25 [.slice none 0 0, .slice none 0 0], .blk g1 25 [.slice A1 d1.supply.length c1, .slice A2 d1.arcs.length c2], .fz (PH.of w)]) (fun x => x.1) rfl (big, 0, ([] : List Int), none, 0, 0) ⟨h, OwF.nil_⟩ ?_ ?_ ?_
  ·repeat first | exact ⟨⟩ | refine ⟨rfl, ?_⟩
  ·exact (.cons .head (.cons .head (.cons .head (.cons .head (.cons .head (.cons .head .nil))))))
  rintro ⟨n8, s12, xs23, A31, m8, c31⟩ ⟨h, hf42⟩
  dsimp only at h hf42 ⊢
  rcases n8 with _ | n8
  · exact (lp_no h).elim
  replace h := lp_succ h
  unfold ref03_Without_b1 at h
  try dsimp only at h
  iterate 2 (refine WP.sx tysOk rfl ⟨⟨⟩, ⟨⟩⟩ ?_)
  refine WP.lenO (xs := r1) tysOk rfl ⟨⟩ rfl rfl rfl rfl rfl rfl hf1 ?_
  refine WP.sx tysOk rfl ⟨⟨⟩, ⟨⟩⟩ ?_
  refine WP.cond_d rfl rfl (fun hh40 => ?_) (fun hh40 => ?_)
  ·rw [if_pos hh40] at h
   obtain ⟨hj31, h⟩ := ck_some h
   obtain ⟨hj32, h⟩ := ck_some h
   refine WP.drawL 11 [(10, [], litSpec 2 1)] rfl (by kernel_rfl) (by kernel_rfl) (by kernel_rfl) ?_
   refine WP.sx tysOk rfl ⟨⟨⟨rfl, rfl⟩, rfl⟩, ⟨⟩⟩ ?_
   refine WP.lx tysOk rfl ⟨⟨rfl, rfl⟩, rfl⟩ (CellAt.blk (.tail (.tail .head)) rfl) ?_
   refine WP.sx tysOk rfl ⟨⟨⟨rfl, rfl⟩, rfl⟩, ⟨⟩⟩ ?_
   refine WP.lx tysOk rfl ⟨⟨rfl, rfl⟩, rfl⟩ (CellAt.blk (.tail (.tail (.tail (.tail .head)))) rfl) ?_
   iterate 2 (refine WP.sx tysOk rfl ⟨⟨⟨rfl, rfl⟩, rfl⟩, ⟨⟩⟩ ?_)
   refine WP.ixO tysOk rfl ⟨⟨rfl, rfl⟩, rfl⟩ rfl rfl rfl rfl rfl rfl rfl rfl hf1 hj31 ?_
   intro b31 hA31
   refine WP.lx tysOk rfl ⟨⟨rfl, rfl⟩, rfl⟩ (OwS.at0 (.tail .head) hA31 hj31 rfl) ?_
   refine WP.ixA tysOk rfl ⟨⟨rfl, rfl⟩, rfl⟩ rfl rfl rfl rfl rfl rfl rfl rfl hj32 (hs1.ex hj32) ?_
   intro b32 b32v hA32
   refine WP.lx tysOk rfl ⟨⟨rfl, rfl⟩, rfl⟩ (hs1.at0 hA32 (Held.mem (List.Mem.tail _ (List.Mem.tail _ (List.Mem.tail _ (List.Mem.tail _ (List.Mem.tail _ (List.Mem.head _))))))) hj32 rfl) ?_
   refine WP.lbs tysOk rfl ⟨rfl, rfl⟩ rfl rfl rfl rfl rfl rfl rfl rfl rfl rfl rfl rfl ?_
   intro g31
   refine WP.lend rfl ⟨rfl, rfl⟩ ?_
   refine WP.repiece (p' := .blk g31 2 (cl (fI .i64) [(gt d1.supply (gt r1 s12))])) .head rfl ?_
   refine WP.shut0 (n := 1) (z := (fI .i64).z) .head (by decide) rfl ?_
   have hf43 : OwF (some ⟨g31, 0, none⟩) 1 [(gt d1.supply (gt r1 s12))] := ⟨rfl, fun _ => ⟨g31, rfl⟩⟩
   obtain ⟨hl16, h⟩ := ck_some h
   obtain ⟨xs24, hz16, h⟩ := lt_some h
   refine WP.appO (f := (fI .i64)) (xs := xs23) (ys := [(gt d1.supply (gt r1 s12))]) tysOk rfl rfl rfl rfl rfl rfl rfl rfl rfl rfl rfl rfl (.tail .head) hf42 hf43.len (OwS.app .head hf43) hl16 hz16 ?_
   intro A32 c32 hf44
   refine WP.sx tysOk rfl ⟨⟨⟩, ⟨⟩⟩ ?_
   refine WP.sto' tysOk [.slice A32 xs24.length c32, .slice none 0 0] rfl rfl rfl rfl rfl rfl rfl rfl rfl (.tail (.tail (.tail .head))) rfl rfl ?_
   iterate 3 (refine WP.sx tysOk rfl ⟨⟨⟩, ⟨⟩⟩ ?_)
   refine WP.stop rfl (n8, w64 (s12 + 1), xs24, A32, xs24.length, c32) ⟨⟨h, hf44⟩, Nat.lt_succ_self _⟩ ?_ ?_
   ·repeat first | exact ⟨⟩ | refine ⟨rfl, ?_⟩
   exact (.cons (.tail .head) (.cons (.tail (.tail .head)) (.cons .head (.cons (.tail .head) (.cons (.tail .head) (.cons (.tail .head) .nil))))))
  rw [if_neg hh40] at h
  iterate 2 (refine WP.sx tysOk rfl ⟨⟨⟩, ⟨⟩⟩ ?_)
  refine WP.lx tysOk rfl ⟨⟩ (CellAt.blk (.tail (.tail (.tail (.tail .head)))) rfl) ?_
  refine WP.sx tysOk rfl ⟨⟨⟩, ⟨⟩⟩ ?_
  obtain ⟨r29, hg29, h⟩ := bind_some h
  refine WP.callS (ref03_Kept_S r29) rfl rfl rfl rfl rfl rfl rfl (by kernel_rfl) (fun w1 hw1 => (ref03_Kept_w hg29 (hs4.le' ((Held.mem (List.Mem.tail _ (List.Mem.tail _ (List.Mem.tail _ (List.Mem.tail _ (List.Mem.tail _ (List.Mem.head _))))))) _ _ hw1)).of :)) ?_
  rintro _ _ ⟨A33, n9, c33, rfl, hf45, rfl⟩
  iterate 2 (refine WP.sx tysOk rfl ⟨⟨⟩, ⟨⟩⟩ ?_)
  refine WP.own_nil 34 fA.z ?_
  refine WP.loop (α := Nat × Int × (List Arc) × (Option Addr) × Nat × Nat) (fun x => lp (ref03_Without_b2 d1 r1 xs23 r29) x.1 (x.2.1, x.2.2.1) = some r ∧ OwF x.2.2.2.1 x.2.2.2.2.1 x.2.2.1) (fun x => [(3, .pointer (some ⟨g1, 0, none⟩)), (6, .pointer (some ⟨g2, 0, none⟩)), (7, .pointer (some ⟨g3, 0, none⟩)), (8, .slice A5 n1 c5), (10, .slice A33 n9 c33), (11, iv x.2.1)]) (fun x => [Ow fA 34 x.2.2.2.1 x.2.2.2.2.1 x.2.2.2.2.2 x.2.2.1, Ow (fI .i64) 3 A33 n9 c33 r29, Ow (fI .i64) 2 A31 m8 c31 xs23, Ow (fI .i64) 3 A5 n1 c5 r1, .blk g3 25 [.slice A31 m8 c31, .slice x.2.2.2.1 x.2.2.2.2.1 x.2.2.2.2.2], .blk g2 25 [.slice none 0 0, .slice none 0 0], .blk g1 25 [.slice A1 d1.supply.length c1, .slice A2 d1.arcs.length c2], .fz (PH.of w)]) (fun x => x.1) rfl (big, 0, ([] : List Arc), none, 0, 0) ⟨h, OwF.nil_⟩ ?_ ?_ ?_
  ·repeat first | exact ⟨⟩ | refine ⟨rfl, ?_⟩
  ·exact (.cons .head (.cons .head (.cons .head (.cons .head (.cons .head (.cons .head (.cons .head (.cons .head .nil))))))))
  rintro ⟨n10, s15, xs29, A38, m10, c38⟩ ⟨h, hf53⟩
  dsimp only at h hf53 ⊢
  rcases n10 with _ | n10
  · exact (lp_no h).elim
  replace h := lp_succ h
  unfold ref03_Without_b2 at h
  try dsimp only at h
  iterate 2 (refine WP.sx tysOk rfl ⟨⟨⟩, ⟨⟩⟩ ?_)
  refine WP.lenO (xs := r29) tysOk rfl ⟨⟩ rfl rfl rfl rfl rfl rfl hf45 ?_
  refine WP.sx tysOk rfl ⟨⟨⟩, ⟨⟩⟩ ?_
  refine WP.cond_d rfl rfl (fun hh50 => ?_) (fun hh50 => ?_)
  ·rw [if_pos hh50] at h
   obtain ⟨hj39, h⟩ := ck_some h
   obtain ⟨hj40, h⟩ := ck_some h
   refine WP.drawL 9 [(8, [], fun _ => blkSpec 34 [iv 0, iv 0, iv 0, iv 0, iv 0])] rfl (by kernel_rfl) (by kernel_rfl) (by kernel_rfl) ?_
   refine WP.sx tysOk rfl ⟨⟨⟨rfl, rfl⟩, rfl⟩, ⟨⟩⟩ ?_
   refine WP.lx tysOk rfl ⟨⟨rfl, rfl⟩, rfl⟩ (CellAt.blk (.tail (.tail (.tail (.tail (.tail (.tail .head)))))) rfl) ?_
   iterate 2 (refine WP.sx tysOk rfl ⟨⟨⟨rfl, rfl⟩, rfl⟩, ⟨⟩⟩ ?_)
   refine WP.ixO tysOk rfl ⟨⟨rfl, rfl⟩, rfl⟩ rfl rfl rfl rfl rfl rfl rfl rfl hf45 hj39 ?_
   intro b39 hA39
   refine WP.lx tysOk rfl ⟨⟨rfl, rfl⟩, rfl⟩ (OwS.at0 (.tail .head) hA39 hj39 rfl) ?_
   refine WP.ixA tysOk rfl ⟨⟨rfl, rfl⟩, rfl⟩ rfl rfl rfl rfl rfl rfl rfl rfl hj40 (hs2.ex hj40) ?_
   intro b40 b40v hA40
   refine WP.mx_ tysOk rfl ⟨⟨rfl, rfl⟩, rfl⟩ (hs2.seg hA40 (Held.mem (List.Mem.tail _ (List.Mem.tail _ (List.Mem.tail _ (List.Mem.tail _ (List.Mem.tail _ (List.Mem.tail _ (List.Mem.tail _ (List.Mem.head _))))))))) hj40) ?_
   refine WP.lal tysOk rfl ⟨rfl, rfl⟩ rfl rfl rfl rfl rfl rfl rfl ?_
   intro g38
   refine WP.lend rfl ⟨rfl, rfl⟩ ?_
   refine WP.sto' tysOk [iv ((gt d1.arcs (gt r29 s15)).src), iv ((gt d1.arcs (gt r29 s15)).dst), iv ((gt d1.arcs (gt r29 s15)).low), iv ((gt d1.arcs (gt r29 s15)).cap), iv ((gt d1.arcs (gt r29 s15)).cost)] rfl rfl rfl rfl rfl rfl rfl rfl rfl .head rfl rfl ?_
   iterate 2 (refine WP.sx tysOk rfl ⟨⟨⟩, ⟨⟩⟩ ?_)
   refine WP.lx tysOk rfl ⟨⟩ (CellAt.blk .head rfl) ?_
   obtain ⟨r36, hg36, h⟩ := bind_some h
   refine WP.callV rfl rfl rfl rfl rfl rfl rfl (by kernel_rfl) (fun w1 hw1 => (ref03_Place_w hg36 (hw1.ow (.tail (.tail (.tail (.tail .head)))) hf1) :)) ⟨⟩ ?_
   refine WP.sx tysOk rfl ⟨⟨⟩, ⟨⟩⟩ ?_
   refine WP.sto' tysOk [iv r36, iv ((gt d1.arcs (gt r29 s15)).dst), iv ((gt d1.arcs (gt r29 s15)).low), iv ((gt d1.arcs (gt r29 s15)).cap), iv ((gt d1.arcs (gt r29 s15)).cost)] rfl rfl rfl rfl rfl rfl rfl rfl rfl .head rfl rfl ?_
   iterate 2 (refine WP.sx tysOk rfl ⟨⟨⟩, ⟨⟩⟩ ?_)
   refine WP.lx tysOk rfl ⟨⟩ (CellAt.blk .head rfl) ?_
   obtain ⟨r37, hg37, h⟩ := bind_some h
   refine WP.callV rfl rfl rfl rfl rfl rfl rfl (by kernel_rfl) (fun w1 hw1 => (ref03_Place_w hg37 (hw1.ow (.tail (.tail (.tail (.tail .head)))) hf1) :)) ⟨⟩ ?_
   refine WP.sx tysOk rfl ⟨⟨⟩, ⟨⟩⟩ ?_
   refine WP.sto' tysOk [iv r36, iv r37, iv ((gt d1.arcs (gt r29 s15)).low), iv ((gt d1.arcs (gt r29 s15)).cap), iv ((gt d1.arcs (gt r29 s15)).cost)] rfl rfl rfl rfl rfl rfl rfl rfl rfl .head rfl rfl ?_
   refine WP.sx tysOk rfl ⟨⟨⟩, ⟨⟩⟩ ?_
   refine WP.lx tysOk rfl ⟨⟩ (CellAt.blk .head rfl) ?_
   iterate 2 (refine WP.sx tysOk rfl ⟨⟨⟩, ⟨⟩⟩ ?_)
   by_cases hh51 : 0 ≤ r36
   ·rw [if_pos hh51] at h
    refine WP.yes rfl rfl (decide_eq_true hh51) ?_
    refine WP.sx tysOk rfl ⟨⟨⟩, ⟨⟩⟩ ?_
    refine WP.yes rfl rfl rfl ?_
    refine WP.lx tysOk rfl ⟨⟩ (CellAt.blk .head rfl) ?_
    refine WP.yes rfl rfl rfl ?_
    iterate 2 (refine WP.sx tysOk rfl ⟨⟨⟩, ⟨⟩⟩ ?_)
    refine WP.cond_d rfl rfl (fun hh52 => ?_) (fun hh52 => ?_)
    ·rw [if_pos hh52] at h
     refine WP.sx tysOk rfl ⟨⟨⟩, ⟨⟩⟩ ?_
     refine WP.lx tysOk rfl ⟨⟩ (CellAt.blk (.tail (.tail (.tail (.tail (.tail .head))))) rfl) ?_
     refine WP.mx_ tysOk rfl ⟨⟩ (SegAt.blk' .head rfl) ?_
     refine WP.bsO (f := fA) [(Arc.mk r36 r37 ((gt d1.arcs (gt r29 s15)).low) ((gt d1.arcs (gt r29 s15)).cap) ((gt d1.arcs (gt r29 s15)).cost))] tysOk rfl rfl rfl rfl rfl rfl rfl rfl rfl rfl rfl rfl rfl rfl ?_
     intro g39 hf54
     obtain ⟨hl20, h⟩ := ck_some h
     obtain ⟨xs30, hz20, h⟩ := lt_some h
     refine WP.appO (f := fA) (xs := xs29) (ys := [(Arc.mk r36 r37 ((gt d1.arcs (gt r29 s15)).low) ((gt d1.arcs (gt r29 s15)).cap) ((gt d1.arcs (gt r29 s15)).cost))]) tysOk rfl rfl rfl rfl rfl rfl rfl rfl rfl rfl rfl rfl (.tail (.tail .head)) hf53 hf54.len (OwS.app .head hf54) hl20 hz20 ?_
     intro A39 c39 hf55
     refine WP.sx tysOk rfl ⟨⟨⟩, ⟨⟩⟩ ?_
     refine WP.sto' tysOk [.slice A31 m8 c31, .slice A39 xs30.length c39] rfl rfl rfl rfl rfl rfl rfl rfl rfl (.tail (.tail (.tail (.tail (.tail (.tail .head)))))) rfl rfl ?_
     iterate 3 (refine WP.sx tysOk rfl ⟨⟨⟩, ⟨⟩⟩ ?_)
     refine WP.stop rfl (n10, w64 (s15 + 1), xs30, A39, xs30.length, c39) ⟨⟨h, hf55⟩, Nat.lt_succ_self _⟩ ?_ ?_
     ·repeat first | exact ⟨⟩ | refine ⟨rfl, ?_⟩
     exact (.cons (.tail .head) (.cons (.tail (.tail (.tail .head))) (.cons (.tail (.tail (.tail .head))) (.cons (.tail (.tail (.tail .head))) (.cons .head (.cons (.tail (.tail .head)) (.cons (.tail (.tail .head)) (.cons (.tail (.tail .head)) .nil))))))))
    rw [if_neg hh52] at h
    iterate 3 (refine WP.sx tysOk rfl ⟨⟨⟩, ⟨⟩⟩ ?_)
    refine WP.stop rfl (n10, w64 (s15 + 1), xs29, A38, m10, c38) ⟨⟨h, hf53⟩, Nat.lt_succ_self _⟩ ?_ ?_
    ·repeat first | exact ⟨⟩ | refine ⟨rfl, ?_⟩
    exact (.cons (.tail .head) (.cons (.tail .head) (.cons (.tail .head) (.cons (.tail .head) (.cons (.tail .head) (.cons (.tail .head) (.cons (.tail .head) (.cons (.tail .head) .nil))))))))
   rw [if_neg hh51] at h
   refine WP.no rfl rfl (decide_eq_false hh51) rfl rfl ?_
   iterate 2 (refine WP.no rfl rfl rfl rfl rfl ?_)
   refine WP.sx tysOk rfl ⟨⟨⟩, ⟨⟩⟩ ?_
   refine WP.condF rfl rfl ?_
   iterate 3 (refine WP.sx tysOk rfl ⟨⟨⟩, ⟨⟩⟩ ?_)
   refine WP.stop rfl (n10, w64 (s15 + 1), xs29, A38, m10, c38) ⟨⟨h, hf53⟩, Nat.lt_succ_self _⟩ ?_ ?_
   ·repeat first | exact ⟨⟩ | refine ⟨rfl, ?_⟩
   exact (.cons (.tail .head) (.cons (.tail .head) (.cons (.tail .head) (.cons (.tail .head) (.cons (.tail .head) (.cons (.tail .head) (.cons (.tail .head) (.cons (.tail .head) .nil))))))))
  rw [if_neg hh50] at h
  refine WP.mx_ tysOk rfl ⟨⟩ (SegAt.blk' (.tail (.tail (.tail (.tail .head)))) rfl) ?_
  refine WP.sto' tysOk [.slice A31 m8 c31, .slice A38 m10 c38] rfl rfl rfl rfl rfl rfl rfl rfl rfl (.tail (.tail (.tail (.tail (.tail .head))))) rfl rfl ?_
  cases h
  refine WP.retR tysOk rfl rfl ⟨_, _, _, _, rfl, ⟨_, rfl, .inr ⟨rfl, _, rfl, rfl, (SegAt.blk' (z := 2) .head rfl).1⟩⟩, rfl, rfl⟩ (fun w1 hw1 => ⟨_, _, rfl, ⟨A31, m8, c31, A38, m10, c38, rfl, hf42, hf53, rfl⟩, Ret.of_KH hw1 (.cons (.tail (.tail (.tail .head))) (.cons (.tail .head) (.cons (.tail (.tail (.tail (.tail (.tail .head))))) .nil)))⟩)

set_option maxRecDepth 20000 in
set_option maxHeartbeats 8000000 in
theorem ref01_Of_w {w : World} {a1 : Int} {r : Wide} (h : ref01_Of a1 = some r) :
    Calls Tryz.prog 81 #[iv a1] w fun e w' => e = .returned (.agg #[iv r.hi, .int .u64 (r.lo)]) ∧ Below w.heap.size w w' := by
  unfold ref01_Of at h
  refine enter_ Tryz.func81 rfl Tryz.ntmps81 rfl ?_
  refine WP.al tysOk rfl rfl rfl rfl rfl rfl ?_
  intro g1
  iterate 2 (refine WP.sx tysOk rfl ⟨⟨⟩, ⟨⟩⟩ ?_)
  refine WP.bld (cs := [iv 0, .int .u64 (IntKind.wrap .u64 (a1))]) tysOk rfl ⟨⟩ rfl rfl rfl rfl rfl rfl rfl ?_
  refine WP.al tysOk rfl rfl rfl rfl rfl rfl ?_
  intro g2
  refine WP.sto' tysOk [iv 0, .int .u64 (IntKind.wrap .u64 (a1))] rfl rfl rfl rfl rfl rfl rfl rfl rfl .head rfl rfl ?_
  iterate 2 (refine WP.sx tysOk rfl ⟨⟨⟩, ⟨⟩⟩ ?_)
  refine WP.cond_d rfl rfl (fun hh1 => ?_) (fun hh1 => ?_)
  ·rw [if_pos hh1] at h
   refine WP.sx tysOk rfl ⟨⟨⟩, ⟨⟩⟩ ?_
   refine WP.sto' tysOk [iv (-1), .int .u64 (IntKind.wrap .u64 (a1))] rfl rfl rfl rfl rfl rfl rfl rfl rfl .head rfl rfl ?_
   refine WP.mx_ tysOk rfl ⟨⟩ (SegAt.blk' .head rfl) ?_
   refine WP.sto' tysOk [iv (-1), .int .u64 (IntKind.wrap .u64 (a1))] rfl rfl rfl rfl rfl rfl rfl rfl rfl (.tail .head) rfl rfl ?_
   cases h
   refine WP.retR tysOk rfl rfl ⟨_, _, _, _, rfl, ⟨_, rfl, .inr ⟨rfl, _, rfl, rfl, (SegAt.blk' (z := 2) .head rfl).1⟩⟩, rfl, rfl⟩ (fun w1 hw1 => ⟨rfl, Ret.below_ hw1 (.cons (.tail (.tail .head)) .nil)⟩)
  rw [if_neg hh1] at h
  refine WP.mx_ tysOk rfl ⟨⟩ (SegAt.blk' .head rfl) ?_
  refine WP.sto' tysOk [iv 0, .int .u64 (IntKind.wrap .u64 (a1))] rfl rfl rfl rfl rfl rfl rfl rfl rfl (.tail .head) rfl rfl ?_
  cases h
  refine WP.retR tysOk rfl rfl ⟨_, _, _, _, rfl, ⟨_, rfl, .inr ⟨rfl, _, rfl, rfl, (SegAt.blk' (z := 2) .head rfl).1⟩⟩, rfl, rfl⟩ (fun w1 hw1 => ⟨rfl, Ret.below_ hw1 (.cons (.tail (.tail .head)) .nil)⟩)

set_option maxRecDepth 20000 in
set_option maxHeartbeats 8000000 in
theorem ref01_Plus_w {w : World} {a1 : Wide} {b1 : Wide} {r : Wide} (h : ref01_Plus a1 b1 = some r) :
    Calls Tryz.prog 83 #[.agg #[iv a1.hi, .int .u64 (a1.lo)], .agg #[iv b1.hi, .int .u64 (b1.lo)]] w fun e w' => e = .returned (.agg #[iv r.hi, .int .u64 (r.lo)]) ∧ Below w.heap.size w w' := by
  unfold ref01_Plus at h
  refine enter_ Tryz.func83 rfl Tryz.ntmps83 rfl ?_
  refine WP.box rfl rfl rfl rfl rfl rfl ?_
  intro g1
  refine WP.box rfl rfl rfl rfl rfl rfl ?_
  intro g2
  refine WP.al tysOk rfl rfl rfl rfl rfl rfl ?_
  intro g3
  refine WP.sx tysOk rfl ⟨⟨⟩, ⟨⟩⟩ ?_
  refine WP.lx tysOk rfl ⟨⟩ (CellAt.blk (.tail (.tail .head)) rfl) ?_
  refine WP.sx tysOk rfl ⟨⟨⟩, ⟨⟩⟩ ?_
  refine WP.lx tysOk rfl ⟨⟩ (CellAt.blk (.tail .head) rfl) ?_
  iterate 2 (refine WP.sx tysOk rfl ⟨⟨⟩, ⟨⟩⟩ ?_)
  refine WP.lx tysOk rfl ⟨⟩ (CellAt.blk (.tail (.tail .head)) rfl) ?_
  refine WP.sx tysOk rfl ⟨⟨⟩, ⟨⟩⟩ ?_
  refine WP.lx tysOk rfl ⟨⟩ (CellAt.blk (.tail .head) rfl) ?_
  refine WP.sx tysOk rfl ⟨⟨⟩, ⟨⟩⟩ ?_
  refine WP.bld (cs := [iv (w64 (a1.hi + b1.hi)), .int .u64 (IntKind.wrap .u64 (a1.lo + b1.lo))]) tysOk rfl ⟨⟩ rfl rfl rfl rfl rfl rfl rfl ?_
  refine WP.al tysOk rfl rfl rfl rfl rfl rfl ?_
  intro g4
  refine WP.sto' tysOk [iv (w64 (a1.hi + b1.hi)), .int .u64 (IntKind.wrap .u64 (a1.lo + b1.lo))] rfl rfl rfl rfl rfl rfl rfl rfl rfl .head rfl rfl ?_
  refine WP.sx tysOk rfl ⟨⟨⟩, ⟨⟩⟩ ?_
  refine WP.lx tysOk rfl ⟨⟩ (CellAt.blk .head rfl) ?_
  refine WP.sx tysOk rfl ⟨⟨⟩, ⟨⟩⟩ ?_
  refine WP.lx tysOk rfl ⟨⟩ (CellAt.blk (.tail (.tail (.tail .head))) rfl) ?_
  refine WP.sx tysOk rfl ⟨⟨⟩, ⟨⟩⟩ ?_
  refine WP.cond_d rfl rfl (fun hh1 => ?_) (fun hh1 => ?_)
  ·rw [if_pos hh1] at h
   refine WP.sx tysOk rfl ⟨⟨⟩, ⟨⟩⟩ ?_
   refine WP.lx tysOk rfl ⟨⟩ (CellAt.blk .head rfl) ?_
   iterate 2 (refine WP.sx tysOk rfl ⟨⟨⟩, ⟨⟩⟩ ?_)
   refine WP.sto' tysOk [iv (w64 ((w64 (a1.hi + b1.hi)) + 1)), .int .u64 (IntKind.wrap .u64 (a1.lo + b1.lo))] rfl rfl rfl rfl rfl rfl rfl rfl rfl .head rfl rfl ?_
   refine WP.mx_ tysOk rfl ⟨⟩ (SegAt.blk' .head rfl) ?_
   refine WP.sto' tysOk [iv (w64 ((w64 (a1.hi + b1.hi)) + 1)), .int .u64 (IntKind.wrap .u64 (a1.lo + b1.lo))] rfl rfl rfl rfl rfl rfl rfl rfl rfl (.tail .head) rfl rfl ?_
   cases h
   refine WP.retR tysOk rfl rfl ⟨_, _, _, _, rfl, ⟨_, rfl, .inr ⟨rfl, _, rfl, rfl, (SegAt.blk' (z := 2) .head rfl).1⟩⟩, rfl, rfl⟩ (fun w1 hw1 => ⟨rfl, Ret.below_ hw1 (.cons (.tail (.tail (.tail (.tail .head)))) .nil)⟩)
  rw [if_neg hh1] at h
  refine WP.mx_ tysOk rfl ⟨⟩ (SegAt.blk' .head rfl) ?_
  refine WP.sto' tysOk [iv (w64 (a1.hi + b1.hi)), .int .u64 (IntKind.wrap .u64 (a1.lo + b1.lo))] rfl rfl rfl rfl rfl rfl rfl rfl rfl (.tail .head) rfl rfl ?_
  cases h
  refine WP.retR tysOk rfl rfl ⟨_, _, _, _, rfl, ⟨_, rfl, .inr ⟨rfl, _, rfl, rfl, (SegAt.blk' (z := 2) .head rfl).1⟩⟩, rfl, rfl⟩ (fun w1 hw1 => ⟨rfl, Ret.below_ hw1 (.cons (.tail (.tail (.tail (.tail .head)))) .nil)⟩)

set_option maxRecDepth 20000 in
set_option maxHeartbeats 8000000 in
theorem ref01_Less_w {w : World} {a1 : Wide} {r : Wide} (h : ref01_Less a1 = some r) :
    Calls Tryz.prog 93 #[.agg #[iv a1.hi, .int .u64 (a1.lo)]] w fun e w' => e = .returned (.agg #[iv r.hi, .int .u64 (r.lo)]) ∧ Below w.heap.size w w' := by
  unfold ref01_Less at h
  refine enter_ Tryz.func93 rfl Tryz.ntmps93 rfl ?_
  refine WP.box rfl rfl rfl rfl rfl rfl ?_
  intro g1
  refine WP.al tysOk rfl rfl rfl rfl rfl rfl ?_
  intro g2
  refine WP.sx tysOk rfl ⟨⟨⟩, ⟨⟩⟩ ?_
  refine WP.lx tysOk rfl ⟨⟩ (CellAt.blk (.tail .head) rfl) ?_
  refine WP.unx (-1) rfl ⟨⟩ rfl rfl rfl rfl rfl rfl ?_
  refine WP.sx tysOk rfl ⟨⟨⟩, ⟨⟩⟩ ?_
  refine WP.lx tysOk rfl ⟨⟩ (CellAt.blk (.tail .head) rfl) ?_
  refine WP.unx 18446744073709551615 rfl ⟨⟩ rfl rfl rfl rfl rfl rfl ?_
  refine WP.bld (cs := [iv (bits .xor .i64 (-1) a1.hi), .int .u64 (bits .xor .u64 18446744073709551615 a1.lo)]) tysOk rfl ⟨⟩ rfl rfl rfl rfl rfl rfl rfl ?_
  refine WP.bld (cs := [iv 0, .int .u64 (1)]) tysOk rfl ⟨⟩ rfl rfl rfl rfl rfl rfl rfl ?_
  obtain ⟨r1, hg1, h⟩ := bind_some h
  refine WP.callV rfl rfl rfl rfl rfl rfl rfl (by kernel_rfl) (fun w1 hw1 => (ref01_Plus_w hg1  :)) ⟨⟩ ?_
  refine WP.sto' tysOk [iv r1.hi, .int .u64 (r1.lo)] rfl rfl rfl rfl rfl rfl rfl rfl rfl .head rfl rfl ?_
  cases h
  refine WP.retR tysOk rfl rfl ⟨_, _, _, _, rfl, ⟨_, rfl, .inr ⟨rfl, _, rfl, rfl, (SegAt.blk' (z := 2) .head rfl).1⟩⟩, rfl, rfl⟩ (fun w1 hw1 => ⟨rfl, Ret.below_ hw1 (.cons (.tail (.tail .head)) .nil)⟩)

set_option maxRecDepth 20000 in
set_option maxHeartbeats 8000000 in
theorem ref01_Minus_w {w : World} {a1 : Wide} {b1 : Wide} {r : Wide} (h : ref01_Minus a1 b1 = some r) :
    Calls Tryz.prog 82 #[.agg #[iv a1.hi, .int .u64 (a1.lo)], .agg #[iv b1.hi, .int .u64 (b1.lo)]] w fun e w' => e = .returned (.agg #[iv r.hi, .int .u64 (r.lo)]) ∧ Below w.heap.size w w' := by
  unfold ref01_Minus at h
  refine enter_ Tryz.func82 rfl Tryz.ntmps82 rfl ?_
  refine WP.box rfl rfl rfl rfl rfl rfl ?_
  intro g1
  refine WP.box rfl rfl rfl rfl rfl rfl ?_
  intro g2
  refine WP.al tysOk rfl rfl rfl rfl rfl rfl ?_
  intro g3
  obtain ⟨r1, hg1, h⟩ := bind_some h
  obtain ⟨r2, hg2, h⟩ := bind_some h
  refine WP.drawL 4 [(2, [], fun _ => constSpec (.agg #[iv r1.hi, .int .u64 (r1.lo)])), (3, [], fun _ => constSpec (.agg #[iv r2.hi, .int .u64 (r2.lo)]))] rfl (by kernel_rfl) (by kernel_rfl) (by kernel_rfl) ?_
  refine WP.mx_ tysOk rfl ⟨⟨rfl, rfl⟩, rfl⟩ (SegAt.blk' (.tail (.tail .head)) rfl) ?_
  refine WP.mx_ tysOk rfl ⟨⟨rfl, rfl⟩, rfl⟩ (SegAt.blk' (.tail .head) rfl) ?_
  refine WP.callV rfl rfl rfl rfl rfl rfl rfl (by kernel_rfl) (fun w1 hw1 => (ref01_Less_w hg1  :)) ⟨⟨rfl, rfl⟩, rfl⟩ ?_
  refine WP.callV rfl rfl rfl rfl rfl rfl rfl (by kernel_rfl) (fun w1 hw1 => (ref01_Plus_w hg2  :)) ⟨⟨rfl, rfl⟩, rfl⟩ ?_
  refine WP.lend rfl ⟨rfl, rfl⟩ ?_
  refine WP.sto' tysOk [iv r2.hi, .int .u64 (r2.lo)] rfl rfl rfl rfl rfl rfl rfl rfl rfl .head rfl rfl ?_
  cases h
  refine WP.retR tysOk rfl rfl ⟨_, _, _, _, rfl, ⟨_, rfl, .inr ⟨rfl, _, rfl, rfl, (SegAt.blk' (z := 2) .head rfl).1⟩⟩, rfl, rfl⟩ (fun w1 hw1 => ⟨rfl, Ret.below_ hw1 (.cons (.tail (.tail (.tail .head))) .nil)⟩)

set_option maxRecDepth 20000 in
set_option maxHeartbeats 8000000 in
theorem ref01_Twice_w {w : World} {a1 : Wide} {r : Wide} (h : ref01_Twice a1 = some r) :
    Calls Tryz.prog 84 #[.agg #[iv a1.hi, .int .u64 (a1.lo)]] w fun e w' => e = .returned (.agg #[iv r.hi, .int .u64 (r.lo)]) ∧ Below w.heap.size w w' := by
  unfold ref01_Twice at h
  refine enter_ Tryz.func84 rfl Tryz.ntmps84 rfl ?_
  refine WP.box rfl rfl rfl rfl rfl rfl ?_
  intro g1
  refine WP.al tysOk rfl rfl rfl rfl rfl rfl ?_
  intro g2
  refine WP.mx_ tysOk rfl ⟨⟩ (SegAt.blk' (.tail .head) rfl) ?_
  refine WP.mx_ tysOk rfl ⟨⟩ (SegAt.blk' (.tail .head) rfl) ?_
  obtain ⟨r1, hg1, h⟩ := bind_some h
  refine WP.callV rfl rfl rfl rfl rfl rfl rfl (by kernel_rfl) (fun w1 hw1 => (ref01_Plus_w hg1  :)) ⟨⟩ ?_
  refine WP.sto' tysOk [iv r1.hi, .int .u64 (r1.lo)] rfl rfl rfl rfl rfl rfl rfl rfl rfl .head rfl rfl ?_
  cases h
  refine WP.retR tysOk rfl rfl ⟨_, _, _, _, rfl, ⟨_, rfl, .inr ⟨rfl, _, rfl, rfl, (SegAt.blk' (z := 2) .head rfl).1⟩⟩, rfl, rfl⟩ (fun w1 hw1 => ⟨rfl, Ret.below_ hw1 (.cons (.tail (.tail .head)) .nil)⟩)

set_option maxRecDepth 20000 in
set_option maxHeartbeats 8000000 in
theorem ref01_Times_w {w : World} {a1 : Int} {b1 : Int} {r : Wide} (h : ref01_Times a1 b1 = some r) :
    Calls Tryz.prog 57 #[iv a1, iv b1] w fun e w' => e = .returned (.agg #[iv r.hi, .int .u64 (r.lo)]) ∧ Below w.heap.size w w' := by
  unfold ref01_Times at h
  refine enter_ Tryz.func57 rfl Tryz.ntmps57 rfl ?_
  refine WP.al tysOk rfl rfl rfl rfl rfl rfl ?_
  intro g1
  refine WP.bld (cs := [iv 0, .int .u64 (0)]) tysOk rfl ⟨⟩ rfl rfl rfl rfl rfl rfl rfl ?_
  refine WP.al tysOk rfl rfl rfl rfl rfl rfl ?_
  intro g2
  refine WP.sto' tysOk [iv 0, .int .u64 (0)] rfl rfl rfl rfl rfl rfl rfl rfl rfl .head rfl rfl ?_
  refine WP.sx tysOk rfl ⟨⟨⟩, ⟨⟩⟩ ?_
  obtain ⟨r1, hg1, h⟩ := bind_some h
  refine WP.callV rfl rfl rfl rfl rfl rfl rfl (by kernel_rfl) (fun w1 hw1 => (ref01_Of_w hg1  :)) ⟨⟩ ?_
  refine WP.al tysOk rfl rfl rfl rfl rfl rfl ?_
  intro g3
  refine WP.sto' tysOk [iv r1.hi, .int .u64 (r1.lo)] rfl rfl rfl rfl rfl rfl rfl rfl rfl .head rfl rfl ?_
  refine WP.sx tysOk rfl ⟨⟨⟩, ⟨⟩⟩ ?_
  refine WP.loop (α := Nat × Int × Int × Int × Int × Int) (fun x => lp (ref01_Times_b1 b1) x.1 (x.2.1, x.2.2.1, x.2.2.2.1, x.2.2.2.2.1, x.2.2.2.2.2) = some r) (fun x => [(1, iv b1), (4, .pointer (some ⟨g1, 0, none⟩)), (5, .pointer (some ⟨g2, 0, none⟩)), (6, .pointer (some ⟨g3, 0, none⟩)), (7, iv x.2.1)]) (fun x => [.blk g3 46 [iv x.2.2.2.2.1, .int .u64 (x.2.2.2.2.2)], .blk g2 46 [iv x.2.2.1, .int .u64 (x.2.2.2.1)], .blk g1 46 [iv 0, .int .u64 (0)], .fz (PH.of w)]) (fun x => x.1) rfl (big, 0, 0, 0, r1.hi, r1.lo) h ?_ ?_ ?_
  ·repeat first | exact ⟨⟩ | refine ⟨rfl, ?_⟩
  ·exact (.cons .head (.cons .head (.cons .head (.cons .head .nil))))
  rintro ⟨n1, i2, s5, s6, s7, s8⟩ h
  dsimp only at h ⊢
  rcases n1 with _ | n1
  · exact (lp_no h).elim
  replace h := lp_succ h
  unfold ref01_Times_b1 at h
  try dsimp only at h
  iterate 2 (refine WP.sx tysOk rfl ⟨⟨⟩, ⟨⟩⟩ ?_)
  refine WP.cond_d rfl rfl (fun hh7 => ?_) (fun hh7 => ?_)
  ·rw [if_pos hh7] at h
   iterate 4 (refine WP.sx tysOk rfl ⟨⟨⟩, ⟨⟩⟩ ?_)
   obtain ⟨hz3, h⟩ := ck_some h
   refine WP.sx tysOk rfl ⟨⟨⟩, hz3⟩ ?_
   refine WP.sx tysOk rfl ⟨⟨⟩, (by decide)⟩ ?_
   refine WP.sx tysOk rfl ⟨⟨⟩, ⟨⟩⟩ ?_
   refine WP.cond_d rfl rfl (fun hh8 => ?_) (fun hh8 => ?_)
   ·rw [if_pos hh8] at h
    iterate 2 (refine WP.sx tysOk rfl ⟨⟨⟩, ⟨⟩⟩ ?_)
    refine WP.cond_d rfl rfl (fun hh9 => ?_) (fun hh9 => ?_)
    ·rw [if_pos hh9] at h
     refine WP.mx_ tysOk rfl ⟨⟩ (SegAt.blk' (.tail .head) rfl) ?_
     refine WP.mx_ tysOk rfl ⟨⟩ (SegAt.blk' .head rfl) ?_
     obtain ⟨r12, hg12, h⟩ := bind_some h
     refine WP.callV rfl rfl rfl rfl rfl rfl rfl (by kernel_rfl) (fun w1 hw1 => (ref01_Minus_w hg12  :)) ⟨⟩ ?_
     refine WP.sto' tysOk [iv r12.hi, .int .u64 (r12.lo)] rfl rfl rfl rfl rfl rfl rfl rfl rfl (.tail .head) rfl rfl ?_
     refine WP.mx_ tysOk rfl ⟨⟩ (SegAt.blk' (.tail .head) rfl) ?_
     obtain ⟨r13, hg13, h⟩ := bind_some h
     refine WP.callV rfl rfl rfl rfl rfl rfl rfl (by kernel_rfl) (fun w1 hw1 => (ref01_Twice_w hg13  :)) ⟨⟩ ?_
     refine WP.sto' tysOk [iv r13.hi, .int .u64 (r13.lo)] rfl rfl rfl rfl rfl rfl rfl rfl rfl (.tail .head) rfl rfl ?_
     iterate 3 (refine WP.sx tysOk rfl ⟨⟨⟩, ⟨⟩⟩ ?_)
     refine WP.stop rfl (n1, w64 (i2 + 1), r12.hi, r12.lo, r13.hi, r13.lo) ⟨h, Nat.lt_succ_self _⟩ ?_ ?_
     ·repeat first | exact ⟨⟩ | refine ⟨rfl, ?_⟩
     exact (.cons .head (.cons .head (.cons .head (.cons .head .nil))))
    rw [if_neg hh9] at h
    refine WP.mx_ tysOk rfl ⟨⟩ (SegAt.blk' (.tail .head) rfl) ?_
    refine WP.mx_ tysOk rfl ⟨⟩ (SegAt.blk' .head rfl) ?_
    obtain ⟨r14, hg14, h⟩ := bind_some h
    refine WP.callV rfl rfl rfl rfl rfl rfl rfl (by kernel_rfl) (fun w1 hw1 => (ref01_Plus_w hg14  :)) ⟨⟩ ?_
    refine WP.sto' tysOk [iv r14.hi, .int .u64 (r14.lo)] rfl rfl rfl rfl rfl rfl rfl rfl rfl (.tail .head) rfl rfl ?_
    refine WP.mx_ tysOk rfl ⟨⟩ (SegAt.blk' (.tail .head) rfl) ?_
    obtain ⟨r15, hg15, h⟩ := bind_some h
    refine WP.callV rfl rfl rfl rfl rfl rfl rfl (by kernel_rfl) (fun w1 hw1 => (ref01_Twice_w hg15  :)) ⟨⟩ ?_
    refine WP.sto' tysOk [iv r15.hi, .int .u64 (r15.lo)] rfl rfl rfl rfl rfl rfl rfl rfl rfl (.tail .head) rfl rfl ?_
    iterate 3 (refine WP.sx tysOk rfl ⟨⟨⟩, ⟨⟩⟩ ?_)
    refine WP.stop rfl (n1, w64 (i2 + 1), r14.hi, r14.lo, r15.hi, r15.lo) ⟨h, Nat.lt_succ_self _⟩ ?_ ?_
    ·repeat first | exact ⟨⟩ | refine ⟨rfl, ?_⟩
    exact (.cons .head (.cons .head (.cons .head (.cons .head .nil))))
   rw [if_neg hh8] at h
   refine WP.mx_ tysOk rfl ⟨⟩ (SegAt.blk' .head rfl) ?_
   obtain ⟨r16, hg16, h⟩ := bind_some h
   refine WP.callV rfl rfl rfl rfl rfl rfl rfl (by kernel_rfl) (fun w1 hw1 => (ref01_Twice_w hg16  :)) ⟨⟩ ?_
   refine WP.sto' tysOk [iv r16.hi, .int .u64 (r16.lo)] rfl rfl rfl rfl rfl rfl rfl rfl rfl .head rfl rfl ?_
   iterate 3 (refine WP.sx tysOk rfl ⟨⟨⟩, ⟨⟩⟩ ?_)
   refine WP.stop rfl (n1, w64 (i2 + 1), s5, s6, r16.hi, r16.lo) ⟨h, Nat.lt_succ_self _⟩ ?_ ?_
   ·repeat first | exact ⟨⟩ | refine ⟨rfl, ?_⟩
   exact (.cons .head (.cons .head (.cons .head (.cons .head .nil))))
  rw [if_neg hh7] at h
  refine WP.mx_ tysOk rfl ⟨⟩ (SegAt.blk' (.tail .head) rfl) ?_
  refine WP.sto' tysOk [iv s5, .int .u64 (s6)] rfl rfl rfl rfl rfl rfl rfl rfl rfl (.tail (.tail .head)) rfl rfl ?_
  cases h
  refine WP.retR tysOk rfl rfl ⟨_, _, _, _, rfl, ⟨_, rfl, .inr ⟨rfl, _, rfl, rfl, (SegAt.blk' (z := 2) .head rfl).1⟩⟩, rfl, rfl⟩ (fun w1 hw1 => ⟨rfl, Ret.below_ hw1 (.cons (.tail (.tail (.tail .head))) .nil)⟩)

abbrev ref15_Done_S (Z : PH) (r : Step × Int) : Value → Heap → Prop := fun v L => ∃ (Zn : PH) (A1 : Option Addr) (n1 c1 : Nat) (A2 : Option Addr) (n2 c2 : Nat) (A3 : Option Addr) (n3 c3 : Nat) (A4 : Option Addr) (n4 c4 : Nat), v = .tuple #[.agg #[.slice A1 n1 c1, .slice A2 n2 c2, iv r.1.rcd.pass, .slice A3 n3 c3, .slice A4 n4 c4, iv r.1.off.hi, .int .u64 (r.1.off.lo), .bool (r.1.did)], iv r.2] ∧ n1 = r.1.inst.supply.length ∧ n2 = r.1.inst.arcs.length ∧ n3 = r.1.rcd.was.supply.length ∧ n4 = r.1.rcd.was.arcs.length ∧ FzS (fI .i64) (Z.or Zn) A1 c1 r.1.inst.supply ∧ FzS fA (Z.or Zn) A2 c2 r.1.inst.arcs ∧ FzS (fI .i64) (Z.or Zn) A3 c3 r.1.rcd.was.supply ∧ FzS fA (Z.or Zn) A4 c4 r.1.rcd.was.arcs ∧ L = [.fz Zn]
set_option maxRecDepth 20000 in
set_option maxHeartbeats 8000000 in
theorem ref15_Done_w {w : World} {Z : PH} (hZ : Z.le (PH.of w)) {v0 : Value} {v1 : Value} {pass1 : Int} {was1 : Inst} {next1 : Inst} {off1 : Wide} {did1 : Bool} {r : Step × Int} (h : ref15_Done pass1 was1 next1 off1 did1 = some r) (p1 : InsZ Z v0 was1) (p2 : InsZ Z v1 next1) :
    Calls Tryz.prog 55 #[iv pass1, v0, v1, .agg #[iv off1.hi, .int .u64 (off1.lo)], .bool (did1)] w fun e w' => ∃ v L, e = .returned v ∧ ref15_Done_S Z r v L ∧ Ret w w' L := by
  obtain ⟨A1, c1, A2, c2, rfl, hs1, hs2⟩ := p1
  obtain ⟨A3, c3, A4, c4, rfl, hs3, hs4⟩ := p2
  unfold ref15_Done at h
  refine enter_ Tryz.func55 rfl Tryz.ntmps55 rfl ?_
  refine WP.box rfl rfl rfl rfl rfl rfl ?_
  intro g1
  refine WP.box rfl rfl rfl rfl rfl rfl ?_
  intro g2
  refine WP.box rfl rfl rfl rfl rfl rfl ?_
  intro g3
  refine WP.al tysOk rfl rfl rfl rfl rfl rfl ?_
  intro g4
  iterate 3 (refine WP.sx tysOk rfl ⟨⟨⟩, ⟨⟩⟩ ?_)
  refine WP.cond_n rfl rfl (fun hh1 => ?_) (fun hh1 => ?_)
  ·rw [if_neg (bneg hh1)] at h
   refine WP.mx_ tysOk rfl ⟨⟩ (SegAt.blk' (.tail (.tail (.tail .head))) rfl) ?_
   refine WP.bld (cs := [.slice A1 was1.supply.length c1, .slice A2 was1.arcs.length c2, iv 0, .slice none 0 0, .slice none 0 0, iv 0, .int .u64 (0), .bool (false)]) tysOk rfl ⟨⟩ rfl rfl rfl rfl rfl rfl rfl ?_
   refine WP.sto' tysOk [.slice A1 was1.supply.length c1, .slice A2 was1.arcs.length c2, iv 0, .slice none 0 0, .slice none 0 0, iv 0, .int .u64 (0), .bool (false)] rfl rfl rfl rfl rfl rfl rfl rfl rfl .head rfl rfl ?_
   refine WP.sx tysOk rfl ⟨⟨⟩, ⟨⟩⟩ ?_
   cases h
   refine WP.retR tysOk rfl rfl ⟨_, _, _, _, rfl, ⟨_, rfl, .inr ⟨rfl, _, rfl, rfl, (SegAt.blk' (z := 8) .head rfl).1⟩⟩, ⟨_, _, rfl, rfl, rfl⟩, rfl⟩ (fun w1 hw1 => ⟨_, _, rfl, ⟨PH.new _ w1, A1, was1.supply.length, c1, A2, was1.arcs.length, c2, none, 0, 0, none, 0, 0, rfl, rfl, rfl, rfl, rfl, hs1.le' (PH.le_or _ _), hs2.le' (PH.le_or _ _), FzS.nil_, FzS.nil_, rfl⟩, Ret.freeze hw1 (.cons (.tail (.tail (.tail (.tail .head)))) .nil)⟩)
  rw [if_pos hh1] at h
  refine WP.mx_ tysOk rfl ⟨⟩ (SegAt.blk' (.tail (.tail .head)) rfl) ?_
  obtain ⟨r1, hg1, h⟩ := bind_some h
  refine WP.callV rfl rfl rfl rfl rfl rfl rfl (by kernel_rfl) (fun w1 hw1 => (ref03_Right_w hg1 (InsZ.mk_ ((hs3.le' ((Held.sub (Held.mem (List.Mem.tail _ (List.Mem.tail _ (List.Mem.tail _ (List.Mem.tail _ (List.Mem.head _)))))) hZ) _ _ hw1)).of) ((hs4.le' ((Held.sub (Held.mem (List.Mem.tail _ (List.Mem.tail _ (List.Mem.tail _ (List.Mem.tail _ (List.Mem.head _)))))) hZ) _ _ hw1)).of)) :)) ⟨⟩ ?_
  refine WP.sx tysOk rfl ⟨⟨⟩, ⟨⟩⟩ ?_
  refine WP.cond_d rfl rfl (fun hh2 => ?_) (fun hh2 => ?_)
  ·rw [if_pos hh2] at h
   refine WP.bld (cs := [.slice none 0 0, .slice none 0 0, iv 0, .slice none 0 0, .slice none 0 0, iv 0, .int .u64 (0), .bool (false)]) tysOk rfl ⟨⟩ rfl rfl rfl rfl rfl rfl rfl ?_
   refine WP.sto' tysOk [.slice none 0 0, .slice none 0 0, iv 0, .slice none 0 0, .slice none 0 0, iv 0, .int .u64 (0), .bool (false)] rfl rfl rfl rfl rfl rfl rfl rfl rfl .head rfl rfl ?_
   refine WP.sx tysOk rfl ⟨⟨⟩, ⟨⟩⟩ ?_
   cases h
   refine WP.retR tysOk rfl rfl ⟨_, _, _, _, rfl, ⟨_, rfl, .inr ⟨rfl, _, rfl, rfl, (SegAt.blk' (z := 8) .head rfl).1⟩⟩, ⟨_, _, rfl, rfl, rfl⟩, rfl⟩ (fun w1 hw1 => ⟨_, _, rfl, ⟨PH.new _ w1, none, 0, 0, none, 0, 0, none, 0, 0, none, 0, 0, rfl, rfl, rfl, rfl, rfl, FzS.nil_, FzS.nil_, FzS.nil_, FzS.nil_, rfl⟩, Ret.freeze hw1 (.cons (.tail (.tail (.tail (.tail .head)))) .nil)⟩)
  rw [if_neg hh2] at h
  refine WP.mx_ tysOk rfl ⟨⟩ (SegAt.blk' (.tail (.tail .head)) rfl) ?_
  refine WP.sx tysOk rfl ⟨⟨⟩, ⟨⟩⟩ ?_
  refine WP.mx_ tysOk rfl ⟨⟩ (SegAt.blk' (.tail (.tail (.tail .head))) rfl) ?_
  refine WP.bld (cs := [iv pass1, .slice A1 was1.supply.length c1, .slice A2 was1.arcs.length c2]) tysOk rfl ⟨⟩ rfl rfl rfl rfl rfl rfl rfl ?_
  refine WP.mx_ tysOk rfl ⟨⟩ (SegAt.blk' (.tail .head) rfl) ?_
  refine WP.bld (cs := [.slice A3 next1.supply.length c3, .slice A4 next1.arcs.length c4, iv pass1, .slice A1 was1.supply.length c1, .slice A2 was1.arcs.length c2, iv off1.hi, .int .u64 (off1.lo), .bool (true)]) tysOk rfl ⟨⟩ rfl rfl rfl rfl rfl rfl rfl ?_
  refine WP.sto' tysOk [.slice A3 next1.supply.length c3, .slice A4 next1.arcs.length c4, iv pass1, .slice A1 was1.supply.length c1, .slice A2 was1.arcs.length c2, iv off1.hi, .int .u64 (off1.lo), .bool (true)] rfl rfl rfl rfl rfl rfl rfl rfl rfl .head rfl rfl ?_
  refine WP.sx tysOk rfl ⟨⟨⟩, ⟨⟩⟩ ?_
  cases h
  refine WP.retR tysOk rfl rfl ⟨_, _, _, _, rfl, ⟨_, rfl, .inr ⟨rfl, _, rfl, rfl, (SegAt.blk' (z := 8) .head rfl).1⟩⟩, ⟨_, _, rfl, rfl, rfl⟩, rfl⟩ (fun w1 hw1 => ⟨_, _, rfl, ⟨PH.new _ w1, A3, next1.supply.length, c3, A4, next1.arcs.length, c4, A1, was1.supply.length, c1, A2, was1.arcs.length, c2, rfl, rfl, rfl, rfl, rfl, hs3.le' (PH.le_or _ _), hs4.le' (PH.le_or _ _), hs1.le' (PH.le_or _ _), hs2.le' (PH.le_or _ _), rfl⟩, Ret.freeze hw1 (.cons (.tail (.tail (.tail (.tail .head)))) .nil)⟩)
end Go.Proofs.YtpnohbdfgmjdbaaGreat
