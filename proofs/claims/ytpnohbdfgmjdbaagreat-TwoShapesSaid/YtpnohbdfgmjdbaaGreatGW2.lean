/- The walks: the code computes that. -/
import Derived.Test.YtpnohbdfgmjdbaaGreatGW1
import Derived.Test.YtpnohbdfgmjdbaaGreatTys
import Derived.Test.YtpnohbdfgmjdbaaGreatEngG
import Derived.KernelRfl
namespace Go.Proofs.YtpnohbdfgmjdbaaGreat
open Go.RowKit Go.Qe
set_option maxRecDepth 20000 in
set_option maxHeartbeats 8000000 in
theorem two_shape_at_2_w {w : World} {v0 : Value} {v1 : Value} {i1 : Inst} {x1 : Inst} {x2 : Int} {r : Spot × Pair × Bool} (h : two_shape_at_2 i1 x1 x2 = some r) (p1 : GraphZ (PH.of w) v0 i1) (p2 : InsZ (PH.of w) v1 x1) :
    Calls Tryz.prog 26 #[.agg #[iv 9, .func (.func 46) #[] #[], .func (.func 47) #[] #[], .func (.func 48) #[] #[]], v0, v1, iv x2] w fun e w' => e = .returned (.tuple #[.agg #[iv r.1.node, iv r.1.a, iv r.1.b, iv r.1.new.src, iv r.1.new.dst, iv r.1.new.low, iv r.1.new.cap, iv r.1.new.cost], .agg #[iv r.2.1.x.src, iv r.2.1.x.dst, iv r.2.1.x.low, iv r.2.1.x.cap, iv r.2.1.x.cost, iv r.2.1.y.src, iv r.2.1.y.dst, iv r.2.1.y.low, iv r.2.1.y.cap, iv r.2.1.y.cost, iv r.2.1.n, iv r.2.1.s], .bool (r.2.2)]) ∧ Below w.heap.size w w' := by
  obtain ⟨gg1, rfl⟩ := p1.ptr'
  obtain ⟨A1, c1, A2, c2, rfl, hs1, hs2⟩ := p2
  unfold two_shape_at_2 at h
  refine enter_ Tryz.func26 rfl Tryz.ntmps26 rfl ?_
  refine WP.box rfl rfl rfl rfl rfl rfl ?_
  intro g1
  refine WP.box rfl rfl rfl rfl rfl rfl ?_
  intro g2
  refine WP.al tysOk rfl rfl rfl rfl rfl rfl ?_
  intro g3
  refine WP.al tysOk rfl rfl rfl rfl rfl rfl ?_
  intro g4
  iterate 3 (refine WP.sx tysOk rfl ⟨⟨⟩, ⟨⟩⟩ ?_)
  obtain ⟨r1, hg1, h⟩ := bind_some h
  refine WP.callS (adj_Graph_At_S r1) rfl rfl rfl rfl rfl rfl rfl (by kernel_rfl) (fun w1 hw1 => (adj_Graph_At_w hg1 (p1.le ((Held.mem (List.Mem.tail _ (List.Mem.tail _ (List.Mem.tail _ (List.Mem.tail _ (List.Mem.head _)))))) _ _ hw1)) :)) ?_
  rintro _ _ ⟨A3, n1, c3, rfl, hf1, rfl⟩
  iterate 2 (refine WP.sx tysOk rfl ⟨⟨⟩, ⟨⟩⟩ ?_)
  refine WP.lenO (xs := r1) tysOk rfl ⟨⟩ rfl rfl rfl rfl rfl rfl hf1 ?_
  iterate 2 (refine WP.sx tysOk rfl ⟨⟨⟩, ⟨⟩⟩ ?_)
  by_cases hh1 : ¬ (r1.length : Int) = 2
  ·rw [if_pos hh1] at h
   refine WP.no rfl rfl (decide_eq_true hh1) rfl rfl ?_
   iterate 3 (refine WP.no rfl rfl rfl rfl rfl ?_)
   refine WP.sx tysOk rfl ⟨⟨⟩, ⟨⟩⟩ ?_
   refine WP.condT rfl rfl ?_
   refine WP.bld (cs := [iv 0, iv 0, iv 0, iv 0, iv 0, iv 0, iv 0, iv 0]) tysOk rfl ⟨⟩ rfl rfl rfl rfl rfl rfl rfl ?_
   refine WP.bld (cs := [iv 0, iv 0, iv 0, iv 0, iv 0, iv 0, iv 0, iv 0, iv 0, iv 0, iv 0, iv 0]) tysOk rfl ⟨⟩ rfl rfl rfl rfl rfl rfl rfl ?_
   refine WP.sto' tysOk [iv 0, iv 0, iv 0, iv 0, iv 0, iv 0, iv 0, iv 0] rfl rfl rfl rfl rfl rfl rfl rfl rfl (.tail (.tail .head)) rfl rfl ?_
   refine WP.sto' tysOk [iv 0, iv 0, iv 0, iv 0, iv 0, iv 0, iv 0, iv 0, iv 0, iv 0, iv 0, iv 0] rfl rfl rfl rfl rfl rfl rfl rfl rfl (.tail (.tail .head)) rfl rfl ?_
   refine WP.sx tysOk rfl ⟨⟨⟩, ⟨⟩⟩ ?_
   cases h
   refine WP.retR tysOk rfl rfl ⟨_, _, _, _, rfl, ⟨_, rfl, .inr ⟨rfl, _, rfl, rfl, (SegAt.blk' (z := 8) (.tail .head) rfl).1⟩⟩, ⟨_, _, _, _, rfl, ⟨_, rfl, .inr ⟨rfl, _, rfl, rfl, (SegAt.blk' (z := 12) .head rfl).1⟩⟩, ⟨_, _, rfl, rfl, rfl⟩, rfl⟩, rfl⟩ (fun w1 hw1 => ⟨rfl, Ret.below_ hw1 (.cons (.tail (.tail (.tail (.tail (.tail .head))))) .nil)⟩)
  rw [if_neg hh1] at h
  refine WP.yes rfl rfl (decide_eq_false hh1) ?_
  iterate 2 (refine WP.sx tysOk rfl ⟨⟨⟩, ⟨⟩⟩ ?_; refine WP.yes rfl rfl rfl ?_)
  obtain ⟨r2, hg2, h⟩ := bind_some h
  refine WP.callV rfl rfl rfl rfl rfl rfl rfl (by kernel_rfl) (fun w1 hw1 => (adj_Graph_Loops_w hg2 (p1.le ((Held.mem (List.Mem.tail _ (List.Mem.tail _ (List.Mem.tail _ (List.Mem.tail _ (List.Mem.tail _ (List.Mem.head _))))))) _ _ hw1)) :)) ⟨⟩ ?_
  refine WP.yes rfl rfl rfl ?_
  iterate 2 (refine WP.sx tysOk rfl ⟨⟨⟩, ⟨⟩⟩ ?_)
  refine WP.cond_d rfl rfl (fun hh2 => ?_) (fun hh2 => ?_)
  ·rw [if_pos hh2] at h
   refine WP.bld (cs := [iv 0, iv 0, iv 0, iv 0, iv 0, iv 0, iv 0, iv 0]) tysOk rfl ⟨⟩ rfl rfl rfl rfl rfl rfl rfl ?_
   refine WP.bld (cs := [iv 0, iv 0, iv 0, iv 0, iv 0, iv 0, iv 0, iv 0, iv 0, iv 0, iv 0, iv 0]) tysOk rfl ⟨⟩ rfl rfl rfl rfl rfl rfl rfl ?_
   refine WP.sto' tysOk [iv 0, iv 0, iv 0, iv 0, iv 0, iv 0, iv 0, iv 0] rfl rfl rfl rfl rfl rfl rfl rfl rfl (.tail (.tail .head)) rfl rfl ?_
   refine WP.sto' tysOk [iv 0, iv 0, iv 0, iv 0, iv 0, iv 0, iv 0, iv 0, iv 0, iv 0, iv 0, iv 0] rfl rfl rfl rfl rfl rfl rfl rfl rfl (.tail (.tail .head)) rfl rfl ?_
   refine WP.sx tysOk rfl ⟨⟨⟩, ⟨⟩⟩ ?_
   cases h
   refine WP.retR tysOk rfl rfl ⟨_, _, _, _, rfl, ⟨_, rfl, .inr ⟨rfl, _, rfl, rfl, (SegAt.blk' (z := 8) (.tail .head) rfl).1⟩⟩, ⟨_, _, _, _, rfl, ⟨_, rfl, .inr ⟨rfl, _, rfl, rfl, (SegAt.blk' (z := 12) .head rfl).1⟩⟩, ⟨_, _, rfl, rfl, rfl⟩, rfl⟩, rfl⟩ (fun w1 hw1 => ⟨rfl, Ret.below_ hw1 (.cons (.tail (.tail (.tail (.tail (.tail .head))))) .nil)⟩)
  rw [if_neg hh2] at h
  refine WP.draw rfl (by kernel_rfl) (by kernel_rfl) ?_
  refine WP.sx tysOk rfl ⟨rfl, ⟨⟩⟩ ?_
  obtain ⟨hj1, h⟩ := ck_some h
  refine WP.ixO tysOk rfl rfl rfl rfl rfl rfl rfl rfl rfl rfl hf1 hj1 ?_
  intro b1 hA1
  refine WP.lx tysOk rfl rfl (OwS.at0 .head hA1 hj1 rfl) ?_
  refine WP.sx tysOk rfl ⟨rfl, ⟨⟩⟩ ?_
  obtain ⟨hj2, h⟩ := ck_some h
  refine WP.ixO tysOk rfl rfl rfl rfl rfl rfl rfl rfl rfl rfl hf1 hj2 ?_
  intro b2 hA2
  refine WP.lx tysOk rfl rfl (OwS.at0 .head hA2 hj2 rfl) ?_
  iterate 2 (refine WP.sx tysOk rfl ⟨rfl, ⟨⟩⟩ ?_)
  refine WP.qend rfl ?_
  obtain ⟨hj3, h⟩ := ck_some h
  obtain ⟨hj4, h⟩ := ck_some h
  obtain ⟨r3, hg3, h⟩ := bind_some h
  refine WP.drawL 15 [(13, [], fun _ => constSpec (.bool (r3)))] rfl (by kernel_rfl) (by kernel_rfl) (by kernel_rfl) ?_
  refine WP.sx tysOk rfl ⟨⟨⟨rfl, rfl⟩, rfl⟩, ⟨⟩⟩ ?_
  refine WP.lx tysOk rfl ⟨⟨rfl, rfl⟩, rfl⟩ (CellAt.blk (.tail (.tail (.tail (.tail .head)))) rfl) ?_
  refine WP.sx tysOk rfl ⟨⟨⟨rfl, rfl⟩, rfl⟩, ⟨⟩⟩ ?_
  refine WP.lx tysOk rfl ⟨⟨rfl, rfl⟩, rfl⟩ (CellAt.blk (.tail (.tail (.tail .head))) rfl) ?_
  refine WP.sx tysOk rfl ⟨⟨⟨rfl, rfl⟩, rfl⟩, ⟨⟩⟩ ?_
  refine WP.ixA tysOk rfl ⟨⟨rfl, rfl⟩, rfl⟩ rfl rfl rfl rfl rfl rfl rfl rfl hj3 (hs2.ex hj3) ?_
  intro b3 b3v hA3
  refine WP.mx_ tysOk rfl ⟨⟨rfl, rfl⟩, rfl⟩ (hs2.seg hA3 (Held.mem (List.Mem.tail _ (List.Mem.tail _ (List.Mem.tail _ (List.Mem.tail _ (List.Mem.tail _ (List.Mem.head _))))))) hj3) ?_
  refine WP.sx tysOk rfl ⟨⟨⟨rfl, rfl⟩, rfl⟩, ⟨⟩⟩ ?_
  refine WP.lx tysOk rfl ⟨⟨rfl, rfl⟩, rfl⟩ (CellAt.blk (.tail (.tail (.tail .head))) rfl) ?_
  refine WP.sx tysOk rfl ⟨⟨⟨rfl, rfl⟩, rfl⟩, ⟨⟩⟩ ?_
  refine WP.ixA tysOk rfl ⟨⟨rfl, rfl⟩, rfl⟩ rfl rfl rfl rfl rfl rfl rfl rfl hj4 (hs2.ex hj4) ?_
  intro b4 b4v hA4
  refine WP.mx_ tysOk rfl ⟨⟨rfl, rfl⟩, rfl⟩ (hs2.seg hA4 (Held.mem (List.Mem.tail _ (List.Mem.tail _ (List.Mem.tail _ (List.Mem.tail _ (List.Mem.tail _ (List.Mem.head _))))))) hj4) ?_
  refine WP.sx tysOk rfl ⟨⟨⟨rfl, rfl⟩, rfl⟩, ⟨⟩⟩ ?_
  refine WP.callV rfl rfl rfl rfl rfl rfl rfl (by kernel_rfl) (fun w1 hw1 => (two_fork_1_w hg3  :)) ⟨⟨rfl, rfl⟩, rfl⟩ ?_
  refine WP.sx tysOk rfl ⟨⟨⟨rfl, rfl⟩, rfl⟩, ⟨⟩⟩ ?_
  refine WP.lend rfl ⟨rfl, rfl⟩ ?_
  refine WP.cond_n rfl rfl (fun hh3 => ?_) (fun hh3 => ?_)
  ·rw [if_neg (bneg hh3)] at h
   iterate 4 (refine WP.sx tysOk rfl ⟨⟨⟩, ⟨⟩⟩ ?_)
   obtain ⟨r4, hg4, h⟩ := bind_some h
   refine WP.drawL 15 [(13, [], fun _ => constSpec (.bool (r4)))] rfl (by kernel_rfl) (by kernel_rfl) (by kernel_rfl) ?_
   refine WP.sx tysOk rfl ⟨⟨⟨rfl, rfl⟩, rfl⟩, ⟨⟩⟩ ?_
   refine WP.lx tysOk rfl ⟨⟨rfl, rfl⟩, rfl⟩ (CellAt.blk (.tail (.tail (.tail (.tail .head)))) rfl) ?_
   refine WP.sx tysOk rfl ⟨⟨⟨rfl, rfl⟩, rfl⟩, ⟨⟩⟩ ?_
   refine WP.lx tysOk rfl ⟨⟨rfl, rfl⟩, rfl⟩ (CellAt.blk (.tail (.tail (.tail .head))) rfl) ?_
   refine WP.sx tysOk rfl ⟨⟨⟨rfl, rfl⟩, rfl⟩, ⟨⟩⟩ ?_
   refine WP.ixA tysOk rfl ⟨⟨rfl, rfl⟩, rfl⟩ rfl rfl rfl rfl rfl rfl rfl rfl hj4 (hs2.ex hj4) ?_
   intro b5 b5v hA5
   refine WP.mx_ tysOk rfl ⟨⟨rfl, rfl⟩, rfl⟩ (hs2.seg hA5 (Held.mem (List.Mem.tail _ (List.Mem.tail _ (List.Mem.tail _ (List.Mem.tail _ (List.Mem.tail _ (List.Mem.head _))))))) hj4) ?_
   refine WP.sx tysOk rfl ⟨⟨⟨rfl, rfl⟩, rfl⟩, ⟨⟩⟩ ?_
   refine WP.lx tysOk rfl ⟨⟨rfl, rfl⟩, rfl⟩ (CellAt.blk (.tail (.tail (.tail .head))) rfl) ?_
   refine WP.sx tysOk rfl ⟨⟨⟨rfl, rfl⟩, rfl⟩, ⟨⟩⟩ ?_
   refine WP.ixA tysOk rfl ⟨⟨rfl, rfl⟩, rfl⟩ rfl rfl rfl rfl rfl rfl rfl rfl hj3 (hs2.ex hj3) ?_
   intro b6 b6v hA6
   refine WP.mx_ tysOk rfl ⟨⟨rfl, rfl⟩, rfl⟩ (hs2.seg hA6 (Held.mem (List.Mem.tail _ (List.Mem.tail _ (List.Mem.tail _ (List.Mem.tail _ (List.Mem.tail _ (List.Mem.head _))))))) hj3) ?_
   refine WP.sx tysOk rfl ⟨⟨⟨rfl, rfl⟩, rfl⟩, ⟨⟩⟩ ?_
   refine WP.callV rfl rfl rfl rfl rfl rfl rfl (by kernel_rfl) (fun w1 hw1 => (two_fork_1_w hg4  :)) ⟨⟨rfl, rfl⟩, rfl⟩ ?_
   refine WP.sx tysOk rfl ⟨⟨⟨rfl, rfl⟩, rfl⟩, ⟨⟩⟩ ?_
   refine WP.lend rfl ⟨rfl, rfl⟩ ?_
   refine WP.cond_n rfl rfl (fun hh4 => ?_) (fun hh4 => ?_)
   ·rw [if_neg (bneg hh4)] at h
    refine WP.bld (cs := [iv 0, iv 0, iv 0, iv 0, iv 0, iv 0, iv 0, iv 0]) tysOk rfl ⟨⟩ rfl rfl rfl rfl rfl rfl rfl ?_
    refine WP.bld (cs := [iv 0, iv 0, iv 0, iv 0, iv 0, iv 0, iv 0, iv 0, iv 0, iv 0, iv 0, iv 0]) tysOk rfl ⟨⟩ rfl rfl rfl rfl rfl rfl rfl ?_
    refine WP.sto' tysOk [iv 0, iv 0, iv 0, iv 0, iv 0, iv 0, iv 0, iv 0] rfl rfl rfl rfl rfl rfl rfl rfl rfl (.tail (.tail .head)) rfl rfl ?_
    refine WP.sto' tysOk [iv 0, iv 0, iv 0, iv 0, iv 0, iv 0, iv 0, iv 0, iv 0, iv 0, iv 0, iv 0] rfl rfl rfl rfl rfl rfl rfl rfl rfl (.tail (.tail .head)) rfl rfl ?_
    refine WP.sx tysOk rfl ⟨⟨⟩, ⟨⟩⟩ ?_
    cases h
    refine WP.retR tysOk rfl rfl ⟨_, _, _, _, rfl, ⟨_, rfl, .inr ⟨rfl, _, rfl, rfl, (SegAt.blk' (z := 8) (.tail .head) rfl).1⟩⟩, ⟨_, _, _, _, rfl, ⟨_, rfl, .inr ⟨rfl, _, rfl, rfl, (SegAt.blk' (z := 12) .head rfl).1⟩⟩, ⟨_, _, rfl, rfl, rfl⟩, rfl⟩, rfl⟩ (fun w1 hw1 => ⟨rfl, Ret.below_ hw1 (.cons (.tail (.tail (.tail (.tail (.tail .head))))) .nil)⟩)
   rw [if_pos hh4] at h
   obtain ⟨hj5, h⟩ := ck_some h
   refine WP.drawL 20 [(19, [], fun _ => blkSpec 66 [iv 0, iv 0, iv 0, iv 0, iv 0, iv 0, iv 0, iv 0, iv 0, iv 0, iv 0, iv 0])] rfl (by kernel_rfl) (by kernel_rfl) (by kernel_rfl) ?_
   refine WP.sx tysOk rfl ⟨⟨⟨rfl, rfl⟩, rfl⟩, ⟨⟩⟩ ?_
   refine WP.lx tysOk rfl ⟨⟨rfl, rfl⟩, rfl⟩ (CellAt.blk (.tail (.tail (.tail .head))) rfl) ?_
   refine WP.sx tysOk rfl ⟨⟨⟨rfl, rfl⟩, rfl⟩, ⟨⟩⟩ ?_
   refine WP.ixA tysOk rfl ⟨⟨rfl, rfl⟩, rfl⟩ rfl rfl rfl rfl rfl rfl rfl rfl hj4 (hs2.ex hj4) ?_
   intro b7 b7v hA7
   refine WP.mx_ tysOk rfl ⟨⟨rfl, rfl⟩, rfl⟩ (hs2.seg hA7 (Held.mem (List.Mem.tail _ (List.Mem.tail _ (List.Mem.tail _ (List.Mem.tail _ (List.Mem.tail _ (List.Mem.head _))))))) hj4) ?_
   refine WP.bld (cs := [iv ((gt x1.arcs (gt r1 1)).src), iv ((gt x1.arcs (gt r1 1)).dst), iv ((gt x1.arcs (gt r1 1)).low), iv ((gt x1.arcs (gt r1 1)).cap), iv ((gt x1.arcs (gt r1 1)).cost)]) tysOk rfl ⟨⟨rfl, rfl⟩, rfl⟩ rfl rfl rfl rfl rfl rfl rfl ?_
   refine WP.sx tysOk rfl ⟨⟨⟨rfl, rfl⟩, rfl⟩, ⟨⟩⟩ ?_
   refine WP.lx tysOk rfl ⟨⟨rfl, rfl⟩, rfl⟩ (CellAt.blk (.tail (.tail (.tail .head))) rfl) ?_
   refine WP.sx tysOk rfl ⟨⟨⟨rfl, rfl⟩, rfl⟩, ⟨⟩⟩ ?_
   refine WP.ixA tysOk rfl ⟨⟨rfl, rfl⟩, rfl⟩ rfl rfl rfl rfl rfl rfl rfl rfl hj3 (hs2.ex hj3) ?_
   intro b8 b8v hA8
   refine WP.mx_ tysOk rfl ⟨⟨rfl, rfl⟩, rfl⟩ (hs2.seg hA8 (Held.mem (List.Mem.tail _ (List.Mem.tail _ (List.Mem.tail _ (List.Mem.tail _ (List.Mem.tail _ (List.Mem.head _))))))) hj3) ?_
   refine WP.bld (cs := [iv ((gt x1.arcs (gt r1 0)).src), iv ((gt x1.arcs (gt r1 0)).dst), iv ((gt x1.arcs (gt r1 0)).low), iv ((gt x1.arcs (gt r1 0)).cap), iv ((gt x1.arcs (gt r1 0)).cost)]) tysOk rfl ⟨⟨rfl, rfl⟩, rfl⟩ rfl rfl rfl rfl rfl rfl rfl ?_
   iterate 2 (refine WP.sx tysOk rfl ⟨⟨⟨rfl, rfl⟩, rfl⟩, ⟨⟩⟩ ?_)
   refine WP.lx tysOk rfl ⟨⟨rfl, rfl⟩, rfl⟩ (CellAt.blk (.tail (.tail (.tail .head))) rfl) ?_
   refine WP.sx tysOk rfl ⟨⟨⟨rfl, rfl⟩, rfl⟩, ⟨⟩⟩ ?_
   refine WP.ixA tysOk rfl ⟨⟨rfl, rfl⟩, rfl⟩ rfl rfl rfl rfl rfl rfl rfl rfl hj5 (hs1.ex hj5) ?_
   intro b9 b9v hA9
   refine WP.lx tysOk rfl ⟨⟨rfl, rfl⟩, rfl⟩ (hs1.at0 hA9 (Held.mem (List.Mem.tail _ (List.Mem.tail _ (List.Mem.tail _ (List.Mem.tail _ (List.Mem.tail _ (List.Mem.head _))))))) hj5 rfl) ?_
   refine WP.bld (cs := [iv ((gt x1.arcs (gt r1 1)).src), iv ((gt x1.arcs (gt r1 1)).dst), iv ((gt x1.arcs (gt r1 1)).low), iv ((gt x1.arcs (gt r1 1)).cap), iv ((gt x1.arcs (gt r1 1)).cost), iv ((gt x1.arcs (gt r1 0)).src), iv ((gt x1.arcs (gt r1 0)).dst), iv ((gt x1.arcs (gt r1 0)).low), iv ((gt x1.arcs (gt r1 0)).cap), iv ((gt x1.arcs (gt r1 0)).cost), iv x2, iv (gt x1.supply x2)]) tysOk rfl ⟨⟨rfl, rfl⟩, rfl⟩ rfl rfl rfl rfl rfl rfl rfl ?_
   refine WP.lal tysOk rfl ⟨rfl, rfl⟩ rfl rfl rfl rfl rfl rfl rfl ?_
   intro g5
   refine WP.lend rfl ⟨rfl, rfl⟩ ?_
   refine WP.sto' tysOk [iv ((gt x1.arcs (gt r1 1)).src), iv ((gt x1.arcs (gt r1 1)).dst), iv ((gt x1.arcs (gt r1 1)).low), iv ((gt x1.arcs (gt r1 1)).cap), iv ((gt x1.arcs (gt r1 1)).cost), iv ((gt x1.arcs (gt r1 0)).src), iv ((gt x1.arcs (gt r1 0)).dst), iv ((gt x1.arcs (gt r1 0)).low), iv ((gt x1.arcs (gt r1 0)).cap), iv ((gt x1.arcs (gt r1 0)).cost), iv x2, iv (gt x1.supply x2)] rfl rfl rfl rfl rfl rfl rfl rfl rfl .head rfl rfl ?_
   refine WP.sx tysOk rfl ⟨⟨⟩, ⟨⟩⟩ ?_
   refine WP.lx tysOk rfl ⟨⟩ (CellAt.blk (.tail (.tail (.tail (.tail (.tail .head))))) rfl) ?_
   refine WP.mx_ tysOk rfl ⟨⟩ (SegAt.blk' .head rfl) ?_
   obtain ⟨r5, hg5, h⟩ := bind_some h
   refine WP.callV rfl rfl rfl rfl rfl rfl rfl (by kernel_rfl) (fun w1 hw1 => (two_pair_split_w hg5  :)) ⟨⟩ ?_
   refine WP.al tysOk rfl rfl rfl rfl rfl rfl ?_
   intro g6
   refine WP.sto' tysOk [iv r5.src, iv r5.dst, iv r5.low, iv r5.cap, iv r5.cost] rfl rfl rfl rfl rfl rfl rfl rfl rfl .head rfl rfl ?_
   refine WP.sx tysOk rfl ⟨⟨⟩, ⟨⟩⟩ ?_
   refine WP.lx tysOk rfl ⟨⟩ (CellAt.blk .head rfl) ?_
   refine WP.sx tysOk rfl ⟨⟨⟩, ⟨⟩⟩ ?_
   refine WP.lx tysOk rfl ⟨⟩ (CellAt.blk .head rfl) ?_
   refine WP.sx tysOk rfl ⟨⟨⟩, ⟨⟩⟩ ?_
   refine WP.cond_d rfl rfl (fun hh5 => ?_) (fun hh5 => ?_)
   ·rw [if_pos hh5] at h
    refine WP.bld (cs := [iv 0, iv 0, iv 0, iv 0, iv 0, iv 0, iv 0, iv 0]) tysOk rfl ⟨⟩ rfl rfl rfl rfl rfl rfl rfl ?_
    refine WP.bld (cs := [iv 0, iv 0, iv 0, iv 0, iv 0, iv 0, iv 0, iv 0, iv 0, iv 0, iv 0, iv 0]) tysOk rfl ⟨⟩ rfl rfl rfl rfl rfl rfl rfl ?_
    refine WP.sto' tysOk [iv 0, iv 0, iv 0, iv 0, iv 0, iv 0, iv 0, iv 0] rfl rfl rfl rfl rfl rfl rfl rfl rfl (.tail (.tail (.tail (.tail .head)))) rfl rfl ?_
    refine WP.sto' tysOk [iv 0, iv 0, iv 0, iv 0, iv 0, iv 0, iv 0, iv 0, iv 0, iv 0, iv 0, iv 0] rfl rfl rfl rfl rfl rfl rfl rfl rfl (.tail (.tail (.tail (.tail .head)))) rfl rfl ?_
    refine WP.sx tysOk rfl ⟨⟨⟩, ⟨⟩⟩ ?_
    cases h
    refine WP.retR tysOk rfl rfl ⟨_, _, _, _, rfl, ⟨_, rfl, .inr ⟨rfl, _, rfl, rfl, (SegAt.blk' (z := 8) (.tail .head) rfl).1⟩⟩, ⟨_, _, _, _, rfl, ⟨_, rfl, .inr ⟨rfl, _, rfl, rfl, (SegAt.blk' (z := 12) .head rfl).1⟩⟩, ⟨_, _, rfl, rfl, rfl⟩, rfl⟩, rfl⟩ (fun w1 hw1 => ⟨rfl, Ret.below_ hw1 (.cons (.tail (.tail (.tail (.tail (.tail (.tail (.tail .head))))))) .nil)⟩)
   rw [if_neg hh5] at h
   refine WP.join (α := Unit) (fun x => True) (fun x => [(8, .pointer (some ⟨g3, 0, none⟩)), (9, .pointer (some ⟨g4, 0, none⟩)), (10, .bool (true))]) (fun x => [.blk g4 66 [iv ((gt x1.arcs (gt r1 1)).src), iv ((gt x1.arcs (gt r1 1)).dst), iv ((gt x1.arcs (gt r1 1)).low), iv ((gt x1.arcs (gt r1 1)).cap), iv ((gt x1.arcs (gt r1 1)).cost), iv ((gt x1.arcs (gt r1 0)).src), iv ((gt x1.arcs (gt r1 0)).dst), iv ((gt x1.arcs (gt r1 0)).low), iv ((gt x1.arcs (gt r1 0)).cap), iv ((gt x1.arcs (gt r1 0)).cost), iv x2, iv (gt x1.supply x2)], .blk g3 39 [iv x2, iv (gt r1 1), iv (gt r1 0), iv r5.src, iv r5.dst, iv r5.low, iv r5.cap, iv r5.cost], .blk g6 34 [iv r5.src, iv r5.dst, iv r5.low, iv r5.cap, iv r5.cost], .blk g5 66 [iv ((gt x1.arcs (gt r1 1)).src), iv ((gt x1.arcs (gt r1 1)).dst), iv ((gt x1.arcs (gt r1 1)).low), iv ((gt x1.arcs (gt r1 1)).cap), iv ((gt x1.arcs (gt r1 1)).cost), iv ((gt x1.arcs (gt r1 0)).src), iv ((gt x1.arcs (gt r1 0)).dst), iv ((gt x1.arcs (gt r1 0)).low), iv ((gt x1.arcs (gt r1 0)).cap), iv ((gt x1.arcs (gt r1 0)).cost), iv x2, iv (gt x1.supply x2)], Ow (fI .i64) 3 A3 n1 c3 r1, .blk g2 25 [.slice A1 x1.supply.length c1, .slice A2 x1.arcs.length c2], .blk g1 72 [iv 9, .func (.func 46) #[] #[], .func (.func 47) #[] #[], .func (.func 48) #[] #[]], .fz (PH.of w)]) rfl ?_ ?_
   ·refine WP.drawA rfl (by kernel_rfl) ?_
    refine WP.anyP 0 tysOk putInv_body rfl rfl rfl (by kernel_rfl) (by kernel_rfl) rfl rfl rfl rfl rfl True.intro ?_
    refine WP.anyP 1 tysOk putInv_body rfl rfl rfl (by kernel_rfl) (by kernel_rfl) rfl rfl rfl rfl rfl True.intro ?_
    refine WP.anyP 2 tysOk putInv_body rfl rfl rfl (by kernel_rfl) (by kernel_rfl) rfl rfl rfl rfl rfl True.intro ?_
    refine WP.any2 3 5 rfl (by kernel_rfl) rfl rfl ?_ ?_
    ·refine WP.mx_ tysOk rfl ⟨⟩ (SegAt.blk' .head rfl) ?_
     refine WP.any2 4 5 rfl (by kernel_rfl) rfl rfl ?_ ?_
     ·refine WP.bld (cs := [iv x2, iv (gt r1 1), iv (gt r1 0), iv r5.src, iv r5.dst, iv r5.low, iv r5.cap, iv r5.cost]) tysOk rfl ⟨⟩ rfl rfl rfl rfl rfl rfl rfl ?_
      refine WP.any2 5 6 rfl (by kernel_rfl) rfl rfl ?_ ?_
      ·refine WP.mx_ tysOk rfl ⟨⟩ (SegAt.blk' (.tail .head) rfl) ?_
       refine WP.any1 6 rfl (by kernel_rfl) rfl ?_
       refine WP.sto' tysOk [iv x2, iv (gt r1 1), iv (gt r1 0), iv r5.src, iv r5.dst, iv r5.low, iv r5.cap, iv r5.cost] rfl rfl rfl rfl rfl rfl rfl rfl rfl (.tail (.tail (.tail (.tail .head)))) rfl rfl ?_
       refine WP.any1 7 rfl (by kernel_rfl) rfl ?_
       refine WP.sto' tysOk [iv ((gt x1.arcs (gt r1 1)).src), iv ((gt x1.arcs (gt r1 1)).dst), iv ((gt x1.arcs (gt r1 1)).low), iv ((gt x1.arcs (gt r1 1)).cap), iv ((gt x1.arcs (gt r1 1)).cost), iv ((gt x1.arcs (gt r1 0)).src), iv ((gt x1.arcs (gt r1 0)).dst), iv ((gt x1.arcs (gt r1 0)).low), iv ((gt x1.arcs (gt r1 0)).cap), iv ((gt x1.arcs (gt r1 0)).cost), iv x2, iv (gt x1.supply x2)] rfl rfl rfl rfl rfl rfl rfl rfl rfl (.tail (.tail (.tail (.tail .head)))) rfl rfl ?_
       refine WP.anyP 8 tysOk putInv_body rfl rfl rfl (by kernel_rfl) (by kernel_rfl) rfl rfl rfl rfl rfl True.intro ?_
       refine WP.any0 rfl (by kernel_rfl) ?_
       refine WP.stop rfl () True.intro ?_ ?_
       ·repeat first | exact ⟨⟩ | refine ⟨rfl, ?_⟩
       exact (.cons .head (.cons .head (.cons .head (.cons .head (.cons .head (.cons .head (.cons .head (.cons .head .nil))))))))
      refine WP.sto' tysOk [iv x2, iv (gt r1 1), iv (gt r1 0), iv r5.src, iv r5.dst, iv r5.low, iv r5.cap, iv r5.cost] rfl rfl rfl rfl rfl rfl rfl rfl rfl (.tail (.tail (.tail (.tail .head)))) rfl rfl ?_
      refine WP.any1 5 rfl (by kernel_rfl) rfl ?_
      refine WP.mx_ tysOk rfl ⟨⟩ (SegAt.blk' (.tail (.tail .head)) rfl) ?_
      refine WP.any1 7 rfl (by kernel_rfl) rfl ?_
      refine WP.sto' tysOk [iv ((gt x1.arcs (gt r1 1)).src), iv ((gt x1.arcs (gt r1 1)).dst), iv ((gt x1.arcs (gt r1 1)).low), iv ((gt x1.arcs (gt r1 1)).cap), iv ((gt x1.arcs (gt r1 1)).cost), iv ((gt x1.arcs (gt r1 0)).src), iv ((gt x1.arcs (gt r1 0)).dst), iv ((gt x1.arcs (gt r1 0)).low), iv ((gt x1.arcs (gt r1 0)).cap), iv ((gt x1.arcs (gt r1 0)).cost), iv x2, iv (gt x1.supply x2)] rfl rfl rfl rfl rfl rfl rfl rfl rfl (.tail (.tail (.tail (.tail .head)))) rfl rfl ?_
      refine WP.anyP 8 tysOk putInv_body rfl rfl rfl (by kernel_rfl) (by kernel_rfl) rfl rfl rfl rfl rfl True.intro ?_
      refine WP.any0 rfl (by kernel_rfl) ?_
      refine WP.stop rfl () True.intro ?_ ?_
      ·repeat first | exact ⟨⟩ | refine ⟨rfl, ?_⟩
      exact (.cons .head (.cons .head (.cons .head (.cons .head (.cons .head (.cons .head (.cons .head (.cons .head .nil))))))))
     refine WP.mx_ tysOk rfl ⟨⟩ (SegAt.blk' (.tail .head) rfl) ?_
     refine WP.any1 4 rfl (by kernel_rfl) rfl ?_
     refine WP.bld (cs := [iv x2, iv (gt r1 1), iv (gt r1 0), iv r5.src, iv r5.dst, iv r5.low, iv r5.cap, iv r5.cost]) tysOk rfl ⟨⟩ rfl rfl rfl rfl rfl rfl rfl ?_
     refine WP.any1 6 rfl (by kernel_rfl) rfl ?_
     refine WP.sto' tysOk [iv x2, iv (gt r1 1), iv (gt r1 0), iv r5.src, iv r5.dst, iv r5.low, iv r5.cap, iv r5.cost] rfl rfl rfl rfl rfl rfl rfl rfl rfl (.tail (.tail (.tail (.tail .head)))) rfl rfl ?_
     refine WP.any1 7 rfl (by kernel_rfl) rfl ?_
     refine WP.sto' tysOk [iv ((gt x1.arcs (gt r1 1)).src), iv ((gt x1.arcs (gt r1 1)).dst), iv ((gt x1.arcs (gt r1 1)).low), iv ((gt x1.arcs (gt r1 1)).cap), iv ((gt x1.arcs (gt r1 1)).cost), iv ((gt x1.arcs (gt r1 0)).src), iv ((gt x1.arcs (gt r1 0)).dst), iv ((gt x1.arcs (gt r1 0)).low), iv ((gt x1.arcs (gt r1 0)).cap), iv ((gt x1.arcs (gt r1 0)).cost), iv x2, iv (gt x1.supply x2)] rfl rfl rfl rfl rfl rfl rfl rfl rfl (.tail (.tail (.tail (.tail .head)))) rfl rfl ?_
     refine WP.anyP 8 tysOk putInv_body rfl rfl rfl (by kernel_rfl) (by kernel_rfl) rfl rfl rfl rfl rfl True.intro ?_
     refine WP.any0 rfl (by kernel_rfl) ?_
     refine WP.stop rfl () True.intro ?_ ?_
     ·repeat first | exact ⟨⟩ | refine ⟨rfl, ?_⟩
     exact (.cons .head (.cons .head (.cons .head (.cons .head (.cons .head (.cons .head (.cons .head (.cons .head .nil))))))))
    refine WP.mx_ tysOk rfl ⟨⟩ (SegAt.blk' (.tail .head) rfl) ?_
    refine WP.any1 3 rfl (by kernel_rfl) rfl ?_
    refine WP.mx_ tysOk rfl ⟨⟩ (SegAt.blk' .head rfl) ?_
    refine WP.any1 4 rfl (by kernel_rfl) rfl ?_
    refine WP.bld (cs := [iv x2, iv (gt r1 1), iv (gt r1 0), iv r5.src, iv r5.dst, iv r5.low, iv r5.cap, iv r5.cost]) tysOk rfl ⟨⟩ rfl rfl rfl rfl rfl rfl rfl ?_
    refine WP.any1 6 rfl (by kernel_rfl) rfl ?_
    refine WP.sto' tysOk [iv x2, iv (gt r1 1), iv (gt r1 0), iv r5.src, iv r5.dst, iv r5.low, iv r5.cap, iv r5.cost] rfl rfl rfl rfl rfl rfl rfl rfl rfl (.tail (.tail (.tail (.tail .head)))) rfl rfl ?_
    refine WP.any1 7 rfl (by kernel_rfl) rfl ?_
    refine WP.sto' tysOk [iv ((gt x1.arcs (gt r1 1)).src), iv ((gt x1.arcs (gt r1 1)).dst), iv ((gt x1.arcs (gt r1 1)).low), iv ((gt x1.arcs (gt r1 1)).cap), iv ((gt x1.arcs (gt r1 1)).cost), iv ((gt x1.arcs (gt r1 0)).src), iv ((gt x1.arcs (gt r1 0)).dst), iv ((gt x1.arcs (gt r1 0)).low), iv ((gt x1.arcs (gt r1 0)).cap), iv ((gt x1.arcs (gt r1 0)).cost), iv x2, iv (gt x1.supply x2)] rfl rfl rfl rfl rfl rfl rfl rfl rfl (.tail (.tail (.tail (.tail .head)))) rfl rfl ?_
    refine WP.anyP 8 tysOk putInv_body rfl rfl rfl (by kernel_rfl) (by kernel_rfl) rfl rfl rfl rfl rfl True.intro ?_
    refine WP.any0 rfl (by kernel_rfl) ?_
    refine WP.stop rfl () True.intro ?_ ?_
    ·repeat first | exact ⟨⟩ | refine ⟨rfl, ?_⟩
    exact (.cons .head (.cons .head (.cons .head (.cons .head (.cons .head (.cons .head (.cons .head (.cons .head .nil))))))))
   rintro _ _
   cases h
   refine WP.retR tysOk rfl rfl ⟨_, _, _, _, rfl, ⟨_, rfl, .inr ⟨rfl, _, rfl, rfl, (SegAt.blk' (z := 8) (.tail .head) rfl).1⟩⟩, ⟨_, _, _, _, rfl, ⟨_, rfl, .inr ⟨rfl, _, rfl, rfl, (SegAt.blk' (z := 12) .head rfl).1⟩⟩, ⟨_, _, rfl, rfl, rfl⟩, rfl⟩, rfl⟩ (fun w1 hw1 => ⟨rfl, Ret.below_ hw1 (.cons (.tail (.tail (.tail (.tail (.tail (.tail (.tail .head))))))) .nil)⟩)
  rw [if_pos hh3] at h
  obtain ⟨r6, hg6, h⟩ := bind_some h
  refine WP.drawL 15 [(13, [], fun _ => constSpec (.bool (r6)))] rfl (by kernel_rfl) (by kernel_rfl) (by kernel_rfl) ?_
  refine WP.sx tysOk rfl ⟨⟨⟨rfl, rfl⟩, rfl⟩, ⟨⟩⟩ ?_
  refine WP.lx tysOk rfl ⟨⟨rfl, rfl⟩, rfl⟩ (CellAt.blk (.tail (.tail (.tail (.tail .head)))) rfl) ?_
  refine WP.sx tysOk rfl ⟨⟨⟨rfl, rfl⟩, rfl⟩, ⟨⟩⟩ ?_
  refine WP.lx tysOk rfl ⟨⟨rfl, rfl⟩, rfl⟩ (CellAt.blk (.tail (.tail (.tail .head))) rfl) ?_
  refine WP.sx tysOk rfl ⟨⟨⟨rfl, rfl⟩, rfl⟩, ⟨⟩⟩ ?_
  refine WP.ixA tysOk rfl ⟨⟨rfl, rfl⟩, rfl⟩ rfl rfl rfl rfl rfl rfl rfl rfl hj3 (hs2.ex hj3) ?_
  intro b10 b10v hA10
  refine WP.mx_ tysOk rfl ⟨⟨rfl, rfl⟩, rfl⟩ (hs2.seg hA10 (Held.mem (List.Mem.tail _ (List.Mem.tail _ (List.Mem.tail _ (List.Mem.tail _ (List.Mem.tail _ (List.Mem.head _))))))) hj3) ?_
  refine WP.sx tysOk rfl ⟨⟨⟨rfl, rfl⟩, rfl⟩, ⟨⟩⟩ ?_
  refine WP.lx tysOk rfl ⟨⟨rfl, rfl⟩, rfl⟩ (CellAt.blk (.tail (.tail (.tail .head))) rfl) ?_
  refine WP.sx tysOk rfl ⟨⟨⟨rfl, rfl⟩, rfl⟩, ⟨⟩⟩ ?_
  refine WP.ixA tysOk rfl ⟨⟨rfl, rfl⟩, rfl⟩ rfl rfl rfl rfl rfl rfl rfl rfl hj4 (hs2.ex hj4) ?_
  intro b11 b11v hA11
  refine WP.mx_ tysOk rfl ⟨⟨rfl, rfl⟩, rfl⟩ (hs2.seg hA11 (Held.mem (List.Mem.tail _ (List.Mem.tail _ (List.Mem.tail _ (List.Mem.tail _ (List.Mem.tail _ (List.Mem.head _))))))) hj4) ?_
  refine WP.sx tysOk rfl ⟨⟨⟨rfl, rfl⟩, rfl⟩, ⟨⟩⟩ ?_
  refine WP.callV rfl rfl rfl rfl rfl rfl rfl (by kernel_rfl) (fun w1 hw1 => (two_fork_1_w hg6  :)) ⟨⟨rfl, rfl⟩, rfl⟩ ?_
  refine WP.sx tysOk rfl ⟨⟨⟨rfl, rfl⟩, rfl⟩, ⟨⟩⟩ ?_
  refine WP.lend rfl ⟨rfl, rfl⟩ ?_
  refine WP.cond_n rfl rfl (fun hh6 => ?_) (fun hh6 => ?_)
  ·rw [if_neg (bneg hh6)] at h
   refine WP.bld (cs := [iv 0, iv 0, iv 0, iv 0, iv 0, iv 0, iv 0, iv 0]) tysOk rfl ⟨⟩ rfl rfl rfl rfl rfl rfl rfl ?_
   refine WP.bld (cs := [iv 0, iv 0, iv 0, iv 0, iv 0, iv 0, iv 0, iv 0, iv 0, iv 0, iv 0, iv 0]) tysOk rfl ⟨⟩ rfl rfl rfl rfl rfl rfl rfl ?_
   refine WP.sto' tysOk [iv 0, iv 0, iv 0, iv 0, iv 0, iv 0, iv 0, iv 0] rfl rfl rfl rfl rfl rfl rfl rfl rfl (.tail (.tail .head)) rfl rfl ?_
   refine WP.sto' tysOk [iv 0, iv 0, iv 0, iv 0, iv 0, iv 0, iv 0, iv 0, iv 0, iv 0, iv 0, iv 0] rfl rfl rfl rfl rfl rfl rfl rfl rfl (.tail (.tail .head)) rfl rfl ?_
   refine WP.sx tysOk rfl ⟨⟨⟩, ⟨⟩⟩ ?_
   cases h
   refine WP.retR tysOk rfl rfl ⟨_, _, _, _, rfl, ⟨_, rfl, .inr ⟨rfl, _, rfl, rfl, (SegAt.blk' (z := 8) (.tail .head) rfl).1⟩⟩, ⟨_, _, _, _, rfl, ⟨_, rfl, .inr ⟨rfl, _, rfl, rfl, (SegAt.blk' (z := 12) .head rfl).1⟩⟩, ⟨_, _, rfl, rfl, rfl⟩, rfl⟩, rfl⟩ (fun w1 hw1 => ⟨rfl, Ret.below_ hw1 (.cons (.tail (.tail (.tail (.tail (.tail .head))))) .nil)⟩)
  rw [if_pos hh6] at h
  obtain ⟨hj6, h⟩ := ck_some h
  refine WP.drawL 20 [(19, [], fun _ => blkSpec 66 [iv 0, iv 0, iv 0, iv 0, iv 0, iv 0, iv 0, iv 0, iv 0, iv 0, iv 0, iv 0])] rfl (by kernel_rfl) (by kernel_rfl) (by kernel_rfl) ?_
  refine WP.sx tysOk rfl ⟨⟨⟨rfl, rfl⟩, rfl⟩, ⟨⟩⟩ ?_
  refine WP.lx tysOk rfl ⟨⟨rfl, rfl⟩, rfl⟩ (CellAt.blk (.tail (.tail (.tail .head))) rfl) ?_
  refine WP.sx tysOk rfl ⟨⟨⟨rfl, rfl⟩, rfl⟩, ⟨⟩⟩ ?_
  refine WP.ixA tysOk rfl ⟨⟨rfl, rfl⟩, rfl⟩ rfl rfl rfl rfl rfl rfl rfl rfl hj3 (hs2.ex hj3) ?_
  intro b12 b12v hA12
  refine WP.mx_ tysOk rfl ⟨⟨rfl, rfl⟩, rfl⟩ (hs2.seg hA12 (Held.mem (List.Mem.tail _ (List.Mem.tail _ (List.Mem.tail _ (List.Mem.tail _ (List.Mem.tail _ (List.Mem.head _))))))) hj3) ?_
  refine WP.bld (cs := [iv ((gt x1.arcs (gt r1 0)).src), iv ((gt x1.arcs (gt r1 0)).dst), iv ((gt x1.arcs (gt r1 0)).low), iv ((gt x1.arcs (gt r1 0)).cap), iv ((gt x1.arcs (gt r1 0)).cost)]) tysOk rfl ⟨⟨rfl, rfl⟩, rfl⟩ rfl rfl rfl rfl rfl rfl rfl ?_
  refine WP.sx tysOk rfl ⟨⟨⟨rfl, rfl⟩, rfl⟩, ⟨⟩⟩ ?_
  refine WP.lx tysOk rfl ⟨⟨rfl, rfl⟩, rfl⟩ (CellAt.blk (.tail (.tail (.tail .head))) rfl) ?_
  refine WP.sx tysOk rfl ⟨⟨⟨rfl, rfl⟩, rfl⟩, ⟨⟩⟩ ?_
  refine WP.ixA tysOk rfl ⟨⟨rfl, rfl⟩, rfl⟩ rfl rfl rfl rfl rfl rfl rfl rfl hj4 (hs2.ex hj4) ?_
  intro b13 b13v hA13
  refine WP.mx_ tysOk rfl ⟨⟨rfl, rfl⟩, rfl⟩ (hs2.seg hA13 (Held.mem (List.Mem.tail _ (List.Mem.tail _ (List.Mem.tail _ (List.Mem.tail _ (List.Mem.tail _ (List.Mem.head _))))))) hj4) ?_
  refine WP.bld (cs := [iv ((gt x1.arcs (gt r1 1)).src), iv ((gt x1.arcs (gt r1 1)).dst), iv ((gt x1.arcs (gt r1 1)).low), iv ((gt x1.arcs (gt r1 1)).cap), iv ((gt x1.arcs (gt r1 1)).cost)]) tysOk rfl ⟨⟨rfl, rfl⟩, rfl⟩ rfl rfl rfl rfl rfl rfl rfl ?_
  iterate 2 (refine WP.sx tysOk rfl ⟨⟨⟨rfl, rfl⟩, rfl⟩, ⟨⟩⟩ ?_)
  refine WP.lx tysOk rfl ⟨⟨rfl, rfl⟩, rfl⟩ (CellAt.blk (.tail (.tail (.tail .head))) rfl) ?_
  refine WP.sx tysOk rfl ⟨⟨⟨rfl, rfl⟩, rfl⟩, ⟨⟩⟩ ?_
  refine WP.ixA tysOk rfl ⟨⟨rfl, rfl⟩, rfl⟩ rfl rfl rfl rfl rfl rfl rfl rfl hj6 (hs1.ex hj6) ?_
  intro b14 b14v hA14
  refine WP.lx tysOk rfl ⟨⟨rfl, rfl⟩, rfl⟩ (hs1.at0 hA14 (Held.mem (List.Mem.tail _ (List.Mem.tail _ (List.Mem.tail _ (List.Mem.tail _ (List.Mem.tail _ (List.Mem.head _))))))) hj6 rfl) ?_
  refine WP.bld (cs := [iv ((gt x1.arcs (gt r1 0)).src), iv ((gt x1.arcs (gt r1 0)).dst), iv ((gt x1.arcs (gt r1 0)).low), iv ((gt x1.arcs (gt r1 0)).cap), iv ((gt x1.arcs (gt r1 0)).cost), iv ((gt x1.arcs (gt r1 1)).src), iv ((gt x1.arcs (gt r1 1)).dst), iv ((gt x1.arcs (gt r1 1)).low), iv ((gt x1.arcs (gt r1 1)).cap), iv ((gt x1.arcs (gt r1 1)).cost), iv x2, iv (gt x1.supply x2)]) tysOk rfl ⟨⟨rfl, rfl⟩, rfl⟩ rfl rfl rfl rfl rfl rfl rfl ?_
  refine WP.lal tysOk rfl ⟨rfl, rfl⟩ rfl rfl rfl rfl rfl rfl rfl ?_
  intro g7
  refine WP.lend rfl ⟨rfl, rfl⟩ ?_
  refine WP.sto' tysOk [iv ((gt x1.arcs (gt r1 0)).src), iv ((gt x1.arcs (gt r1 0)).dst), iv ((gt x1.arcs (gt r1 0)).low), iv ((gt x1.arcs (gt r1 0)).cap), iv ((gt x1.arcs (gt r1 0)).cost), iv ((gt x1.arcs (gt r1 1)).src), iv ((gt x1.arcs (gt r1 1)).dst), iv ((gt x1.arcs (gt r1 1)).low), iv ((gt x1.arcs (gt r1 1)).cap), iv ((gt x1.arcs (gt r1 1)).cost), iv x2, iv (gt x1.supply x2)] rfl rfl rfl rfl rfl rfl rfl rfl rfl .head rfl rfl ?_
  refine WP.sx tysOk rfl ⟨⟨⟩, ⟨⟩⟩ ?_
  refine WP.lx tysOk rfl ⟨⟩ (CellAt.blk (.tail (.tail (.tail (.tail (.tail .head))))) rfl) ?_
  refine WP.mx_ tysOk rfl ⟨⟩ (SegAt.blk' .head rfl) ?_
  obtain ⟨r7, hg7, h⟩ := bind_some h
  refine WP.callV rfl rfl rfl rfl rfl rfl rfl (by kernel_rfl) (fun w1 hw1 => (two_pair_split_w hg7  :)) ⟨⟩ ?_
  refine WP.al tysOk rfl rfl rfl rfl rfl rfl ?_
  intro g8
  refine WP.sto' tysOk [iv r7.src, iv r7.dst, iv r7.low, iv r7.cap, iv r7.cost] rfl rfl rfl rfl rfl rfl rfl rfl rfl .head rfl rfl ?_
  refine WP.sx tysOk rfl ⟨⟨⟩, ⟨⟩⟩ ?_
  refine WP.lx tysOk rfl ⟨⟩ (CellAt.blk .head rfl) ?_
  refine WP.sx tysOk rfl ⟨⟨⟩, ⟨⟩⟩ ?_
  refine WP.lx tysOk rfl ⟨⟩ (CellAt.blk .head rfl) ?_
  refine WP.sx tysOk rfl ⟨⟨⟩, ⟨⟩⟩ ?_
  refine WP.cond_d rfl rfl (fun hh7 => ?_) (fun hh7 => ?_)
  ·rw [if_pos hh7] at h
   refine WP.bld (cs := [iv 0, iv 0, iv 0, iv 0, iv 0, iv 0, iv 0, iv 0]) tysOk rfl ⟨⟩ rfl rfl rfl rfl rfl rfl rfl ?_
   refine WP.bld (cs := [iv 0, iv 0, iv 0, iv 0, iv 0, iv 0, iv 0, iv 0, iv 0, iv 0, iv 0, iv 0]) tysOk rfl ⟨⟩ rfl rfl rfl rfl rfl rfl rfl ?_
   refine WP.sto' tysOk [iv 0, iv 0, iv 0, iv 0, iv 0, iv 0, iv 0, iv 0] rfl rfl rfl rfl rfl rfl rfl rfl rfl (.tail (.tail (.tail (.tail .head)))) rfl rfl ?_
   refine WP.sto' tysOk [iv 0, iv 0, iv 0, iv 0, iv 0, iv 0, iv 0, iv 0, iv 0, iv 0, iv 0, iv 0] rfl rfl rfl rfl rfl rfl rfl rfl rfl (.tail (.tail (.tail (.tail .head)))) rfl rfl ?_
   refine WP.sx tysOk rfl ⟨⟨⟩, ⟨⟩⟩ ?_
   cases h
   refine WP.retR tysOk rfl rfl ⟨_, _, _, _, rfl, ⟨_, rfl, .inr ⟨rfl, _, rfl, rfl, (SegAt.blk' (z := 8) (.tail .head) rfl).1⟩⟩, ⟨_, _, _, _, rfl, ⟨_, rfl, .inr ⟨rfl, _, rfl, rfl, (SegAt.blk' (z := 12) .head rfl).1⟩⟩, ⟨_, _, rfl, rfl, rfl⟩, rfl⟩, rfl⟩ (fun w1 hw1 => ⟨rfl, Ret.below_ hw1 (.cons (.tail (.tail (.tail (.tail (.tail (.tail (.tail .head))))))) .nil)⟩)
  rw [if_neg hh7] at h
  refine WP.join (α := Unit) (fun x => True) (fun x => [(8, .pointer (some ⟨g3, 0, none⟩)), (9, .pointer (some ⟨g4, 0, none⟩)), (10, .bool (true))]) (fun x => [.blk g4 66 [iv ((gt x1.arcs (gt r1 0)).src), iv ((gt x1.arcs (gt r1 0)).dst), iv ((gt x1.arcs (gt r1 0)).low), iv ((gt x1.arcs (gt r1 0)).cap), iv ((gt x1.arcs (gt r1 0)).cost), iv ((gt x1.arcs (gt r1 1)).src), iv ((gt x1.arcs (gt r1 1)).dst), iv ((gt x1.arcs (gt r1 1)).low), iv ((gt x1.arcs (gt r1 1)).cap), iv ((gt x1.arcs (gt r1 1)).cost), iv x2, iv (gt x1.supply x2)], .blk g3 39 [iv x2, iv (gt r1 0), iv (gt r1 1), iv r7.src, iv r7.dst, iv r7.low, iv r7.cap, iv r7.cost], .blk g8 34 [iv r7.src, iv r7.dst, iv r7.low, iv r7.cap, iv r7.cost], .blk g7 66 [iv ((gt x1.arcs (gt r1 0)).src), iv ((gt x1.arcs (gt r1 0)).dst), iv ((gt x1.arcs (gt r1 0)).low), iv ((gt x1.arcs (gt r1 0)).cap), iv ((gt x1.arcs (gt r1 0)).cost), iv ((gt x1.arcs (gt r1 1)).src), iv ((gt x1.arcs (gt r1 1)).dst), iv ((gt x1.arcs (gt r1 1)).low), iv ((gt x1.arcs (gt r1 1)).cap), iv ((gt x1.arcs (gt r1 1)).cost), iv x2, iv (gt x1.supply x2)], Ow (fI .i64) 3 A3 n1 c3 r1, .blk g2 25 [.slice A1 x1.supply.length c1, .slice A2 x1.arcs.length c2], .blk g1 72 [iv 9, .func (.func 46) #[] #[], .func (.func 47) #[] #[], .func (.func 48) #[] #[]], .fz (PH.of w)]) rfl ?_ ?_
  ·refine WP.drawA rfl (by kernel_rfl) ?_
   refine WP.anyP 0 tysOk putInv_body rfl rfl rfl (by kernel_rfl) (by kernel_rfl) rfl rfl rfl rfl rfl True.intro ?_
   refine WP.anyP 1 tysOk putInv_body rfl rfl rfl (by kernel_rfl) (by kernel_rfl) rfl rfl rfl rfl rfl True.intro ?_
   refine WP.anyP 2 tysOk putInv_body rfl rfl rfl (by kernel_rfl) (by kernel_rfl) rfl rfl rfl rfl rfl True.intro ?_
   refine WP.any2 3 5 rfl (by kernel_rfl) rfl rfl ?_ ?_
   ·refine WP.mx_ tysOk rfl ⟨⟩ (SegAt.blk' .head rfl) ?_
    refine WP.any2 4 5 rfl (by kernel_rfl) rfl rfl ?_ ?_
    ·refine WP.bld (cs := [iv x2, iv (gt r1 0), iv (gt r1 1), iv r7.src, iv r7.dst, iv r7.low, iv r7.cap, iv r7.cost]) tysOk rfl ⟨⟩ rfl rfl rfl rfl rfl rfl rfl ?_
     refine WP.any2 5 6 rfl (by kernel_rfl) rfl rfl ?_ ?_
     ·refine WP.mx_ tysOk rfl ⟨⟩ (SegAt.blk' (.tail .head) rfl) ?_
      refine WP.any1 6 rfl (by kernel_rfl) rfl ?_
      refine WP.sto' tysOk [iv x2, iv (gt r1 0), iv (gt r1 1), iv r7.src, iv r7.dst, iv r7.low, iv r7.cap, iv r7.cost] rfl rfl rfl rfl rfl rfl rfl rfl rfl (.tail (.tail (.tail (.tail .head)))) rfl rfl ?_
      refine WP.any1 7 rfl (by kernel_rfl) rfl ?_
      refine WP.sto' tysOk [iv ((gt x1.arcs (gt r1 0)).src), iv ((gt x1.arcs (gt r1 0)).dst), iv ((gt x1.arcs (gt r1 0)).low), iv ((gt x1.arcs (gt r1 0)).cap), iv ((gt x1.arcs (gt r1 0)).cost), iv ((gt x1.arcs (gt r1 1)).src), iv ((gt x1.arcs (gt r1 1)).dst), iv ((gt x1.arcs (gt r1 1)).low), iv ((gt x1.arcs (gt r1 1)).cap), iv ((gt x1.arcs (gt r1 1)).cost), iv x2, iv (gt x1.supply x2)] rfl rfl rfl rfl rfl rfl rfl rfl rfl (.tail (.tail (.tail (.tail .head)))) rfl rfl ?_
      refine WP.anyP 8 tysOk putInv_body rfl rfl rfl (by kernel_rfl) (by kernel_rfl) rfl rfl rfl rfl rfl True.intro ?_
      refine WP.any0 rfl (by kernel_rfl) ?_
      refine WP.stop rfl () True.intro ?_ ?_
      ·repeat first | exact ⟨⟩ | refine ⟨rfl, ?_⟩
      exact (.cons .head (.cons .head (.cons .head (.cons .head (.cons .head (.cons .head (.cons .head (.cons .head .nil))))))))
     refine WP.sto' tysOk [iv x2, iv (gt r1 0), iv (gt r1 1), iv r7.src, iv r7.dst, iv r7.low, iv r7.cap, iv r7.cost] rfl rfl rfl rfl rfl rfl rfl rfl rfl (.tail (.tail (.tail (.tail .head)))) rfl rfl ?_
     refine WP.any1 5 rfl (by kernel_rfl) rfl ?_
     refine WP.mx_ tysOk rfl ⟨⟩ (SegAt.blk' (.tail (.tail .head)) rfl) ?_
     refine WP.any1 7 rfl (by kernel_rfl) rfl ?_
     refine WP.sto' tysOk [iv ((gt x1.arcs (gt r1 0)).src), iv ((gt x1.arcs (gt r1 0)).dst), iv ((gt x1.arcs (gt r1 0)).low), iv ((gt x1.arcs (gt r1 0)).cap), iv ((gt x1.arcs (gt r1 0)).cost), iv ((gt x1.arcs (gt r1 1)).src), iv ((gt x1.arcs (gt r1 1)).dst), iv ((gt x1.arcs (gt r1 1)).low), iv ((gt x1.arcs (gt r1 1)).cap), iv ((gt x1.arcs (gt r1 1)).cost), iv x2, iv (gt x1.supply x2)] rfl rfl rfl rfl rfl rfl rfl rfl rfl (.tail (.tail (.tail (.tail .head)))) rfl rfl ?_
     refine WP.anyP 8 tysOk putInv_body rfl rfl rfl (by kernel_rfl) (by kernel_rfl) rfl rfl rfl rfl rfl True.intro ?_
     refine WP.any0 rfl (by kernel_rfl) ?_
     refine WP.stop rfl () True.intro ?_ ?_
     ·repeat first | exact ⟨⟩ | refine ⟨rfl, ?_⟩
     exact (.cons .head (.cons .head (.cons .head (.cons .head (.cons .head (.cons .head (.cons .head (.cons .head .nil))))))))
    refine WP.mx_ tysOk rfl ⟨⟩ (SegAt.blk' (.tail .head) rfl) ?_
    refine WP.any1 4 rfl (by kernel_rfl) rfl ?_
    refine WP.bld (cs := [iv x2, iv (gt r1 0), iv (gt r1 1), iv r7.src, iv r7.dst, iv r7.low, iv r7.cap, iv r7.cost]) tysOk rfl ⟨⟩ rfl rfl rfl rfl rfl rfl rfl ?_
    refine WP.any1 6 rfl (by kernel_rfl) rfl ?_
    refine WP.sto' tysOk [iv x2, iv (gt r1 0), iv (gt r1 1), iv r7.src, iv r7.dst, iv r7.low, iv r7.cap, iv r7.cost] rfl rfl rfl rfl rfl rfl rfl rfl rfl (.tail (.tail (.tail (.tail .head)))) rfl rfl ?_
    refine WP.any1 7 rfl (by kernel_rfl) rfl ?_
    refine WP.sto' tysOk [iv ((gt x1.arcs (gt r1 0)).src), iv ((gt x1.arcs (gt r1 0)).dst), iv ((gt x1.arcs (gt r1 0)).low), iv ((gt x1.arcs (gt r1 0)).cap), iv ((gt x1.arcs (gt r1 0)).cost), iv ((gt x1.arcs (gt r1 1)).src), iv ((gt x1.arcs (gt r1 1)).dst), iv ((gt x1.arcs (gt r1 1)).low), iv ((gt x1.arcs (gt r1 1)).cap), iv ((gt x1.arcs (gt r1 1)).cost), iv x2, iv (gt x1.supply x2)] rfl rfl rfl rfl rfl rfl rfl rfl rfl (.tail (.tail (.tail (.tail .head)))) rfl rfl ?_
    refine WP.anyP 8 tysOk putInv_body rfl rfl rfl (by kernel_rfl) (by kernel_rfl) rfl rfl rfl rfl rfl True.intro ?_
    refine WP.any0 rfl (by kernel_rfl) ?_
    refine WP.stop rfl () True.intro ?_ ?_
    ·repeat first | exact ⟨⟩ | refine ⟨rfl, ?_⟩
    exact (.cons .head (.cons .head (.cons .head (.cons .head (.cons .head (.cons .head (.cons .head (.cons .head .nil))))))))
   refine WP.mx_ tysOk rfl ⟨⟩ (SegAt.blk' (.tail .head) rfl) ?_
   refine WP.any1 3 rfl (by kernel_rfl) rfl ?_
   refine WP.mx_ tysOk rfl ⟨⟩ (SegAt.blk' .head rfl) ?_
   refine WP.any1 4 rfl (by kernel_rfl) rfl ?_
   refine WP.bld (cs := [iv x2, iv (gt r1 0), iv (gt r1 1), iv r7.src, iv r7.dst, iv r7.low, iv r7.cap, iv r7.cost]) tysOk rfl ⟨⟩ rfl rfl rfl rfl rfl rfl rfl ?_
   refine WP.any1 6 rfl (by kernel_rfl) rfl ?_
   refine WP.sto' tysOk [iv x2, iv (gt r1 0), iv (gt r1 1), iv r7.src, iv r7.dst, iv r7.low, iv r7.cap, iv r7.cost] rfl rfl rfl rfl rfl rfl rfl rfl rfl (.tail (.tail (.tail (.tail .head)))) rfl rfl ?_
   refine WP.any1 7 rfl (by kernel_rfl) rfl ?_
   refine WP.sto' tysOk [iv ((gt x1.arcs (gt r1 0)).src), iv ((gt x1.arcs (gt r1 0)).dst), iv ((gt x1.arcs (gt r1 0)).low), iv ((gt x1.arcs (gt r1 0)).cap), iv ((gt x1.arcs (gt r1 0)).cost), iv ((gt x1.arcs (gt r1 1)).src), iv ((gt x1.arcs (gt r1 1)).dst), iv ((gt x1.arcs (gt r1 1)).low), iv ((gt x1.arcs (gt r1 1)).cap), iv ((gt x1.arcs (gt r1 1)).cost), iv x2, iv (gt x1.supply x2)] rfl rfl rfl rfl rfl rfl rfl rfl rfl (.tail (.tail (.tail (.tail .head)))) rfl rfl ?_
   refine WP.anyP 8 tysOk putInv_body rfl rfl rfl (by kernel_rfl) (by kernel_rfl) rfl rfl rfl rfl rfl True.intro ?_
   refine WP.any0 rfl (by kernel_rfl) ?_
   refine WP.stop rfl () True.intro ?_ ?_
   ·repeat first | exact ⟨⟩ | refine ⟨rfl, ?_⟩
   exact (.cons .head (.cons .head (.cons .head (.cons .head (.cons .head (.cons .head (.cons .head (.cons .head .nil))))))))
  rintro _ _
  cases h
  refine WP.retR tysOk rfl rfl ⟨_, _, _, _, rfl, ⟨_, rfl, .inr ⟨rfl, _, rfl, rfl, (SegAt.blk' (z := 8) (.tail .head) rfl).1⟩⟩, ⟨_, _, _, _, rfl, ⟨_, rfl, .inr ⟨rfl, _, rfl, rfl, (SegAt.blk' (z := 12) .head rfl).1⟩⟩, ⟨_, _, rfl, rfl, rfl⟩, rfl⟩, rfl⟩ (fun w1 hw1 => ⟨rfl, Ret.below_ hw1 (.cons (.tail (.tail (.tail (.tail (.tail (.tail (.tail .head))))))) .nil)⟩)

set_option maxRecDepth 20000 in
set_option maxHeartbeats 8000000 in
theorem two_Split_w {w : World} {v0 : Value} {i1 : Inst} {n1 : Int} {r : Spot × Bool} (h : two_Split i1 n1 = some r) (p1 : InsZ (PH.of w) v0 i1) :
    Calls Tryz.prog 14 #[v0, iv n1] w fun e w' => e = .returned (.tuple #[.agg #[iv r.1.node, iv r.1.a, iv r.1.b, iv r.1.new.src, iv r.1.new.dst, iv r.1.new.low, iv r.1.new.cap, iv r.1.new.cost], .bool (r.2)]) ∧ Below w.heap.size w w' := by
  obtain ⟨A1, c1, A2, c2, rfl, hs1, hs2⟩ := p1
  unfold two_Split at h
  refine enter_ Tryz.func14 rfl Tryz.ntmps14 rfl ?_
  refine WP.box rfl rfl rfl rfl rfl rfl ?_
  intro g1
  refine WP.al tysOk rfl rfl rfl rfl rfl rfl ?_
  intro g2
  refine WP.sx tysOk rfl ⟨⟨⟩, ⟨⟩⟩ ?_
  obtain ⟨r1, hg1, h⟩ := bind_some h
  obtain ⟨r2, hg2, h⟩ := bind_some h
  refine WP.edges [(12, 8), (12, 9), (13, 9)] putInv_body rfl rfl (by kernel_rfl) (by kernel_rfl) ?_
  refine WP.heads [0, 1, 2, 3, 4, 5, 6, 7, 8, 9, 10, 11] [12, 13, 14] [(0, [], fun _ => constSpec (.agg #[iv 9, .func (.func 46) #[] #[], .func (.func 47) #[] #[], .func (.func 48) #[] #[]])), (2, [], fun _ => adj_New_S r1), (5, [2], fun _ => constSpec (.tuple #[.agg #[iv r2.1.node, iv r2.1.a, iv r2.1.b, iv r2.1.new.src, iv r2.1.new.dst, iv r2.1.new.low, iv r2.1.new.cap, iv r2.1.new.cost], .agg #[iv r2.2.1.x.src, iv r2.2.1.x.dst, iv r2.2.1.x.low, iv r2.2.1.x.cap, iv r2.2.1.x.cost, iv r2.2.1.y.src, iv r2.2.1.y.dst, iv r2.2.1.y.low, iv r2.2.1.y.cap, iv r2.2.1.y.cost, iv r2.2.1.n, iv r2.2.1.s], .bool (r2.2.2)])), (10, [], fun _ => blkSpec 39 [iv 0, iv 0, iv 0, iv 0, iv 0, iv 0, iv 0, iv 0]), (11, [], fun _ => blkSpec 66 [iv 0, iv 0, iv 0, iv 0, iv 0, iv 0, iv 0, iv 0, iv 0, iv 0, iv 0, iv 0])] rfl (by kernel_rfl) (by decide) rfl (by kernel_rfl) (by kernel_rfl) ?_
  refine WP.callV rfl rfl rfl rfl rfl rfl rfl (by kernel_rfl) (fun w1 hw1 => two_fork_w) ⟨⟨rfl, rfl⟩, rfl⟩ ?_
  refine WP.mx_ tysOk rfl ⟨⟨rfl, rfl⟩, rfl⟩ (SegAt.blk' (.tail .head) rfl) ?_
  refine WP.lcall rfl ⟨rfl, rfl⟩ rfl rfl rfl rfl rfl rfl rfl (by kernel_rfl) (fun w1 hw1 => (adj_New_w hg1 (InsZ.mk_ ((hs1.le' ((Held.mem (List.Mem.tail _ (List.Mem.tail _ (List.Mem.head _)))) _ _ hw1)).of) ((hs2.le' ((Held.mem (List.Mem.tail _ (List.Mem.tail _ (List.Mem.head _)))) _ _ hw1)).of)) :)) ?_
  rintro vg1 _ ⟨Zn1, hgr1, rfl⟩
  obtain ⟨gg1, rfl⟩ := hgr1.ptr'
  refine WP.mx_ tysOk rfl ⟨⟨rfl, rfl⟩, rfl⟩ (SegAt.blk' (.tail .head) rfl) ?_
  refine WP.sx tysOk rfl ⟨⟨⟨rfl, rfl⟩, rfl⟩, ⟨⟩⟩ ?_
  refine WP.lcall rfl ⟨rfl, rfl⟩ rfl rfl rfl rfl rfl rfl rfl (by kernel_rfl) (fun w1 hw1 => ((two_shape_at_2_w hg2 (hgr1.le ((Held.mem (List.Mem.head _)) _ _ hw1)) (InsZ.mk_ ((hs1.le' ((Held.mem (List.Mem.tail _ (List.Mem.tail _ (List.Mem.tail _ (List.Mem.head _))))) _ _ hw1)).of) ((hs2.le' ((Held.mem (List.Mem.tail _ (List.Mem.tail _ (List.Mem.tail _ (List.Mem.head _))))) _ _ hw1)).of)) :)).mono fun e w' h => ⟨_, [], h.1, ⟨rfl, rfl⟩, Ret.nil h.2⟩) ?_
  rintro _ _ ⟨rfl, rfl⟩
  iterate 4 (refine WP.sx tysOk rfl ⟨⟨⟨rfl, rfl⟩, rfl⟩, ⟨⟩⟩ ?_)
  refine WP.lal tysOk rfl ⟨rfl, rfl⟩ rfl rfl rfl rfl rfl rfl rfl ?_
  intro g3
  refine WP.lal tysOk rfl ⟨rfl, rfl⟩ rfl rfl rfl rfl rfl rfl rfl ?_
  intro g4
  refine WP.lend rfl ⟨rfl, rfl⟩ ?_
  refine WP.joinA (α := Unit) (fun x => True) (fun x => [(4, .pointer (some ⟨g2, 0, none⟩)), (6, .pointer (some ⟨g3, 0, none⟩)), (8, .bool (r2.2.2))]) (fun x => [.blk g4 66 [iv r2.2.1.x.src, iv r2.2.1.x.dst, iv r2.2.1.x.low, iv r2.2.1.x.cap, iv r2.2.1.x.cost, iv r2.2.1.y.src, iv r2.2.1.y.dst, iv r2.2.1.y.low, iv r2.2.1.y.cap, iv r2.2.1.y.cost, iv r2.2.1.n, iv r2.2.1.s], .blk g3 39 [iv r2.1.node, iv r2.1.a, iv r2.1.b, iv r2.1.new.src, iv r2.1.new.dst, iv r2.1.new.low, iv r2.1.new.cap, iv r2.1.new.cost], .fz Zn1, .blk g2 39 [iv 0, iv 0, iv 0, iv 0, iv 0, iv 0, iv 0, iv 0], .blk g1 25 [.slice A1 i1.supply.length c1, .slice A2 i1.arcs.length c2], .fz (PH.of w)]) rfl ?_ ?_
  ·refine WP.any1 12 rfl (by kernel_rfl) rfl ?_
   refine WP.sto' tysOk [iv r2.1.node, iv r2.1.a, iv r2.1.b, iv r2.1.new.src, iv r2.1.new.dst, iv r2.1.new.low, iv r2.1.new.cap, iv r2.1.new.cost] rfl rfl rfl rfl rfl rfl rfl rfl rfl (.tail .head) rfl rfl ?_
   refine WP.any1 13 rfl (by kernel_rfl) rfl ?_
   refine WP.sto' tysOk [iv r2.2.1.x.src, iv r2.2.1.x.dst, iv r2.2.1.x.low, iv r2.2.1.x.cap, iv r2.2.1.x.cost, iv r2.2.1.y.src, iv r2.2.1.y.dst, iv r2.2.1.y.low, iv r2.2.1.y.cap, iv r2.2.1.y.cost, iv r2.2.1.n, iv r2.2.1.s] rfl rfl rfl rfl rfl rfl rfl rfl rfl (.tail .head) rfl rfl ?_
   refine WP.anyP 14 tysOk putInv_body rfl rfl rfl (by kernel_rfl) (by kernel_rfl) rfl rfl rfl rfl rfl True.intro ?_
   refine WP.any0 rfl (by kernel_rfl) ?_
   refine WP.stop rfl () True.intro ?_ ?_
   ·repeat first | exact ⟨⟩ | refine ⟨rfl, ?_⟩
   exact (.cons .head (.cons .head (.cons .head (.cons .head (.cons .head (.cons .head .nil))))))
  rintro _ _
  refine WP.mx_ tysOk rfl ⟨⟩ (SegAt.blk' (.tail .head) rfl) ?_
  refine WP.sx tysOk rfl ⟨⟨⟩, ⟨⟩⟩ ?_
  refine WP.sto' tysOk [iv r2.1.node, iv r2.1.a, iv r2.1.b, iv r2.1.new.src, iv r2.1.new.dst, iv r2.1.new.low, iv r2.1.new.cap, iv r2.1.new.cost] rfl rfl rfl rfl rfl rfl rfl rfl rfl (.tail (.tail (.tail .head))) rfl rfl ?_
  refine WP.sx tysOk rfl ⟨⟨⟩, ⟨⟩⟩ ?_
  cases h
  refine WP.retR tysOk rfl rfl ⟨_, _, _, _, rfl, ⟨_, rfl, .inr ⟨rfl, _, rfl, rfl, (SegAt.blk' (z := 8) .head rfl).1⟩⟩, ⟨_, _, rfl, rfl, rfl⟩, rfl⟩ (fun w1 hw1 => ⟨rfl, Ret.below_ hw1 (.cons (.tail (.tail (.tail (.tail (.tail .head))))) .nil)⟩)

set_option maxRecDepth 20000 in
set_option maxHeartbeats 8000000 in
theorem inst_wrong_1_1_w {w : World} {gg1 : Nat} {n1 : Int} {x1 : Int} {r : Bool} (h : inst_wrong_1_1 n1 x1 = some r) (hb1 : Zc (PH.of w) gg1 0 = some (iv x1)) :
    Calls Tryz.prog 91 #[iv n1, .pointer (some ⟨gg1, 0, none⟩)] w fun e w' => e = .returned (.bool (r)) ∧ Below w.heap.size w w' := by
  unfold inst_wrong_1_1 at h
  refine enter_ Tryz.func91 rfl Tryz.ntmps91 rfl ?_
  iterate 4 (refine WP.sx tysOk rfl ⟨⟨⟩, ⟨⟩⟩ ?_)
  by_cases hh1 : 0 ≤ n1
  ·rw [if_pos hh1] at h
   refine WP.yes rfl rfl (decide_eq_true hh1) ?_
   refine WP.sx tysOk rfl ⟨⟨⟩, ⟨⟩⟩ ?_
   refine WP.yes rfl rfl rfl ?_
   refine WP.lx tysOk rfl ⟨⟩ (Held.cell (Held.mem (List.Mem.head _)) hb1) ?_
   refine WP.yes rfl rfl rfl ?_
   iterate 3 (refine WP.sx tysOk rfl ⟨⟨⟩, ⟨⟩⟩ ?_)
   cases h
   refine WP.retR tysOk rfl rfl ⟨_, _, rfl, rfl, rfl⟩ (fun w1 hw1 => ⟨rfl, Ret.below_ hw1 (.cons .head .nil)⟩)
  rw [if_neg hh1] at h
  refine WP.no rfl rfl (decide_eq_false hh1) rfl rfl ?_
  iterate 2 (refine WP.no rfl rfl rfl rfl rfl ?_)
  iterate 2 (refine WP.sx tysOk rfl ⟨⟨⟩, ⟨⟩⟩ ?_)
  cases h
  refine WP.retR tysOk rfl rfl ⟨_, _, rfl, rfl, rfl⟩ (fun w1 hw1 => ⟨rfl, Ret.below_ hw1 (.cons .head .nil)⟩)

set_option maxRecDepth 20000 in
set_option maxHeartbeats 8000000 in
theorem inst_within_w {w : World} {n1 : Int} {r : Bool} (h : inst_within n1 = some r) :
    Calls Tryz.prog 72 #[iv n1] w fun e w' => e = .returned (.bool (r)) ∧ Below w.heap.size w w' := by
  unfold inst_within at h
  refine enter_ Tryz.func72 rfl Tryz.ntmps72 rfl ?_
  iterate 4 (refine WP.sx tysOk rfl ⟨⟨⟩, ⟨⟩⟩ ?_)
  by_cases hh1 : (-4398046511104) ≤ n1
  ·rw [if_pos hh1] at h
   refine WP.yes rfl rfl (decide_eq_true hh1) ?_
   refine WP.sx tysOk rfl ⟨⟨⟩, ⟨⟩⟩ ?_
   refine WP.yes rfl rfl rfl ?_
   iterate 3 (refine WP.sx tysOk rfl ⟨⟨⟩, ⟨⟩⟩ ?_)
   cases h
   refine WP.retR tysOk rfl rfl ⟨_, _, rfl, rfl, rfl⟩ (fun w1 hw1 => ⟨rfl, Ret.below_ hw1 (.cons .head .nil)⟩)
  rw [if_neg hh1] at h
  refine WP.no rfl rfl (decide_eq_false hh1) rfl rfl ?_
  refine WP.no rfl rfl rfl rfl rfl ?_
  iterate 2 (refine WP.sx tysOk rfl ⟨⟨⟩, ⟨⟩⟩ ?_)
  cases h
  refine WP.retR tysOk rfl rfl ⟨_, _, rfl, rfl, rfl⟩ (fun w1 hw1 => ⟨rfl, Ret.below_ hw1 (.cons .head .nil)⟩)

set_option maxRecDepth 20000 in
set_option maxHeartbeats 8000000 in
theorem inst_wrong_w {w : World} {a1 : Arc} {nodes1 : Int} {r : Int} (h : inst_wrong a1 nodes1 = some r) :
    Calls Tryz.prog 71 #[.agg #[iv a1.src, iv a1.dst, iv a1.low, iv a1.cap, iv a1.cost], iv nodes1] w fun e w' => e = .returned (.int .u16 (r)) ∧ Below w.heap.size w w' := by
  unfold inst_wrong at h
  refine enter_ Tryz.func71 rfl Tryz.ntmps71 rfl ?_
  refine WP.box rfl rfl rfl rfl rfl rfl ?_
  intro g1
  refine WP.box rfl rfl rfl rfl rfl rfl ?_
  intro g2
  iterate 5 (refine WP.sx tysOk rfl ⟨⟨⟩, ⟨⟩⟩ ?_)
  refine WP.lx tysOk rfl ⟨⟩ (CellAt.blk (.tail .head) rfl) ?_
  obtain ⟨r1, hg1, h⟩ := bind_some h
  refine WP.callV rfl rfl rfl rfl rfl rfl rfl (by kernel_rfl) (fun w1 hw1 => (inst_wrong_1_1_w hg1 (KH.zcb hw1 .head rfl) :)) ⟨⟩ ?_
  iterate 2 (refine WP.sx tysOk rfl ⟨⟨⟩, ⟨⟩⟩ ?_)
  refine WP.cond_n rfl rfl (fun hh1 => ?_) (fun hh1 => ?_)
  ·rw [if_neg (bneg hh1)] at h
   refine WP.cond_n rfl rfl (fun _ => ?_) (fun hh' => absurd hh' (bneg hh1))
   refine WP.sx tysOk rfl ⟨⟨⟩, ⟨⟩⟩ ?_
   cases h
   refine WP.retR tysOk rfl rfl ⟨_, _, rfl, rfl, rfl⟩ (fun w1 hw1 => ⟨rfl, Ret.below_ hw1 (.cons (.tail (.tail .head)) .nil)⟩)
  rw [if_pos hh1] at h
  iterate 2 (refine WP.sx tysOk rfl ⟨⟨⟩, ⟨⟩⟩ ?_)
  refine WP.lx tysOk rfl ⟨⟩ (CellAt.blk (.tail .head) rfl) ?_
  obtain ⟨r2, hg2, h⟩ := bind_some h
  refine WP.callV rfl rfl rfl rfl rfl rfl rfl (by kernel_rfl) (fun w1 hw1 => (inst_wrong_1_1_w hg2 (KH.zcb hw1 .head rfl) :)) ⟨⟩ ?_
  iterate 2 (refine WP.sx tysOk rfl ⟨⟨⟩, ⟨⟩⟩ ?_)
  refine WP.cond_n rfl rfl (fun hh2 => ?_) (fun hh2 => ?_)
  ·rw [if_neg (bneg hh2)] at h
   refine WP.sx tysOk rfl ⟨⟨⟩, ⟨⟩⟩ ?_
   cases h
   refine WP.retR tysOk rfl rfl ⟨_, _, rfl, rfl, rfl⟩ (fun w1 hw1 => ⟨rfl, Ret.below_ hw1 (.cons (.tail (.tail .head)) .nil)⟩)
  rw [if_pos hh2] at h
  refine WP.sx tysOk rfl ⟨⟨⟩, ⟨⟩⟩ ?_
  refine WP.lx tysOk rfl ⟨⟩ (CellAt.blk (.tail .head) rfl) ?_
  iterate 2 (refine WP.sx tysOk rfl ⟨⟨⟩, ⟨⟩⟩ ?_)
  refine WP.cond_d rfl rfl (fun hh3 => ?_) (fun hh3 => ?_)
  ·rw [if_pos hh3] at h
   refine WP.cond_d rfl rfl (fun _ => ?_) (fun hh' => (absurd hh3 hh'))
   refine WP.sx tysOk rfl ⟨⟨⟩, ⟨⟩⟩ ?_
   cases h
   refine WP.retR tysOk rfl rfl ⟨_, _, rfl, rfl, rfl⟩ (fun w1 hw1 => ⟨rfl, Ret.below_ hw1 (.cons (.tail (.tail .head)) .nil)⟩)
  rw [if_neg hh3] at h
  refine WP.sx tysOk rfl ⟨⟨⟩, ⟨⟩⟩ ?_
  refine WP.lx tysOk rfl ⟨⟩ (CellAt.blk (.tail .head) rfl) ?_
  iterate 2 (refine WP.sx tysOk rfl ⟨⟨⟩, ⟨⟩⟩ ?_)
  refine WP.cond_d rfl rfl (fun hh4 => ?_) (fun hh4 => ?_)
  ·rw [if_pos hh4] at h
   refine WP.cond_d rfl rfl (fun _ => ?_) (fun hh' => (absurd hh4 hh'))
   refine WP.sx tysOk rfl ⟨⟨⟩, ⟨⟩⟩ ?_
   cases h
   refine WP.retR tysOk rfl rfl ⟨_, _, rfl, rfl, rfl⟩ (fun w1 hw1 => ⟨rfl, Ret.below_ hw1 (.cons (.tail (.tail .head)) .nil)⟩)
  rw [if_neg hh4] at h
  refine WP.sx tysOk rfl ⟨⟨⟩, ⟨⟩⟩ ?_
  refine WP.lx tysOk rfl ⟨⟩ (CellAt.blk (.tail .head) rfl) ?_
  iterate 2 (refine WP.sx tysOk rfl ⟨⟨⟩, ⟨⟩⟩ ?_)
  by_cases hh5 : ¬ a1.cap = 4611686018427387904
  ·rw [if_pos hh5] at h
   refine WP.yes rfl rfl (decide_eq_true hh5) ?_
   refine WP.sx tysOk rfl ⟨⟨⟩, ⟨⟩⟩ ?_
   refine WP.yes rfl rfl rfl ?_
   refine WP.lx tysOk rfl ⟨⟩ (CellAt.blk (.tail .head) rfl) ?_
   refine WP.yes rfl rfl rfl ?_
   refine WP.sx tysOk rfl ⟨⟨⟩, ⟨⟩⟩ ?_
   refine WP.yes rfl rfl rfl ?_
   refine WP.lx tysOk rfl ⟨⟩ (CellAt.blk (.tail .head) rfl) ?_
   iterate 2 (refine WP.yes rfl rfl rfl ?_; refine WP.sx tysOk rfl ⟨⟨⟩, ⟨⟩⟩ ?_)
   by_cases hh6 : a1.cap < a1.low
   ·rw [if_pos hh6] at h
    refine WP.no rfl rfl (decide_eq_true hh6) rfl rfl ?_
    iterate 2 (refine WP.no rfl rfl rfl rfl rfl ?_)
    refine WP.yes rfl rfl rfl ?_
    iterate 3 (refine WP.sx tysOk rfl ⟨⟨⟩, ⟨⟩⟩ ?_)
    refine WP.condT rfl rfl ?_
    refine WP.sx tysOk rfl ⟨⟨⟩, ⟨⟩⟩ ?_
    cases h
    refine WP.retR tysOk rfl rfl ⟨_, _, rfl, rfl, rfl⟩ (fun w1 hw1 => ⟨rfl, Ret.below_ hw1 (.cons (.tail (.tail .head)) .nil)⟩)
   rw [if_neg hh6] at h
   refine WP.yes rfl rfl (decide_eq_false hh6) ?_
   refine WP.sx tysOk rfl ⟨⟨⟩, ⟨⟩⟩ ?_
   refine WP.yes rfl rfl rfl ?_
   refine WP.lx tysOk rfl ⟨⟩ (CellAt.blk (.tail .head) rfl) ?_
   refine WP.yes rfl rfl rfl ?_
   refine WP.sx tysOk rfl ⟨⟨⟩, ⟨⟩⟩ ?_
   refine WP.yes rfl rfl rfl ?_
   iterate 3 (refine WP.sx tysOk rfl ⟨⟨⟩, ⟨⟩⟩ ?_)
   refine WP.cond_d rfl rfl (fun hh7 => ?_) (fun hh7 => ?_)
   ·rw [if_pos hh7] at h
    refine WP.sx tysOk rfl ⟨⟨⟩, ⟨⟩⟩ ?_
    cases h
    refine WP.retR tysOk rfl rfl ⟨_, _, rfl, rfl, rfl⟩ (fun w1 hw1 => ⟨rfl, Ret.below_ hw1 (.cons (.tail (.tail .head)) .nil)⟩)
   rw [if_neg hh7] at h
   refine WP.sx tysOk rfl ⟨⟨⟩, ⟨⟩⟩ ?_
   refine WP.lx tysOk rfl ⟨⟩ (CellAt.blk (.tail .head) rfl) ?_
   obtain ⟨r3, hg3, h⟩ := bind_some h
   refine WP.callV rfl rfl rfl rfl rfl rfl rfl (by kernel_rfl) (fun w1 hw1 => (inst_within_w hg3  :)) ⟨⟩ ?_
   iterate 2 (refine WP.sx tysOk rfl ⟨⟨⟩, ⟨⟩⟩ ?_)
   refine WP.cond_n rfl rfl (fun hh8 => ?_) (fun hh8 => ?_)
   ·rw [if_neg (bneg hh8)] at h
    refine WP.sx tysOk rfl ⟨⟨⟩, ⟨⟩⟩ ?_
    cases h
    refine WP.retR tysOk rfl rfl ⟨_, _, rfl, rfl, rfl⟩ (fun w1 hw1 => ⟨rfl, Ret.below_ hw1 (.cons (.tail (.tail .head)) .nil)⟩)
   rw [if_pos hh8] at h
   refine WP.sx tysOk rfl ⟨⟨⟩, ⟨⟩⟩ ?_
   cases h
   refine WP.retR tysOk rfl rfl ⟨_, _, rfl, rfl, rfl⟩ (fun w1 hw1 => ⟨rfl, Ret.below_ hw1 (.cons (.tail (.tail .head)) .nil)⟩)
  rw [if_neg hh5] at h
  refine WP.no rfl rfl (decide_eq_false hh5) rfl rfl ?_
  iterate 5 (refine WP.no rfl rfl rfl rfl rfl ?_)
  iterate 3 (refine WP.noU rfl rfl rfl rfl ?_)
  refine WP.no rfl rfl rfl rfl rfl ?_
  iterate 2 (refine WP.sx tysOk rfl ⟨⟨⟩, ⟨⟩⟩ ?_)
  refine WP.condF rfl rfl ?_
  refine WP.sx tysOk rfl ⟨⟨⟩, ⟨⟩⟩ ?_
  refine WP.lx tysOk rfl ⟨⟩ (CellAt.blk (.tail .head) rfl) ?_
  obtain ⟨r4, hg4, h⟩ := bind_some h
  refine WP.callV rfl rfl rfl rfl rfl rfl rfl (by kernel_rfl) (fun w1 hw1 => (inst_within_w hg4  :)) ⟨⟩ ?_
  iterate 2 (refine WP.sx tysOk rfl ⟨⟨⟩, ⟨⟩⟩ ?_)
  refine WP.cond_n rfl rfl (fun hh9 => ?_) (fun hh9 => ?_)
  ·rw [if_neg (bneg hh9)] at h
   refine WP.sx tysOk rfl ⟨⟨⟩, ⟨⟩⟩ ?_
   cases h
   refine WP.retR tysOk rfl rfl ⟨_, _, rfl, rfl, rfl⟩ (fun w1 hw1 => ⟨rfl, Ret.below_ hw1 (.cons (.tail (.tail .head)) .nil)⟩)
  rw [if_pos hh9] at h
  refine WP.sx tysOk rfl ⟨⟨⟩, ⟨⟩⟩ ?_
  cases h
  refine WP.retR tysOk rfl rfl ⟨_, _, rfl, rfl, rfl⟩ (fun w1 hw1 => ⟨rfl, Ret.below_ hw1 (.cons (.tail (.tail .head)) .nil)⟩)

set_option maxRecDepth 20000 in
set_option maxHeartbeats 8000000 in
theorem inst_Right_w {w : World} {v0 : Value} {i1 : Inst} {r : Int} (h : inst_Right i1 = some r) (p1 : InsZ (PH.of w) v0 i1) :
    Calls Tryz.prog 49 #[v0] w fun e w' => e = .returned (.int .u16 (r)) ∧ Below w.heap.size w w' := by
  obtain ⟨A1, c1, A2, c2, rfl, hs1, hs2⟩ := p1
  unfold inst_Right at h
  refine enter_ Tryz.func49 rfl Tryz.ntmps49 rfl ?_
  refine WP.box rfl rfl rfl rfl rfl rfl ?_
  intro g1
  iterate 2 (refine WP.sx tysOk rfl ⟨⟨⟩, ⟨⟩⟩ ?_)
  refine WP.lx tysOk rfl ⟨⟩ (CellAt.blk .head rfl) ?_
  iterate 3 (refine WP.sx tysOk rfl ⟨⟨⟩, ⟨⟩⟩ ?_)
  by_cases hh1 : 64 < (i1.supply.length : Int)
  ·rw [if_pos hh1] at h
   refine WP.no rfl rfl (decide_eq_true hh1) rfl rfl ?_
   iterate 3 (refine WP.no rfl rfl rfl rfl rfl ?_)
   refine WP.sx tysOk rfl ⟨⟨⟩, ⟨⟩⟩ ?_
   refine WP.condT rfl rfl ?_
   refine WP.sx tysOk rfl ⟨⟨⟩, ⟨⟩⟩ ?_
   cases h
   refine WP.retR tysOk rfl rfl ⟨_, _, rfl, rfl, rfl⟩ (fun w1 hw1 => ⟨rfl, Ret.below_ hw1 (.cons (.tail .head) .nil)⟩)
  rw [if_neg hh1] at h
  refine WP.yes rfl rfl (decide_eq_false hh1) ?_
  refine WP.sx tysOk rfl ⟨⟨⟩, ⟨⟩⟩ ?_
  refine WP.yes rfl rfl rfl ?_
  refine WP.lx tysOk rfl ⟨⟩ (CellAt.blk .head rfl) ?_
  refine WP.yes rfl rfl rfl ?_
  refine WP.sx tysOk rfl ⟨⟨⟩, ⟨⟩⟩ ?_
  refine WP.yes rfl rfl rfl ?_
  iterate 2 (refine WP.sx tysOk rfl ⟨⟨⟩, ⟨⟩⟩ ?_)
  refine WP.cond_d rfl rfl (fun hh2 => ?_) (fun hh2 => ?_)
  ·rw [if_pos hh2] at h
   refine WP.sx tysOk rfl ⟨⟨⟩, ⟨⟩⟩ ?_
   cases h
   refine WP.retR tysOk rfl rfl ⟨_, _, rfl, rfl, rfl⟩ (fun w1 hw1 => ⟨rfl, Ret.below_ hw1 (.cons (.tail .head) .nil)⟩)
  rw [if_neg hh2] at h
  refine WP.sx tysOk rfl ⟨⟨⟩, ⟨⟩⟩ ?_
  refine WP.lx tysOk rfl ⟨⟩ (CellAt.blk .head rfl) ?_
  iterate 2 (refine WP.sx tysOk rfl ⟨⟨⟩, ⟨⟩⟩ ?_)
  refine WP.loop (α := Nat × Int) (fun x => lp (inst_Right_b1 i1) x.1 x.2 = some r) (fun x => [(1, .pointer (some ⟨g1, 0, none⟩)), (20, .slice A2 i1.arcs.length c2), (21, iv (i1.arcs.length : Int)), (22, iv x.2)]) (fun x => [.blk g1 25 [.slice A1 i1.supply.length c1, .slice A2 i1.arcs.length c2], .fz (PH.of w)]) (fun x => x.1) rfl (big, 0) h ?_ ?_ ?_
  ·repeat first | exact ⟨⟩ | refine ⟨rfl, ?_⟩
  ·exact (.cons .head (.cons .head .nil))
  rintro ⟨n3, s6⟩ h
  dsimp only at h ⊢
  rcases n3 with _ | n3
  · exact (lp_no h).elim
  replace h := lp_succ h
  unfold inst_Right_b1 at h
  try dsimp only at h
  refine WP.sx tysOk rfl ⟨⟨⟩, ⟨⟩⟩ ?_
  refine WP.cond_d rfl rfl (fun hh25 => ?_) (fun hh25 => ?_)
  ·rw [if_pos hh25] at h
   obtain ⟨hj9, h⟩ := ck_some h
   refine WP.ixA tysOk rfl ⟨⟩ rfl rfl rfl rfl rfl rfl rfl rfl hj9 (hs2.ex hj9) ?_
   intro b9 b9v hA9
   refine WP.mx_ tysOk rfl ⟨⟩ (hs2.seg hA9 (Held.mem (List.Mem.tail _ (List.Mem.head _))) hj9) ?_
   refine WP.al tysOk rfl rfl rfl rfl rfl rfl ?_
   intro g4
   refine WP.sto' tysOk [iv ((gt i1.arcs s6).src), iv ((gt i1.arcs s6).dst), iv ((gt i1.arcs s6).low), iv ((gt i1.arcs s6).cap), iv ((gt i1.arcs s6).cost)] rfl rfl rfl rfl rfl rfl rfl rfl rfl .head rfl rfl ?_
   refine WP.mx_ tysOk rfl ⟨⟩ (SegAt.blk' .head rfl) ?_
   refine WP.sx tysOk rfl ⟨⟨⟩, ⟨⟩⟩ ?_
   refine WP.lx tysOk rfl ⟨⟩ (CellAt.blk (.tail .head) rfl) ?_
   refine WP.sx tysOk rfl ⟨⟨⟩, ⟨⟩⟩ ?_
   obtain ⟨r9, hg9, h⟩ := bind_some h
   refine WP.callV rfl rfl rfl rfl rfl rfl rfl (by kernel_rfl) (fun w1 hw1 => (inst_wrong_w hg9  :)) ⟨⟩ ?_
   iterate 3 (refine WP.sx tysOk rfl ⟨⟨⟩, ⟨⟩⟩ ?_)
   refine WP.cond_d rfl rfl (fun hh26 => ?_) (fun hh26 => ?_)
   ·rw [if_pos hh26] at h
    iterate 2 (refine WP.sx tysOk rfl ⟨⟨⟩, ⟨⟩⟩ ?_)
    cases h
    refine WP.retR tysOk rfl rfl ⟨_, _, rfl, rfl, rfl⟩ (fun w1 hw1 => ⟨rfl, Ret.below_ hw1 (.cons (.tail (.tail .head)) .nil)⟩)
   rw [if_neg hh26] at h
   iterate 2 (refine WP.sx tysOk rfl ⟨⟨⟩, ⟨⟩⟩ ?_)
   refine WP.stop rfl (n3, w64 (s6 + 1)) ⟨h, Nat.lt_succ_self _⟩ ?_ ?_
   ·repeat first | exact ⟨⟩ | refine ⟨rfl, ?_⟩
   exact (.cons (.tail .head) (.cons (.tail .head) .nil))
  rw [if_neg hh25] at h
  iterate 2 (refine WP.sx tysOk rfl ⟨⟨⟩, ⟨⟩⟩ ?_)
  refine WP.lx tysOk rfl ⟨⟩ (CellAt.blk .head rfl) ?_
  iterate 2 (refine WP.sx tysOk rfl ⟨⟨⟩, ⟨⟩⟩ ?_)
  refine WP.loop (α := Nat × Int × Int) (fun x => lp (inst_Right_b2 i1) x.1 (x.2.1, x.2.2) = some r) (fun x => [(6, iv x.2.1), (36, .slice A1 i1.supply.length c1), (37, iv (i1.supply.length : Int)), (38, iv x.2.2)]) (fun x => [.fz (PH.of w)]) (fun x => x.1) rfl (big, 0, 0) h ?_ ?_ ?_
  ·repeat first | exact ⟨⟩ | refine ⟨rfl, ?_⟩
  ·exact (.cons (.tail .head) .nil)
  rintro ⟨n4, sum14, s8⟩ h
  dsimp only at h ⊢
  rcases n4 with _ | n4
  · exact (lp_no h).elim
  replace h := lp_succ h
  unfold inst_Right_b2 at h
  try dsimp only at h
  refine WP.sx tysOk rfl ⟨⟨⟩, ⟨⟩⟩ ?_
  refine WP.cond_d rfl rfl (fun hh33 => ?_) (fun hh33 => ?_)
  ·rw [if_pos hh33] at h
   obtain ⟨hj12, h⟩ := ck_some h
   refine WP.ixA tysOk rfl ⟨⟩ rfl rfl rfl rfl rfl rfl rfl rfl hj12 (hs1.ex hj12) ?_
   intro b12 b12v hA12
   refine WP.lx tysOk rfl ⟨⟩ (hs1.at0 hA12 (Held.mem (List.Mem.head _)) hj12 rfl) ?_
   iterate 2 (refine WP.sx tysOk rfl ⟨⟨⟩, ⟨⟩⟩ ?_)
   obtain ⟨r12, hg12, h⟩ := bind_some h
   refine WP.callV rfl rfl rfl rfl rfl rfl rfl (by kernel_rfl) (fun w1 hw1 => (inst_within_w hg12  :)) ⟨⟩ ?_
   refine WP.sx tysOk rfl ⟨⟨⟩, ⟨⟩⟩ ?_
   refine WP.cond_n rfl rfl (fun hh34 => ?_) (fun hh34 => ?_)
   ·rw [if_neg (bneg hh34)] at h
    refine WP.sx tysOk rfl ⟨⟨⟩, ⟨⟩⟩ ?_
    cases h
    refine WP.retR tysOk rfl rfl ⟨_, _, rfl, rfl, rfl⟩ (fun w1 hw1 => ⟨rfl, Ret.below_ hw1 (.cons .head .nil)⟩)
   rw [if_pos hh34] at h
   iterate 3 (refine WP.sx tysOk rfl ⟨⟨⟩, ⟨⟩⟩ ?_)
   obtain ⟨sum15, hx9, h⟩ := lt_some h
   refine WP.sx tysOk rfl ⟨⟨⟩, ⟨⟩⟩ ?_
   refine WP.retell (s := 6) (.int .i64 sum15) rfl (congrArg (Value.int .i64) hx9.symm) ?_
   iterate 2 (refine WP.sx tysOk rfl ⟨⟨⟩, ⟨⟩⟩ ?_)
   refine WP.stop rfl (n4, sum15, w64 (s8 + 1)) ⟨h, Nat.lt_succ_self _⟩ ?_ ?_
   ·repeat first | exact ⟨⟩ | refine ⟨rfl, ?_⟩
   exact (.cons .head .nil)
  rw [if_neg hh33] at h
  iterate 2 (refine WP.sx tysOk rfl ⟨⟨⟩, ⟨⟩⟩ ?_)
  refine WP.cond_d rfl rfl (fun hh35 => ?_) (fun hh35 => ?_)
  ·rw [if_pos hh35] at h
   refine WP.sx tysOk rfl ⟨⟨⟩, ⟨⟩⟩ ?_
   cases h
   refine WP.retR tysOk rfl rfl ⟨_, _, rfl, rfl, rfl⟩ (fun w1 hw1 => ⟨rfl, Ret.below_ hw1 (.cons .head .nil)⟩)
  rw [if_neg hh35] at h
  refine WP.sx tysOk rfl ⟨⟨⟩, ⟨⟩⟩ ?_
  cases h
  refine WP.retR tysOk rfl rfl ⟨_, _, rfl, rfl, rfl⟩ (fun w1 hw1 => ⟨rfl, Ret.below_ hw1 (.cons .head .nil)⟩)

abbrev inst_Copy_S (r : Inst) : Value → Heap → Prop := fun v L => ∃ (A1 : Option Addr) (n1 c1 : Nat) (A2 : Option Addr) (n2 c2 : Nat), v = .agg #[.slice A1 n1 c1, .slice A2 n2 c2] ∧ OwF A1 n1 r.supply ∧ OwF A2 n2 r.arcs ∧ L = [Ow (fI .i64) 2 A1 n1 c1 r.supply, Ow fA 34 A2 n2 c2 r.arcs]
set_option maxRecDepth 20000 in
set_option maxHeartbeats 8000000 in
theorem inst_Copy_w {w : World} {v0 : Value} {i1 : Inst} {r : Inst} (h : inst_Copy i1 = some r) (p1 : InsZ (PH.of w) v0 i1) :
    Calls Tryz.prog 42 #[v0] w fun e w' => ∃ v L, e = .returned v ∧ inst_Copy_S r v L ∧ Ret w w' L := by
  obtain ⟨A1, c1, A2, c2, rfl, hs1, hs2⟩ := p1
  unfold inst_Copy at h
  refine enter_ Tryz.func42 rfl Tryz.ntmps42 rfl ?_
  refine WP.box rfl rfl rfl rfl rfl rfl ?_
  intro g1
  refine WP.al tysOk rfl rfl rfl rfl rfl rfl ?_
  intro g2
  obtain ⟨r1, hg1, h⟩ := bind_some h
  obtain ⟨r2, hg2, h⟩ := bind_some h
  refine WP.drawL 7 [(2, [], fun _ => slices_Clone_int64_S r1), (5, [], fun _ => slices_Clone_api_Arc_S r2)] rfl (by kernel_rfl) (by kernel_rfl) (by kernel_rfl) ?_
  refine WP.sx tysOk rfl ⟨⟨⟨rfl, rfl⟩, rfl⟩, ⟨⟩⟩ ?_
  refine WP.lx tysOk rfl ⟨⟨rfl, rfl⟩, rfl⟩ (CellAt.blk (.tail .head) rfl) ?_
  refine WP.lcall rfl ⟨rfl, rfl⟩ rfl rfl rfl rfl rfl rfl rfl (by kernel_rfl) (fun w1 hw1 => (slices_Clone_int64_w hg1 (hs1.le' ((Held.mem (List.Mem.tail _ (List.Mem.tail _ (List.Mem.head _)))) _ _ hw1)).of :)) ?_
  rintro _ _ ⟨A3, n1, c3, rfl, hf1, rfl⟩
  refine WP.sx tysOk rfl ⟨⟨⟨rfl, rfl⟩, rfl⟩, ⟨⟩⟩ ?_
  refine WP.lx tysOk rfl ⟨⟨rfl, rfl⟩, rfl⟩ (CellAt.blk (.tail .head) rfl) ?_
  refine WP.lcall rfl ⟨rfl, rfl⟩ rfl rfl rfl rfl rfl rfl rfl (by kernel_rfl) (fun w1 hw1 => (slices_Clone_api_Arc_w hg2 (hs2.le' ((Held.mem (List.Mem.tail _ (List.Mem.tail _ (List.Mem.head _)))) _ _ hw1)).of :)) ?_
  rintro _ _ ⟨A4, n2, c4, rfl, hf2, rfl⟩
  refine WP.bld (cs := [.slice A3 n1 c3, .slice A4 n2 c4]) tysOk rfl ⟨⟨rfl, rfl⟩, rfl⟩ rfl rfl rfl rfl rfl rfl rfl ?_
  refine WP.lend rfl ⟨rfl, rfl⟩ ?_
  refine WP.sto' tysOk [.slice A3 n1 c3, .slice A4 n2 c4] rfl rfl rfl rfl rfl rfl rfl rfl rfl (.tail (.tail .head)) rfl rfl ?_
  cases h
  refine WP.retR tysOk rfl rfl ⟨_, _, _, _, rfl, ⟨_, rfl, .inr ⟨rfl, _, rfl, rfl, (SegAt.blk' (z := 2) .head rfl).1⟩⟩, rfl, rfl⟩ (fun w1 hw1 => ⟨_, _, rfl, ⟨A3, n1, c3, A4, n2, c4, rfl, hf1, hf2, rfl⟩, Ret.of_KH hw1 (.cons (.tail (.tail .head)) (.cons (.tail .head) (.cons (.tail (.tail .head)) .nil)))⟩)

abbrev inst_Kept_S (r : (List Int)) : Value → Heap → Prop := fun v L => ∃ (A1 : Option Addr) (n1 c1 : Nat), v = .slice A1 n1 c1 ∧ OwF A1 n1 r ∧ L = [Ow (fI .i64) 3 A1 n1 c1 r]
set_option maxRecDepth 20000 in
set_option maxHeartbeats 8000000 in
theorem inst_Kept_w {w : World} {v0 : Value} {off1 : List Bool} {n1 : Int} {r : (List Int)} (h : inst_Kept off1 n1 = some r) (p1 : SlF fB (PH.of w) v0 off1) :
    Calls Tryz.prog 74 #[v0, iv n1] w fun e w' => ∃ v L, e = .returned v ∧ inst_Kept_S r v L ∧ Ret w w' L := by
  obtain ⟨A1, c1, rfl, hs1⟩ := p1
  unfold inst_Kept at h
  refine enter_ Tryz.func74 rfl Tryz.ntmps74 rfl ?_
  iterate 3 (refine WP.sx tysOk rfl ⟨⟨⟩, ⟨⟩⟩ ?_)
  refine WP.mn rfl ⟨⟩ rfl rfl rfl rfl rfl rfl ?_
  refine WP.sx tysOk rfl ⟨⟨⟩, ⟨⟩⟩ ?_
  refine WP.own_nil 3 (fI .i64).z ?_
  refine WP.loop (α := Nat × Int × (List Int) × (Option Addr) × Nat × Nat) (fun x => lp (inst_Kept_b1 off1 n1) x.1 (x.2.1, x.2.2.1) = some r ∧ OwF x.2.2.2.1 x.2.2.2.2.1 x.2.2.1) (fun x => [(0, .slice A1 off1.length c1), (5, .slice x.2.2.2.1 x.2.2.2.2.1 x.2.2.2.2.2), (8, iv (if 1000 < n1 then 1000 else n1)), (9, iv x.2.1)]) (fun x => [Ow (fI .i64) 3 x.2.2.2.1 x.2.2.2.2.1 x.2.2.2.2.2 x.2.2.1, .fz (PH.of w)]) (fun x => x.1) rfl (big, 0, ([] : List Int), none, 0, 0) ⟨h, OwF.nil_⟩ ?_ ?_ ?_
  ·repeat first | exact ⟨⟩ | refine ⟨rfl, ?_⟩
  ·exact (.cons .head (.cons .head .nil))
  rintro ⟨n2, s3, xs10, A11, m2, c11⟩ ⟨h, hf18⟩
  dsimp only at h hf18 ⊢
  rcases n2 with _ | n2
  · exact (lp_no h).elim
  replace h := lp_succ h
  unfold inst_Kept_b1 at h
  try dsimp only at h
  refine WP.sx tysOk rfl ⟨⟨⟩, ⟨⟩⟩ ?_
  refine WP.cond_d rfl rfl (fun hh13 => ?_) (fun hh13 => ?_)
  ·rw [if_pos hh13] at h
   iterate 7 (refine WP.sx tysOk rfl ⟨⟨⟩, ⟨⟩⟩ ?_)
   by_cases hh14 : (off1.length : Int) ≤ s3
   ·rw [if_pos hh14] at h
    refine WP.no rfl rfl (decide_eq_true hh14) rfl rfl ?_
    iterate 4 (refine WP.no rfl rfl rfl rfl rfl ?_)
    refine WP.sx tysOk rfl ⟨⟨⟩, ⟨⟩⟩ ?_
    refine WP.condT rfl rfl ?_
    iterate 2 (refine WP.sx tysOk rfl ⟨⟨⟩, ⟨⟩⟩ ?_)
    refine WP.bsO (f := (fI .i64)) [s3] tysOk rfl rfl rfl rfl rfl rfl rfl rfl rfl rfl rfl rfl rfl rfl ?_
    intro g9 hf19
    obtain ⟨hl9, h⟩ := ck_some h
    obtain ⟨xs11, hz9, h⟩ := lt_some h
    refine WP.appO (f := (fI .i64)) (xs := xs10) (ys := [s3]) tysOk rfl rfl rfl rfl rfl rfl rfl rfl rfl rfl rfl rfl (.tail .head) hf18 hf19.len (OwS.app .head hf19) hl9 hz9 ?_
    intro A12 c12 hf20
    iterate 3 (refine WP.sx tysOk rfl ⟨⟨⟩, ⟨⟩⟩ ?_)
    refine WP.stop rfl (n2, w64 (s3 + 1), xs11, A12, xs11.length, c12) ⟨⟨h, hf20⟩, Nat.lt_succ_self _⟩ ?_ ?_
    ·repeat first | exact ⟨⟩ | refine ⟨rfl, ?_⟩
    exact (.cons .head (.cons (.tail .head) .nil))
   rw [if_neg hh14] at h
   refine WP.yes rfl rfl (decide_eq_false hh14) ?_
   iterate 2 (refine WP.sx tysOk rfl ⟨⟨⟩, ⟨⟩⟩ ?_; refine WP.yes rfl rfl rfl ?_)
   obtain ⟨hj5, h⟩ := ck_some h
   refine WP.ixA tysOk rfl ⟨⟩ rfl rfl rfl rfl rfl rfl rfl rfl hj5 (hs1.ex hj5) ?_
   intro b5 b5v hA5
   refine WP.yes rfl rfl rfl ?_
   refine WP.lx tysOk rfl ⟨⟩ (hs1.at0 hA5 (Held.mem (List.Mem.tail _ (List.Mem.head _))) hj5 rfl) ?_
   refine WP.yes rfl rfl rfl ?_
   iterate 2 (refine WP.sx tysOk rfl ⟨⟨⟩, ⟨⟩⟩ ?_)
   refine WP.cond_n rfl rfl (fun hh15 => ?_) (fun hh15 => ?_)
   ·rw [if_neg (bneg hh15)] at h
    iterate 2 (refine WP.sx tysOk rfl ⟨⟨⟩, ⟨⟩⟩ ?_)
    refine WP.bsO (f := (fI .i64)) [s3] tysOk rfl rfl rfl rfl rfl rfl rfl rfl rfl rfl rfl rfl rfl rfl ?_
    intro g10 hf21
    obtain ⟨hl10, h⟩ := ck_some h
    obtain ⟨xs12, hz10, h⟩ := lt_some h
    refine WP.appO (f := (fI .i64)) (xs := xs10) (ys := [s3]) tysOk rfl rfl rfl rfl rfl rfl rfl rfl rfl rfl rfl rfl (.tail .head) hf18 hf21.len (OwS.app .head hf21) hl10 hz10 ?_
    intro A13 c13 hf22
    iterate 3 (refine WP.sx tysOk rfl ⟨⟨⟩, ⟨⟩⟩ ?_)
    refine WP.stop rfl (n2, w64 (s3 + 1), xs12, A13, xs12.length, c13) ⟨⟨h, hf22⟩, Nat.lt_succ_self _⟩ ?_ ?_
    ·repeat first | exact ⟨⟩ | refine ⟨rfl, ?_⟩
    exact (.cons .head (.cons (.tail .head) .nil))
   rw [if_pos hh15] at h
   iterate 2 (refine WP.sx tysOk rfl ⟨⟨⟩, ⟨⟩⟩ ?_)
   refine WP.stop rfl (n2, w64 (s3 + 1), xs10, A11, m2, c11) ⟨⟨h, hf18⟩, Nat.lt_succ_self _⟩ ?_ ?_
   ·repeat first | exact ⟨⟩ | refine ⟨rfl, ?_⟩
   exact (.cons .head (.cons .head .nil))
  rw [if_neg hh13] at h
  iterate 2 (refine WP.sx tysOk rfl ⟨⟨⟩, ⟨⟩⟩ ?_)
  cases h
  refine WP.retR tysOk rfl rfl ⟨_, _, rfl, rfl, rfl⟩ (fun w1 hw1 => ⟨_, _, rfl, ⟨A11, m2, c11, rfl, hf18, rfl⟩, Ret.of_KH hw1 (.cons .head (.cons .head .nil))⟩)

abbrev inst_pick_int64_S (r : (List Int)) : Value → Heap → Prop := fun v L => ∃ (A1 : Option Addr) (n1 c1 : Nat), v = .slice A1 n1 c1 ∧ OwF A1 n1 r ∧ L = [Ow (fI .i64) 2 A1 n1 c1 r]
set_option maxRecDepth 20000 in
set_option maxHeartbeats 8000000 in
theorem inst_pick_int64_w {w : World} {v0 : Value} {v1 : Value} {l1 : List Int} {atv1 : List Int} {r : (List Int)} (h : inst_pick_int64 l1 atv1 = some r) (p1 : SlF (fI .i64) (PH.of w) v0 l1) (p2 : SlF (fI .i64) (PH.of w) v1 atv1) :
    Calls Tryz.prog 75 #[v0, v1] w fun e w' => ∃ v L, e = .returned v ∧ inst_pick_int64_S r v L ∧ Ret w w' L := by
  obtain ⟨A1, c1, rfl, hs1⟩ := p1
  obtain ⟨A2, c2, rfl, hs2⟩ := p2
  unfold inst_pick_int64 at h
  refine enter_ Tryz.func75 rfl Tryz.ntmps75 rfl ?_
  iterate 5 (refine WP.sx tysOk rfl ⟨⟨⟩, ⟨⟩⟩ ?_)
  refine WP.own_nil 2 (fI .i64).z ?_
  refine WP.loop (α := Nat × Int × (List Int) × (Option Addr) × Nat × Nat) (fun x => lp (inst_pick_int64_b1 l1 atv1) x.1 (x.2.1, x.2.2.1) = some r ∧ OwF x.2.2.2.1 x.2.2.2.2.1 x.2.2.1) (fun x => [(0, .slice A1 l1.length c1), (5, .slice x.2.2.2.1 x.2.2.2.2.1 x.2.2.2.2.2), (8, .slice A2 atv1.length c2), (9, iv (atv1.length : Int)), (10, iv x.2.1)]) (fun x => [Ow (fI .i64) 2 x.2.2.2.1 x.2.2.2.2.1 x.2.2.2.2.2 x.2.2.1, .fz (PH.of w)]) (fun x => x.1) rfl (big, 0, ([] : List Int), none, 0, 0) ⟨h, OwF.nil_⟩ ?_ ?_ ?_
  ·repeat first | exact ⟨⟩ | refine ⟨rfl, ?_⟩
  ·exact (.cons .head (.cons .head .nil))
  rintro ⟨n1, s3, xs6, A8, m2, c8⟩ ⟨h, hf10⟩
  dsimp only at h hf10 ⊢
  rcases n1 with _ | n1
  · exact (lp_no h).elim
  replace h := lp_succ h
  unfold inst_pick_int64_b1 at h
  try dsimp only at h
  refine WP.sx tysOk rfl ⟨⟨⟩, ⟨⟩⟩ ?_
  refine WP.cond_d rfl rfl (fun hh5 => ?_) (fun hh5 => ?_)
  ·rw [if_pos hh5] at h
   obtain ⟨hj9, h⟩ := ck_some h
   refine WP.ixA tysOk rfl ⟨⟩ rfl rfl rfl rfl rfl rfl rfl rfl hj9 (hs2.ex hj9) ?_
   intro b9 b9v hA9
   refine WP.lx tysOk rfl ⟨⟩ (hs2.at0 hA9 (Held.mem (List.Mem.tail _ (List.Mem.head _))) hj9 rfl) ?_
   iterate 4 (refine WP.sx tysOk rfl ⟨⟨⟩, ⟨⟩⟩ ?_)
   obtain ⟨hj10, h⟩ := ck_some h
   refine WP.ixA tysOk rfl ⟨⟩ rfl rfl rfl rfl rfl rfl rfl rfl hj10 (hs1.ex hj10) ?_
   intro b10 b10v hA10
   refine WP.lx tysOk rfl ⟨⟩ (hs1.at0 hA10 (Held.mem (List.Mem.tail _ (List.Mem.head _))) hj10 rfl) ?_
   refine WP.bsO (f := (fI .i64)) [(gt l1 (gt atv1 s3))] tysOk rfl rfl rfl rfl rfl rfl rfl rfl rfl rfl rfl rfl rfl rfl ?_
   intro g5 hf11
   obtain ⟨hl5, h⟩ := ck_some h
   obtain ⟨xs7, hz5, h⟩ := lt_some h
   refine WP.appO (f := (fI .i64)) (xs := xs6) (ys := [(gt l1 (gt atv1 s3))]) tysOk rfl rfl rfl rfl rfl rfl rfl rfl rfl rfl rfl rfl (.tail .head) hf10 hf11.len (OwS.app .head hf11) hl5 hz5 ?_
   intro A9 c9 hf12
   iterate 3 (refine WP.sx tysOk rfl ⟨⟨⟩, ⟨⟩⟩ ?_)
   refine WP.stop rfl (n1, w64 (s3 + 1), xs7, A9, xs7.length, c9) ⟨⟨h, hf12⟩, Nat.lt_succ_self _⟩ ?_ ?_
   ·repeat first | exact ⟨⟩ | refine ⟨rfl, ?_⟩
   exact (.cons .head (.cons (.tail .head) .nil))
  rw [if_neg hh5] at h
  iterate 2 (refine WP.sx tysOk rfl ⟨⟨⟩, ⟨⟩⟩ ?_)
  cases h
  refine WP.retR tysOk rfl rfl ⟨_, _, rfl, rfl, rfl⟩ (fun w1 hw1 => ⟨_, _, rfl, ⟨A8, m2, c8, rfl, hf10, rfl⟩, Ret.of_KH hw1 (.cons .head (.cons .head .nil))⟩)

abbrev inst_pick_api_Arc_S (r : (List Arc)) : Value → Heap → Prop := fun v L => ∃ (A1 : Option Addr) (n1 c1 : Nat), v = .slice A1 n1 c1 ∧ OwF A1 n1 r ∧ L = [Ow fA 34 A1 n1 c1 r]
set_option maxRecDepth 20000 in
set_option maxHeartbeats 8000000 in
theorem inst_pick_api_Arc_w {w : World} {v0 : Value} {v1 : Value} {l1 : List Arc} {atv1 : List Int} {r : (List Arc)} (h : inst_pick_api_Arc l1 atv1 = some r) (p1 : SlF fA (PH.of w) v0 l1) (p2 : SlF (fI .i64) (PH.of w) v1 atv1) :
    Calls Tryz.prog 76 #[v0, v1] w fun e w' => ∃ v L, e = .returned v ∧ inst_pick_api_Arc_S r v L ∧ Ret w w' L := by
  obtain ⟨A1, c1, rfl, hs1⟩ := p1
  obtain ⟨A2, c2, rfl, hs2⟩ := p2
  unfold inst_pick_api_Arc at h
  refine enter_ Tryz.func76 rfl Tryz.ntmps76 rfl ?_
  iterate 5 (refine WP.sx tysOk rfl ⟨⟨⟩, ⟨⟩⟩ ?_)
  refine WP.own_nil 34 fA.z ?_
  refine WP.loop (α := Nat × Int × (List Arc) × (Option Addr) × Nat × Nat) (fun x => lp (inst_pick_api_Arc_b1 l1 atv1) x.1 (x.2.1, x.2.2.1) = some r ∧ OwF x.2.2.2.1 x.2.2.2.2.1 x.2.2.1) (fun x => [(0, .slice A1 l1.length c1), (5, .slice x.2.2.2.1 x.2.2.2.2.1 x.2.2.2.2.2), (8, .slice A2 atv1.length c2), (9, iv (atv1.length : Int)), (10, iv x.2.1)]) (fun x => [Ow fA 34 x.2.2.2.1 x.2.2.2.2.1 x.2.2.2.2.2 x.2.2.1, .fz (PH.of w)]) (fun x => x.1) rfl (big, 0, ([] : List Arc), none, 0, 0) ⟨h, OwF.nil_⟩ ?_ ?_ ?_
  ·repeat first | exact ⟨⟩ | refine ⟨rfl, ?_⟩
  ·exact (.cons .head (.cons .head .nil))
  rintro ⟨n1, s3, xs6, A8, m2, c8⟩ ⟨h, hf10⟩
  dsimp only at h hf10 ⊢
  rcases n1 with _ | n1
  · exact (lp_no h).elim
  replace h := lp_succ h
  unfold inst_pick_api_Arc_b1 at h
  try dsimp only at h
  refine WP.sx tysOk rfl ⟨⟨⟩, ⟨⟩⟩ ?_
  refine WP.cond_d rfl rfl (fun hh5 => ?_) (fun hh5 => ?_)
  ·rw [if_pos hh5] at h
   obtain ⟨hj9, h⟩ := ck_some h
   refine WP.ixA tysOk rfl ⟨⟩ rfl rfl rfl rfl rfl rfl rfl rfl hj9 (hs2.ex hj9) ?_
   intro b9 b9v hA9
   refine WP.lx tysOk rfl ⟨⟩ (hs2.at0 hA9 (Held.mem (List.Mem.tail _ (List.Mem.head _))) hj9 rfl) ?_
   iterate 4 (refine WP.sx tysOk rfl ⟨⟨⟩, ⟨⟩⟩ ?_)
   obtain ⟨hj10, h⟩ := ck_some h
   refine WP.ixA tysOk rfl ⟨⟩ rfl rfl rfl rfl rfl rfl rfl rfl hj10 (hs1.ex hj10) ?_
   intro b10 b10v hA10
   refine WP.mx_ tysOk rfl ⟨⟩ (hs1.seg hA10 (Held.mem (List.Mem.tail _ (List.Mem.head _))) hj10) ?_
   refine WP.bsO (f := fA) [(gt l1 (gt atv1 s3))] tysOk rfl rfl rfl rfl rfl rfl rfl rfl rfl rfl rfl rfl rfl rfl ?_
   intro g5 hf11
   obtain ⟨hl5, h⟩ := ck_some h
   obtain ⟨xs7, hz5, h⟩ := lt_some h
   refine WP.appO (f := fA) (xs := xs6) (ys := [(gt l1 (gt atv1 s3))]) tysOk rfl rfl rfl rfl rfl rfl rfl rfl rfl rfl rfl rfl (.tail .head) hf10 hf11.len (OwS.app .head hf11) hl5 hz5 ?_
   intro A9 c9 hf12
   iterate 3 (refine WP.sx tysOk rfl ⟨⟨⟩, ⟨⟩⟩ ?_)
   refine WP.stop rfl (n1, w64 (s3 + 1), xs7, A9, xs7.length, c9) ⟨⟨h, hf12⟩, Nat.lt_succ_self _⟩ ?_ ?_
   ·repeat first | exact ⟨⟩ | refine ⟨rfl, ?_⟩
   exact (.cons .head (.cons (.tail .head) .nil))
  rw [if_neg hh5] at h
  iterate 2 (refine WP.sx tysOk rfl ⟨⟨⟩, ⟨⟩⟩ ?_)
  cases h
  refine WP.retR tysOk rfl rfl ⟨_, _, rfl, rfl, rfl⟩ (fun w1 hw1 => ⟨_, _, rfl, ⟨A8, m2, c8, rfl, hf10, rfl⟩, Ret.of_KH hw1 (.cons .head (.cons .head .nil))⟩)

set_option maxRecDepth 20000 in
set_option maxHeartbeats 8000000 in
theorem slices_Index_int_w {w : World} {v0 : Value} {s1 : List Int} {v1 : Int} {r : Int} (h : slices_Index_int s1 v1 = some r) (p1 : SlF (fI .i64) (PH.of w) v0 s1) :
    Calls Tryz.prog 77 #[v0, iv v1] w fun e w' => e = .returned (iv r) ∧ Below w.heap.size w w' := by
  obtain ⟨A1, c1, rfl, hs1⟩ := p1
  unfold slices_Index_int at h
  refine enter_ Tryz.func77 rfl Tryz.ntmps77 rfl ?_
  iterate 4 (refine WP.sx tysOk rfl ⟨⟨⟩, ⟨⟩⟩ ?_)
  refine WP.loop (α := Nat × Int) (fun x => lp (slices_Index_int_b1 s1 v1) x.1 x.2 = some r) (fun x => [(0, .slice A1 s1.length c1), (1, iv v1), (7, iv (s1.length : Int)), (8, iv x.2)]) (fun x => [.fz (PH.of w)]) (fun x => x.1) rfl (big, 0) h ?_ ?_ ?_
  ·repeat first | exact ⟨⟩ | refine ⟨rfl, ?_⟩
  ·exact (.cons .head .nil)
  rintro ⟨n1, s3⟩ h
  dsimp only at h ⊢
  rcases n1 with _ | n1
  · exact (lp_no h).elim
  replace h := lp_succ h
  unfold slices_Index_int_b1 at h
  try dsimp only at h
  refine WP.sx tysOk rfl ⟨⟨⟩, ⟨⟩⟩ ?_
  refine WP.cond_d rfl rfl (fun hh5 => ?_) (fun hh5 => ?_)
  ·rw [if_pos hh5] at h
   iterate 5 (refine WP.sx tysOk rfl ⟨⟨⟩, ⟨⟩⟩ ?_)
   obtain ⟨hj3, h⟩ := ck_some h
   refine WP.ixA tysOk rfl ⟨⟩ rfl rfl rfl rfl rfl rfl rfl rfl hj3 (hs1.ex hj3) ?_
   intro b3 b3v hA3
   refine WP.lx tysOk rfl ⟨⟩ (hs1.at0 hA3 (Held.mem (List.Mem.head _)) hj3 rfl) ?_
   refine WP.sx tysOk rfl ⟨⟨⟩, ⟨⟩⟩ ?_
   refine WP.cond_d rfl rfl (fun hh6 => ?_) (fun hh6 => ?_)
   ·rw [if_pos hh6] at h
    iterate 2 (refine WP.sx tysOk rfl ⟨⟨⟩, ⟨⟩⟩ ?_)
    cases h
    refine WP.retR tysOk rfl rfl ⟨_, _, rfl, rfl, rfl⟩ (fun w1 hw1 => ⟨rfl, Ret.below_ hw1 (.cons .head .nil)⟩)
   rw [if_neg hh6] at h
   iterate 2 (refine WP.sx tysOk rfl ⟨⟨⟩, ⟨⟩⟩ ?_)
   refine WP.stop rfl (n1, w64 (s3 + 1)) ⟨h, Nat.lt_succ_self _⟩ ?_ ?_
   ·repeat first | exact ⟨⟩ | refine ⟨rfl, ?_⟩
   exact (.cons .head .nil)
  rw [if_neg hh5] at h
  refine WP.sx tysOk rfl ⟨⟨⟩, ⟨⟩⟩ ?_
  cases h
  refine WP.retR tysOk rfl rfl ⟨_, _, rfl, rfl, rfl⟩ (fun w1 hw1 => ⟨rfl, Ret.below_ hw1 (.cons .head .nil)⟩)

abbrev inst_Without_S (r : Inst) : Value → Heap → Prop := fun v L => ∃ (A1 : Option Addr) (n1 c1 : Nat) (A2 : Option Addr) (n2 c2 : Nat), v = .agg #[.slice A1 n1 c1, .slice A2 n2 c2] ∧ OwF A1 n1 r.supply ∧ OwF A2 n2 r.arcs ∧ L = [Ow (fI .i64) 2 A1 n1 c1 r.supply, Ow fA 34 A2 n2 c2 r.arcs]
set_option maxRecDepth 20000 in
set_option maxHeartbeats 8000000 in
theorem inst_Without_w {w : World} {v0 : Value} {v1 : Value} {v2 : Value} {i1 : Inst} {nodes1 : List Bool} {arcs1 : List Bool} {r : Inst} (h : inst_Without i1 nodes1 arcs1 = some r) (p1 : InsZ (PH.of w) v0 i1) (p2 : SlF fB (PH.of w) v1 nodes1) (p3 : SlF fB (PH.of w) v2 arcs1) :
    Calls Tryz.prog 51 #[v0, v1, v2] w fun e w' => ∃ v L, e = .returned v ∧ inst_Without_S r v L ∧ Ret w w' L := by
  obtain ⟨A1, c1, A2, c2, rfl, hs1, hs2⟩ := p1
  obtain ⟨A3, c3, rfl, hs3⟩ := p2
  obtain ⟨A4, c4, rfl, hs4⟩ := p3
  unfold inst_Without at h
  refine enter_ Tryz.func51 rfl Tryz.ntmps51 rfl ?_
  refine WP.box rfl rfl rfl rfl rfl rfl ?_
  intro g1
  refine WP.al tysOk rfl rfl rfl rfl rfl rfl ?_
  intro g2
  iterate 2 (refine WP.sx tysOk rfl ⟨⟨⟩, ⟨⟩⟩ ?_)
  refine WP.lx tysOk rfl ⟨⟩ (CellAt.blk (.tail .head) rfl) ?_
  refine WP.sx tysOk rfl ⟨⟨⟩, ⟨⟩⟩ ?_
  obtain ⟨r1, hg1, h⟩ := bind_some h
  refine WP.callS (inst_Kept_S r1) rfl rfl rfl rfl rfl rfl rfl (by kernel_rfl) (fun w1 hw1 => (inst_Kept_w hg1 (hs3.le' ((Held.mem (List.Mem.tail _ (List.Mem.tail _ (List.Mem.head _)))) _ _ hw1)).of :)) ?_
  rintro _ _ ⟨A5, n1, c5, rfl, hf1, rfl⟩
  iterate 2 (refine WP.sx tysOk rfl ⟨⟨⟩, ⟨⟩⟩ ?_)
  refine WP.lx tysOk rfl ⟨⟩ (CellAt.blk (.tail (.tail .head)) rfl) ?_
  refine WP.sx tysOk rfl ⟨⟨⟩, ⟨⟩⟩ ?_
  obtain ⟨r2, hg2, h⟩ := bind_some h
  refine WP.callS (inst_pick_int64_S r2) rfl rfl rfl rfl rfl rfl rfl (by kernel_rfl) (fun w1 hw1 => (inst_pick_int64_w hg2 (hs1.le' ((Held.mem (List.Mem.tail _ (List.Mem.tail _ (List.Mem.tail _ (List.Mem.head _))))) _ _ hw1)).of (hw1.ow .head hf1) :)) ?_
  rintro _ _ ⟨A6, n2, c6, rfl, hf2, rfl⟩
  refine WP.bld (cs := [.slice A6 n2 c6, .slice none 0 0]) tysOk rfl ⟨⟩ rfl rfl rfl rfl rfl rfl rfl ?_
  refine WP.al tysOk rfl rfl rfl rfl rfl rfl ?_
  intro g3
  refine WP.sto' tysOk [.slice A6 n2 c6, .slice none 0 0] rfl rfl rfl rfl rfl rfl rfl rfl rfl .head rfl rfl ?_
  obtain ⟨r3, hg3, h⟩ := bind_some h
  obtain ⟨r4, hg4, h⟩ := bind_some h
  refine WP.drawL 10 [(6, [], fun _ => inst_Kept_S r3), (7, [6], fun _ => inst_pick_api_Arc_S r4)] rfl (by kernel_rfl) (by kernel_rfl) (by kernel_rfl) ?_
  refine WP.sx tysOk rfl ⟨⟨⟨rfl, rfl⟩, rfl⟩, ⟨⟩⟩ ?_
  refine WP.lx tysOk rfl ⟨⟨rfl, rfl⟩, rfl⟩ (CellAt.blk (.tail (.tail (.tail (.tail .head)))) rfl) ?_
  iterate 2 (refine WP.sx tysOk rfl ⟨⟨⟨rfl, rfl⟩, rfl⟩, ⟨⟩⟩ ?_)
  refine WP.lx tysOk rfl ⟨⟨rfl, rfl⟩, rfl⟩ (CellAt.blk (.tail (.tail (.tail (.tail .head)))) rfl) ?_
  refine WP.sx tysOk rfl ⟨⟨⟨rfl, rfl⟩, rfl⟩, ⟨⟩⟩ ?_
  refine WP.lcall rfl ⟨rfl, rfl⟩ rfl rfl rfl rfl rfl rfl rfl (by kernel_rfl) (fun w1 hw1 => (inst_Kept_w hg3 (hs4.le' ((Held.mem (List.Mem.tail _ (List.Mem.tail _ (List.Mem.tail _ (List.Mem.tail _ (List.Mem.tail _ (List.Mem.head _))))))) _ _ hw1)).of :)) ?_
  rintro _ _ ⟨A7, n3, c7, rfl, hf3, rfl⟩
  refine WP.lcall rfl ⟨rfl, rfl⟩ rfl rfl rfl rfl rfl rfl rfl (by kernel_rfl) (fun w1 hw1 => (inst_pick_api_Arc_w hg4 (hs2.le' ((Held.mem (List.Mem.tail _ (List.Mem.tail _ (List.Mem.tail _ (List.Mem.tail _ (List.Mem.tail _ (List.Mem.tail _ (List.Mem.head _)))))))) _ _ hw1)).of (hw1.ow .head hf3) :)) ?_
  rintro _ _ ⟨A8, n4, c8, rfl, hf4, rfl⟩
  refine WP.lenO (xs := r4) tysOk rfl ⟨⟨rfl, rfl⟩, rfl⟩ rfl rfl rfl rfl rfl rfl hf4 ?_
  refine WP.sx tysOk rfl ⟨⟨⟨rfl, rfl⟩, rfl⟩, ⟨⟩⟩ ?_
  refine WP.lend rfl ⟨rfl, rfl⟩ ?_
  refine WP.own_nil 34 fA.z ?_
  refine WP.loop (α := Nat × Int × (List Arc) × (Option Addr) × Nat × Nat) (fun x => lp (inst_Without_b1 r1 r2 r4) x.1 (x.2.1, x.2.2.1) = some r ∧ OwF x.2.2.2.1 x.2.2.2.2.1 x.2.2.1) (fun x => [(6, .pointer (some ⟨g2, 0, none⟩)), (7, .slice A5 n1 c5), (8, .pointer (some ⟨g3, 0, none⟩)), (28, .slice A8 n4 c8), (29, iv (r4.length : Int)), (30, iv x.2.1)]) (fun x => [Ow fA 34 x.2.2.2.1 x.2.2.2.2.1 x.2.2.2.2.2 x.2.2.1, Ow fA 34 A8 n4 c8 r4, .blk g3 25 [.slice A6 n2 c6, .slice x.2.2.2.1 x.2.2.2.2.1 x.2.2.2.2.2], Ow (fI .i64) 2 A6 n2 c6 r2, Ow (fI .i64) 3 A5 n1 c5 r1, .blk g2 25 [.slice none 0 0, .slice none 0 0], .fz (PH.of w)]) (fun x => x.1) rfl (big, 0, ([] : List Arc), none, 0, 0) ⟨h, OwF.nil_⟩ ?_ ?_ ?_
  ·repeat first | exact ⟨⟩ | refine ⟨rfl, ?_⟩
  ·exact (.cons .head (.cons .head (.cons (.tail .head) (.cons (.tail .head) (.cons (.tail .head) (.cons (.tail .head) (.cons (.tail (.tail .head)) .nil)))))))
  rintro ⟨n5, s3, xs5, A13, m2, c13⟩ ⟨h, hf12⟩
  dsimp only at h hf12 ⊢
  rcases n5 with _ | n5
  · exact (lp_no h).elim
  replace h := lp_succ h
  unfold inst_Without_b1 at h
  try dsimp only at h
  refine WP.sx tysOk rfl ⟨⟨⟩, ⟨⟩⟩ ?_
  refine WP.cond_d rfl rfl (fun hh10 => ?_) (fun hh10 => ?_)
  ·rw [if_pos hh10] at h
   obtain ⟨hj4, h⟩ := ck_some h
   refine WP.ixO tysOk rfl ⟨⟩ rfl rfl rfl rfl rfl rfl rfl rfl hf4 hj4 ?_
   intro b4 hA4
   refine WP.mx_ tysOk rfl ⟨⟩ (OwS.seg (.tail .head) hA4 hj4) ?_
   refine WP.al tysOk rfl rfl rfl rfl rfl rfl ?_
   intro g10
   refine WP.sto' tysOk [iv ((gt r4 s3).src), iv ((gt r4 s3).dst), iv ((gt r4 s3).low), iv ((gt r4 s3).cap), iv ((gt r4 s3).cost)] rfl rfl rfl rfl rfl rfl rfl rfl rfl .head rfl rfl ?_
   obtain ⟨r11, hg11, h⟩ := bind_some h
   obtain ⟨r12, hg12, h⟩ := bind_some h
   refine WP.drawL 9 [(3, [], fun _ => constSpec (iv r11)), (7, [], fun _ => constSpec (iv r12))] rfl (by kernel_rfl) (by kernel_rfl) (by kernel_rfl) ?_
   iterate 2 (refine WP.sx tysOk rfl ⟨⟨⟨rfl, rfl⟩, rfl⟩, ⟨⟩⟩ ?_)
   refine WP.lx tysOk rfl ⟨⟨rfl, rfl⟩, rfl⟩ (CellAt.blk .head rfl) ?_
   refine WP.callV rfl rfl rfl rfl rfl rfl rfl (by kernel_rfl) (fun w1 hw1 => (slices_Index_int_w hg11 (hw1.ow (.tail (.tail (.tail (.tail (.tail .head))))) hf1) :)) ⟨⟨rfl, rfl⟩, rfl⟩ ?_
   iterate 2 (refine WP.sx tysOk rfl ⟨⟨⟨rfl, rfl⟩, rfl⟩, ⟨⟩⟩ ?_)
   refine WP.lx tysOk rfl ⟨⟨rfl, rfl⟩, rfl⟩ (CellAt.blk .head rfl) ?_
   refine WP.callV rfl rfl rfl rfl rfl rfl rfl (by kernel_rfl) (fun w1 hw1 => (slices_Index_int_w hg12 (hw1.ow (.tail (.tail (.tail (.tail (.tail .head))))) hf1) :)) ⟨⟨rfl, rfl⟩, rfl⟩ ?_
   refine WP.sx tysOk rfl ⟨⟨⟨rfl, rfl⟩, rfl⟩, ⟨⟩⟩ ?_
   refine WP.lend rfl ⟨rfl, rfl⟩ ?_
   refine WP.sto' tysOk [iv r11, iv ((gt r4 s3).dst), iv ((gt r4 s3).low), iv ((gt r4 s3).cap), iv ((gt r4 s3).cost)] rfl rfl rfl rfl rfl rfl rfl rfl rfl .head rfl rfl ?_
   refine WP.sx tysOk rfl ⟨⟨⟩, ⟨⟩⟩ ?_
   refine WP.sto' tysOk [iv r11, iv r12, iv ((gt r4 s3).low), iv ((gt r4 s3).cap), iv ((gt r4 s3).cost)] rfl rfl rfl rfl rfl rfl rfl rfl rfl .head rfl rfl ?_
   refine WP.sx tysOk rfl ⟨⟨⟩, ⟨⟩⟩ ?_
   refine WP.lx tysOk rfl ⟨⟩ (CellAt.blk .head rfl) ?_
   iterate 2 (refine WP.sx tysOk rfl ⟨⟨⟩, ⟨⟩⟩ ?_)
   by_cases hh11 : 0 ≤ r11
   ·rw [if_pos hh11] at h
    refine WP.yes rfl rfl (decide_eq_true hh11) ?_
    refine WP.sx tysOk rfl ⟨⟨⟩, ⟨⟩⟩ ?_
    refine WP.yes rfl rfl rfl ?_
    refine WP.lx tysOk rfl ⟨⟩ (CellAt.blk .head rfl) ?_
    refine WP.yes rfl rfl rfl ?_
    iterate 2 (refine WP.sx tysOk rfl ⟨⟨⟩, ⟨⟩⟩ ?_)
    refine WP.cond_d rfl rfl (fun hh12 => ?_) (fun hh12 => ?_)
    ·rw [if_pos hh12] at h
     refine WP.sx tysOk rfl ⟨⟨⟩, ⟨⟩⟩ ?_
     refine WP.lx tysOk rfl ⟨⟩ (CellAt.blk (.tail (.tail (.tail .head))) rfl) ?_
     refine WP.mx_ tysOk rfl ⟨⟩ (SegAt.blk' .head rfl) ?_
     refine WP.bsO (f := fA) [(Arc.mk r11 r12 ((gt r4 s3).low) ((gt r4 s3).cap) ((gt r4 s3).cost))] tysOk rfl rfl rfl rfl rfl rfl rfl rfl rfl rfl rfl rfl rfl rfl ?_
     intro g11 hf13
     obtain ⟨hl4, h⟩ := ck_some h
     obtain ⟨xs6, hz4, h⟩ := lt_some h
     refine WP.appO (f := fA) (xs := xs5) (ys := [(Arc.mk r11 r12 ((gt r4 s3).low) ((gt r4 s3).cap) ((gt r4 s3).cost))]) tysOk rfl rfl rfl rfl rfl rfl rfl rfl rfl rfl rfl rfl (.tail (.tail .head)) hf12 hf13.len (OwS.app .head hf13) hl4 hz4 ?_
     intro A14 c14 hf14
     refine WP.sx tysOk rfl ⟨⟨⟩, ⟨⟩⟩ ?_
     refine WP.sto' tysOk [.slice A6 n2 c6, .slice A14 xs6.length c14] rfl rfl rfl rfl rfl rfl rfl rfl rfl (.tail (.tail (.tail (.tail .head)))) rfl rfl ?_
     iterate 2 (refine WP.sx tysOk rfl ⟨⟨⟩, ⟨⟩⟩ ?_)
     refine WP.stop rfl (n5, w64 (s3 + 1), xs6, A14, xs6.length, c14) ⟨⟨h, hf14⟩, Nat.lt_succ_self _⟩ ?_ ?_
     ·repeat first | exact ⟨⟩ | refine ⟨rfl, ?_⟩
     exact (.cons (.tail .head) (.cons (.tail (.tail (.tail .head))) (.cons .head (.cons (.tail (.tail .head)) (.cons (.tail (.tail .head)) (.cons (.tail (.tail .head)) (.cons (.tail (.tail .head)) .nil)))))))
    rw [if_neg hh12] at h
    iterate 2 (refine WP.sx tysOk rfl ⟨⟨⟩, ⟨⟩⟩ ?_)
    refine WP.stop rfl (n5, w64 (s3 + 1), xs5, A13, m2, c13) ⟨⟨h, hf12⟩, Nat.lt_succ_self _⟩ ?_ ?_
    ·repeat first | exact ⟨⟩ | refine ⟨rfl, ?_⟩
    exact (.cons (.tail .head) (.cons (.tail .head) (.cons (.tail .head) (.cons (.tail .head) (.cons (.tail .head) (.cons (.tail .head) (.cons (.tail .head) .nil)))))))
   rw [if_neg hh11] at h
   refine WP.no rfl rfl (decide_eq_false hh11) rfl rfl ?_
   iterate 2 (refine WP.no rfl rfl rfl rfl rfl ?_)
   refine WP.sx tysOk rfl ⟨⟨⟩, ⟨⟩⟩ ?_
   refine WP.condF rfl rfl ?_
   iterate 2 (refine WP.sx tysOk rfl ⟨⟨⟩, ⟨⟩⟩ ?_)
   refine WP.stop rfl (n5, w64 (s3 + 1), xs5, A13, m2, c13) ⟨⟨h, hf12⟩, Nat.lt_succ_self _⟩ ?_ ?_
   ·repeat first | exact ⟨⟩ | refine ⟨rfl, ?_⟩
   exact (.cons (.tail .head) (.cons (.tail .head) (.cons (.tail .head) (.cons (.tail .head) (.cons (.tail .head) (.cons (.tail .head) (.cons (.tail .head) .nil)))))))
  rw [if_neg hh10] at h
  refine WP.mx_ tysOk rfl ⟨⟩ (SegAt.blk' (.tail (.tail .head)) rfl) ?_
  refine WP.sto' tysOk [.slice A6 n2 c6, .slice A13 m2 c13] rfl rfl rfl rfl rfl rfl rfl rfl rfl (.tail (.tail (.tail (.tail (.tail .head))))) rfl rfl ?_
  cases h
  refine WP.retR tysOk rfl rfl ⟨_, _, _, _, rfl, ⟨_, rfl, .inr ⟨rfl, _, rfl, rfl, (SegAt.blk' (z := 2) .head rfl).1⟩⟩, rfl, rfl⟩ (fun w1 hw1 => ⟨_, _, rfl, ⟨A6, n2, c6, A13, m2, c13, rfl, hf2, hf12, rfl⟩, Ret.of_KH hw1 (.cons (.tail (.tail (.tail (.tail .head)))) (.cons (.tail .head) (.cons (.tail (.tail (.tail (.tail .head)))) .nil)))⟩)

set_option maxRecDepth 20000 in
set_option maxHeartbeats 8000000 in
theorem two_series_2_w {w : World} {p1 : Pair} {r : Int} (h : two_series_2 p1 = some r) :
    Calls Tryz.prog 39 #[.agg #[iv p1.x.src, iv p1.x.dst, iv p1.x.low, iv p1.x.cap, iv p1.x.cost, iv p1.y.src, iv p1.y.dst, iv p1.y.low, iv p1.y.cap, iv p1.y.cost, iv p1.n, iv p1.s]] w fun e w' => e = .returned (iv r) ∧ Below w.heap.size w w' := by
  unfold two_series_2 at h
  refine enter_ Tryz.func39 rfl Tryz.ntmps39 rfl ?_
  refine WP.box rfl rfl rfl rfl rfl rfl ?_
  intro g1
  iterate 2 (refine WP.sx tysOk rfl ⟨⟨⟩, ⟨⟩⟩ ?_)
  refine WP.lx tysOk rfl ⟨⟩ (CellAt.blk .head rfl) ?_
  refine WP.sx tysOk rfl ⟨⟨⟩, ⟨⟩⟩ ?_
  cases h
  refine WP.retR tysOk rfl rfl ⟨_, _, rfl, rfl, rfl⟩ (fun w1 hw1 => ⟨rfl, Ret.below_ hw1 (.cons (.tail .head) .nil)⟩)

set_option maxRecDepth 20000 in
set_option maxHeartbeats 8000000 in
theorem math_bits_Mul64_w {w : World} {x1 : Int} {y1 : Int} {r : Int × Int} (h : math_bits_Mul64 x1 y1 = some r) :
    Calls Tryz.prog 78 #[.int .u64 (x1), .int .u64 (y1)] w fun e w' => e = .returned (.tuple #[.int .u64 (r.1), .int .u64 (r.2)]) ∧ Below w.heap.size w w' := by
  unfold math_bits_Mul64 at h
  refine enter_ Tryz.func78 rfl Tryz.ntmps78 rfl ?_
  iterate 4 (refine WP.sx tysOk rfl ⟨⟨⟩, ⟨⟩⟩ ?_)
  obtain ⟨x01, hx1, h⟩ := lt_some h
  refine WP.sx tysOk rfl ⟨⟨⟩, ⟨⟩⟩ ?_
  refine WP.retell (s := 6) (.int .u64 x01) rfl (congrArg (Value.int .u64) hx1.symm) ?_
  refine WP.sx tysOk rfl ⟨⟨⟩, ⟨⟩⟩ ?_
  refine WP.sx tysOk rfl ⟨⟨⟩, (by decide)⟩ ?_
  obtain ⟨x11, hx2, h⟩ := lt_some h
  refine WP.sx tysOk rfl ⟨⟨⟩, ⟨⟩⟩ ?_
  refine WP.retell (s := 7) (.int .u64 x11) rfl (congrArg (Value.int .u64) hx2.symm) ?_
  iterate 2 (refine WP.sx tysOk rfl ⟨⟨⟩, ⟨⟩⟩ ?_)
  obtain ⟨y01, hx3, h⟩ := lt_some h
  refine WP.sx tysOk rfl ⟨⟨⟩, ⟨⟩⟩ ?_
  refine WP.retell (s := 8) (.int .u64 y01) rfl (congrArg (Value.int .u64) hx3.symm) ?_
  refine WP.sx tysOk rfl ⟨⟨⟩, ⟨⟩⟩ ?_
  refine WP.sx tysOk rfl ⟨⟨⟩, (by decide)⟩ ?_
  obtain ⟨y11, hx4, h⟩ := lt_some h
  refine WP.sx tysOk rfl ⟨⟨⟩, ⟨⟩⟩ ?_
  refine WP.retell (s := 9) (.int .u64 y11) rfl (congrArg (Value.int .u64) hx4.symm) ?_
  iterate 3 (refine WP.sx tysOk rfl ⟨⟨⟩, ⟨⟩⟩ ?_)
  obtain ⟨w01, hx5, h⟩ := lt_some h
  refine WP.sx tysOk rfl ⟨⟨⟩, ⟨⟩⟩ ?_
  refine WP.retell (s := 10) (.int .u64 w01) rfl (congrArg (Value.int .u64) hx5.symm) ?_
  iterate 4 (refine WP.sx tysOk rfl ⟨⟨⟩, ⟨⟩⟩ ?_)
  refine WP.sx tysOk rfl ⟨⟨⟩, (by decide)⟩ ?_
  refine WP.sx tysOk rfl ⟨⟨⟩, ⟨⟩⟩ ?_
  obtain ⟨t1, hx6, h⟩ := lt_some h
  refine WP.sx tysOk rfl ⟨⟨⟩, ⟨⟩⟩ ?_
  refine WP.retell (s := 11) (.int .u64 t1) rfl (congrArg (Value.int .u64) hx6.symm) ?_
  iterate 2 (refine WP.sx tysOk rfl ⟨⟨⟩, ⟨⟩⟩ ?_)
  obtain ⟨w11, hx7, h⟩ := lt_some h
  refine WP.sx tysOk rfl ⟨⟨⟩, ⟨⟩⟩ ?_
  refine WP.retell (s := 12) (.int .u64 w11) rfl (congrArg (Value.int .u64) hx7.symm) ?_
  refine WP.sx tysOk rfl ⟨⟨⟩, ⟨⟩⟩ ?_
  refine WP.sx tysOk rfl ⟨⟨⟩, (by decide)⟩ ?_
  obtain ⟨w21, hx8, h⟩ := lt_some h
  refine WP.sx tysOk rfl ⟨⟨⟩, ⟨⟩⟩ ?_
  refine WP.retell (s := 13) (.int .u64 w21) rfl (congrArg (Value.int .u64) hx8.symm) ?_
  iterate 5 (refine WP.sx tysOk rfl ⟨⟨⟩, ⟨⟩⟩ ?_)
  obtain ⟨w12, hx9, h⟩ := lt_some h
  refine WP.sx tysOk rfl ⟨⟨⟩, ⟨⟩⟩ ?_
  refine WP.retell (s := 12) (.int .u64 w12) rfl (congrArg (Value.int .u64) hx9.symm) ?_
  iterate 6 (refine WP.sx tysOk rfl ⟨⟨⟩, ⟨⟩⟩ ?_)
  refine WP.sx tysOk rfl ⟨⟨⟩, (by decide)⟩ ?_
  refine WP.sx tysOk rfl ⟨⟨⟩, ⟨⟩⟩ ?_
  obtain ⟨hi1, hx10, h⟩ := lt_some h
  refine WP.sx tysOk rfl ⟨⟨⟩, ⟨⟩⟩ ?_
  refine WP.retell (s := 4) (.int .u64 hi1) rfl (congrArg (Value.int .u64) hx10.symm) ?_
  iterate 3 (refine WP.sx tysOk rfl ⟨⟨⟩, ⟨⟩⟩ ?_)
  obtain ⟨lo1, hx11, h⟩ := lt_some h
  refine WP.sx tysOk rfl ⟨⟨⟩, ⟨⟩⟩ ?_
  refine WP.retell (s := 5) (.int .u64 lo1) rfl (congrArg (Value.int .u64) hx11.symm) ?_
  cases h
  refine WP.retR tysOk rfl rfl ⟨_, _, rfl, ⟨_, _, rfl, rfl, rfl⟩, rfl⟩ (fun w1 hw1 => ⟨rfl, Ret.below_ hw1 (.cons .head .nil)⟩)

set_option maxRecDepth 20000 in
set_option maxHeartbeats 8000000 in
theorem num_Times_w {w : World} {a1 : Int} {b1 : Int} {r : Wide} (h : num_Times a1 b1 = some r) :
    Calls Tryz.prog 52 #[iv a1, iv b1] w fun e w' => e = .returned (.agg #[iv r.hi, .int .u64 (r.lo)]) ∧ Below w.heap.size w w' := by
  unfold num_Times at h
  refine enter_ Tryz.func52 rfl Tryz.ntmps52 rfl ?_
  refine WP.al tysOk rfl rfl rfl rfl rfl rfl ?_
  intro g1
  iterate 4 (refine WP.sx tysOk rfl ⟨⟨⟩, ⟨⟩⟩ ?_)
  obtain ⟨r1, hg1, h⟩ := bind_some h
  refine WP.callV rfl rfl rfl rfl rfl rfl rfl (by kernel_rfl) (fun w1 hw1 => (math_bits_Mul64_w hg1  :)) ⟨⟩ ?_
  iterate 7 (refine WP.sx tysOk rfl ⟨⟨⟩, ⟨⟩⟩ ?_)
  refine WP.sx tysOk rfl ⟨⟨⟩, (by decide)⟩ ?_
  iterate 5 (refine WP.sx tysOk rfl ⟨⟨⟩, ⟨⟩⟩ ?_)
  obtain ⟨hi1, hx1, h⟩ := lt_some h
  refine WP.sx tysOk rfl ⟨⟨⟩, ⟨⟩⟩ ?_
  refine WP.retell (s := 5) (.int .u64 hi1) rfl (congrArg (Value.int .u64) hx1.symm) ?_
  iterate 2 (refine WP.sx tysOk rfl ⟨⟨⟩, ⟨⟩⟩ ?_)
  refine WP.sx tysOk rfl ⟨⟨⟩, (by decide)⟩ ?_
  iterate 5 (refine WP.sx tysOk rfl ⟨⟨⟩, ⟨⟩⟩ ?_)
  obtain ⟨hi2, hx2, h⟩ := lt_some h
  refine WP.sx tysOk rfl ⟨⟨⟩, ⟨⟩⟩ ?_
  refine WP.retell (s := 5) (.int .u64 hi2) rfl (congrArg (Value.int .u64) hx2.symm) ?_
  iterate 3 (refine WP.sx tysOk rfl ⟨⟨⟩, ⟨⟩⟩ ?_)
  refine WP.bld (cs := [iv (w64 (hi2)), .int .u64 (r1.2)]) tysOk rfl ⟨⟩ rfl rfl rfl rfl rfl rfl rfl ?_
  refine WP.sto' tysOk [iv (w64 (hi2)), .int .u64 (r1.2)] rfl rfl rfl rfl rfl rfl rfl rfl rfl .head rfl rfl ?_
  cases h
  refine WP.retR tysOk rfl rfl ⟨_, _, _, _, rfl, ⟨_, rfl, .inr ⟨rfl, _, rfl, rfl, (SegAt.blk' (z := 2) .head rfl).1⟩⟩, rfl, rfl⟩ (fun w1 hw1 => ⟨rfl, Ret.below_ hw1 (.cons (.tail .head) .nil)⟩)

abbrev two_shape_run_1_S (r : Step × Int) : Value → Heap → Prop := fun v L => ∃ (A1 : Option Addr) (n1 c1 : Nat) (A2 : Option Addr) (n2 c2 : Nat) (A3 : Option Addr) (n3 c3 : Nat) (A4 : Option Addr) (n4 c4 : Nat), v = .tuple #[.agg #[.slice A1 n1 c1, .slice A2 n2 c2, iv r.1.rcd.pass, .slice A3 n3 c3, .slice A4 n4 c4, iv r.1.off.hi, .int .u64 (r.1.off.lo), .bool (r.1.did)], .int .u16 (r.2)] ∧ OwF A1 n1 r.1.inst.supply ∧ OwF A2 n2 r.1.inst.arcs ∧ OwF A3 n3 r.1.rcd.was.supply ∧ OwF A4 n4 r.1.rcd.was.arcs ∧ L = [Ow (fI .i64) 2 A1 n1 c1 r.1.inst.supply, Ow fA 34 A2 n2 c2 r.1.inst.arcs, Ow (fI .i64) 2 A3 n3 c3 r.1.rcd.was.supply, Ow fA 34 A4 n4 c4 r.1.rcd.was.arcs]
set_option maxRecDepth 20000 in
set_option maxHeartbeats 8000000 in
theorem two_shape_run_1_w {w : World} {v0 : Value} {i1 : Inst} {r : Step × Int} (h : two_shape_run_1 i1 = some r) (p1 : InsZ (PH.of w) v0 i1) :
    Calls Tryz.prog 29 #[.agg #[iv 8, .func (.func 37) #[] #[], .func (.func 38) #[] #[], .func (.func 39) #[] #[]], v0] w fun e w' => ∃ v L, e = .returned v ∧ two_shape_run_1_S r v L ∧ Ret w w' L := by
  obtain ⟨A1, c1, A2, c2, rfl, hs1, hs2⟩ := p1
  unfold two_shape_run_1 at h
  refine enter_ Tryz.func29 rfl Tryz.ntmps29 rfl ?_
  refine WP.box rfl rfl rfl rfl rfl rfl ?_
  intro g1
  refine WP.box rfl rfl rfl rfl rfl rfl ?_
  intro g2
  refine WP.al tysOk rfl rfl rfl rfl rfl rfl ?_
  intro g3
  refine WP.sx tysOk rfl ⟨⟨⟩, ⟨⟩⟩ ?_
  refine WP.mx_ tysOk rfl ⟨⟩ (SegAt.blk' (.tail .head) rfl) ?_
  obtain ⟨r1, hg1, h⟩ := bind_some h
  refine WP.callV rfl rfl rfl rfl rfl rfl rfl (by kernel_rfl) (fun w1 hw1 => (inst_Right_w hg1 (InsZ.mk_ ((hs1.le' ((Held.mem (List.Mem.tail _ (List.Mem.tail _ (List.Mem.tail _ (List.Mem.head _))))) _ _ hw1)).of) ((hs2.le' ((Held.mem (List.Mem.tail _ (List.Mem.tail _ (List.Mem.tail _ (List.Mem.head _))))) _ _ hw1)).of)) :)) ⟨⟩ ?_
  iterate 3 (refine WP.sx tysOk rfl ⟨⟨⟩, ⟨⟩⟩ ?_)
  refine WP.cond_d rfl rfl (fun hh1 => ?_) (fun hh1 => ?_)
  ·rw [if_pos hh1] at h
   refine WP.bld (cs := [.slice none 0 0, .slice none 0 0, iv 0, .slice none 0 0, .slice none 0 0, iv 0, .int .u64 (0), .bool (false)]) tysOk rfl ⟨⟩ rfl rfl rfl rfl rfl rfl rfl ?_
   refine WP.sx tysOk rfl ⟨⟨⟩, ⟨⟩⟩ ?_
   refine WP.sto' tysOk [.slice none 0 0, .slice none 0 0, iv 0, .slice none 0 0, .slice none 0 0, iv 0, .int .u64 (0), .bool (false)] rfl rfl rfl rfl rfl rfl rfl rfl rfl .head rfl rfl ?_
   refine WP.sx tysOk rfl ⟨⟨⟩, ⟨⟩⟩ ?_
   cases h
   refine WP.own_nil 2 (fI .i64).z ?_
   refine WP.own_nil 34 fA.z ?_
   refine WP.own_nil 2 (fI .i64).z ?_
   refine WP.own_nil 34 fA.z ?_
   refine WP.retR tysOk rfl rfl ⟨_, _, _, _, rfl, ⟨_, rfl, .inr ⟨rfl, _, rfl, rfl, (SegAt.blk' (z := 8) (.tail (.tail (.tail (.tail .head)))) rfl).1⟩⟩, ⟨_, _, rfl, rfl, rfl⟩, rfl⟩ (fun w1 hw1 => ⟨_, _, rfl, ⟨none, 0, 0, none, 0, 0, none, 0, 0, none, 0, 0, rfl, OwF.nil_, OwF.nil_, OwF.nil_, OwF.nil_, rfl⟩, Ret.of_KH hw1 (.cons (.tail (.tail (.tail .head))) (.cons (.tail (.tail .head)) (.cons (.tail .head) (.cons .head (.cons (.tail (.tail (.tail .head))) .nil)))))⟩)
  rw [if_neg hh1] at h
  refine WP.mx_ tysOk rfl ⟨⟩ (SegAt.blk' (.tail .head) rfl) ?_
  obtain ⟨r2, hg2, h⟩ := bind_some h
  refine WP.callS (inst_Copy_S r2) rfl rfl rfl rfl rfl rfl rfl (by kernel_rfl) (fun w1 hw1 => (inst_Copy_w hg2 (InsZ.mk_ ((hs1.le' ((Held.mem (List.Mem.tail _ (List.Mem.tail _ (List.Mem.tail _ (List.Mem.head _))))) _ _ hw1)).of) ((hs2.le' ((Held.mem (List.Mem.tail _ (List.Mem.tail _ (List.Mem.tail _ (List.Mem.head _))))) _ _ hw1)).of)) :)) ?_
  rintro _ _ ⟨A3, n1, c3, A4, n2, c4, rfl, hf1, hf2, rfl⟩
  refine WP.al tysOk rfl rfl rfl rfl rfl rfl ?_
  intro g4
  refine WP.sto' tysOk [.slice A3 n1 c3, .slice A4 n2 c4] rfl rfl rfl rfl rfl rfl rfl rfl rfl .head rfl rfl ?_
  refine WP.mx_ tysOk rfl ⟨⟩ (SegAt.blk' (.tail (.tail (.tail (.tail .head)))) rfl) ?_
  obtain ⟨r3, hg3, h⟩ := bind_some h
  refine WP.callS (adj_New_S r3) rfl rfl rfl rfl rfl rfl rfl (by kernel_rfl) (fun w1 hw1 => (adj_New_w hg3 (InsZ.mk_ ((hs1.le' ((Held.mem (List.Mem.tail _ (List.Mem.tail _ (List.Mem.tail _ (List.Mem.tail _ (List.Mem.tail _ (List.Mem.tail _ (List.Mem.head _)))))))) _ _ hw1)).of) ((hs2.le' ((Held.mem (List.Mem.tail _ (List.Mem.tail _ (List.Mem.tail _ (List.Mem.tail _ (List.Mem.tail _ (List.Mem.tail _ (List.Mem.head _)))))))) _ _ hw1)).of)) :)) ?_
  rintro vg1 _ ⟨Zn1, hgr1, rfl⟩
  obtain ⟨gg1, rfl⟩ := hgr1.ptr'
  iterate 2 (refine WP.sx tysOk rfl ⟨⟨⟩, ⟨⟩⟩ ?_)
  refine WP.lx tysOk rfl ⟨⟩ (CellAt.blk (.tail (.tail (.tail (.tail (.tail .head))))) rfl) ?_
  iterate 2 (refine WP.sx tysOk rfl ⟨⟨⟩, ⟨⟩⟩ ?_)
  refine WP.loop (α := Nat × Int) (fun x => lp (two_shape_run_1_b1 i1 r2 r3) x.1 x.2 = some r) (fun x => [(2, .pointer (some ⟨g1, 0, none⟩)), (3, .pointer (some ⟨g2, 0, none⟩)), (4, .pointer (some ⟨g3, 0, none⟩)), (7, .pointer (some ⟨g4, 0, none⟩)), (8, .pointer (some ⟨gg1, 0, none⟩)), (27, iv (i1.supply.length : Int)), (28, iv x.2)]) (fun x => [.fz Zn1, .blk g4 25 [.slice A3 n1 c3, .slice A4 n2 c4], Ow (fI .i64) 2 A3 n1 c3 r2.supply, Ow fA 34 A4 n2 c4 r2.arcs, .blk g3 48 [.slice none 0 0, .slice none 0 0, iv 0, .slice none 0 0, .slice none 0 0, iv 0, .int .u64 (0), .bool (false)], .blk g2 25 [.slice A1 i1.supply.length c1, .slice A2 i1.arcs.length c2], .blk g1 72 [iv 8, .func (.func 37) #[] #[], .func (.func 38) #[] #[], .func (.func 39) #[] #[]], .fz (PH.of w)]) (fun x => x.1) rfl (big, 0) h ?_ ?_ ?_
  ·repeat first | exact ⟨⟩ | refine ⟨rfl, ?_⟩
  ·exact (.cons .head (.cons .head (.cons .head (.cons .head (.cons .head (.cons .head (.cons .head (.cons .head .nil))))))))
  rintro ⟨n11, s2⟩ h
  dsimp only at h ⊢
  rcases n11 with _ | n11
  · exact (lp_no h).elim
  replace h := lp_succ h
  unfold two_shape_run_1_b1 at h
  try dsimp only at h
  refine WP.sx tysOk rfl ⟨⟨⟩, ⟨⟩⟩ ?_
  refine WP.cond_d rfl rfl (fun hh8 => ?_) (fun hh8 => ?_)
  ·rw [if_pos hh8] at h
   iterate 2 (refine WP.sx tysOk rfl ⟨⟨⟩, ⟨⟩⟩ ?_)
   refine WP.mx_ tysOk rfl ⟨⟩ (SegAt.blk' (.tail (.tail (.tail (.tail (.tail (.tail .head)))))) rfl) ?_
   refine WP.sx tysOk rfl ⟨⟨⟩, ⟨⟩⟩ ?_
   refine WP.mx_ tysOk rfl ⟨⟩ (SegAt.blk' (.tail (.tail (.tail (.tail (.tail .head))))) rfl) ?_
   refine WP.sx tysOk rfl ⟨⟨⟩, ⟨⟩⟩ ?_
   obtain ⟨r18, hg18, h⟩ := bind_some h
   refine WP.callV rfl rfl rfl rfl rfl rfl rfl (by kernel_rfl) (fun w1 hw1 => (two_shape_at_1_w hg18 (hgr1.le ((Held.mem (List.Mem.head _)) _ _ hw1)) (InsZ.mk_ ((hs1.le' ((Held.mem (List.Mem.tail _ (List.Mem.tail _ (List.Mem.tail _ (List.Mem.tail _ (List.Mem.tail _ (List.Mem.tail _ (List.Mem.tail _ (List.Mem.head _))))))))) _ _ hw1)).of) ((hs2.le' ((Held.mem (List.Mem.tail _ (List.Mem.tail _ (List.Mem.tail _ (List.Mem.tail _ (List.Mem.tail _ (List.Mem.tail _ (List.Mem.tail _ (List.Mem.head _))))))))) _ _ hw1)).of)) :)) ⟨⟩ ?_
   iterate 4 (refine WP.sx tysOk rfl ⟨⟨⟩, ⟨⟩⟩ ?_)
   refine WP.al tysOk rfl rfl rfl rfl rfl rfl ?_
   intro g15
   refine WP.al tysOk rfl rfl rfl rfl rfl rfl ?_
   intro g16
   refine WP.sto' tysOk [iv r18.1.node, iv r18.1.a, iv r18.1.b, iv r18.1.new.src, iv r18.1.new.dst, iv r18.1.new.low, iv r18.1.new.cap, iv r18.1.new.cost] rfl rfl rfl rfl rfl rfl rfl rfl rfl (.tail .head) rfl rfl ?_
   refine WP.sto' tysOk [iv r18.2.1.x.src, iv r18.2.1.x.dst, iv r18.2.1.x.low, iv r18.2.1.x.cap, iv r18.2.1.x.cost, iv r18.2.1.y.src, iv r18.2.1.y.dst, iv r18.2.1.y.low, iv r18.2.1.y.cap, iv r18.2.1.y.cost, iv r18.2.1.n, iv r18.2.1.s] rfl rfl rfl rfl rfl rfl rfl rfl rfl (.tail .head) rfl rfl ?_
   iterate 3 (refine WP.sx tysOk rfl ⟨⟨⟩, ⟨⟩⟩ ?_)
   refine WP.cond_n rfl rfl (fun hh9 => ?_) (fun hh9 => ?_)
   ·rw [if_neg (bneg hh9)] at h
    iterate 2 (refine WP.sx tysOk rfl ⟨⟨⟩, ⟨⟩⟩ ?_)
    refine WP.stop rfl (n11, w64 (s2 + 1)) ⟨h, Nat.lt_succ_self _⟩ ?_ ?_
    ·repeat first | exact ⟨⟩ | refine ⟨rfl, ?_⟩
    exact (.cons (.tail (.tail .head)) (.cons (.tail (.tail .head)) (.cons (.tail (.tail .head)) (.cons (.tail (.tail .head)) (.cons (.tail (.tail .head)) (.cons (.tail (.tail .head)) (.cons (.tail (.tail .head)) (.cons (.tail (.tail .head)) .nil))))))))
   rw [if_pos hh9] at h
   refine WP.mx_ tysOk rfl ⟨⟩ (SegAt.blk' (.tail (.tail (.tail (.tail (.tail (.tail (.tail .head))))))) rfl) ?_
   obtain ⟨r19, hg19, h⟩ := bind_some h
   refine WP.callS (inst_Copy_S r19) rfl rfl rfl rfl rfl rfl rfl (by kernel_rfl) (fun w1 hw1 => (inst_Copy_w hg19 (InsZ.mk_ ((hs1.le' ((Held.mem (List.Mem.tail _ (List.Mem.tail _ (List.Mem.tail _ (List.Mem.tail _ (List.Mem.tail _ (List.Mem.tail _ (List.Mem.tail _ (List.Mem.tail _ (List.Mem.tail _ (List.Mem.head _))))))))))) _ _ hw1)).of) ((hs2.le' ((Held.mem (List.Mem.tail _ (List.Mem.tail _ (List.Mem.tail _ (List.Mem.tail _ (List.Mem.tail _ (List.Mem.tail _ (List.Mem.tail _ (List.Mem.tail _ (List.Mem.tail _ (List.Mem.head _))))))))))) _ _ hw1)).of)) :)) ?_
   rintro _ _ ⟨A15, n12, c15, A16, n13, c16, rfl, hf21, hf22, rfl⟩
   refine WP.al tysOk rfl rfl rfl rfl rfl rfl ?_
   intro g17
   refine WP.sto' tysOk [.slice A15 n12 c15, .slice A16 n13 c16] rfl rfl rfl rfl rfl rfl rfl rfl rfl .head rfl rfl ?_
   obtain ⟨r20, hg20, h⟩ := bind_some h
   obtain ⟨hj5, h⟩ := ck_some h
   refine WP.drawL 13 [(6, [], fun _ => constSpec (iv r20))] rfl (by kernel_rfl) (by kernel_rfl) (by kernel_rfl) ?_
   refine WP.sx tysOk rfl ⟨⟨⟨rfl, rfl⟩, rfl⟩, ⟨⟩⟩ ?_
   refine WP.lx tysOk rfl ⟨⟨rfl, rfl⟩, rfl⟩ (CellAt.blk .head rfl) ?_
   iterate 2 (refine WP.sx tysOk rfl ⟨⟨⟨rfl, rfl⟩, rfl⟩, ⟨⟩⟩ ?_)
   refine WP.lx tysOk rfl ⟨⟨rfl, rfl⟩, rfl⟩ (CellAt.blk (.tail (.tail (.tail (.tail .head)))) rfl) ?_
   refine WP.sx tysOk rfl ⟨⟨⟨rfl, rfl⟩, rfl⟩, ⟨⟩⟩ ?_
   refine WP.callV rfl rfl rfl rfl rfl rfl rfl (by kernel_rfl) (fun w1 hw1 => (adj_Graph_Other_w hg20 (hgr1.le ((Held.mem (List.Mem.tail _ (List.Mem.tail _ (List.Mem.tail _ (List.Mem.tail _ (List.Mem.tail _ (List.Mem.head _))))))) _ _ hw1)) :)) ⟨⟨rfl, rfl⟩, rfl⟩ ?_
   refine WP.ixO tysOk rfl ⟨⟨rfl, rfl⟩, rfl⟩ rfl rfl rfl rfl rfl rfl rfl rfl hf21 hj5 ?_
   intro b7 hA7
   refine WP.lx tysOk rfl ⟨⟨rfl, rfl⟩, rfl⟩ (OwS.at0 (.tail .head) hA7 hj5 rfl) ?_
   refine WP.sx tysOk rfl ⟨⟨⟨rfl, rfl⟩, rfl⟩, ⟨⟩⟩ ?_
   refine WP.lx tysOk rfl ⟨⟨rfl, rfl⟩, rfl⟩ (CellAt.blk (.tail (.tail (.tail .head))) rfl) ?_
   refine WP.sx tysOk rfl ⟨⟨⟨rfl, rfl⟩, rfl⟩, ⟨⟩⟩ ?_
   refine WP.ixO tysOk rfl ⟨⟨rfl, rfl⟩, rfl⟩ rfl rfl rfl rfl rfl rfl rfl rfl hf21 hj5 ?_
   intro b8 hA8
   refine WP.lend rfl ⟨rfl, rfl⟩ ?_
   obtain ⟨xs7, hx5, h⟩ := lt_some h
   refine WP.stoO (f := (fI .i64)) 0 (w64 ((gt r19.supply r20) + r18.2.1.s)) tysOk rfl rfl rfl rfl rfl rfl rfl rfl rfl (.tail .head) hA8 hf21 hj5 rfl rfl rfl hx5 ?_
   intro hf23
   refine WP.sx tysOk rfl ⟨⟨⟩, ⟨⟩⟩ ?_
   refine WP.lx tysOk rfl ⟨⟩ (CellAt.blk (.tail .head) rfl) ?_
   refine WP.sx tysOk rfl ⟨⟨⟩, ⟨⟩⟩ ?_
   refine WP.mx_ tysOk rfl ⟨⟩ (SegAt.blk' (.tail (.tail (.tail (.tail .head)))) rfl) ?_
   refine WP.bsO (f := fA) [r18.1.new] tysOk rfl rfl rfl rfl rfl rfl rfl rfl rfl rfl rfl rfl rfl rfl ?_
   intro g18 hf24
   obtain ⟨hl3, h⟩ := ck_some h
   obtain ⟨xs8, hz3, h⟩ := lt_some h
   refine WP.appO (f := fA) (xs := r19.arcs) (ys := [r18.1.new]) tysOk rfl rfl rfl rfl rfl rfl rfl rfl rfl rfl rfl rfl (.tail (.tail (.tail .head))) hf22 hf24.len (OwS.app .head hf24) hl3 hz3 ?_
   intro A17 c17 hf25
   refine WP.sx tysOk rfl ⟨⟨⟩, ⟨⟩⟩ ?_
   refine WP.sto' tysOk [.slice A15 n12 c15, .slice A17 xs8.length c17] rfl rfl rfl rfl rfl rfl rfl rfl rfl (.tail (.tail (.tail .head))) rfl rfl ?_
   refine WP.sx tysOk rfl ⟨⟨⟩, ⟨⟩⟩ ?_
   refine WP.lx tysOk rfl ⟨⟩ (CellAt.blk (.tail (.tail (.tail (.tail (.tail (.tail (.tail (.tail (.tail (.tail (.tail .head))))))))))) rfl) ?_
   refine WP.sx tysOk rfl ⟨⟨⟩, ⟨⟩⟩ ?_
   obtain ⟨hm3, h⟩ := ck_some h
   refine WP.mkO (f := fB) false tysOk rfl rfl rfl rfl rfl rfl rfl rfl rfl rfl rfl rfl hm3 ?_
   intro g19 hf26
   iterate 3 (refine WP.sx tysOk rfl ⟨⟨⟩, ⟨⟩⟩ ?_)
   obtain ⟨hj6, h⟩ := ck_some h
   refine WP.ixO tysOk rfl ⟨⟩ rfl rfl rfl rfl rfl rfl rfl rfl hf26 hj6 ?_
   intro b9 hA9
   obtain ⟨xs9, hx6, h⟩ := lt_some h
   refine WP.stoO (f := fB) 0 true tysOk rfl rfl rfl rfl rfl rfl rfl rfl rfl .head hA9 hf26 hj6 rfl rfl rfl hx6 ?_
   intro hf27
   refine WP.mx_ tysOk rfl ⟨⟩ (SegAt.blk' (.tail .head) rfl) ?_
   refine WP.sx tysOk rfl ⟨⟨⟩, ⟨⟩⟩ ?_
   obtain ⟨r21, hg21, h⟩ := bind_some h
   refine WP.callS (inst_Without_S r21) rfl rfl rfl rfl rfl rfl rfl (by kernel_rfl) (fun w1 hw1 => (inst_Without_w hg21 (InsZ.mk_ (hw1.ow (.tail (.tail (.tail (.tail .head)))) hf23) (hw1.ow (.tail (.tail .head)) hf25)) (hw1.ow .head hf27) SlF.nil_ :)) ?_
   rintro _ _ ⟨A18, n14, c18, A19, n15, c19, rfl, hf28, hf29, rfl⟩
   refine WP.sto' tysOk [.slice A18 n14 c18, .slice A19 n15 c19] rfl rfl rfl rfl rfl rfl rfl rfl rfl (.tail (.tail (.tail .head))) rfl rfl ?_
   refine WP.mx_ tysOk rfl ⟨⟩ (SegAt.blk' .head rfl) ?_
   obtain ⟨r22, hg22, h⟩ := bind_some h
   refine WP.callV rfl rfl rfl rfl rfl rfl rfl (by kernel_rfl) (fun w1 hw1 => (inst_Right_w hg22 (InsZ.mk_ (hw1.ow (.tail .head) hf28) (hw1.ow (.tail (.tail .head)) hf29)) :)) ⟨⟩ ?_
   refine WP.sx tysOk rfl ⟨⟨⟩, ⟨⟩⟩ ?_
   refine WP.cond_d rfl rfl (fun hh10 => ?_) (fun hh10 => ?_)
   ·rw [if_pos hh10] at h
    refine WP.bld (cs := [.slice none 0 0, .slice none 0 0, iv 0, .slice none 0 0, .slice none 0 0, iv 0, .int .u64 (0), .bool (false)]) tysOk rfl ⟨⟩ rfl rfl rfl rfl rfl rfl rfl ?_
    refine WP.sto' tysOk [.slice none 0 0, .slice none 0 0, iv 0, .slice none 0 0, .slice none 0 0, iv 0, .int .u64 (0), .bool (false)] rfl rfl rfl rfl rfl rfl rfl rfl rfl (.tail (.tail (.tail (.tail (.tail (.tail (.tail (.tail (.tail (.tail (.tail (.tail (.tail .head))))))))))))) rfl rfl ?_
    refine WP.sx tysOk rfl ⟨⟨⟩, ⟨⟩⟩ ?_
    cases h
    refine WP.own_nil 2 (fI .i64).z ?_
    refine WP.own_nil 34 fA.z ?_
    refine WP.own_nil 2 (fI .i64).z ?_
    refine WP.own_nil 34 fA.z ?_
    refine WP.retR tysOk rfl rfl ⟨_, _, _, _, rfl, ⟨_, rfl, .inr ⟨rfl, _, rfl, rfl, (SegAt.blk' (z := 8) (.tail (.tail (.tail (.tail .head)))) rfl).1⟩⟩, ⟨_, _, rfl, rfl, rfl⟩, rfl⟩ (fun w1 hw1 => ⟨_, _, rfl, ⟨none, 0, 0, none, 0, 0, none, 0, 0, none, 0, 0, rfl, OwF.nil_, OwF.nil_, OwF.nil_, OwF.nil_, rfl⟩, Ret.of_KH hw1 (.cons (.tail (.tail (.tail .head))) (.cons (.tail (.tail .head)) (.cons (.tail .head) (.cons .head (.cons (.tail (.tail (.tail (.tail (.tail (.tail (.tail (.tail (.tail (.tail (.tail (.tail (.tail (.tail (.tail (.tail .head)))))))))))))))) .nil)))))⟩)
   rw [if_neg hh10] at h
   obtain ⟨r23, hg23, h⟩ := bind_some h
   obtain ⟨r24, hg24, h⟩ := bind_some h
   refine WP.drawL 15 [(8, [], fun _ => constSpec (iv r23)), (13, [], fun _ => constSpec (.agg #[iv r24.hi, .int .u64 (r24.lo)]))] rfl (by kernel_rfl) (by kernel_rfl) (by kernel_rfl) ?_
   refine WP.mx_ tysOk rfl ⟨⟨rfl, rfl⟩, rfl⟩ (SegAt.blk' .head rfl) ?_
   refine WP.sx tysOk rfl ⟨⟨⟨rfl, rfl⟩, rfl⟩, ⟨⟩⟩ ?_
   refine WP.lx tysOk rfl ⟨⟨rfl, rfl⟩, rfl⟩ (CellAt.blk (.tail (.tail (.tail (.tail (.tail (.tail (.tail (.tail (.tail (.tail (.tail (.tail (.tail (.tail (.tail .head))))))))))))))) rfl) ?_
   refine WP.mx_ tysOk rfl ⟨⟨rfl, rfl⟩, rfl⟩ (SegAt.blk' (.tail (.tail (.tail (.tail (.tail (.tail (.tail (.tail (.tail (.tail .head)))))))))) rfl) ?_
   refine WP.bld (cs := [iv 8, .slice A3 n1 c3, .slice A4 n2 c4]) tysOk rfl ⟨⟨rfl, rfl⟩, rfl⟩ rfl rfl rfl rfl rfl rfl rfl ?_
   refine WP.sx tysOk rfl ⟨⟨⟨rfl, rfl⟩, rfl⟩, ⟨⟩⟩ ?_
   refine WP.lx tysOk rfl ⟨⟨rfl, rfl⟩, rfl⟩ (CellAt.blk (.tail (.tail (.tail (.tail (.tail (.tail (.tail (.tail (.tail (.tail (.tail (.tail (.tail (.tail (.tail .head))))))))))))))) rfl) ?_
   refine WP.mx_ tysOk rfl ⟨⟨rfl, rfl⟩, rfl⟩ (SegAt.blk' (.tail (.tail (.tail (.tail (.tail (.tail (.tail .head))))))) rfl) ?_
   refine WP.callV rfl rfl rfl rfl rfl rfl rfl (by kernel_rfl) (fun w1 hw1 => (two_series_2_w hg23  :)) ⟨⟨rfl, rfl⟩, rfl⟩ ?_
   iterate 3 (refine WP.sx tysOk rfl ⟨⟨⟨rfl, rfl⟩, rfl⟩, ⟨⟩⟩ ?_)
   refine WP.lx tysOk rfl ⟨⟨rfl, rfl⟩, rfl⟩ (CellAt.blk (.tail (.tail (.tail (.tail (.tail (.tail (.tail .head))))))) rfl) ?_
   refine WP.callV rfl rfl rfl rfl rfl rfl rfl (by kernel_rfl) (fun w1 hw1 => (num_Times_w hg24  :)) ⟨⟨rfl, rfl⟩, rfl⟩ ?_
   refine WP.bld (cs := [.slice A18 n14 c18, .slice A19 n15 c19, iv 8, .slice A3 n1 c3, .slice A4 n2 c4, iv r24.hi, .int .u64 (r24.lo), .bool (true)]) tysOk rfl ⟨⟨rfl, rfl⟩, rfl⟩ rfl rfl rfl rfl rfl rfl rfl ?_
   refine WP.lend rfl ⟨rfl, rfl⟩ ?_
   refine WP.sto' tysOk [.slice A18 n14 c18, .slice A19 n15 c19, iv 8, .slice A3 n1 c3, .slice A4 n2 c4, iv r24.hi, .int .u64 (r24.lo), .bool (true)] rfl rfl rfl rfl rfl rfl rfl rfl rfl (.tail (.tail (.tail (.tail (.tail (.tail (.tail (.tail (.tail (.tail (.tail (.tail (.tail .head))))))))))))) rfl rfl ?_
   refine WP.sx tysOk rfl ⟨⟨⟩, ⟨⟩⟩ ?_
   cases h
   refine WP.retR tysOk rfl rfl ⟨_, _, _, _, rfl, ⟨_, rfl, .inr ⟨rfl, _, rfl, rfl, (SegAt.blk' (z := 8) .head rfl).1⟩⟩, ⟨_, _, rfl, rfl, rfl⟩, rfl⟩ (fun w1 hw1 => ⟨_, _, rfl, ⟨A18, n14, c18, A19, n15, c19, A3, n1, c3, A4, n2, c4, rfl, hf28, hf29, hf1, hf2, rfl⟩, Ret.of_KH hw1 (.cons (.tail (.tail .head)) (.cons (.tail (.tail .head)) (.cons (.tail (.tail (.tail (.tail (.tail (.tail (.tail (.tail (.tail (.tail .head)))))))))) (.cons (.tail (.tail (.tail (.tail (.tail (.tail (.tail (.tail (.tail (.tail .head)))))))))) (.cons (.tail (.tail (.tail (.tail (.tail (.tail (.tail (.tail (.tail (.tail (.tail (.tail .head)))))))))))) .nil)))))⟩)
  rw [if_neg hh8] at h
  refine WP.mx_ tysOk rfl ⟨⟩ (SegAt.blk' (.tail .head) rfl) ?_
  refine WP.bld (cs := [.slice A3 n1 c3, .slice A4 n2 c4, iv 0, .slice none 0 0, .slice none 0 0, iv 0, .int .u64 (0), .bool (false)]) tysOk rfl ⟨⟩ rfl rfl rfl rfl rfl rfl rfl ?_
  refine WP.sto' tysOk [.slice A3 n1 c3, .slice A4 n2 c4, iv 0, .slice none 0 0, .slice none 0 0, iv 0, .int .u64 (0), .bool (false)] rfl rfl rfl rfl rfl rfl rfl rfl rfl (.tail (.tail (.tail (.tail .head)))) rfl rfl ?_
  refine WP.sx tysOk rfl ⟨⟨⟩, ⟨⟩⟩ ?_
  cases h
  refine WP.own_nil 2 (fI .i64).z ?_
  refine WP.own_nil 34 fA.z ?_
  refine WP.retR tysOk rfl rfl ⟨_, _, _, _, rfl, ⟨_, rfl, .inr ⟨rfl, _, rfl, rfl, (SegAt.blk' (z := 8) (.tail (.tail .head)) rfl).1⟩⟩, ⟨_, _, rfl, rfl, rfl⟩, rfl⟩ (fun w1 hw1 => ⟨_, _, rfl, ⟨A3, n1, c3, A4, n2, c4, none, 0, 0, none, 0, 0, rfl, hf1, hf2, OwF.nil_, OwF.nil_, rfl⟩, Ret.of_KH hw1 (.cons (.tail (.tail (.tail (.tail (.tail .head))))) (.cons (.tail (.tail (.tail (.tail (.tail .head))))) (.cons (.tail .head) (.cons .head (.cons (.tail (.tail (.tail (.tail (.tail .head))))) .nil)))))⟩)

abbrev two_Series_S (r : Step × Int) : Value → Heap → Prop := fun v L => ∃ (A1 : Option Addr) (n1 c1 : Nat) (A2 : Option Addr) (n2 c2 : Nat) (A3 : Option Addr) (n3 c3 : Nat) (A4 : Option Addr) (n4 c4 : Nat), v = .tuple #[.agg #[.slice A1 n1 c1, .slice A2 n2 c2, iv r.1.rcd.pass, .slice A3 n3 c3, .slice A4 n4 c4, iv r.1.off.hi, .int .u64 (r.1.off.lo), .bool (r.1.did)], .int .u16 (r.2)] ∧ OwF A1 n1 r.1.inst.supply ∧ OwF A2 n2 r.1.inst.arcs ∧ OwF A3 n3 r.1.rcd.was.supply ∧ OwF A4 n4 r.1.rcd.was.arcs ∧ L = [Ow (fI .i64) 2 A1 n1 c1 r.1.inst.supply, Ow fA 34 A2 n2 c2 r.1.inst.arcs, Ow (fI .i64) 2 A3 n3 c3 r.1.rcd.was.supply, Ow fA 34 A4 n4 c4 r.1.rcd.was.arcs]
set_option maxRecDepth 20000 in
set_option maxHeartbeats 8000000 in
theorem two_Series_w {w : World} {v0 : Value} {i1 : Inst} {r : Step × Int} (h : two_Series i1 = some r) (p1 : InsZ (PH.of w) v0 i1) :
    Calls Tryz.prog 15 #[v0] w fun e w' => ∃ v L, e = .returned v ∧ two_Series_S r v L ∧ Ret w w' L := by
  obtain ⟨A1, c1, A2, c2, rfl, hs1, hs2⟩ := p1
  unfold two_Series at h
  refine enter_ Tryz.func15 rfl Tryz.ntmps15 rfl ?_
  refine WP.box rfl rfl rfl rfl rfl rfl ?_
  intro g1
  refine WP.al tysOk rfl rfl rfl rfl rfl rfl ?_
  intro g2
  refine WP.sx tysOk rfl ⟨⟨⟩, ⟨⟩⟩ ?_
  obtain ⟨r1, hg1, h⟩ := bind_some h
  refine WP.drawL 5 [(0, [], fun _ => constSpec (.agg #[iv 8, .func (.func 37) #[] #[], .func (.func 38) #[] #[], .func (.func 39) #[] #[]])), (2, [], fun _ => two_shape_run_1_S r1)] rfl (by kernel_rfl) (by kernel_rfl) (by kernel_rfl) ?_
  refine WP.callV rfl rfl rfl rfl rfl rfl rfl (by kernel_rfl) (fun w1 hw1 => two_series_w) ⟨⟨rfl, rfl⟩, rfl⟩ ?_
  refine WP.mx_ tysOk rfl ⟨⟨rfl, rfl⟩, rfl⟩ (SegAt.blk' (.tail .head) rfl) ?_
  refine WP.lcall rfl ⟨rfl, rfl⟩ rfl rfl rfl rfl rfl rfl rfl (by kernel_rfl) (fun w1 hw1 => (two_shape_run_1_w hg1 (InsZ.mk_ ((hs1.le' ((Held.mem (List.Mem.tail _ (List.Mem.tail _ (List.Mem.head _)))) _ _ hw1)).of) ((hs2.le' ((Held.mem (List.Mem.tail _ (List.Mem.tail _ (List.Mem.head _)))) _ _ hw1)).of)) :)) ?_
  rintro _ _ ⟨A3, n1, c3, A4, n2, c4, A5, n3, c5, A6, n4, c6, rfl, hf1, hf2, hf3, hf4, rfl⟩
  iterate 2 (refine WP.sx tysOk rfl ⟨⟨⟨rfl, rfl⟩, rfl⟩, ⟨⟩⟩ ?_)
  refine WP.lend rfl ⟨rfl, rfl⟩ ?_
  refine WP.sto' tysOk [.slice A3 n1 c3, .slice A4 n2 c4, iv r1.1.rcd.pass, .slice A5 n3 c5, .slice A6 n4 c6, iv r1.1.off.hi, .int .u64 (r1.1.off.lo), .bool (r1.1.did)] rfl rfl rfl rfl rfl rfl rfl rfl rfl (.tail (.tail (.tail (.tail .head)))) rfl rfl ?_
  refine WP.sx tysOk rfl ⟨⟨⟩, ⟨⟩⟩ ?_
  cases h
  refine WP.retR tysOk rfl rfl ⟨_, _, _, _, rfl, ⟨_, rfl, .inr ⟨rfl, _, rfl, rfl, (SegAt.blk' (z := 8) .head rfl).1⟩⟩, ⟨_, _, rfl, rfl, rfl⟩, rfl⟩ (fun w1 hw1 => ⟨_, _, rfl, ⟨A3, n1, c3, A4, n2, c4, A5, n3, c5, A6, n4, c6, rfl, hf1, hf2, hf3, hf4, rfl⟩, Ret.of_KH hw1 (.cons (.tail .head) (.cons (.tail .head) (.cons (.tail .head) (.cons (.tail .head) (.cons (.tail (.tail .head)) .nil)))))⟩)

set_option maxRecDepth 20000 in
set_option maxHeartbeats 8000000 in
theorem ref03_Nums_w {w : World} {v0 : Value} {v1 : Value} {a1 : List Int} {b1 : List Int} {r : Bool} (h : ref03_Nums a1 b1 = some r) (p1 : SlF (fI .i64) (PH.of w) v0 a1) (p2 : SlF (fI .i64) (PH.of w) v1 b1) :
    Calls Tryz.prog 30 #[v0, v1] w fun e w' => e = .returned (.bool (r)) ∧ Below w.heap.size w w' := by
  obtain ⟨A1, c1, rfl, hs1⟩ := p1
  obtain ⟨A2, c2, rfl, hs2⟩ := p2
  unfold ref03_Nums at h
  refine enter_ Tryz.func30 rfl Tryz.ntmps30 rfl ?_
  iterate 6 (refine WP.sx tysOk rfl ⟨⟨⟩, ⟨⟩⟩ ?_)
  refine WP.cond_d rfl rfl (fun hh1 => ?_) (fun hh1 => ?_)
  ·rw [if_pos hh1] at h
   refine WP.sx tysOk rfl ⟨⟨⟩, ⟨⟩⟩ ?_
   cases h
   refine WP.retR tysOk rfl rfl ⟨_, _, rfl, rfl, rfl⟩ (fun w1 hw1 => ⟨rfl, Ret.below_ hw1 (.cons .head .nil)⟩)
  rw [if_neg hh1] at h
  refine WP.sx tysOk rfl ⟨⟨⟩, ⟨⟩⟩ ?_
  refine WP.loop (α := Nat × Int) (fun x => lp (ref03_Nums_b1 a1 b1) x.1 x.2 = some r) (fun x => [(0, .slice A1 a1.length c1), (1, .slice A2 b1.length c2), (5, iv x.2)]) (fun x => [.fz (PH.of w)]) (fun x => x.1) rfl (big, 0) h ?_ ?_ ?_
  ·repeat first | exact ⟨⟩ | refine ⟨rfl, ?_⟩
  ·exact (.cons .head .nil)
  rintro ⟨n1, k2⟩ h
  dsimp only at h ⊢
  rcases n1 with _ | n1
  · exact (lp_no h).elim
  replace h := lp_succ h
  unfold ref03_Nums_b1 at h
  try dsimp only at h
  iterate 4 (refine WP.sx tysOk rfl ⟨⟨⟩, ⟨⟩⟩ ?_)
  refine WP.cond_d rfl rfl (fun hh6 => ?_) (fun hh6 => ?_)
  ·rw [if_pos hh6] at h
   refine WP.draw rfl (by kernel_rfl) (by kernel_rfl) ?_
   iterate 2 (refine WP.sx tysOk rfl ⟨rfl, ⟨⟩⟩ ?_)
   obtain ⟨hj5, h⟩ := ck_some h
   refine WP.ixA tysOk rfl rfl rfl rfl rfl rfl rfl rfl rfl rfl hj5 (hs1.ex hj5) ?_
   intro b6 b6v hA5
   refine WP.lx tysOk rfl rfl (hs1.at0 hA5 (Held.mem (List.Mem.head _)) hj5 rfl) ?_
   iterate 2 (refine WP.sx tysOk rfl ⟨rfl, ⟨⟩⟩ ?_)
   obtain ⟨hj6, h⟩ := ck_some h
   refine WP.ixA tysOk rfl rfl rfl rfl rfl rfl rfl rfl rfl rfl hj6 (hs2.ex hj6) ?_
   intro b7 b7v hA6
   refine WP.lx tysOk rfl rfl (hs2.at0 hA6 (Held.mem (List.Mem.head _)) hj6 rfl) ?_
   refine WP.sx tysOk rfl ⟨rfl, ⟨⟩⟩ ?_
   refine WP.qend rfl ?_
   refine WP.cond_d rfl rfl (fun hh7 => ?_) (fun hh7 => ?_)
   ·rw [if_pos hh7] at h
    refine WP.sx tysOk rfl ⟨⟨⟩, ⟨⟩⟩ ?_
    cases h
    refine WP.retR tysOk rfl rfl ⟨_, _, rfl, rfl, rfl⟩ (fun w1 hw1 => ⟨rfl, Ret.below_ hw1 (.cons .head .nil)⟩)
   rw [if_neg hh7] at h
   iterate 3 (refine WP.sx tysOk rfl ⟨⟨⟩, ⟨⟩⟩ ?_)
   refine WP.stop rfl (n1, w64 (k2 + 1)) ⟨h, Nat.lt_succ_self _⟩ ?_ ?_
   ·repeat first | exact ⟨⟩ | refine ⟨rfl, ?_⟩
   exact (.cons .head .nil)
  rw [if_neg hh6] at h
  refine WP.sx tysOk rfl ⟨⟨⟩, ⟨⟩⟩ ?_
  cases h
  refine WP.retR tysOk rfl rfl ⟨_, _, rfl, rfl, rfl⟩ (fun w1 hw1 => ⟨rfl, Ret.below_ hw1 (.cons .head .nil)⟩)

set_option maxRecDepth 20000 in
set_option maxHeartbeats 8000000 in
theorem ref03_Same_w {w : World} {v0 : Value} {v1 : Value} {a1 : Inst} {b1 : Inst} {r : Bool} (h : ref03_Same a1 b1 = some r) (p1 : InsZ (PH.of w) v0 a1) (p2 : InsZ (PH.of w) v1 b1) :
    Calls Tryz.prog 16 #[v0, v1] w fun e w' => e = .returned (.bool (r)) ∧ Below w.heap.size w w' := by
  obtain ⟨A1, c1, A2, c2, rfl, hs1, hs2⟩ := p1
  obtain ⟨A3, c3, A4, c4, rfl, hs3, hs4⟩ := p2
  unfold ref03_Same at h
  refine enter_ Tryz.func16 rfl Tryz.ntmps16 rfl ?_
  refine WP.box rfl rfl rfl rfl rfl rfl ?_
  intro g1
  refine WP.box rfl rfl rfl rfl rfl rfl ?_
  intro g2
  iterate 2 (refine WP.sx tysOk rfl ⟨⟨⟩, ⟨⟩⟩ ?_)
  refine WP.lx tysOk rfl ⟨⟩ (CellAt.blk (.tail .head) rfl) ?_
  refine WP.sx tysOk rfl ⟨⟨⟩, ⟨⟩⟩ ?_
  refine WP.lx tysOk rfl ⟨⟩ (CellAt.blk .head rfl) ?_
  obtain ⟨r1, hg1, h⟩ := bind_some h
  refine WP.callV rfl rfl rfl rfl rfl rfl rfl (by kernel_rfl) (fun w1 hw1 => (ref03_Nums_w hg1 (hs1.le' ((Held.mem (List.Mem.tail _ (List.Mem.tail _ (List.Mem.head _)))) _ _ hw1)).of (hs3.le' ((Held.mem (List.Mem.tail _ (List.Mem.tail _ (List.Mem.head _)))) _ _ hw1)).of :)) ⟨⟩ ?_
  iterate 2 (refine WP.sx tysOk rfl ⟨⟨⟩, ⟨⟩⟩ ?_)
  by_cases hh1 : r1 = true
  ·rw [if_pos hh1] at h
   refine WP.yes rfl rfl (by simp [hh1]) ?_
   refine WP.sx tysOk rfl ⟨⟨⟩, ⟨⟩⟩ ?_
   refine WP.yes rfl rfl rfl ?_
   refine WP.lx tysOk rfl ⟨⟩ (CellAt.blk (.tail .head) rfl) ?_
   iterate 2 (refine WP.yes rfl rfl rfl ?_; refine WP.sx tysOk rfl ⟨⟨⟩, ⟨⟩⟩ ?_)
   refine WP.yes rfl rfl rfl ?_
   refine WP.lx tysOk rfl ⟨⟩ (CellAt.blk .head rfl) ?_
   refine WP.yes rfl rfl rfl ?_
   refine WP.sx tysOk rfl ⟨⟨⟩, ⟨⟩⟩ ?_
   refine WP.yes rfl rfl rfl ?_
   iterate 2 (refine WP.sx tysOk rfl ⟨⟨⟩, ⟨⟩⟩ ?_)
   refine WP.cond_d rfl rfl (fun hh2 => ?_) (fun hh2 => ?_)
   ·rw [if_pos hh2] at h
    refine WP.sx tysOk rfl ⟨⟨⟩, ⟨⟩⟩ ?_
    cases h
    refine WP.retR tysOk rfl rfl ⟨_, _, rfl, rfl, rfl⟩ (fun w1 hw1 => ⟨rfl, Ret.below_ hw1 (.cons (.tail (.tail .head)) .nil)⟩)
   rw [if_neg hh2] at h
   refine WP.sx tysOk rfl ⟨⟨⟩, ⟨⟩⟩ ?_
   refine WP.loop (α := Nat × Int) (fun x => lp (ref03_Same_b1 a1 b1) x.1 x.2 = some r) (fun x => [(2, .pointer (some ⟨g1, 0, none⟩)), (3, .pointer (some ⟨g2, 0, none⟩)), (5, iv x.2)]) (fun x => [.blk g2 25 [.slice A3 b1.supply.length c3, .slice A4 b1.arcs.length c4], .blk g1 25 [.slice A1 a1.supply.length c1, .slice A2 a1.arcs.length c2], .fz (PH.of w)]) (fun x => x.1) rfl (big, 0) h ?_ ?_ ?_
   ·repeat first | exact ⟨⟩ | refine ⟨rfl, ?_⟩
   ·exact (.cons .head (.cons .head (.cons .head .nil)))
   rintro ⟨n1, k2⟩ h
   dsimp only at h ⊢
   rcases n1 with _ | n1
   · exact (lp_no h).elim
   replace h := lp_succ h
   unfold ref03_Same_b1 at h
   try dsimp only at h
   iterate 2 (refine WP.sx tysOk rfl ⟨⟨⟩, ⟨⟩⟩ ?_)
   refine WP.lx tysOk rfl ⟨⟩ (CellAt.blk (.tail .head) rfl) ?_
   iterate 2 (refine WP.sx tysOk rfl ⟨⟨⟩, ⟨⟩⟩ ?_)
   refine WP.cond_d rfl rfl (fun hh7 => ?_) (fun hh7 => ?_)
   ·rw [if_pos hh7] at h
    refine WP.draw rfl (by kernel_rfl) (by kernel_rfl) ?_
    refine WP.sx tysOk rfl ⟨rfl, ⟨⟩⟩ ?_
    refine WP.lx tysOk rfl rfl (CellAt.blk (.tail .head) rfl) ?_
    refine WP.sx tysOk rfl ⟨rfl, ⟨⟩⟩ ?_
    obtain ⟨hj5, h⟩ := ck_some h
    refine WP.ixA tysOk rfl rfl rfl rfl rfl rfl rfl rfl rfl rfl hj5 (hs2.ex hj5) ?_
    intro b6 b6v hA5
    refine WP.mx_ tysOk rfl rfl (hs2.seg hA5 (Held.mem (List.Mem.tail _ (List.Mem.tail _ (List.Mem.head _)))) hj5) ?_
    refine WP.sx tysOk rfl ⟨rfl, ⟨⟩⟩ ?_
    refine WP.lx tysOk rfl rfl (CellAt.blk .head rfl) ?_
    refine WP.sx tysOk rfl ⟨rfl, ⟨⟩⟩ ?_
    obtain ⟨hj6, h⟩ := ck_some h
    refine WP.ixA tysOk rfl rfl rfl rfl rfl rfl rfl rfl rfl rfl hj6 (hs4.ex hj6) ?_
    intro b7 b7v hA6
    refine WP.mx_ tysOk rfl rfl (hs4.seg hA6 (Held.mem (List.Mem.tail _ (List.Mem.tail _ (List.Mem.head _)))) hj6) ?_
    refine WP.neS rfl rfl rfl rfl rfl rfl rfl rfl (by kernel_rfl) (eq34 (gt a1.arcs k2) (gt b1.arcs k2)) ?_
    refine WP.qend rfl ?_
    refine WP.cond_nd rfl rfl (fun hh8 => ?_) (fun hh8 => ?_)
    ·rw [if_neg hh8] at h
     refine WP.sx tysOk rfl ⟨⟨⟩, ⟨⟩⟩ ?_
     cases h
     refine WP.retR tysOk rfl rfl ⟨_, _, rfl, rfl, rfl⟩ (fun w1 hw1 => ⟨rfl, Ret.below_ hw1 (.cons (.tail (.tail .head)) .nil)⟩)
    rw [if_pos hh8] at h
    iterate 3 (refine WP.sx tysOk rfl ⟨⟨⟩, ⟨⟩⟩ ?_)
    refine WP.stop rfl (n1, w64 (k2 + 1)) ⟨h, Nat.lt_succ_self _⟩ ?_ ?_
    ·repeat first | exact ⟨⟩ | refine ⟨rfl, ?_⟩
    exact (.cons .head (.cons .head (.cons .head .nil)))
   rw [if_neg hh7] at h
   refine WP.sx tysOk rfl ⟨⟨⟩, ⟨⟩⟩ ?_
   cases h
   refine WP.retR tysOk rfl rfl ⟨_, _, rfl, rfl, rfl⟩ (fun w1 hw1 => ⟨rfl, Ret.below_ hw1 (.cons (.tail (.tail .head)) .nil)⟩)
  rw [if_neg hh1] at h
  refine WP.no rfl rfl (by simp [hh1]) rfl rfl ?_
  iterate 6 (refine WP.no rfl rfl rfl rfl rfl ?_)
  refine WP.sx tysOk rfl ⟨⟨⟩, ⟨⟩⟩ ?_
  refine WP.condT rfl rfl ?_
  refine WP.sx tysOk rfl ⟨⟨⟩, ⟨⟩⟩ ?_
  cases h
  refine WP.retR tysOk rfl rfl ⟨_, _, rfl, rfl, rfl⟩ (fun w1 hw1 => ⟨rfl, Ret.below_ hw1 (.cons (.tail (.tail .head)) .nil)⟩)

set_option maxRecDepth 20000 in
set_option maxHeartbeats 8000000 in
theorem law18_known_w {w : World} {r : Bool} (h : law18_known  = some r) :
    Calls Tryz.prog 6 #[] w fun e w' => e = .returned (.bool (r)) ∧ Below w.heap.size w w' := by
  unfold law18_known at h
  refine enter_ Tryz.func6 rfl Tryz.ntmps6 rfl ?_
  refine WP.sx tysOk rfl ⟨⟨⟩, ⟨⟩⟩ ?_
  obtain ⟨hm1, h⟩ := ck_some h
  refine WP.mkO (f := (fI .i64)) 0 tysOk rfl rfl rfl rfl rfl rfl rfl rfl rfl rfl rfl rfl hm1 ?_
  intro g1 hf1
  refine WP.bld (cs := [iv 0, iv 1, iv 0, iv 5, iv 1]) tysOk rfl ⟨⟩ rfl rfl rfl rfl rfl rfl rfl ?_
  refine WP.bld (cs := [iv 1, iv 2, iv 0, iv 3, iv 2]) tysOk rfl ⟨⟩ rfl rfl rfl rfl rfl rfl rfl ?_
  refine WP.bsO (f := fA) [(Arc.mk 0 1 0 5 1), (Arc.mk 1 2 0 3 2)] tysOk rfl rfl rfl rfl rfl rfl rfl rfl rfl rfl rfl rfl rfl rfl ?_
  intro g2 hf2
  refine WP.bld (cs := [.slice (some ⟨g1, 0, none⟩) ((3 : Int).toNat) ((3 : Int).toNat), .slice (some ⟨g2, 0, none⟩) 2 2]) tysOk rfl ⟨⟩ rfl rfl rfl rfl rfl rfl rfl ?_
  refine WP.al tysOk rfl rfl rfl rfl rfl rfl ?_
  intro g3
  refine WP.sto' tysOk [.slice (some ⟨g1, 0, none⟩) ((3 : Int).toNat) ((3 : Int).toNat), .slice (some ⟨g2, 0, none⟩) 2 2] rfl rfl rfl rfl rfl rfl rfl rfl rfl .head rfl rfl ?_
  refine WP.mx_ tysOk rfl ⟨⟩ (SegAt.blk' .head rfl) ?_
  obtain ⟨r1, hg1, h⟩ := bind_some h
  refine WP.callV rfl rfl rfl rfl rfl rfl rfl (by kernel_rfl) (fun w1 hw1 => (two_Chain_w hg1 (InsZ.mk_ (hw1.ow (.tail (.tail .head)) hf1) (hw1.ow (.tail .head) hf2)) :)) ⟨⟩ ?_
  iterate 3 (refine WP.sx tysOk rfl ⟨⟨⟩, ⟨⟩⟩ ?_)
  refine WP.al tysOk rfl rfl rfl rfl rfl rfl ?_
  intro g4
  refine WP.sto' tysOk [iv r1.1.node, iv r1.1.a, iv r1.1.b, iv r1.1.new.src, iv r1.1.new.dst, iv r1.1.new.low, iv r1.1.new.cap, iv r1.1.new.cost] rfl rfl rfl rfl rfl rfl rfl rfl rfl .head rfl rfl ?_
  refine WP.sx tysOk rfl ⟨⟨⟩, ⟨⟩⟩ ?_
  refine WP.mx_ tysOk rfl ⟨⟩ (SegAt.blk' (.tail .head) rfl) ?_
  obtain ⟨r2, hg2, h⟩ := bind_some h
  refine WP.callV rfl rfl rfl rfl rfl rfl rfl (by kernel_rfl) (fun w1 hw1 => (two_Split_w hg2 (InsZ.mk_ (hw1.ow (.tail (.tail (.tail .head))) hf1) (hw1.ow (.tail (.tail .head)) hf2)) :)) ⟨⟩ ?_
  iterate 3 (refine WP.sx tysOk rfl ⟨⟨⟩, ⟨⟩⟩ ?_)
  refine WP.al tysOk rfl rfl rfl rfl rfl rfl ?_
  intro g5
  refine WP.sto' tysOk [iv r2.1.node, iv r2.1.a, iv r2.1.b, iv r2.1.new.src, iv r2.1.new.dst, iv r2.1.new.low, iv r2.1.new.cap, iv r2.1.new.cost] rfl rfl rfl rfl rfl rfl rfl rfl rfl .head rfl rfl ?_
  refine WP.sx tysOk rfl ⟨⟨⟩, ⟨⟩⟩ ?_
  refine WP.mx_ tysOk rfl ⟨⟩ (SegAt.blk' (.tail (.tail .head)) rfl) ?_
  obtain ⟨r3, hg3, h⟩ := bind_some h
  refine WP.callS (two_Series_S r3) rfl rfl rfl rfl rfl rfl rfl (by kernel_rfl) (fun w1 hw1 => (two_Series_w hg3 (InsZ.mk_ (hw1.ow (.tail (.tail (.tail (.tail .head)))) hf1) (hw1.ow (.tail (.tail (.tail .head))) hf2)) :)) ?_
  rintro _ _ ⟨A1, n1, c1, A2, n2, c2, A3, n3, c3, A4, n4, c4, rfl, hf3, hf4, hf5, hf6, rfl⟩
  iterate 3 (refine WP.sx tysOk rfl ⟨⟨⟩, ⟨⟩⟩ ?_)
  refine WP.al tysOk rfl rfl rfl rfl rfl rfl ?_
  intro g6
  refine WP.sto' tysOk [.slice A1 n1 c1, .slice A2 n2 c2, iv r3.1.rcd.pass, .slice A3 n3 c3, .slice A4 n4 c4, iv r3.1.off.hi, .int .u64 (r3.1.off.lo), .bool (r3.1.did)] rfl rfl rfl rfl rfl rfl rfl rfl rfl .head rfl rfl ?_
  refine WP.sx tysOk rfl ⟨⟨⟩, ⟨⟩⟩ ?_
  by_cases hh1 : r1.2 = true
  ·rw [if_pos hh1] at h
   by_cases hh2 : r2.2 = true
   ·rw [if_pos hh2] at h
    refine WP.drawL 38 [] rfl (by kernel_rfl) (by kernel_rfl) (by kernel_rfl) ?_
    iterate 2 (refine WP.sx tysOk rfl ⟨⟨⟨rfl, rfl⟩, rfl⟩, ⟨⟩⟩ ?_)
    refine WP.yes rfl rfl hh1 ?_
    refine WP.sx tysOk rfl ⟨⟨⟨rfl, rfl⟩, rfl⟩, ⟨⟩⟩ ?_
    refine WP.yes rfl rfl rfl ?_
    iterate 3 (refine WP.sx tysOk rfl ⟨⟨⟨rfl, rfl⟩, rfl⟩, ⟨⟩⟩ ?_)
    refine WP.no rfl rfl (by simp [hh2]) rfl rfl ?_
    iterate 2 (refine WP.no rfl rfl rfl rfl rfl ?_)
    iterate 2 (refine WP.sx tysOk rfl ⟨⟨⟨rfl, rfl⟩, rfl⟩, ⟨⟩⟩ ?_)
    iterate 3 (refine WP.no rfl rfl rfl rfl rfl ?_)
    iterate 2 (refine WP.sx tysOk rfl ⟨⟨⟨rfl, rfl⟩, rfl⟩, ⟨⟩⟩ ?_)
    iterate 4 (refine WP.no rfl rfl rfl rfl rfl ?_)
    iterate 3 (refine WP.sx tysOk rfl ⟨⟨⟨rfl, rfl⟩, rfl⟩, ⟨⟩⟩ ?_; refine WP.sx tysOk rfl ⟨⟨⟨rfl, rfl⟩, rfl⟩, ⟨⟩⟩ ?_; refine WP.no rfl rfl rfl rfl rfl ?_; refine WP.no rfl rfl rfl rfl rfl ?_)
    iterate 5 (refine WP.no rfl rfl rfl rfl rfl ?_)
    refine WP.sx tysOk rfl ⟨⟨⟨rfl, rfl⟩, rfl⟩, ⟨⟩⟩ ?_
    refine WP.lend rfl ⟨rfl, rfl⟩ ?_
    refine WP.sx tysOk rfl ⟨⟨⟩, ⟨⟩⟩ ?_
    cases h
    refine WP.retR tysOk rfl rfl ⟨_, _, rfl, rfl, rfl⟩ (fun w1 hw1 => ⟨rfl, Ret.below_ hw1 (.cons (.tail (.tail (.tail (.tail (.tail (.tail (.tail (.tail (.tail (.tail .head)))))))))) .nil)⟩)
   rw [if_neg hh2] at h
   by_cases hh3 : r1.1.a = 0
   ·rw [if_pos hh3] at h
    by_cases hh4 : r1.1.b = 1
    ·rw [if_pos hh4] at h
     by_cases hh5 : r1.1.new = (Arc.mk 0 2 0 3 3)
     ·rw [if_pos hh5] at h
      by_cases hh6 : r3.2 = 0
      ·rw [if_pos hh6] at h
       by_cases hh7 : r3.1.did = true
       ·rw [if_pos hh7] at h
        obtain ⟨hm2, h⟩ := ck_some h
        obtain ⟨r4, hg4, h⟩ := bind_some h
        refine WP.drawL 38 [(32, [], fun _ => mkSpec 2 (2 : Int).toNat (iv 0)), (34, [], litSpec 34 1), (36, [32, 34], fun _ => constSpec (.bool (r4)))] rfl (by kernel_rfl) (by kernel_rfl) (by kernel_rfl) ?_
        iterate 2 (refine WP.sx tysOk rfl ⟨⟨⟨rfl, rfl⟩, rfl⟩, ⟨⟩⟩ ?_)
        refine WP.yes rfl rfl hh1 ?_
        refine WP.sx tysOk rfl ⟨⟨⟨rfl, rfl⟩, rfl⟩, ⟨⟩⟩ ?_
        refine WP.yes rfl rfl rfl ?_
        iterate 3 (refine WP.sx tysOk rfl ⟨⟨⟨rfl, rfl⟩, rfl⟩, ⟨⟩⟩ ?_)
        refine WP.yes rfl rfl (by simp [hh2]) ?_
        refine WP.sx tysOk rfl ⟨⟨⟨rfl, rfl⟩, rfl⟩, ⟨⟩⟩ ?_
        refine WP.yes rfl rfl rfl ?_
        refine WP.lx tysOk rfl ⟨⟨rfl, rfl⟩, rfl⟩ (CellAt.blk (.tail (.tail (.tail (.tail (.tail (.tail .head)))))) rfl) ?_
        refine WP.yes rfl rfl rfl ?_
        iterate 3 (refine WP.sx tysOk rfl ⟨⟨⟨rfl, rfl⟩, rfl⟩, ⟨⟩⟩ ?_)
        refine WP.yes rfl rfl (decide_eq_true hh3) ?_
        refine WP.sx tysOk rfl ⟨⟨⟨rfl, rfl⟩, rfl⟩, ⟨⟩⟩ ?_
        refine WP.yes rfl rfl rfl ?_
        refine WP.lx tysOk rfl ⟨⟨rfl, rfl⟩, rfl⟩ (CellAt.blk (.tail (.tail (.tail (.tail (.tail (.tail .head)))))) rfl) ?_
        refine WP.yes rfl rfl rfl ?_
        iterate 3 (refine WP.sx tysOk rfl ⟨⟨⟨rfl, rfl⟩, rfl⟩, ⟨⟩⟩ ?_)
        refine WP.yes rfl rfl (decide_eq_true hh4) ?_
        refine WP.sx tysOk rfl ⟨⟨⟨rfl, rfl⟩, rfl⟩, ⟨⟩⟩ ?_
        refine WP.yes rfl rfl rfl ?_
        refine WP.mx_ tysOk rfl ⟨⟨rfl, rfl⟩, rfl⟩ (SegAt.blk' (.tail (.tail (.tail (.tail (.tail (.tail .head)))))) rfl) ?_
        refine WP.yes rfl rfl rfl ?_
        refine WP.bld (cs := [iv 0, iv 2, iv 0, iv 3, iv 3]) tysOk rfl ⟨⟨rfl, rfl⟩, rfl⟩ rfl rfl rfl rfl rfl rfl rfl ?_
        refine WP.yes rfl rfl rfl ?_
        refine WP.eqS rfl ⟨⟨rfl, rfl⟩, rfl⟩ rfl rfl rfl rfl rfl rfl (by kernel_rfl) (eq34 r1.1.new (Arc.mk 0 2 0 3 3)) ?_
        iterate 2 (refine WP.sx tysOk rfl ⟨⟨⟨rfl, rfl⟩, rfl⟩, ⟨⟩⟩ ?_)
        refine WP.yes rfl rfl (decide_eq_true hh5) ?_
        refine WP.sx tysOk rfl ⟨⟨⟨rfl, rfl⟩, rfl⟩, ⟨⟩⟩ ?_
        refine WP.yes rfl rfl rfl ?_
        iterate 3 (refine WP.sx tysOk rfl ⟨⟨⟨rfl, rfl⟩, rfl⟩, ⟨⟩⟩ ?_)
        refine WP.yes rfl rfl (decide_eq_true hh6) ?_
        refine WP.sx tysOk rfl ⟨⟨⟨rfl, rfl⟩, rfl⟩, ⟨⟩⟩ ?_
        refine WP.yes rfl rfl rfl ?_
        refine WP.lx tysOk rfl ⟨⟨rfl, rfl⟩, rfl⟩ (CellAt.blk .head rfl) ?_
        iterate 2 (refine WP.sx tysOk rfl ⟨⟨⟨rfl, rfl⟩, rfl⟩, ⟨⟩⟩ ?_)
        refine WP.yes rfl rfl hh7 ?_
        refine WP.sx tysOk rfl ⟨⟨⟨rfl, rfl⟩, rfl⟩, ⟨⟩⟩ ?_
        refine WP.yes rfl rfl rfl ?_
        refine WP.mx_ tysOk rfl ⟨⟨rfl, rfl⟩, rfl⟩ (SegAt.blk' .head rfl) ?_
        refine WP.yes rfl rfl rfl ?_
        refine WP.lmO tysOk rfl ⟨rfl, rfl⟩ rfl rfl rfl rfl rfl rfl rfl rfl rfl rfl hm2 ?_
        intro g7
        refine WP.yes rfl rfl rfl ?_
        refine WP.bld (cs := [iv 0, iv 1, iv 0, iv 3, iv 3]) tysOk rfl ⟨⟨rfl, rfl⟩, rfl⟩ rfl rfl rfl rfl rfl rfl rfl ?_
        refine WP.yes rfl rfl rfl ?_
        refine WP.lbs tysOk rfl ⟨rfl, rfl⟩ rfl rfl rfl rfl rfl rfl rfl rfl rfl rfl rfl rfl ?_
        intro g8
        refine WP.yes rfl rfl rfl ?_
        refine WP.bld (cs := [.slice (some ⟨g7, 0, none⟩) ((2 : Int).toNat) ((2 : Int).toNat), .slice (some ⟨g8, 0, none⟩) 1 1]) tysOk rfl ⟨⟨rfl, rfl⟩, rfl⟩ rfl rfl rfl rfl rfl rfl rfl ?_
        refine WP.yes rfl rfl rfl ?_
        refine WP.lcall rfl ⟨rfl, rfl⟩ rfl rfl rfl rfl rfl rfl rfl (by kernel_rfl) (fun w1 hw1 => ((ref03_Same_w hg4 (InsZ.mk_ (hw1.ow (.tail (.tail (.tail .head))) hf3) (hw1.ow (.tail (.tail (.tail (.tail .head)))) hf4)) (InsZ.mk_ (hw1.blM 0 (.tail .head) rfl rfl hm2) (hw1.blL [(Arc.mk 0 1 0 3 3)] .head rfl rfl rfl)) :)).mono fun e w' h => ⟨_, [], h.1, ⟨rfl, rfl⟩, Ret.nil h.2⟩) ?_
        rintro _ _ ⟨rfl, rfl⟩
        refine WP.sx tysOk rfl ⟨⟨⟨rfl, rfl⟩, rfl⟩, ⟨⟩⟩ ?_
        refine WP.lend rfl ⟨rfl, rfl⟩ ?_
        refine WP.shutM (f := (fI .i64)) 0 (.tail .head) rfl rfl hm2 ?_
        intro hf7
        refine WP.repiece (p' := .blk g8 34 (cl fA [(Arc.mk 0 1 0 3 3)])) (.tail .head) rfl ?_
        refine WP.shut0 (n := 1) (z := fA.z) .head (by decide) rfl ?_
        have hf8 : OwF (some ⟨g8, 0, none⟩) 1 [(Arc.mk 0 1 0 3 3)] := ⟨rfl, fun _ => ⟨g8, rfl⟩⟩
        refine WP.sx tysOk rfl ⟨⟨⟩, ⟨⟩⟩ ?_
        cases h
        refine WP.retR tysOk rfl rfl ⟨_, _, rfl, rfl, rfl⟩ (fun w1 hw1 => ⟨rfl, Ret.below_ hw1 (.cons (.tail (.tail (.tail (.tail (.tail (.tail (.tail (.tail (.tail (.tail (.tail (.tail .head)))))))))))) .nil)⟩)
       rw [if_neg hh7] at h
       refine WP.drawL 38 [] rfl (by kernel_rfl) (by kernel_rfl) (by kernel_rfl) ?_
       iterate 2 (refine WP.sx tysOk rfl ⟨⟨⟨rfl, rfl⟩, rfl⟩, ⟨⟩⟩ ?_)
       refine WP.yes rfl rfl hh1 ?_
       refine WP.sx tysOk rfl ⟨⟨⟨rfl, rfl⟩, rfl⟩, ⟨⟩⟩ ?_
       refine WP.yes rfl rfl rfl ?_
       iterate 3 (refine WP.sx tysOk rfl ⟨⟨⟨rfl, rfl⟩, rfl⟩, ⟨⟩⟩ ?_)
       refine WP.yes rfl rfl (by simp [hh2]) ?_
       refine WP.sx tysOk rfl ⟨⟨⟨rfl, rfl⟩, rfl⟩, ⟨⟩⟩ ?_
       refine WP.yes rfl rfl rfl ?_
       refine WP.lx tysOk rfl ⟨⟨rfl, rfl⟩, rfl⟩ (CellAt.blk (.tail (.tail (.tail (.tail (.tail (.tail .head)))))) rfl) ?_
       refine WP.yes rfl rfl rfl ?_
       iterate 3 (refine WP.sx tysOk rfl ⟨⟨⟨rfl, rfl⟩, rfl⟩, ⟨⟩⟩ ?_)
       refine WP.yes rfl rfl (decide_eq_true hh3) ?_
       refine WP.sx tysOk rfl ⟨⟨⟨rfl, rfl⟩, rfl⟩, ⟨⟩⟩ ?_
       refine WP.yes rfl rfl rfl ?_
       refine WP.lx tysOk rfl ⟨⟨rfl, rfl⟩, rfl⟩ (CellAt.blk (.tail (.tail (.tail (.tail (.tail (.tail .head)))))) rfl) ?_
       refine WP.yes rfl rfl rfl ?_
       iterate 3 (refine WP.sx tysOk rfl ⟨⟨⟨rfl, rfl⟩, rfl⟩, ⟨⟩⟩ ?_)
       refine WP.yes rfl rfl (decide_eq_true hh4) ?_
       refine WP.sx tysOk rfl ⟨⟨⟨rfl, rfl⟩, rfl⟩, ⟨⟩⟩ ?_
       refine WP.yes rfl rfl rfl ?_
       refine WP.mx_ tysOk rfl ⟨⟨rfl, rfl⟩, rfl⟩ (SegAt.blk' (.tail (.tail (.tail (.tail (.tail (.tail .head)))))) rfl) ?_
       refine WP.yes rfl rfl rfl ?_
       refine WP.bld (cs := [iv 0, iv 2, iv 0, iv 3, iv 3]) tysOk rfl ⟨⟨rfl, rfl⟩, rfl⟩ rfl rfl rfl rfl rfl rfl rfl ?_
       refine WP.yes rfl rfl rfl ?_
       refine WP.eqS rfl ⟨⟨rfl, rfl⟩, rfl⟩ rfl rfl rfl rfl rfl rfl (by kernel_rfl) (eq34 r1.1.new (Arc.mk 0 2 0 3 3)) ?_
       iterate 2 (refine WP.sx tysOk rfl ⟨⟨⟨rfl, rfl⟩, rfl⟩, ⟨⟩⟩ ?_)
       refine WP.yes rfl rfl (decide_eq_true hh5) ?_
       refine WP.sx tysOk rfl ⟨⟨⟨rfl, rfl⟩, rfl⟩, ⟨⟩⟩ ?_
       refine WP.yes rfl rfl rfl ?_
       iterate 3 (refine WP.sx tysOk rfl ⟨⟨⟨rfl, rfl⟩, rfl⟩, ⟨⟩⟩ ?_)
       refine WP.yes rfl rfl (decide_eq_true hh6) ?_
       refine WP.sx tysOk rfl ⟨⟨⟨rfl, rfl⟩, rfl⟩, ⟨⟩⟩ ?_
       refine WP.yes rfl rfl rfl ?_
       refine WP.lx tysOk rfl ⟨⟨rfl, rfl⟩, rfl⟩ (CellAt.blk .head rfl) ?_
       iterate 2 (refine WP.sx tysOk rfl ⟨⟨⟨rfl, rfl⟩, rfl⟩, ⟨⟩⟩ ?_)
       refine WP.no rfl rfl (bfalse hh7) rfl rfl ?_
       iterate 6 (refine WP.no rfl rfl rfl rfl rfl ?_)
       refine WP.sx tysOk rfl ⟨⟨⟨rfl, rfl⟩, rfl⟩, ⟨⟩⟩ ?_
       refine WP.lend rfl ⟨rfl, rfl⟩ ?_
       refine WP.sx tysOk rfl ⟨⟨⟩, ⟨⟩⟩ ?_
       cases h
       refine WP.retR tysOk rfl rfl ⟨_, _, rfl, rfl, rfl⟩ (fun w1 hw1 => ⟨rfl, Ret.below_ hw1 (.cons (.tail (.tail (.tail (.tail (.tail (.tail (.tail (.tail (.tail (.tail .head)))))))))) .nil)⟩)
      rw [if_neg hh6] at h
      refine WP.drawL 38 [] rfl (by kernel_rfl) (by kernel_rfl) (by kernel_rfl) ?_
      iterate 2 (refine WP.sx tysOk rfl ⟨⟨⟨rfl, rfl⟩, rfl⟩, ⟨⟩⟩ ?_)
      refine WP.yes rfl rfl hh1 ?_
      refine WP.sx tysOk rfl ⟨⟨⟨rfl, rfl⟩, rfl⟩, ⟨⟩⟩ ?_
      refine WP.yes rfl rfl rfl ?_
      iterate 3 (refine WP.sx tysOk rfl ⟨⟨⟨rfl, rfl⟩, rfl⟩, ⟨⟩⟩ ?_)
      refine WP.yes rfl rfl (by simp [hh2]) ?_
      refine WP.sx tysOk rfl ⟨⟨⟨rfl, rfl⟩, rfl⟩, ⟨⟩⟩ ?_
      refine WP.yes rfl rfl rfl ?_
      refine WP.lx tysOk rfl ⟨⟨rfl, rfl⟩, rfl⟩ (CellAt.blk (.tail (.tail (.tail (.tail (.tail (.tail .head)))))) rfl) ?_
      refine WP.yes rfl rfl rfl ?_
      iterate 3 (refine WP.sx tysOk rfl ⟨⟨⟨rfl, rfl⟩, rfl⟩, ⟨⟩⟩ ?_)
      refine WP.yes rfl rfl (decide_eq_true hh3) ?_
      refine WP.sx tysOk rfl ⟨⟨⟨rfl, rfl⟩, rfl⟩, ⟨⟩⟩ ?_
      refine WP.yes rfl rfl rfl ?_
      refine WP.lx tysOk rfl ⟨⟨rfl, rfl⟩, rfl⟩ (CellAt.blk (.tail (.tail (.tail (.tail (.tail (.tail .head)))))) rfl) ?_
      refine WP.yes rfl rfl rfl ?_
      iterate 3 (refine WP.sx tysOk rfl ⟨⟨⟨rfl, rfl⟩, rfl⟩, ⟨⟩⟩ ?_)
      refine WP.yes rfl rfl (decide_eq_true hh4) ?_
      refine WP.sx tysOk rfl ⟨⟨⟨rfl, rfl⟩, rfl⟩, ⟨⟩⟩ ?_
      refine WP.yes rfl rfl rfl ?_
      refine WP.mx_ tysOk rfl ⟨⟨rfl, rfl⟩, rfl⟩ (SegAt.blk' (.tail (.tail (.tail (.tail (.tail (.tail .head)))))) rfl) ?_
      refine WP.yes rfl rfl rfl ?_
      refine WP.bld (cs := [iv 0, iv 2, iv 0, iv 3, iv 3]) tysOk rfl ⟨⟨rfl, rfl⟩, rfl⟩ rfl rfl rfl rfl rfl rfl rfl ?_
      refine WP.yes rfl rfl rfl ?_
      refine WP.eqS rfl ⟨⟨rfl, rfl⟩, rfl⟩ rfl rfl rfl rfl rfl rfl (by kernel_rfl) (eq34 r1.1.new (Arc.mk 0 2 0 3 3)) ?_
      iterate 2 (refine WP.sx tysOk rfl ⟨⟨⟨rfl, rfl⟩, rfl⟩, ⟨⟩⟩ ?_)
      refine WP.yes rfl rfl (decide_eq_true hh5) ?_
      refine WP.sx tysOk rfl ⟨⟨⟨rfl, rfl⟩, rfl⟩, ⟨⟩⟩ ?_
      refine WP.yes rfl rfl rfl ?_
      iterate 3 (refine WP.sx tysOk rfl ⟨⟨⟨rfl, rfl⟩, rfl⟩, ⟨⟩⟩ ?_)
      refine WP.no rfl rfl (decide_eq_false hh6) rfl rfl ?_
      refine WP.no rfl rfl rfl rfl rfl ?_
      iterate 2 (refine WP.sx tysOk rfl ⟨⟨⟨rfl, rfl⟩, rfl⟩, ⟨⟩⟩ ?_)
      iterate 7 (refine WP.no rfl rfl rfl rfl rfl ?_)
      refine WP.sx tysOk rfl ⟨⟨⟨rfl, rfl⟩, rfl⟩, ⟨⟩⟩ ?_
      refine WP.lend rfl ⟨rfl, rfl⟩ ?_
      refine WP.sx tysOk rfl ⟨⟨⟩, ⟨⟩⟩ ?_
      cases h
      refine WP.retR tysOk rfl rfl ⟨_, _, rfl, rfl, rfl⟩ (fun w1 hw1 => ⟨rfl, Ret.below_ hw1 (.cons (.tail (.tail (.tail (.tail (.tail (.tail (.tail (.tail (.tail (.tail .head)))))))))) .nil)⟩)
     rw [if_neg hh5] at h
     refine WP.drawL 38 [] rfl (by kernel_rfl) (by kernel_rfl) (by kernel_rfl) ?_
     iterate 2 (refine WP.sx tysOk rfl ⟨⟨⟨rfl, rfl⟩, rfl⟩, ⟨⟩⟩ ?_)
     refine WP.yes rfl rfl hh1 ?_
     refine WP.sx tysOk rfl ⟨⟨⟨rfl, rfl⟩, rfl⟩, ⟨⟩⟩ ?_
     refine WP.yes rfl rfl rfl ?_
     iterate 3 (refine WP.sx tysOk rfl ⟨⟨⟨rfl, rfl⟩, rfl⟩, ⟨⟩⟩ ?_)
     refine WP.yes rfl rfl (by simp [hh2]) ?_
     refine WP.sx tysOk rfl ⟨⟨⟨rfl, rfl⟩, rfl⟩, ⟨⟩⟩ ?_
     refine WP.yes rfl rfl rfl ?_
     refine WP.lx tysOk rfl ⟨⟨rfl, rfl⟩, rfl⟩ (CellAt.blk (.tail (.tail (.tail (.tail (.tail (.tail .head)))))) rfl) ?_
     refine WP.yes rfl rfl rfl ?_
     iterate 3 (refine WP.sx tysOk rfl ⟨⟨⟨rfl, rfl⟩, rfl⟩, ⟨⟩⟩ ?_)
     refine WP.yes rfl rfl (decide_eq_true hh3) ?_
     refine WP.sx tysOk rfl ⟨⟨⟨rfl, rfl⟩, rfl⟩, ⟨⟩⟩ ?_
     refine WP.yes rfl rfl rfl ?_
     refine WP.lx tysOk rfl ⟨⟨rfl, rfl⟩, rfl⟩ (CellAt.blk (.tail (.tail (.tail (.tail (.tail (.tail .head)))))) rfl) ?_
     refine WP.yes rfl rfl rfl ?_
     iterate 3 (refine WP.sx tysOk rfl ⟨⟨⟨rfl, rfl⟩, rfl⟩, ⟨⟩⟩ ?_)
     refine WP.yes rfl rfl (decide_eq_true hh4) ?_
     refine WP.sx tysOk rfl ⟨⟨⟨rfl, rfl⟩, rfl⟩, ⟨⟩⟩ ?_
     refine WP.yes rfl rfl rfl ?_
     refine WP.mx_ tysOk rfl ⟨⟨rfl, rfl⟩, rfl⟩ (SegAt.blk' (.tail (.tail (.tail (.tail (.tail (.tail .head)))))) rfl) ?_
     refine WP.yes rfl rfl rfl ?_
     refine WP.bld (cs := [iv 0, iv 2, iv 0, iv 3, iv 3]) tysOk rfl ⟨⟨rfl, rfl⟩, rfl⟩ rfl rfl rfl rfl rfl rfl rfl ?_
     refine WP.yes rfl rfl rfl ?_
     refine WP.eqS rfl ⟨⟨rfl, rfl⟩, rfl⟩ rfl rfl rfl rfl rfl rfl (by kernel_rfl) (eq34 r1.1.new (Arc.mk 0 2 0 3 3)) ?_
     iterate 2 (refine WP.sx tysOk rfl ⟨⟨⟨rfl, rfl⟩, rfl⟩, ⟨⟩⟩ ?_)
     refine WP.no rfl rfl (decide_eq_false hh5) rfl rfl ?_
     iterate 2 (refine WP.no rfl rfl rfl rfl rfl ?_; refine WP.sx tysOk rfl ⟨⟨⟨rfl, rfl⟩, rfl⟩, ⟨⟩⟩ ?_; refine WP.sx tysOk rfl ⟨⟨⟨rfl, rfl⟩, rfl⟩, ⟨⟩⟩ ?_; refine WP.no rfl rfl rfl rfl rfl ?_)
     iterate 6 (refine WP.no rfl rfl rfl rfl rfl ?_)
     refine WP.sx tysOk rfl ⟨⟨⟨rfl, rfl⟩, rfl⟩, ⟨⟩⟩ ?_
     refine WP.lend rfl ⟨rfl, rfl⟩ ?_
     refine WP.sx tysOk rfl ⟨⟨⟩, ⟨⟩⟩ ?_
     cases h
     refine WP.retR tysOk rfl rfl ⟨_, _, rfl, rfl, rfl⟩ (fun w1 hw1 => ⟨rfl, Ret.below_ hw1 (.cons (.tail (.tail (.tail (.tail (.tail (.tail (.tail (.tail (.tail (.tail .head)))))))))) .nil)⟩)
    rw [if_neg hh4] at h
    refine WP.drawL 38 [] rfl (by kernel_rfl) (by kernel_rfl) (by kernel_rfl) ?_
    iterate 2 (refine WP.sx tysOk rfl ⟨⟨⟨rfl, rfl⟩, rfl⟩, ⟨⟩⟩ ?_)
    refine WP.yes rfl rfl hh1 ?_
    refine WP.sx tysOk rfl ⟨⟨⟨rfl, rfl⟩, rfl⟩, ⟨⟩⟩ ?_
    refine WP.yes rfl rfl rfl ?_
    iterate 3 (refine WP.sx tysOk rfl ⟨⟨⟨rfl, rfl⟩, rfl⟩, ⟨⟩⟩ ?_)
    refine WP.yes rfl rfl (by simp [hh2]) ?_
    refine WP.sx tysOk rfl ⟨⟨⟨rfl, rfl⟩, rfl⟩, ⟨⟩⟩ ?_
    refine WP.yes rfl rfl rfl ?_
    refine WP.lx tysOk rfl ⟨⟨rfl, rfl⟩, rfl⟩ (CellAt.blk (.tail (.tail (.tail (.tail (.tail (.tail .head)))))) rfl) ?_
    refine WP.yes rfl rfl rfl ?_
    iterate 3 (refine WP.sx tysOk rfl ⟨⟨⟨rfl, rfl⟩, rfl⟩, ⟨⟩⟩ ?_)
    refine WP.yes rfl rfl (decide_eq_true hh3) ?_
    refine WP.sx tysOk rfl ⟨⟨⟨rfl, rfl⟩, rfl⟩, ⟨⟩⟩ ?_
    refine WP.yes rfl rfl rfl ?_
    refine WP.lx tysOk rfl ⟨⟨rfl, rfl⟩, rfl⟩ (CellAt.blk (.tail (.tail (.tail (.tail (.tail (.tail .head)))))) rfl) ?_
    refine WP.yes rfl rfl rfl ?_
    iterate 3 (refine WP.sx tysOk rfl ⟨⟨⟨rfl, rfl⟩, rfl⟩, ⟨⟩⟩ ?_)
    refine WP.no rfl rfl (decide_eq_false hh4) rfl rfl ?_
    iterate 3 (refine WP.no rfl rfl rfl rfl rfl ?_)
    iterate 3 (refine WP.sx tysOk rfl ⟨⟨⟨rfl, rfl⟩, rfl⟩, ⟨⟩⟩ ?_; refine WP.sx tysOk rfl ⟨⟨⟨rfl, rfl⟩, rfl⟩, ⟨⟩⟩ ?_; refine WP.no rfl rfl rfl rfl rfl ?_; refine WP.no rfl rfl rfl rfl rfl ?_)
    iterate 5 (refine WP.no rfl rfl rfl rfl rfl ?_)
    refine WP.sx tysOk rfl ⟨⟨⟨rfl, rfl⟩, rfl⟩, ⟨⟩⟩ ?_
    refine WP.lend rfl ⟨rfl, rfl⟩ ?_
    refine WP.sx tysOk rfl ⟨⟨⟩, ⟨⟩⟩ ?_
    cases h
    refine WP.retR tysOk rfl rfl ⟨_, _, rfl, rfl, rfl⟩ (fun w1 hw1 => ⟨rfl, Ret.below_ hw1 (.cons (.tail (.tail (.tail (.tail (.tail (.tail (.tail (.tail (.tail (.tail .head)))))))))) .nil)⟩)
   rw [if_neg hh3] at h
   refine WP.drawL 38 [] rfl (by kernel_rfl) (by kernel_rfl) (by kernel_rfl) ?_
   iterate 2 (refine WP.sx tysOk rfl ⟨⟨⟨rfl, rfl⟩, rfl⟩, ⟨⟩⟩ ?_)
   refine WP.yes rfl rfl hh1 ?_
   refine WP.sx tysOk rfl ⟨⟨⟨rfl, rfl⟩, rfl⟩, ⟨⟩⟩ ?_
   refine WP.yes rfl rfl rfl ?_
   iterate 3 (refine WP.sx tysOk rfl ⟨⟨⟨rfl, rfl⟩, rfl⟩, ⟨⟩⟩ ?_)
   refine WP.yes rfl rfl (by simp [hh2]) ?_
   refine WP.sx tysOk rfl ⟨⟨⟨rfl, rfl⟩, rfl⟩, ⟨⟩⟩ ?_
   refine WP.yes rfl rfl rfl ?_
   refine WP.lx tysOk rfl ⟨⟨rfl, rfl⟩, rfl⟩ (CellAt.blk (.tail (.tail (.tail (.tail (.tail (.tail .head)))))) rfl) ?_
   refine WP.yes rfl rfl rfl ?_
   iterate 3 (refine WP.sx tysOk rfl ⟨⟨⟨rfl, rfl⟩, rfl⟩, ⟨⟩⟩ ?_)
   refine WP.no rfl rfl (decide_eq_false hh3) rfl rfl ?_
   iterate 2 (refine WP.no rfl rfl rfl rfl rfl ?_)
   iterate 2 (refine WP.sx tysOk rfl ⟨⟨⟨rfl, rfl⟩, rfl⟩, ⟨⟩⟩ ?_)
   iterate 4 (refine WP.no rfl rfl rfl rfl rfl ?_)
   iterate 3 (refine WP.sx tysOk rfl ⟨⟨⟨rfl, rfl⟩, rfl⟩, ⟨⟩⟩ ?_; refine WP.sx tysOk rfl ⟨⟨⟨rfl, rfl⟩, rfl⟩, ⟨⟩⟩ ?_; refine WP.no rfl rfl rfl rfl rfl ?_; refine WP.no rfl rfl rfl rfl rfl ?_)
   iterate 5 (refine WP.no rfl rfl rfl rfl rfl ?_)
   refine WP.sx tysOk rfl ⟨⟨⟨rfl, rfl⟩, rfl⟩, ⟨⟩⟩ ?_
   refine WP.lend rfl ⟨rfl, rfl⟩ ?_
   refine WP.sx tysOk rfl ⟨⟨⟩, ⟨⟩⟩ ?_
   cases h
   refine WP.retR tysOk rfl rfl ⟨_, _, rfl, rfl, rfl⟩ (fun w1 hw1 => ⟨rfl, Ret.below_ hw1 (.cons (.tail (.tail (.tail (.tail (.tail (.tail (.tail (.tail (.tail (.tail .head)))))))))) .nil)⟩)
  rw [if_neg hh1] at h
  refine WP.drawL 38 [] rfl (by kernel_rfl) (by kernel_rfl) (by kernel_rfl) ?_
  iterate 2 (refine WP.sx tysOk rfl ⟨⟨⟨rfl, rfl⟩, rfl⟩, ⟨⟩⟩ ?_)
  refine WP.no rfl rfl (bfalse hh1) rfl rfl ?_
  refine WP.no rfl rfl rfl rfl rfl ?_
  iterate 2 (refine WP.sx tysOk rfl ⟨⟨⟨rfl, rfl⟩, rfl⟩, ⟨⟩⟩ ?_)
  iterate 3 (refine WP.no rfl rfl rfl rfl rfl ?_)
  iterate 2 (refine WP.sx tysOk rfl ⟨⟨⟨rfl, rfl⟩, rfl⟩, ⟨⟩⟩ ?_)
  iterate 3 (refine WP.no rfl rfl rfl rfl rfl ?_)
  iterate 2 (refine WP.sx tysOk rfl ⟨⟨⟨rfl, rfl⟩, rfl⟩, ⟨⟩⟩ ?_)
  iterate 4 (refine WP.no rfl rfl rfl rfl rfl ?_)
  iterate 3 (refine WP.sx tysOk rfl ⟨⟨⟨rfl, rfl⟩, rfl⟩, ⟨⟩⟩ ?_; refine WP.sx tysOk rfl ⟨⟨⟨rfl, rfl⟩, rfl⟩, ⟨⟩⟩ ?_; refine WP.no rfl rfl rfl rfl rfl ?_; refine WP.no rfl rfl rfl rfl rfl ?_)
  iterate 5 (refine WP.no rfl rfl rfl rfl rfl ?_)
  refine WP.sx tysOk rfl ⟨⟨⟨rfl, rfl⟩, rfl⟩, ⟨⟩⟩ ?_
  refine WP.lend rfl ⟨rfl, rfl⟩ ?_
  refine WP.sx tysOk rfl ⟨⟨⟩, ⟨⟩⟩ ?_
  cases h
  refine WP.retR tysOk rfl rfl ⟨_, _, rfl, rfl, rfl⟩ (fun w1 hw1 => ⟨rfl, Ret.below_ hw1 (.cons (.tail (.tail (.tail (.tail (.tail (.tail (.tail (.tail (.tail (.tail .head)))))))))) .nil)⟩)
end Go.Proofs.YtpnohbdfgmjdbaaGreat
