/- The walks: the code computes that. -/
import Derived.Test.YtpnohbdfgmjdbaaGreatGD
import Derived.Test.YtpnohbdfgmjdbaaGreatTys
import Derived.Test.YtpnohbdfgmjdbaaGreatEngG
import Derived.KernelRfl
namespace Go.Proofs.YtpnohbdfgmjdbaaGreat
open Go.RowKit Go.Qe
set_option maxHeartbeats 4000000 in
theorem eq34 (x y : Arc) (w : World) : (Op.equalIn 10000 34 (.agg #[iv x.src, iv x.dst, iv x.low, iv x.cap, iv x.cost]) (.agg #[iv y.src, iv y.dst, iv y.low, iv y.cap, iv y.cost])).run Tryz.prog w = .ok (decide (x = y)) w := by
  rw [run_equalIn_struct w 9999 34 _ _ (by kernel_rfl) (by kernel_rfl)]
  have e : decide (x = y) = ((x.src == y.src) && ((x.dst == y.dst) && ((x.low == y.low) && ((x.cap == y.cap) && ((x.cost == y.cost)))))) := by
    cases x; cases y; rw [Bool.eq_iff_iff]; simp
  rw [e]
  have i2 : ∀ (a b : Int) (w : World), (Op.equalIn 9999 2 (.int .i64 a) (.int .i64 b)).run Tryz.prog w = .ok (a == b) w := fun a b w => run_equalIn_int w 9998 2 .i64 .i64 a b Tryz.underlying2
  have g2 : ∀ w : World, (isAgg 2).run Tryz.prog w = .ok false w := fun w => isAgg_run Tryz.underlying2 w
  have i3 : ∀ (a b : Int) (w : World), (Op.equalIn 9999 3 (.int .i64 a) (.int .i64 b)).run Tryz.prog w = .ok (a == b) w := fun a b w => run_equalIn_int w 9998 3 .i64 .i64 a b Tryz.underlying3
  have g3 : ∀ w : World, (isAgg 3).run Tryz.prog w = .ok false w := fun w => isAgg_run Tryz.underlying3 w
  simp [Program.fieldsOf, Op.eqFields, part, Tryz.underlying34, g2, i2, g3, i3]
  (repeat' split) <;> simp_all
set_option maxHeartbeats 4000000 in
theorem eq46 (x y : Wide) (w : World) : (Op.equalIn 10000 46 (.agg #[iv x.hi, .int .u64 (x.lo)]) (.agg #[iv y.hi, .int .u64 (y.lo)])).run Tryz.prog w = .ok (decide (x = y)) w := by
  rw [run_equalIn_struct w 9999 46 _ _ (by kernel_rfl) (by kernel_rfl)]
  have e : decide (x = y) = ((x.hi == y.hi) && ((x.lo == y.lo))) := by
    cases x; cases y; rw [Bool.eq_iff_iff]; simp
  rw [e]
  have i2 : ∀ (a b : Int) (w : World), (Op.equalIn 9999 2 (.int .i64 a) (.int .i64 b)).run Tryz.prog w = .ok (a == b) w := fun a b w => run_equalIn_int w 9998 2 .i64 .i64 a b Tryz.underlying2
  have g2 : ∀ w : World, (isAgg 2).run Tryz.prog w = .ok false w := fun w => isAgg_run Tryz.underlying2 w
  have i44 : ∀ (a b : Int) (w : World), (Op.equalIn 9999 44 (.int .u64 a) (.int .u64 b)).run Tryz.prog w = .ok (a == b) w := fun a b w => run_equalIn_int w 9998 44 .u64 .u64 a b Tryz.underlying44
  have g44 : ∀ w : World, (isAgg 44).run Tryz.prog w = .ok false w := fun w => isAgg_run Tryz.underlying44 w
  simp [Program.fieldsOf, Op.eqFields, part, Tryz.underlying46, g2, i2, g44, i44]
  (repeat' split) <;> simp_all
set_option maxRecDepth 20000 in
set_option maxHeartbeats 8000000 in
theorem law03_Size_w {w : World} {v0 : Value} {i1 : Inst} {r : Int} (h : law03_Size i1 = some r) (p1 : InsZ (PH.of w) v0 i1) :
    Calls Tryz.prog 5 #[v0] w fun e w' => e = .returned (iv r) ∧ Below w.heap.size w w' := by
  obtain ⟨A1, c1, A2, c2, rfl, hs1, hs2⟩ := p1
  unfold law03_Size at h
  refine enter_ Tryz.func5 rfl Tryz.ntmps5 rfl ?_
  refine WP.box rfl rfl rfl rfl rfl rfl ?_
  intro g1
  iterate 2 (refine WP.sx tysOk rfl ⟨⟨⟩, ⟨⟩⟩ ?_)
  refine WP.lx tysOk rfl ⟨⟩ (CellAt.blk .head rfl) ?_
  iterate 2 (refine WP.sx tysOk rfl ⟨⟨⟩, ⟨⟩⟩ ?_)
  refine WP.lx tysOk rfl ⟨⟩ (CellAt.blk .head rfl) ?_
  iterate 4 (refine WP.sx tysOk rfl ⟨⟨⟩, ⟨⟩⟩ ?_)
  cases h
  refine WP.retR tysOk rfl rfl ⟨_, _, rfl, rfl, rfl⟩ (fun w1 hw1 => ⟨rfl, Ret.below_ hw1 (.cons (.tail .head) .nil)⟩)

set_option maxRecDepth 20000 in
set_option maxHeartbeats 8000000 in
theorem two_series_w {w : World} :
    Calls Tryz.prog 25 #[] w fun e w' => e = .returned (.agg #[iv 8, .func (.func 37) #[] #[], .func (.func 38) #[] #[], .func (.func 39) #[] #[]]) ∧ Below w.heap.size w w' := by
  refine enter_ Tryz.func25 rfl Tryz.ntmps25 rfl ?_
  refine WP.al tysOk rfl rfl rfl rfl rfl rfl ?_
  intro g1
  refine WP.bld (cs := [iv 8, .func (.func 37) #[] #[], .func (.func 38) #[] #[], .func (.func 39) #[] #[]]) tysOk rfl ⟨⟩ rfl rfl rfl rfl rfl rfl rfl ?_
  refine WP.sto' tysOk [iv 8, .func (.func 37) #[] #[], .func (.func 38) #[] #[], .func (.func 39) #[] #[]] rfl rfl rfl rfl rfl rfl rfl rfl rfl .head rfl rfl ?_
  refine WP.retR tysOk rfl rfl ⟨_, _, _, _, rfl, ⟨_, rfl, .inr ⟨rfl, _, rfl, rfl, (SegAt.blk' (z := 4) .head rfl).1⟩⟩, rfl, rfl⟩ (fun w1 hw1 => ⟨rfl, Ret.below_ hw1 (.cons (.tail .head) .nil)⟩)

set_option maxRecDepth 20000 in
set_option maxHeartbeats 8000000 in
theorem two_series_1_w {w : World} {x1 : Arc} {y1 : Arc} {n1 : Int} {r : Bool} (h : two_series_1 x1 y1 n1 = some r) :
    Calls Tryz.prog 37 #[.agg #[iv x1.src, iv x1.dst, iv x1.low, iv x1.cap, iv x1.cost], .agg #[iv y1.src, iv y1.dst, iv y1.low, iv y1.cap, iv y1.cost], iv n1] w fun e w' => e = .returned (.bool (r)) ∧ Below w.heap.size w w' := by
  unfold two_series_1 at h
  refine enter_ Tryz.func37 rfl Tryz.ntmps37 rfl ?_
  refine WP.box rfl rfl rfl rfl rfl rfl ?_
  intro g1
  refine WP.box rfl rfl rfl rfl rfl rfl ?_
  intro g2
  iterate 2 (refine WP.sx tysOk rfl ⟨⟨⟩, ⟨⟩⟩ ?_)
  refine WP.lx tysOk rfl ⟨⟩ (CellAt.blk (.tail .head) rfl) ?_
  iterate 3 (refine WP.sx tysOk rfl ⟨⟨⟩, ⟨⟩⟩ ?_)
  by_cases hh1 : x1.dst = n1
  ·rw [if_pos hh1] at h
   refine WP.yes rfl rfl (decide_eq_true hh1) ?_
   refine WP.sx tysOk rfl ⟨⟨⟩, ⟨⟩⟩ ?_
   refine WP.yes rfl rfl rfl ?_
   refine WP.lx tysOk rfl ⟨⟩ (CellAt.blk .head rfl) ?_
   refine WP.yes rfl rfl rfl ?_
   refine WP.sx tysOk rfl ⟨⟨⟩, ⟨⟩⟩ ?_
   refine WP.yes rfl rfl rfl ?_
   iterate 3 (refine WP.sx tysOk rfl ⟨⟨⟩, ⟨⟩⟩ ?_)
   cases h
   refine WP.retR tysOk rfl rfl ⟨_, _, rfl, rfl, rfl⟩ (fun w1 hw1 => ⟨rfl, Ret.below_ hw1 (.cons (.tail (.tail .head)) .nil)⟩)
  rw [if_neg hh1] at h
  refine WP.no rfl rfl (decide_eq_false hh1) rfl rfl ?_
  iterate 3 (refine WP.no rfl rfl rfl rfl rfl ?_)
  iterate 2 (refine WP.sx tysOk rfl ⟨⟨⟩, ⟨⟩⟩ ?_)
  cases h
  refine WP.retR tysOk rfl rfl ⟨_, _, rfl, rfl, rfl⟩ (fun w1 hw1 => ⟨rfl, Ret.below_ hw1 (.cons (.tail (.tail .head)) .nil)⟩)

set_option maxRecDepth 20000 in
set_option maxHeartbeats 8000000 in
theorem two_least_w {w : World} {a1 : Int} {b1 : Int} {s1 : Int} {r : Int} (h : two_least a1 b1 s1 = some r) :
    Calls Tryz.prog 60 #[iv a1, iv b1, iv s1] w fun e w' => e = .returned (iv r) ∧ Below w.heap.size w w' := by
  unfold two_least at h
  refine enter_ Tryz.func60 rfl Tryz.ntmps60 rfl ?_
  iterate 2 (refine WP.sx tysOk rfl ⟨⟨⟩, ⟨⟩⟩ ?_)
  by_cases hh1 : b1 = 4611686018427387904
  ·rw [if_pos hh1] at h
   refine WP.callV rfl rfl rfl rfl rfl rfl rfl (by kernel_rfl) (fun w1 hw1 => two_bound_nil hh1) ⟨⟩ ?_
   iterate 3 (refine WP.sx tysOk rfl ⟨⟨⟩, ⟨⟩⟩ ?_)
   refine WP.condF rfl rfl ?_
   iterate 2 (refine WP.sx tysOk rfl ⟨⟨⟩, ⟨⟩⟩ ?_)
   cases h
   refine WP.retR tysOk rfl rfl ⟨_, _, rfl, rfl, rfl⟩ (fun w1 hw1 => ⟨rfl, Ret.below_ hw1 (.cons .head .nil)⟩)
  rw [if_neg hh1] at h
  refine WP.callS (two_bound_S b1) rfl rfl rfl rfl rfl rfl rfl (by kernel_rfl) (fun w1 hw1 => two_bound_some hh1) ?_
  rintro _ _ ⟨g1, rfl, rfl⟩
  iterate 3 (refine WP.sx tysOk rfl ⟨⟨⟩, ⟨⟩⟩ ?_)
  refine WP.condT rfl rfl ?_
  iterate 3 (refine WP.sx tysOk rfl ⟨⟨⟩, ⟨⟩⟩ ?_)
  refine WP.lx tysOk rfl ⟨⟩ (CellAt.blk .head rfl) ?_
  iterate 2 (refine WP.sx tysOk rfl ⟨⟨⟩, ⟨⟩⟩ ?_)
  refine WP.mn rfl ⟨⟩ rfl rfl rfl rfl rfl rfl ?_
  refine WP.sx tysOk rfl ⟨⟨⟩, ⟨⟩⟩ ?_
  cases h
  refine WP.retR tysOk rfl rfl ⟨_, _, rfl, rfl, rfl⟩ (fun w1 hw1 => ⟨rfl, Ret.below_ hw1 (.cons (.tail .head) .nil)⟩)

set_option maxRecDepth 20000 in
set_option maxHeartbeats 8000000 in
theorem two_pair_chain_w {w : World} {p1 : Pair} {r : Arc} (h : two_pair_chain p1 = some r) :
    Calls Tryz.prog 38 #[.agg #[iv p1.x.src, iv p1.x.dst, iv p1.x.low, iv p1.x.cap, iv p1.x.cost, iv p1.y.src, iv p1.y.dst, iv p1.y.low, iv p1.y.cap, iv p1.y.cost, iv p1.n, iv p1.s]] w fun e w' => e = .returned (.agg #[iv r.src, iv r.dst, iv r.low, iv r.cap, iv r.cost]) ∧ Below w.heap.size w w' := by
  unfold two_pair_chain at h
  refine enter_ Tryz.func38 rfl Tryz.ntmps38 rfl ?_
  refine WP.box rfl rfl rfl rfl rfl rfl ?_
  intro g1
  refine WP.al tysOk rfl rfl rfl rfl rfl rfl ?_
  intro g2
  obtain ⟨r1, hg1, h⟩ := bind_some h
  refine WP.drawL 41 [(30, [], fun _ => constSpec (iv r1))] rfl (by kernel_rfl) (by kernel_rfl) (by kernel_rfl) ?_
  iterate 3 (refine WP.sx tysOk rfl ⟨⟨⟨rfl, rfl⟩, rfl⟩, ⟨⟩⟩ ?_)
  refine WP.lx tysOk rfl ⟨⟨rfl, rfl⟩, rfl⟩ (CellAt.blk (.tail .head) rfl) ?_
  iterate 3 (refine WP.sx tysOk rfl ⟨⟨⟨rfl, rfl⟩, rfl⟩, ⟨⟩⟩ ?_)
  refine WP.lx tysOk rfl ⟨⟨rfl, rfl⟩, rfl⟩ (CellAt.blk (.tail .head) rfl) ?_
  iterate 3 (refine WP.sx tysOk rfl ⟨⟨⟨rfl, rfl⟩, rfl⟩, ⟨⟩⟩ ?_)
  refine WP.lx tysOk rfl ⟨⟨rfl, rfl⟩, rfl⟩ (CellAt.blk (.tail .head) rfl) ?_
  iterate 3 (refine WP.sx tysOk rfl ⟨⟨⟨rfl, rfl⟩, rfl⟩, ⟨⟩⟩ ?_)
  refine WP.lx tysOk rfl ⟨⟨rfl, rfl⟩, rfl⟩ (CellAt.blk (.tail .head) rfl) ?_
  refine WP.sx tysOk rfl ⟨⟨⟨rfl, rfl⟩, rfl⟩, ⟨⟩⟩ ?_
  refine WP.lx tysOk rfl ⟨⟨rfl, rfl⟩, rfl⟩ (CellAt.blk (.tail .head) rfl) ?_
  refine WP.sx tysOk rfl ⟨⟨⟨rfl, rfl⟩, rfl⟩, ⟨⟩⟩ ?_
  refine WP.mx rfl ⟨⟨rfl, rfl⟩, rfl⟩ rfl rfl rfl rfl rfl rfl ?_
  iterate 3 (refine WP.sx tysOk rfl ⟨⟨⟨rfl, rfl⟩, rfl⟩, ⟨⟩⟩ ?_)
  refine WP.lx tysOk rfl ⟨⟨rfl, rfl⟩, rfl⟩ (CellAt.blk (.tail .head) rfl) ?_
  iterate 3 (refine WP.sx tysOk rfl ⟨⟨⟨rfl, rfl⟩, rfl⟩, ⟨⟩⟩ ?_)
  refine WP.lx tysOk rfl ⟨⟨rfl, rfl⟩, rfl⟩ (CellAt.blk (.tail .head) rfl) ?_
  refine WP.sx tysOk rfl ⟨⟨⟨rfl, rfl⟩, rfl⟩, ⟨⟩⟩ ?_
  refine WP.lx tysOk rfl ⟨⟨rfl, rfl⟩, rfl⟩ (CellAt.blk (.tail .head) rfl) ?_
  refine WP.callV rfl rfl rfl rfl rfl rfl rfl (by kernel_rfl) (fun w1 hw1 => (two_least_w hg1  :)) ⟨⟨rfl, rfl⟩, rfl⟩ ?_
  iterate 3 (refine WP.sx tysOk rfl ⟨⟨⟨rfl, rfl⟩, rfl⟩, ⟨⟩⟩ ?_)
  refine WP.lx tysOk rfl ⟨⟨rfl, rfl⟩, rfl⟩ (CellAt.blk (.tail .head) rfl) ?_
  iterate 3 (refine WP.sx tysOk rfl ⟨⟨⟨rfl, rfl⟩, rfl⟩, ⟨⟩⟩ ?_)
  refine WP.lx tysOk rfl ⟨⟨rfl, rfl⟩, rfl⟩ (CellAt.blk (.tail .head) rfl) ?_
  refine WP.sx tysOk rfl ⟨⟨⟨rfl, rfl⟩, rfl⟩, ⟨⟩⟩ ?_
  refine WP.bld (cs := [iv p1.x.src, iv p1.y.dst, iv (if (w64 (p1.y.low - p1.s)) > p1.x.low then w64 (p1.y.low - p1.s) else p1.x.low), iv r1, iv (w64 (p1.x.cost + p1.y.cost))]) tysOk rfl ⟨⟨rfl, rfl⟩, rfl⟩ rfl rfl rfl rfl rfl rfl rfl ?_
  refine WP.lend rfl ⟨rfl, rfl⟩ ?_
  refine WP.sto' tysOk [iv p1.x.src, iv p1.y.dst, iv (if (w64 (p1.y.low - p1.s)) > p1.x.low then w64 (p1.y.low - p1.s) else p1.x.low), iv r1, iv (w64 (p1.x.cost + p1.y.cost))] rfl rfl rfl rfl rfl rfl rfl rfl rfl .head rfl rfl ?_
  cases h
  refine WP.retR tysOk rfl rfl ⟨_, _, _, _, rfl, ⟨_, rfl, .inr ⟨rfl, _, rfl, rfl, (SegAt.blk' (z := 5) .head rfl).1⟩⟩, rfl, rfl⟩ (fun w1 hw1 => ⟨rfl, Ret.below_ hw1 (.cons (.tail (.tail .head)) .nil)⟩)

set_option maxRecDepth 20000 in
set_option maxHeartbeats 8000000 in
theorem two_shape_at_1_w {w : World} {v0 : Value} {v1 : Value} {i1 : Inst} {x1 : Inst} {x2 : Int} {r : Spot × Pair × Bool} (h : two_shape_at_1 i1 x1 x2 = some r) (p1 : GraphZ (PH.of w) v0 i1) (p2 : InsZ (PH.of w) v1 x1) :
    Calls Tryz.prog 26 #[.agg #[iv 8, .func (.func 37) #[] #[], .func (.func 38) #[] #[], .func (.func 39) #[] #[]], v0, v1, iv x2] w fun e w' => e = .returned (.tuple #[.agg #[iv r.1.node, iv r.1.a, iv r.1.b, iv r.1.new.src, iv r.1.new.dst, iv r.1.new.low, iv r.1.new.cap, iv r.1.new.cost], .agg #[iv r.2.1.x.src, iv r.2.1.x.dst, iv r.2.1.x.low, iv r.2.1.x.cap, iv r.2.1.x.cost, iv r.2.1.y.src, iv r.2.1.y.dst, iv r.2.1.y.low, iv r.2.1.y.cap, iv r.2.1.y.cost, iv r.2.1.n, iv r.2.1.s], .bool (r.2.2)]) ∧ Below w.heap.size w w' := by
  obtain ⟨gg1, rfl⟩ := p1.ptr'
  obtain ⟨A1, c1, A2, c2, rfl, hs1, hs2⟩ := p2
  unfold two_shape_at_1 at h
  refine enter_ Tryz.func26 rfl Tryz.ntmps26 rfl ?_
  refine WP.box rfl rfl rfl rfl rfl rfl ?_
  intro g1
  refine WP.box rfl rfl rfl rfl rfl rfl ?_
  intro g2
  refine WP.al tysOk rfl rfl rfl rfl rfl rfl ?_
  intro g3
  refine WP.al tysOk rfl rfl rfl rfl rfl rfl ?_
  intro g4
  iterate 3 (refine WP.sx tysOk rfl ⟨⟨⟩, ⟨⟩⟩ ?_)
  obtain ⟨r1, hg1, h⟩ := bind_some h
  refine WP.callS (adj_Graph_At_S r1) rfl rfl rfl rfl rfl rfl rfl (by kernel_rfl) (fun w1 hw1 => (adj_Graph_At_w hg1 (p1.le ((Held.mem (List.Mem.tail _ (List.Mem.tail _ (List.Mem.tail _ (List.Mem.tail _ (List.Mem.head _)))))) _ _ hw1)) :)) ?_
  rintro _ _ ⟨A3, n1, c3, rfl, hf1, rfl⟩
  iterate 2 (refine WP.sx tysOk rfl ⟨⟨⟩, ⟨⟩⟩ ?_)
  refine WP.lenO (xs := r1) tysOk rfl ⟨⟩ rfl rfl rfl rfl rfl rfl hf1 ?_
  iterate 2 (refine WP.sx tysOk rfl ⟨⟨⟩, ⟨⟩⟩ ?_)
  by_cases hh1 : ¬ (r1.length : Int) = 2
  ·rw [if_pos hh1] at h
   refine WP.no rfl rfl (decide_eq_true hh1) rfl rfl ?_
   iterate 3 (refine WP.no rfl rfl rfl rfl rfl ?_)
   refine WP.sx tysOk rfl ⟨⟨⟩, ⟨⟩⟩ ?_
   refine WP.condT rfl rfl ?_
   refine WP.bld (cs := [iv 0, iv 0, iv 0, iv 0, iv 0, iv 0, iv 0, iv 0]) tysOk rfl ⟨⟩ rfl rfl rfl rfl rfl rfl rfl ?_
   refine WP.bld (cs := [iv 0, iv 0, iv 0, iv 0, iv 0, iv 0, iv 0, iv 0, iv 0, iv 0, iv 0, iv 0]) tysOk rfl ⟨⟩ rfl rfl rfl rfl rfl rfl rfl ?_
   refine WP.sto' tysOk [iv 0, iv 0, iv 0, iv 0, iv 0, iv 0, iv 0, iv 0] rfl rfl rfl rfl rfl rfl rfl rfl rfl (.tail (.tail .head)) rfl rfl ?_
   refine WP.sto' tysOk [iv 0, iv 0, iv 0, iv 0, iv 0, iv 0, iv 0, iv 0, iv 0, iv 0, iv 0, iv 0] rfl rfl rfl rfl rfl rfl rfl rfl rfl (.tail (.tail .head)) rfl rfl ?_
   refine WP.sx tysOk rfl ⟨⟨⟩, ⟨⟩⟩ ?_
   cases h
   refine WP.retR tysOk rfl rfl ⟨_, _, _, _, rfl, ⟨_, rfl, .inr ⟨rfl, _, rfl, rfl, (SegAt.blk' (z := 8) (.tail .head) rfl).1⟩⟩, ⟨_, _, _, _, rfl, ⟨_, rfl, .inr ⟨rfl, _, rfl, rfl, (SegAt.blk' (z := 12) .head rfl).1⟩⟩, ⟨_, _, rfl, rfl, rfl⟩, rfl⟩, rfl⟩ (fun w1 hw1 => ⟨rfl, Ret.below_ hw1 (.cons (.tail (.tail (.tail (.tail (.tail .head))))) .nil)⟩)
  rw [if_neg hh1] at h
  refine WP.yes rfl rfl (decide_eq_false hh1) ?_
  iterate 2 (refine WP.sx tysOk rfl ⟨⟨⟩, ⟨⟩⟩ ?_; refine WP.yes rfl rfl rfl ?_)
  obtain ⟨r2, hg2, h⟩ := bind_some h
  refine WP.callV rfl rfl rfl rfl rfl rfl rfl (by kernel_rfl) (fun w1 hw1 => (adj_Graph_Loops_w hg2 (p1.le ((Held.mem (List.Mem.tail _ (List.Mem.tail _ (List.Mem.tail _ (List.Mem.tail _ (List.Mem.tail _ (List.Mem.head _))))))) _ _ hw1)) :)) ⟨⟩ ?_
  refine WP.yes rfl rfl rfl ?_
  iterate 2 (refine WP.sx tysOk rfl ⟨⟨⟩, ⟨⟩⟩ ?_)
  refine WP.cond_d rfl rfl (fun hh2 => ?_) (fun hh2 => ?_)
  ·rw [if_pos hh2] at h
   refine WP.bld (cs := [iv 0, iv 0, iv 0, iv 0, iv 0, iv 0, iv 0, iv 0]) tysOk rfl ⟨⟩ rfl rfl rfl rfl rfl rfl rfl ?_
   refine WP.bld (cs := [iv 0, iv 0, iv 0, iv 0, iv 0, iv 0, iv 0, iv 0, iv 0, iv 0, iv 0, iv 0]) tysOk rfl ⟨⟩ rfl rfl rfl rfl rfl rfl rfl ?_
   refine WP.sto' tysOk [iv 0, iv 0, iv 0, iv 0, iv 0, iv 0, iv 0, iv 0] rfl rfl rfl rfl rfl rfl rfl rfl rfl (.tail (.tail .head)) rfl rfl ?_
   refine WP.sto' tysOk [iv 0, iv 0, iv 0, iv 0, iv 0, iv 0, iv 0, iv 0, iv 0, iv 0, iv 0, iv 0] rfl rfl rfl rfl rfl rfl rfl rfl rfl (.tail (.tail .head)) rfl rfl ?_
   refine WP.sx tysOk rfl ⟨⟨⟩, ⟨⟩⟩ ?_
   cases h
   refine WP.retR tysOk rfl rfl ⟨_, _, _, _, rfl, ⟨_, rfl, .inr ⟨rfl, _, rfl, rfl, (SegAt.blk' (z := 8) (.tail .head) rfl).1⟩⟩, ⟨_, _, _, _, rfl, ⟨_, rfl, .inr ⟨rfl, _, rfl, rfl, (SegAt.blk' (z := 12) .head rfl).1⟩⟩, ⟨_, _, rfl, rfl, rfl⟩, rfl⟩, rfl⟩ (fun w1 hw1 => ⟨rfl, Ret.below_ hw1 (.cons (.tail (.tail (.tail (.tail (.tail .head))))) .nil)⟩)
  rw [if_neg hh2] at h
  refine WP.draw rfl (by kernel_rfl) (by kernel_rfl) ?_
  refine WP.sx tysOk rfl ⟨rfl, ⟨⟩⟩ ?_
  obtain ⟨hj1, h⟩ := ck_some h
  refine WP.ixO tysOk rfl rfl rfl rfl rfl rfl rfl rfl rfl rfl hf1 hj1 ?_
  intro b1 hA1
  refine WP.lx tysOk rfl rfl (OwS.at0 .head hA1 hj1 rfl) ?_
  refine WP.sx tysOk rfl ⟨rfl, ⟨⟩⟩ ?_
  obtain ⟨hj2, h⟩ := ck_some h
  refine WP.ixO tysOk rfl rfl rfl rfl rfl rfl rfl rfl rfl rfl hf1 hj2 ?_
  intro b2 hA2
  refine WP.lx tysOk rfl rfl (OwS.at0 .head hA2 hj2 rfl) ?_
  iterate 2 (refine WP.sx tysOk rfl ⟨rfl, ⟨⟩⟩ ?_)
  refine WP.qend rfl ?_
  obtain ⟨hj3, h⟩ := ck_some h
  obtain ⟨hj4, h⟩ := ck_some h
  obtain ⟨r3, hg3, h⟩ := bind_some h
  refine WP.drawL 15 [(13, [], fun _ => constSpec (.bool (r3)))] rfl (by kernel_rfl) (by kernel_rfl) (by kernel_rfl) ?_
  refine WP.sx tysOk rfl ⟨⟨⟨rfl, rfl⟩, rfl⟩, ⟨⟩⟩ ?_
  refine WP.lx tysOk rfl ⟨⟨rfl, rfl⟩, rfl⟩ (CellAt.blk (.tail (.tail (.tail (.tail .head)))) rfl) ?_
  refine WP.sx tysOk rfl ⟨⟨⟨rfl, rfl⟩, rfl⟩, ⟨⟩⟩ ?_
  refine WP.lx tysOk rfl ⟨⟨rfl, rfl⟩, rfl⟩ (CellAt.blk (.tail (.tail (.tail .head))) rfl) ?_
  refine WP.sx tysOk rfl ⟨⟨⟨rfl, rfl⟩, rfl⟩, ⟨⟩⟩ ?_
  refine WP.ixA tysOk rfl ⟨⟨rfl, rfl⟩, rfl⟩ rfl rfl rfl rfl rfl rfl rfl rfl hj3 (hs2.ex hj3) ?_
  intro b3 b3v hA3
  refine WP.mx_ tysOk rfl ⟨⟨rfl, rfl⟩, rfl⟩ (hs2.seg hA3 (Held.mem (List.Mem.tail _ (List.Mem.tail _ (List.Mem.tail _ (List.Mem.tail _ (List.Mem.tail _ (List.Mem.head _))))))) hj3) ?_
  refine WP.sx tysOk rfl ⟨⟨⟨rfl, rfl⟩, rfl⟩, ⟨⟩⟩ ?_
  refine WP.lx tysOk rfl ⟨⟨rfl, rfl⟩, rfl⟩ (CellAt.blk (.tail (.tail (.tail .head))) rfl) ?_
  refine WP.sx tysOk rfl ⟨⟨⟨rfl, rfl⟩, rfl⟩, ⟨⟩⟩ ?_
  refine WP.ixA tysOk rfl ⟨⟨rfl, rfl⟩, rfl⟩ rfl rfl rfl rfl rfl rfl rfl rfl hj4 (hs2.ex hj4) ?_
  intro b4 b4v hA4
  refine WP.mx_ tysOk rfl ⟨⟨rfl, rfl⟩, rfl⟩ (hs2.seg hA4 (Held.mem (List.Mem.tail _ (List.Mem.tail _ (List.Mem.tail _ (List.Mem.tail _ (List.Mem.tail _ (List.Mem.head _))))))) hj4) ?_
  refine WP.sx tysOk rfl ⟨⟨⟨rfl, rfl⟩, rfl⟩, ⟨⟩⟩ ?_
  refine WP.callV rfl rfl rfl rfl rfl rfl rfl (by kernel_rfl) (fun w1 hw1 => (two_series_1_w hg3  :)) ⟨⟨rfl, rfl⟩, rfl⟩ ?_
  refine WP.sx tysOk rfl ⟨⟨⟨rfl, rfl⟩, rfl⟩, ⟨⟩⟩ ?_
  refine WP.lend rfl ⟨rfl, rfl⟩ ?_
  refine WP.cond_n rfl rfl (fun hh3 => ?_) (fun hh3 => ?_)
  ·rw [if_neg (bneg hh3)] at h
   iterate 4 (refine WP.sx tysOk rfl ⟨⟨⟩, ⟨⟩⟩ ?_)
   obtain ⟨r4, hg4, h⟩ := bind_some h
   refine WP.drawL 15 [(13, [], fun _ => constSpec (.bool (r4)))] rfl (by kernel_rfl) (by kernel_rfl) (by kernel_rfl) ?_
   refine WP.sx tysOk rfl ⟨⟨⟨rfl, rfl⟩, rfl⟩, ⟨⟩⟩ ?_
   refine WP.lx tysOk rfl ⟨⟨rfl, rfl⟩, rfl⟩ (CellAt.blk (.tail (.tail (.tail (.tail .head)))) rfl) ?_
   refine WP.sx tysOk rfl ⟨⟨⟨rfl, rfl⟩, rfl⟩, ⟨⟩⟩ ?_
   refine WP.lx tysOk rfl ⟨⟨rfl, rfl⟩, rfl⟩ (CellAt.blk (.tail (.tail (.tail .head))) rfl) ?_
   refine WP.sx tysOk rfl ⟨⟨⟨rfl, rfl⟩, rfl⟩, ⟨⟩⟩ ?_
   refine WP.ixA tysOk rfl ⟨⟨rfl, rfl⟩, rfl⟩ rfl rfl rfl rfl rfl rfl rfl rfl hj4 (hs2.ex hj4) ?_
   intro b5 b5v hA5
   refine WP.mx_ tysOk rfl ⟨⟨rfl, rfl⟩, rfl⟩ (hs2.seg hA5 (Held.mem (List.Mem.tail _ (List.Mem.tail _ (List.Mem.tail _ (List.Mem.tail _ (List.Mem.tail _ (List.Mem.head _))))))) hj4) ?_
   refine WP.sx tysOk rfl ⟨⟨⟨rfl, rfl⟩, rfl⟩, ⟨⟩⟩ ?_
   refine WP.lx tysOk rfl ⟨⟨rfl, rfl⟩, rfl⟩ (CellAt.blk (.tail (.tail (.tail .head))) rfl) ?_
   refine WP.sx tysOk rfl ⟨⟨⟨rfl, rfl⟩, rfl⟩, ⟨⟩⟩ ?_
   refine WP.ixA tysOk rfl ⟨⟨rfl, rfl⟩, rfl⟩ rfl rfl rfl rfl rfl rfl rfl rfl hj3 (hs2.ex hj3) ?_
   intro b6 b6v hA6
   refine WP.mx_ tysOk rfl ⟨⟨rfl, rfl⟩, rfl⟩ (hs2.seg hA6 (Held.mem (List.Mem.tail _ (List.Mem.tail _ (List.Mem.tail _ (List.Mem.tail _ (List.Mem.tail _ (List.Mem.head _))))))) hj3) ?_
   refine WP.sx tysOk rfl ⟨⟨⟨rfl, rfl⟩, rfl⟩, ⟨⟩⟩ ?_
   refine WP.callV rfl rfl rfl rfl rfl rfl rfl (by kernel_rfl) (fun w1 hw1 => (two_series_1_w hg4  :)) ⟨⟨rfl, rfl⟩, rfl⟩ ?_
   refine WP.sx tysOk rfl ⟨⟨⟨rfl, rfl⟩, rfl⟩, ⟨⟩⟩ ?_
   refine WP.lend rfl ⟨rfl, rfl⟩ ?_
   refine WP.cond_n rfl rfl (fun hh4 => ?_) (fun hh4 => ?_)
   ·rw [if_neg (bneg hh4)] at h
    refine WP.bld (cs := [iv 0, iv 0, iv 0, iv 0, iv 0, iv 0, iv 0, iv 0]) tysOk rfl ⟨⟩ rfl rfl rfl rfl rfl rfl rfl ?_
    refine WP.bld (cs := [iv 0, iv 0, iv 0, iv 0, iv 0, iv 0, iv 0, iv 0, iv 0, iv 0, iv 0, iv 0]) tysOk rfl ⟨⟩ rfl rfl rfl rfl rfl rfl rfl ?_
    refine WP.sto' tysOk [iv 0, iv 0, iv 0, iv 0, iv 0, iv 0, iv 0, iv 0] rfl rfl rfl rfl rfl rfl rfl rfl rfl (.tail (.tail .head)) rfl rfl ?_
    refine WP.sto' tysOk [iv 0, iv 0, iv 0, iv 0, iv 0, iv 0, iv 0, iv 0, iv 0, iv 0, iv 0, iv 0] rfl rfl rfl rfl rfl rfl rfl rfl rfl (.tail (.tail .head)) rfl rfl ?_
    refine WP.sx tysOk rfl ⟨⟨⟩, ⟨⟩⟩ ?_
    cases h
    refine WP.retR tysOk rfl rfl ⟨_, _, _, _, rfl, ⟨_, rfl, .inr ⟨rfl, _, rfl, rfl, (SegAt.blk' (z := 8) (.tail .head) rfl).1⟩⟩, ⟨_, _, _, _, rfl, ⟨_, rfl, .inr ⟨rfl, _, rfl, rfl, (SegAt.blk' (z := 12) .head rfl).1⟩⟩, ⟨_, _, rfl, rfl, rfl⟩, rfl⟩, rfl⟩ (fun w1 hw1 => ⟨rfl, Ret.below_ hw1 (.cons (.tail (.tail (.tail (.tail (.tail .head))))) .nil)⟩)
   rw [if_pos hh4] at h
   obtain ⟨hj5, h⟩ := ck_some h
   refine WP.drawL 20 [(19, [], fun _ => blkSpec 66 [iv 0, iv 0, iv 0, iv 0, iv 0, iv 0, iv 0, iv 0, iv 0, iv 0, iv 0, iv 0])] rfl (by kernel_rfl) (by kernel_rfl) (by kernel_rfl) ?_
   refine WP.sx tysOk rfl ⟨⟨⟨rfl, rfl⟩, rfl⟩, ⟨⟩⟩ ?_
   refine WP.lx tysOk rfl ⟨⟨rfl, rfl⟩, rfl⟩ (CellAt.blk (.tail (.tail (.tail .head))) rfl) ?_
   refine WP.sx tysOk rfl ⟨⟨⟨rfl, rfl⟩, rfl⟩, ⟨⟩⟩ ?_
   refine WP.ixA tysOk rfl ⟨⟨rfl, rfl⟩, rfl⟩ rfl rfl rfl rfl rfl rfl rfl rfl hj4 (hs2.ex hj4) ?_
   intro b7 b7v hA7
   refine WP.mx_ tysOk rfl ⟨⟨rfl, rfl⟩, rfl⟩ (hs2.seg hA7 (Held.mem (List.Mem.tail _ (List.Mem.tail _ (List.Mem.tail _ (List.Mem.tail _ (List.Mem.tail _ (List.Mem.head _))))))) hj4) ?_
   refine WP.bld (cs := [iv ((gt x1.arcs (gt r1 1)).src), iv ((gt x1.arcs (gt r1 1)).dst), iv ((gt x1.arcs (gt r1 1)).low), iv ((gt x1.arcs (gt r1 1)).cap), iv ((gt x1.arcs (gt r1 1)).cost)]) tysOk rfl ⟨⟨rfl, rfl⟩, rfl⟩ rfl rfl rfl rfl rfl rfl rfl ?_
   refine WP.sx tysOk rfl ⟨⟨⟨rfl, rfl⟩, rfl⟩, ⟨⟩⟩ ?_
   refine WP.lx tysOk rfl ⟨⟨rfl, rfl⟩, rfl⟩ (CellAt.blk (.tail (.tail (.tail .head))) rfl) ?_
   refine WP.sx tysOk rfl ⟨⟨⟨rfl, rfl⟩, rfl⟩, ⟨⟩⟩ ?_
   refine WP.ixA tysOk rfl ⟨⟨rfl, rfl⟩, rfl⟩ rfl rfl rfl rfl rfl rfl rfl rfl hj3 (hs2.ex hj3) ?_
   intro b8 b8v hA8
   refine WP.mx_ tysOk rfl ⟨⟨rfl, rfl⟩, rfl⟩ (hs2.seg hA8 (Held.mem (List.Mem.tail _ (List.Mem.tail _ (List.Mem.tail _ (List.Mem.tail _ (List.Mem.tail _ (List.Mem.head _))))))) hj3) ?_
   refine WP.bld (cs := [iv ((gt x1.arcs (gt r1 0)).src), iv ((gt x1.arcs (gt r1 0)).dst), iv ((gt x1.arcs (gt r1 0)).low), iv ((gt x1.arcs (gt r1 0)).cap), iv ((gt x1.arcs (gt r1 0)).cost)]) tysOk rfl ⟨⟨rfl, rfl⟩, rfl⟩ rfl rfl rfl rfl rfl rfl rfl ?_
   iterate 2 (refine WP.sx tysOk rfl ⟨⟨⟨rfl, rfl⟩, rfl⟩, ⟨⟩⟩ ?_)
   refine WP.lx tysOk rfl ⟨⟨rfl, rfl⟩, rfl⟩ (CellAt.blk (.tail (.tail (.tail .head))) rfl) ?_
   refine WP.sx tysOk rfl ⟨⟨⟨rfl, rfl⟩, rfl⟩, ⟨⟩⟩ ?_
   refine WP.ixA tysOk rfl ⟨⟨rfl, rfl⟩, rfl⟩ rfl rfl rfl rfl rfl rfl rfl rfl hj5 (hs1.ex hj5) ?_
   intro b9 b9v hA9
   refine WP.lx tysOk rfl ⟨⟨rfl, rfl⟩, rfl⟩ (hs1.at0 hA9 (Held.mem (List.Mem.tail _ (List.Mem.tail _ (List.Mem.tail _ (List.Mem.tail _ (List.Mem.tail _ (List.Mem.head _))))))) hj5 rfl) ?_
   refine WP.bld (cs := [iv ((gt x1.arcs (gt r1 1)).src), iv ((gt x1.arcs (gt r1 1)).dst), iv ((gt x1.arcs (gt r1 1)).low), iv ((gt x1.arcs (gt r1 1)).cap), iv ((gt x1.arcs (gt r1 1)).cost), iv ((gt x1.arcs (gt r1 0)).src), iv ((gt x1.arcs (gt r1 0)).dst), iv ((gt x1.arcs (gt r1 0)).low), iv ((gt x1.arcs (gt r1 0)).cap), iv ((gt x1.arcs (gt r1 0)).cost), iv x2, iv (gt x1.supply x2)]) tysOk rfl ⟨⟨rfl, rfl⟩, rfl⟩ rfl rfl rfl rfl rfl rfl rfl ?_
   refine WP.lal tysOk rfl ⟨rfl, rfl⟩ rfl rfl rfl rfl rfl rfl rfl ?_
   intro g5
   refine WP.lend rfl ⟨rfl, rfl⟩ ?_
   refine WP.sto' tysOk [iv ((gt x1.arcs (gt r1 1)).src), iv ((gt x1.arcs (gt r1 1)).dst), iv ((gt x1.arcs (gt r1 1)).low), iv ((gt x1.arcs (gt r1 1)).cap), iv ((gt x1.arcs (gt r1 1)).cost), iv ((gt x1.arcs (gt r1 0)).src), iv ((gt x1.arcs (gt r1 0)).dst), iv ((gt x1.arcs (gt r1 0)).low), iv ((gt x1.arcs (gt r1 0)).cap), iv ((gt x1.arcs (gt r1 0)).cost), iv x2, iv (gt x1.supply x2)] rfl rfl rfl rfl rfl rfl rfl rfl rfl .head rfl rfl ?_
   refine WP.sx tysOk rfl ⟨⟨⟩, ⟨⟩⟩ ?_
   refine WP.lx tysOk rfl ⟨⟩ (CellAt.blk (.tail (.tail (.tail (.tail (.tail .head))))) rfl) ?_
   refine WP.mx_ tysOk rfl ⟨⟩ (SegAt.blk' .head rfl) ?_
   obtain ⟨r5, hg5, h⟩ := bind_some h
   refine WP.callV rfl rfl rfl rfl rfl rfl rfl (by kernel_rfl) (fun w1 hw1 => (two_pair_chain_w hg5  :)) ⟨⟩ ?_
   refine WP.al tysOk rfl rfl rfl rfl rfl rfl ?_
   intro g6
   refine WP.sto' tysOk [iv r5.src, iv r5.dst, iv r5.low, iv r5.cap, iv r5.cost] rfl rfl rfl rfl rfl rfl rfl rfl rfl .head rfl rfl ?_
   refine WP.sx tysOk rfl ⟨⟨⟩, ⟨⟩⟩ ?_
   refine WP.lx tysOk rfl ⟨⟩ (CellAt.blk .head rfl) ?_
   refine WP.sx tysOk rfl ⟨⟨⟩, ⟨⟩⟩ ?_
   refine WP.lx tysOk rfl ⟨⟩ (CellAt.blk .head rfl) ?_
   refine WP.sx tysOk rfl ⟨⟨⟩, ⟨⟩⟩ ?_
   refine WP.cond_d rfl rfl (fun hh5 => ?_) (fun hh5 => ?_)
   ·rw [if_pos hh5] at h
    refine WP.bld (cs := [iv 0, iv 0, iv 0, iv 0, iv 0, iv 0, iv 0, iv 0]) tysOk rfl ⟨⟩ rfl rfl rfl rfl rfl rfl rfl ?_
    refine WP.bld (cs := [iv 0, iv 0, iv 0, iv 0, iv 0, iv 0, iv 0, iv 0, iv 0, iv 0, iv 0, iv 0]) tysOk rfl ⟨⟩ rfl rfl rfl rfl rfl rfl rfl ?_
    refine WP.sto' tysOk [iv 0, iv 0, iv 0, iv 0, iv 0, iv 0, iv 0, iv 0] rfl rfl rfl rfl rfl rfl rfl rfl rfl (.tail (.tail (.tail (.tail .head)))) rfl rfl ?_
    refine WP.sto' tysOk [iv 0, iv 0, iv 0, iv 0, iv 0, iv 0, iv 0, iv 0, iv 0, iv 0, iv 0, iv 0] rfl rfl rfl rfl rfl rfl rfl rfl rfl (.tail (.tail (.tail (.tail .head)))) rfl rfl ?_
    refine WP.sx tysOk rfl ⟨⟨⟩, ⟨⟩⟩ ?_
    cases h
    refine WP.retR tysOk rfl rfl ⟨_, _, _, _, rfl, ⟨_, rfl, .inr ⟨rfl, _, rfl, rfl, (SegAt.blk' (z := 8) (.tail .head) rfl).1⟩⟩, ⟨_, _, _, _, rfl, ⟨_, rfl, .inr ⟨rfl, _, rfl, rfl, (SegAt.blk' (z := 12) .head rfl).1⟩⟩, ⟨_, _, rfl, rfl, rfl⟩, rfl⟩, rfl⟩ (fun w1 hw1 => ⟨rfl, Ret.below_ hw1 (.cons (.tail (.tail (.tail (.tail (.tail (.tail (.tail .head))))))) .nil)⟩)
   rw [if_neg hh5] at h
   refine WP.join (α := Unit) (fun x => True) (fun x => [(8, .pointer (some ⟨g3, 0, none⟩)), (9, .pointer (some ⟨g4, 0, none⟩)), (10, .bool (true))]) (fun x => [.blk g4 66 [iv ((gt x1.arcs (gt r1 1)).src), iv ((gt x1.arcs (gt r1 1)).dst), iv ((gt x1.arcs (gt r1 1)).low), iv ((gt x1.arcs (gt r1 1)).cap), iv ((gt x1.arcs (gt r1 1)).cost), iv ((gt x1.arcs (gt r1 0)).src), iv ((gt x1.arcs (gt r1 0)).dst), iv ((gt x1.arcs (gt r1 0)).low), iv ((gt x1.arcs (gt r1 0)).cap), iv ((gt x1.arcs (gt r1 0)).cost), iv x2, iv (gt x1.supply x2)], .blk g3 39 [iv x2, iv (gt r1 1), iv (gt r1 0), iv r5.src, iv r5.dst, iv r5.low, iv r5.cap, iv r5.cost], .blk g6 34 [iv r5.src, iv r5.dst, iv r5.low, iv r5.cap, iv r5.cost], .blk g5 66 [iv ((gt x1.arcs (gt r1 1)).src), iv ((gt x1.arcs (gt r1 1)).dst), iv ((gt x1.arcs (gt r1 1)).low), iv ((gt x1.arcs (gt r1 1)).cap), iv ((gt x1.arcs (gt r1 1)).cost), iv ((gt x1.arcs (gt r1 0)).src), iv ((gt x1.arcs (gt r1 0)).dst), iv ((gt x1.arcs (gt r1 0)).low), iv ((gt x1.arcs (gt r1 0)).cap), iv ((gt x1.arcs (gt r1 0)).cost), iv x2, iv (gt x1.supply x2)], Ow (fI .i64) 3 A3 n1 c3 r1, .blk g2 25 [.slice A1 x1.supply.length c1, .slice A2 x1.arcs.length c2], .blk g1 72 [iv 8, .func (.func 37) #[] #[], .func (.func 38) #[] #[], .func (.func 39) #[] #[]], .fz (PH.of w)]) rfl ?_ ?_
   ·refine WP.drawA rfl (by kernel_rfl) ?_
    refine WP.anyP 0 tysOk putInv_body rfl rfl rfl (by kernel_rfl) (by kernel_rfl) rfl rfl rfl rfl rfl True.intro ?_
    refine WP.anyP 1 tysOk putInv_body rfl rfl rfl (by kernel_rfl) (by kernel_rfl) rfl rfl rfl rfl rfl True.intro ?_
    refine WP.anyP 2 tysOk putInv_body rfl rfl rfl (by kernel_rfl) (by kernel_rfl) rfl rfl rfl rfl rfl True.intro ?_
    refine WP.any2 3 5 rfl (by kernel_rfl) rfl rfl ?_ ?_
    ·refine WP.mx_ tysOk rfl ⟨⟩ (SegAt.blk' .head rfl) ?_
     refine WP.any2 4 5 rfl (by kernel_rfl) rfl rfl ?_ ?_
     ·refine WP.bld (cs := [iv x2, iv (gt r1 1), iv (gt r1 0), iv r5.src, iv r5.dst, iv r5.low, iv r5.cap, iv r5.cost]) tysOk rfl ⟨⟩ rfl rfl rfl rfl rfl rfl rfl ?_
      refine WP.any2 5 6 rfl (by kernel_rfl) rfl rfl ?_ ?_
      ·refine WP.mx_ tysOk rfl ⟨⟩ (SegAt.blk' (.tail .head) rfl) ?_
       refine WP.any1 6 rfl (by kernel_rfl) rfl ?_
       refine WP.sto' tysOk [iv x2, iv (gt r1 1), iv (gt r1 0), iv r5.src, iv r5.dst, iv r5.low, iv r5.cap, iv r5.cost] rfl rfl rfl rfl rfl rfl rfl rfl rfl (.tail (.tail (.tail (.tail .head)))) rfl rfl ?_
       refine WP.any1 7 rfl (by kernel_rfl) rfl ?_
       refine WP.sto' tysOk [iv ((gt x1.arcs (gt r1 1)).src), iv ((gt x1.arcs (gt r1 1)).dst), iv ((gt x1.arcs (gt r1 1)).low), iv ((gt x1.arcs (gt r1 1)).cap), iv ((gt x1.arcs (gt r1 1)).cost), iv ((gt x1.arcs (gt r1 0)).src), iv ((gt x1.arcs (gt r1 0)).dst), iv ((gt x1.arcs (gt r1 0)).low), iv ((gt x1.arcs (gt r1 0)).cap), iv ((gt x1.arcs (gt r1 0)).cost), iv x2, iv (gt x1.supply x2)] rfl rfl rfl rfl rfl rfl rfl rfl rfl (.tail (.tail (.tail (.tail .head)))) rfl rfl ?_
       refine WP.anyP 8 tysOk putInv_body rfl rfl rfl (by kernel_rfl) (by kernel_rfl) rfl rfl rfl rfl rfl True.intro ?_
       refine WP.any0 rfl (by kernel_rfl) ?_
       refine WP.stop rfl () True.intro ?_ ?_
       ·repeat first | exact ⟨⟩ | refine ⟨rfl, ?_⟩
       exact (.cons .head (.cons .head (.cons .head (.cons .head (.cons .head (.cons .head (.cons .head (.cons .head .nil))))))))
      refine WP.sto' tysOk [iv x2, iv (gt r1 1), iv (gt r1 0), iv r5.src, iv r5.dst, iv r5.low, iv r5.cap, iv r5.cost] rfl rfl rfl rfl rfl rfl rfl rfl rfl (.tail (.tail (.tail (.tail .head)))) rfl rfl ?_
      refine WP.any1 5 rfl (by kernel_rfl) rfl ?_
      refine WP.mx_ tysOk rfl ⟨⟩ (SegAt.blk' (.tail (.tail .head)) rfl) ?_
      refine WP.any1 7 rfl (by kernel_rfl) rfl ?_
      refine WP.sto' tysOk [iv ((gt x1.arcs (gt r1 1)).src), iv ((gt x1.arcs (gt r1 1)).dst), iv ((gt x1.arcs (gt r1 1)).low), iv ((gt x1.arcs (gt r1 1)).cap), iv ((gt x1.arcs (gt r1 1)).cost), iv ((gt x1.arcs (gt r1 0)).src), iv ((gt x1.arcs (gt r1 0)).dst), iv ((gt x1.arcs (gt r1 0)).low), iv ((gt x1.arcs (gt r1 0)).cap), iv ((gt x1.arcs (gt r1 0)).cost), iv x2, iv (gt x1.supply x2)] rfl rfl rfl rfl rfl rfl rfl rfl rfl (.tail (.tail (.tail (.tail .head)))) rfl rfl ?_
      refine WP.anyP 8 tysOk putInv_body rfl rfl rfl (by kernel_rfl) (by kernel_rfl) rfl rfl rfl rfl rfl True.intro ?_
      refine WP.any0 rfl (by kernel_rfl) ?_
      refine WP.stop rfl () True.intro ?_ ?_
      ·repeat first | exact ⟨⟩ | refine ⟨rfl, ?_⟩
      exact (.cons .head (.cons .head (.cons .head (.cons .head (.cons .head (.cons .head (.cons .head (.cons .head .nil))))))))
     refine WP.mx_ tysOk rfl ⟨⟩ (SegAt.blk' (.tail .head) rfl) ?_
     refine WP.any1 4 rfl (by kernel_rfl) rfl ?_
     refine WP.bld (cs := [iv x2, iv (gt r1 1), iv (gt r1 0), iv r5.src, iv r5.dst, iv r5.low, iv r5.cap, iv r5.cost]) tysOk rfl ⟨⟩ rfl rfl rfl rfl rfl rfl rfl ?_
     refine WP.any1 6 rfl (by kernel_rfl) rfl ?_
     refine WP.sto' tysOk [iv x2, iv (gt r1 1), iv (gt r1 0), iv r5.src, iv r5.dst, iv r5.low, iv r5.cap, iv r5.cost] rfl rfl rfl rfl rfl rfl rfl rfl rfl (.tail (.tail (.tail (.tail .head)))) rfl rfl ?_
     refine WP.any1 7 rfl (by kernel_rfl) rfl ?_
     refine WP.sto' tysOk [iv ((gt x1.arcs (gt r1 1)).src), iv ((gt x1.arcs (gt r1 1)).dst), iv ((gt x1.arcs (gt r1 1)).low), iv ((gt x1.arcs (gt r1 1)).cap), iv ((gt x1.arcs (gt r1 1)).cost), iv ((gt x1.arcs (gt r1 0)).src), iv ((gt x1.arcs (gt r1 0)).dst), iv ((gt x1.arcs (gt r1 0)).low), iv ((gt x1.arcs (gt r1 0)).cap), iv ((gt x1.arcs (gt r1 0)).cost), iv x2, iv (gt x1.supply x2)] rfl rfl rfl rfl rfl rfl rfl rfl rfl (.tail (.tail (.tail (.tail .head)))) rfl rfl ?_
     refine WP.anyP 8 tysOk putInv_body rfl rfl rfl (by kernel_rfl) (by kernel_rfl) rfl rfl rfl rfl rfl True.intro ?_
     refine WP.any0 rfl (by kernel_rfl) ?_
     refine WP.stop rfl () True.intro ?_ ?_
     ·repeat first | exact ⟨⟩ | refine ⟨rfl, ?_⟩
     exact (.cons .head (.cons .head (.cons .head (.cons .head (.cons .head (.cons .head (.cons .head (.cons .head .nil))))))))
    refine WP.mx_ tysOk rfl ⟨⟩ (SegAt.blk' (.tail .head) rfl) ?_
    refine WP.any1 3 rfl (by kernel_rfl) rfl ?_
    refine WP.mx_ tysOk rfl ⟨⟩ (SegAt.blk' .head rfl) ?_
    refine WP.any1 4 rfl (by kernel_rfl) rfl ?_
    refine WP.bld (cs := [iv x2, iv (gt r1 1), iv (gt r1 0), iv r5.src, iv r5.dst, iv r5.low, iv r5.cap, iv r5.cost]) tysOk rfl ⟨⟩ rfl rfl rfl rfl rfl rfl rfl ?_
    refine WP.any1 6 rfl (by kernel_rfl) rfl ?_
    refine WP.sto' tysOk [iv x2, iv (gt r1 1), iv (gt r1 0), iv r5.src, iv r5.dst, iv r5.low, iv r5.cap, iv r5.cost] rfl rfl rfl rfl rfl rfl rfl rfl rfl (.tail (.tail (.tail (.tail .head)))) rfl rfl ?_
    refine WP.any1 7 rfl (by kernel_rfl) rfl ?_
    refine WP.sto' tysOk [iv ((gt x1.arcs (gt r1 1)).src), iv ((gt x1.arcs (gt r1 1)).dst), iv ((gt x1.arcs (gt r1 1)).low), iv ((gt x1.arcs (gt r1 1)).cap), iv ((gt x1.arcs (gt r1 1)).cost), iv ((gt x1.arcs (gt r1 0)).src), iv ((gt x1.arcs (gt r1 0)).dst), iv ((gt x1.arcs (gt r1 0)).low), iv ((gt x1.arcs (gt r1 0)).cap), iv ((gt x1.arcs (gt r1 0)).cost), iv x2, iv (gt x1.supply x2)] rfl rfl rfl rfl rfl rfl rfl rfl rfl (.tail (.tail (.tail (.tail .head)))) rfl rfl ?_
    refine WP.anyP 8 tysOk putInv_body rfl rfl rfl (by kernel_rfl) (by kernel_rfl) rfl rfl rfl rfl rfl True.intro ?_
    refine WP.any0 rfl (by kernel_rfl) ?_
    refine WP.stop rfl () True.intro ?_ ?_
    ·repeat first | exact ⟨⟩ | refine ⟨rfl, ?_⟩
    exact (.cons .head (.cons .head (.cons .head (.cons .head (.cons .head (.cons .head (.cons .head (.cons .head .nil))))))))
   rintro _ _
   cases h
   refine WP.retR tysOk rfl rfl ⟨_, _, _, _, rfl, ⟨_, rfl, .inr ⟨rfl, _, rfl, rfl, (SegAt.blk' (z := 8) (.tail .head) rfl).1⟩⟩, ⟨_, _, _, _, rfl, ⟨_, rfl, .inr ⟨rfl, _, rfl, rfl, (SegAt.blk' (z := 12) .head rfl).1⟩⟩, ⟨_, _, rfl, rfl, rfl⟩, rfl⟩, rfl⟩ (fun w1 hw1 => ⟨rfl, Ret.below_ hw1 (.cons (.tail (.tail (.tail (.tail (.tail (.tail (.tail .head))))))) .nil)⟩)
  rw [if_pos hh3] at h
  obtain ⟨r6, hg6, h⟩ := bind_some h
  refine WP.drawL 15 [(13, [], fun _ => constSpec (.bool (r6)))] rfl (by kernel_rfl) (by kernel_rfl) (by kernel_rfl) ?_
  refine WP.sx tysOk rfl ⟨⟨⟨rfl, rfl⟩, rfl⟩, ⟨⟩⟩ ?_
  refine WP.lx tysOk rfl ⟨⟨rfl, rfl⟩, rfl⟩ (CellAt.blk (.tail (.tail (.tail (.tail .head)))) rfl) ?_
  refine WP.sx tysOk rfl ⟨⟨⟨rfl, rfl⟩, rfl⟩, ⟨⟩⟩ ?_
  refine WP.lx tysOk rfl ⟨⟨rfl, rfl⟩, rfl⟩ (CellAt.blk (.tail (.tail (.tail .head))) rfl) ?_
  refine WP.sx tysOk rfl ⟨⟨⟨rfl, rfl⟩, rfl⟩, ⟨⟩⟩ ?_
  refine WP.ixA tysOk rfl ⟨⟨rfl, rfl⟩, rfl⟩ rfl rfl rfl rfl rfl rfl rfl rfl hj3 (hs2.ex hj3) ?_
  intro b10 b10v hA10
  refine WP.mx_ tysOk rfl ⟨⟨rfl, rfl⟩, rfl⟩ (hs2.seg hA10 (Held.mem (List.Mem.tail _ (List.Mem.tail _ (List.Mem.tail _ (List.Mem.tail _ (List.Mem.tail _ (List.Mem.head _))))))) hj3) ?_
  refine WP.sx tysOk rfl ⟨⟨⟨rfl, rfl⟩, rfl⟩, ⟨⟩⟩ ?_
  refine WP.lx tysOk rfl ⟨⟨rfl, rfl⟩, rfl⟩ (CellAt.blk (.tail (.tail (.tail .head))) rfl) ?_
  refine WP.sx tysOk rfl ⟨⟨⟨rfl, rfl⟩, rfl⟩, ⟨⟩⟩ ?_
  refine WP.ixA tysOk rfl ⟨⟨rfl, rfl⟩, rfl⟩ rfl rfl rfl rfl rfl rfl rfl rfl hj4 (hs2.ex hj4) ?_
  intro b11 b11v hA11
  refine WP.mx_ tysOk rfl ⟨⟨rfl, rfl⟩, rfl⟩ (hs2.seg hA11 (Held.mem (List.Mem.tail _ (List.Mem.tail _ (List.Mem.tail _ (List.Mem.tail _ (List.Mem.tail _ (List.Mem.head _))))))) hj4) ?_
  refine WP.sx tysOk rfl ⟨⟨⟨rfl, rfl⟩, rfl⟩, ⟨⟩⟩ ?_
  refine WP.callV rfl rfl rfl rfl rfl rfl rfl (by kernel_rfl) (fun w1 hw1 => (two_series_1_w hg6  :)) ⟨⟨rfl, rfl⟩, rfl⟩ ?_
  refine WP.sx tysOk rfl ⟨⟨⟨rfl, rfl⟩, rfl⟩, ⟨⟩⟩ ?_
  refine WP.lend rfl ⟨rfl, rfl⟩ ?_
  refine WP.cond_n rfl rfl (fun hh6 => ?_) (fun hh6 => ?_)
  ·rw [if_neg (bneg hh6)] at h
   refine WP.bld (cs := [iv 0, iv 0, iv 0, iv 0, iv 0, iv 0, iv 0, iv 0]) tysOk rfl ⟨⟩ rfl rfl rfl rfl rfl rfl rfl ?_
   refine WP.bld (cs := [iv 0, iv 0, iv 0, iv 0, iv 0, iv 0, iv 0, iv 0, iv 0, iv 0, iv 0, iv 0]) tysOk rfl ⟨⟩ rfl rfl rfl rfl rfl rfl rfl ?_
   refine WP.sto' tysOk [iv 0, iv 0, iv 0, iv 0, iv 0, iv 0, iv 0, iv 0] rfl rfl rfl rfl rfl rfl rfl rfl rfl (.tail (.tail .head)) rfl rfl ?_
   refine WP.sto' tysOk [iv 0, iv 0, iv 0, iv 0, iv 0, iv 0, iv 0, iv 0, iv 0, iv 0, iv 0, iv 0] rfl rfl rfl rfl rfl rfl rfl rfl rfl (.tail (.tail .head)) rfl rfl ?_
   refine WP.sx tysOk rfl ⟨⟨⟩, ⟨⟩⟩ ?_
   cases h
   refine WP.retR tysOk rfl rfl ⟨_, _, _, _, rfl, ⟨_, rfl, .inr ⟨rfl, _, rfl, rfl, (SegAt.blk' (z := 8) (.tail .head) rfl).1⟩⟩, ⟨_, _, _, _, rfl, ⟨_, rfl, .inr ⟨rfl, _, rfl, rfl, (SegAt.blk' (z := 12) .head rfl).1⟩⟩, ⟨_, _, rfl, rfl, rfl⟩, rfl⟩, rfl⟩ (fun w1 hw1 => ⟨rfl, Ret.below_ hw1 (.cons (.tail (.tail (.tail (.tail (.tail .head))))) .nil)⟩)
  rw [if_pos hh6] at h
  obtain ⟨hj6, h⟩ := ck_some h
  refine WP.drawL 20 [(19, [], fun _ => blkSpec 66 [iv 0, iv 0, iv 0, iv 0, iv 0, iv 0, iv 0, iv 0, iv 0, iv 0, iv 0, iv 0])] rfl (by kernel_rfl) (by kernel_rfl) (by kernel_rfl) ?_
  refine WP.sx tysOk rfl ⟨⟨⟨rfl, rfl⟩, rfl⟩, ⟨⟩⟩ ?_
  refine WP.lx tysOk rfl ⟨⟨rfl, rfl⟩, rfl⟩ (CellAt.blk (.tail (.tail (.tail .head))) rfl) ?_
  refine WP.sx tysOk rfl ⟨⟨⟨rfl, rfl⟩, rfl⟩, ⟨⟩⟩ ?_
  refine WP.ixA tysOk rfl ⟨⟨rfl, rfl⟩, rfl⟩ rfl rfl rfl rfl rfl rfl rfl rfl hj3 (hs2.ex hj3) ?_
  intro b12 b12v hA12
  refine WP.mx_ tysOk rfl ⟨⟨rfl, rfl⟩, rfl⟩ (hs2.seg hA12 (Held.mem (List.Mem.tail _ (List.Mem.tail _ (List.Mem.tail _ (List.Mem.tail _ (List.Mem.tail _ (List.Mem.head _))))))) hj3) ?_
  refine WP.bld (cs := [iv ((gt x1.arcs (gt r1 0)).src), iv ((gt x1.arcs (gt r1 0)).dst), iv ((gt x1.arcs (gt r1 0)).low), iv ((gt x1.arcs (gt r1 0)).cap), iv ((gt x1.arcs (gt r1 0)).cost)]) tysOk rfl ⟨⟨rfl, rfl⟩, rfl⟩ rfl rfl rfl rfl rfl rfl rfl ?_
  refine WP.sx tysOk rfl ⟨⟨⟨rfl, rfl⟩, rfl⟩, ⟨⟩⟩ ?_
  refine WP.lx tysOk rfl ⟨⟨rfl, rfl⟩, rfl⟩ (CellAt.blk (.tail (.tail (.tail .head))) rfl) ?_
  refine WP.sx tysOk rfl ⟨⟨⟨rfl, rfl⟩, rfl⟩, ⟨⟩⟩ ?_
  refine WP.ixA tysOk rfl ⟨⟨rfl, rfl⟩, rfl⟩ rfl rfl rfl rfl rfl rfl rfl rfl hj4 (hs2.ex hj4) ?_
  intro b13 b13v hA13
  refine WP.mx_ tysOk rfl ⟨⟨rfl, rfl⟩, rfl⟩ (hs2.seg hA13 (Held.mem (List.Mem.tail _ (List.Mem.tail _ (List.Mem.tail _ (List.Mem.tail _ (List.Mem.tail _ (List.Mem.head _))))))) hj4) ?_
  refine WP.bld (cs := [iv ((gt x1.arcs (gt r1 1)).src), iv ((gt x1.arcs (gt r1 1)).dst), iv ((gt x1.arcs (gt r1 1)).low), iv ((gt x1.arcs (gt r1 1)).cap), iv ((gt x1.arcs (gt r1 1)).cost)]) tysOk rfl ⟨⟨rfl, rfl⟩, rfl⟩ rfl rfl rfl rfl rfl rfl rfl ?_
  iterate 2 (refine WP.sx tysOk rfl ⟨⟨⟨rfl, rfl⟩, rfl⟩, ⟨⟩⟩ ?_)
  refine WP.lx tysOk rfl ⟨⟨rfl, rfl⟩, rfl⟩ (CellAt.blk (.tail (.tail (.tail .head))) rfl) ?_
  refine WP.sx tysOk rfl ⟨⟨⟨rfl, rfl⟩, rfl⟩, ⟨⟩⟩ ?_
  refine WP.ixA tysOk rfl ⟨⟨rfl, rfl⟩, rfl⟩ rfl rfl rfl rfl rfl rfl rfl rfl hj6 (hs1.ex hj6) ?_
  intro b14 b14v hA14
  refine WP.lx tysOk rfl ⟨⟨rfl, rfl⟩, rfl⟩ (hs1.at0 hA14 (Held.mem (List.Mem.tail _ (List.Mem.tail _ (List.Mem.tail _ (List.Mem.tail _ (List.Mem.tail _ (List.Mem.head _))))))) hj6 rfl) ?_
  refine WP.bld (cs := [iv ((gt x1.arcs (gt r1 0)).src), iv ((gt x1.arcs (gt r1 0)).dst), iv ((gt x1.arcs (gt r1 0)).low), iv ((gt x1.arcs (gt r1 0)).cap), iv ((gt x1.arcs (gt r1 0)).cost), iv ((gt x1.arcs (gt r1 1)).src), iv ((gt x1.arcs (gt r1 1)).dst), iv ((gt x1.arcs (gt r1 1)).low), iv ((gt x1.arcs (gt r1 1)).cap), iv ((gt x1.arcs (gt r1 1)).cost), iv x2, iv (gt x1.supply x2)]) tysOk rfl ⟨⟨rfl, rfl⟩, rfl⟩ rfl rfl rfl rfl rfl rfl rfl ?_
  refine WP.lal tysOk rfl ⟨rfl, rfl⟩ rfl rfl rfl rfl rfl rfl rfl ?_
  intro g7
  refine WP.lend rfl ⟨rfl, rfl⟩ ?_
  refine WP.sto' tysOk [iv ((gt x1.arcs (gt r1 0)).src), iv ((gt x1.arcs (gt r1 0)).dst), iv ((gt x1.arcs (gt r1 0)).low), iv ((gt x1.arcs (gt r1 0)).cap), iv ((gt x1.arcs (gt r1 0)).cost), iv ((gt x1.arcs (gt r1 1)).src), iv ((gt x1.arcs (gt r1 1)).dst), iv ((gt x1.arcs (gt r1 1)).low), iv ((gt x1.arcs (gt r1 1)).cap), iv ((gt x1.arcs (gt r1 1)).cost), iv x2, iv (gt x1.supply x2)] rfl rfl rfl rfl rfl rfl rfl rfl rfl .head rfl rfl ?_
  refine WP.sx tysOk rfl ⟨⟨⟩, ⟨⟩⟩ ?_
  refine WP.lx tysOk rfl ⟨⟩ (CellAt.blk (.tail (.tail (.tail (.tail (.tail .head))))) rfl) ?_
  refine WP.mx_ tysOk rfl ⟨⟩ (SegAt.blk' .head rfl) ?_
  obtain ⟨r7, hg7, h⟩ := bind_some h
  refine WP.callV rfl rfl rfl rfl rfl rfl rfl (by kernel_rfl) (fun w1 hw1 => (two_pair_chain_w hg7  :)) ⟨⟩ ?_
  refine WP.al tysOk rfl rfl rfl rfl rfl rfl ?_
  intro g8
  refine WP.sto' tysOk [iv r7.src, iv r7.dst, iv r7.low, iv r7.cap, iv r7.cost] rfl rfl rfl rfl rfl rfl rfl rfl rfl .head rfl rfl ?_
  refine WP.sx tysOk rfl ⟨⟨⟩, ⟨⟩⟩ ?_
  refine WP.lx tysOk rfl ⟨⟩ (CellAt.blk .head rfl) ?_
  refine WP.sx tysOk rfl ⟨⟨⟩, ⟨⟩⟩ ?_
  refine WP.lx tysOk rfl ⟨⟩ (CellAt.blk .head rfl) ?_
  refine WP.sx tysOk rfl ⟨⟨⟩, ⟨⟩⟩ ?_
  refine WP.cond_d rfl rfl (fun hh7 => ?_) (fun hh7 => ?_)
  ·rw [if_pos hh7] at h
   refine WP.bld (cs := [iv 0, iv 0, iv 0, iv 0, iv 0, iv 0, iv 0, iv 0]) tysOk rfl ⟨⟩ rfl rfl rfl rfl rfl rfl rfl ?_
   refine WP.bld (cs := [iv 0, iv 0, iv 0, iv 0, iv 0, iv 0, iv 0, iv 0, iv 0, iv 0, iv 0, iv 0]) tysOk rfl ⟨⟩ rfl rfl rfl rfl rfl rfl rfl ?_
   refine WP.sto' tysOk [iv 0, iv 0, iv 0, iv 0, iv 0, iv 0, iv 0, iv 0] rfl rfl rfl rfl rfl rfl rfl rfl rfl (.tail (.tail (.tail (.tail .head)))) rfl rfl ?_
   refine WP.sto' tysOk [iv 0, iv 0, iv 0, iv 0, iv 0, iv 0, iv 0, iv 0, iv 0, iv 0, iv 0, iv 0] rfl rfl rfl rfl rfl rfl rfl rfl rfl (.tail (.tail (.tail (.tail .head)))) rfl rfl ?_
   refine WP.sx tysOk rfl ⟨⟨⟩, ⟨⟩⟩ ?_
   cases h
   refine WP.retR tysOk rfl rfl ⟨_, _, _, _, rfl, ⟨_, rfl, .inr ⟨rfl, _, rfl, rfl, (SegAt.blk' (z := 8) (.tail .head) rfl).1⟩⟩, ⟨_, _, _, _, rfl, ⟨_, rfl, .inr ⟨rfl, _, rfl, rfl, (SegAt.blk' (z := 12) .head rfl).1⟩⟩, ⟨_, _, rfl, rfl, rfl⟩, rfl⟩, rfl⟩ (fun w1 hw1 => ⟨rfl, Ret.below_ hw1 (.cons (.tail (.tail (.tail (.tail (.tail (.tail (.tail .head))))))) .nil)⟩)
  rw [if_neg hh7] at h
  refine WP.join (α := Unit) (fun x => True) (fun x => [(8, .pointer (some ⟨g3, 0, none⟩)), (9, .pointer (some ⟨g4, 0, none⟩)), (10, .bool (true))]) (fun x => [.blk g4 66 [iv ((gt x1.arcs (gt r1 0)).src), iv ((gt x1.arcs (gt r1 0)).dst), iv ((gt x1.arcs (gt r1 0)).low), iv ((gt x1.arcs (gt r1 0)).cap), iv ((gt x1.arcs (gt r1 0)).cost), iv ((gt x1.arcs (gt r1 1)).src), iv ((gt x1.arcs (gt r1 1)).dst), iv ((gt x1.arcs (gt r1 1)).low), iv ((gt x1.arcs (gt r1 1)).cap), iv ((gt x1.arcs (gt r1 1)).cost), iv x2, iv (gt x1.supply x2)], .blk g3 39 [iv x2, iv (gt r1 0), iv (gt r1 1), iv r7.src, iv r7.dst, iv r7.low, iv r7.cap, iv r7.cost], .blk g8 34 [iv r7.src, iv r7.dst, iv r7.low, iv r7.cap, iv r7.cost], .blk g7 66 [iv ((gt x1.arcs (gt r1 0)).src), iv ((gt x1.arcs (gt r1 0)).dst), iv ((gt x1.arcs (gt r1 0)).low), iv ((gt x1.arcs (gt r1 0)).cap), iv ((gt x1.arcs (gt r1 0)).cost), iv ((gt x1.arcs (gt r1 1)).src), iv ((gt x1.arcs (gt r1 1)).dst), iv ((gt x1.arcs (gt r1 1)).low), iv ((gt x1.arcs (gt r1 1)).cap), iv ((gt x1.arcs (gt r1 1)).cost), iv x2, iv (gt x1.supply x2)], Ow (fI .i64) 3 A3 n1 c3 r1, .blk g2 25 [.slice A1 x1.supply.length c1, .slice A2 x1.arcs.length c2], .blk g1 72 [iv 8, .func (.func 37) #[] #[], .func (.func 38) #[] #[], .func (.func 39) #[] #[]], .fz (PH.of w)]) rfl ?_ ?_
  ·refine WP.drawA rfl (by kernel_rfl) ?_
   refine WP.anyP 0 tysOk putInv_body rfl rfl rfl (by kernel_rfl) (by kernel_rfl) rfl rfl rfl rfl rfl True.intro ?_
   refine WP.anyP 1 tysOk putInv_body rfl rfl rfl (by kernel_rfl) (by kernel_rfl) rfl rfl rfl rfl rfl True.intro ?_
   refine WP.anyP 2 tysOk putInv_body rfl rfl rfl (by kernel_rfl) (by kernel_rfl) rfl rfl rfl rfl rfl True.intro ?_
   refine WP.any2 3 5 rfl (by kernel_rfl) rfl rfl ?_ ?_
   ·refine WP.mx_ tysOk rfl ⟨⟩ (SegAt.blk' .head rfl) ?_
    refine WP.any2 4 5 rfl (by kernel_rfl) rfl rfl ?_ ?_
    ·refine WP.bld (cs := [iv x2, iv (gt r1 0), iv (gt r1 1), iv r7.src, iv r7.dst, iv r7.low, iv r7.cap, iv r7.cost]) tysOk rfl ⟨⟩ rfl rfl rfl rfl rfl rfl rfl ?_
     refine WP.any2 5 6 rfl (by kernel_rfl) rfl rfl ?_ ?_
     ·refine WP.mx_ tysOk rfl ⟨⟩ (SegAt.blk' (.tail .head) rfl) ?_
      refine WP.any1 6 rfl (by kernel_rfl) rfl ?_
      refine WP.sto' tysOk [iv x2, iv (gt r1 0), iv (gt r1 1), iv r7.src, iv r7.dst, iv r7.low, iv r7.cap, iv r7.cost] rfl rfl rfl rfl rfl rfl rfl rfl rfl (.tail (.tail (.tail (.tail .head)))) rfl rfl ?_
      refine WP.any1 7 rfl (by kernel_rfl) rfl ?_
      refine WP.sto' tysOk [iv ((gt x1.arcs (gt r1 0)).src), iv ((gt x1.arcs (gt r1 0)).dst), iv ((gt x1.arcs (gt r1 0)).low), iv ((gt x1.arcs (gt r1 0)).cap), iv ((gt x1.arcs (gt r1 0)).cost), iv ((gt x1.arcs (gt r1 1)).src), iv ((gt x1.arcs (gt r1 1)).dst), iv ((gt x1.arcs (gt r1 1)).low), iv ((gt x1.arcs (gt r1 1)).cap), iv ((gt x1.arcs (gt r1 1)).cost), iv x2, iv (gt x1.supply x2)] rfl rfl rfl rfl rfl rfl rfl rfl rfl (.tail (.tail (.tail (.tail .head)))) rfl rfl ?_
      refine WP.anyP 8 tysOk putInv_body rfl rfl rfl (by kernel_rfl) (by kernel_rfl) rfl rfl rfl rfl rfl True.intro ?_
      refine WP.any0 rfl (by kernel_rfl) ?_
      refine WP.stop rfl () True.intro ?_ ?_
      ·repeat first | exact ⟨⟩ | refine ⟨rfl, ?_⟩
      exact (.cons .head (.cons .head (.cons .head (.cons .head (.cons .head (.cons .head (.cons .head (.cons .head .nil))))))))
     refine WP.sto' tysOk [iv x2, iv (gt r1 0), iv (gt r1 1), iv r7.src, iv r7.dst, iv r7.low, iv r7.cap, iv r7.cost] rfl rfl rfl rfl rfl rfl rfl rfl rfl (.tail (.tail (.tail (.tail .head)))) rfl rfl ?_
     refine WP.any1 5 rfl (by kernel_rfl) rfl ?_
     refine WP.mx_ tysOk rfl ⟨⟩ (SegAt.blk' (.tail (.tail .head)) rfl) ?_
     refine WP.any1 7 rfl (by kernel_rfl) rfl ?_
     refine WP.sto' tysOk [iv ((gt x1.arcs (gt r1 0)).src), iv ((gt x1.arcs (gt r1 0)).dst), iv ((gt x1.arcs (gt r1 0)).low), iv ((gt x1.arcs (gt r1 0)).cap), iv ((gt x1.arcs (gt r1 0)).cost), iv ((gt x1.arcs (gt r1 1)).src), iv ((gt x1.arcs (gt r1 1)).dst), iv ((gt x1.arcs (gt r1 1)).low), iv ((gt x1.arcs (gt r1 1)).cap), iv ((gt x1.arcs (gt r1 1)).cost), iv x2, iv (gt x1.supply x2)] rfl rfl rfl rfl rfl rfl rfl rfl rfl (.tail (.tail (.tail (.tail .head)))) rfl rfl ?_
     refine WP.anyP 8 tysOk putInv_body rfl rfl rfl (by kernel_rfl) (by kernel_rfl) rfl rfl rfl rfl rfl True.intro ?_
     refine WP.any0 rfl (by kernel_rfl) ?_
     refine WP.stop rfl () True.intro ?_ ?_
     ·repeat first | exact ⟨⟩ | refine ⟨rfl, ?_⟩
     exact (.cons .head (.cons .head (.cons .head (.cons .head (.cons .head (.cons .head (.cons .head (.cons .head .nil))))))))
    refine WP.mx_ tysOk rfl ⟨⟩ (SegAt.blk' (.tail .head) rfl) ?_
    refine WP.any1 4 rfl (by kernel_rfl) rfl ?_
    refine WP.bld (cs := [iv x2, iv (gt r1 0), iv (gt r1 1), iv r7.src, iv r7.dst, iv r7.low, iv r7.cap, iv r7.cost]) tysOk rfl ⟨⟩ rfl rfl rfl rfl rfl rfl rfl ?_
    refine WP.any1 6 rfl (by kernel_rfl) rfl ?_
    refine WP.sto' tysOk [iv x2, iv (gt r1 0), iv (gt r1 1), iv r7.src, iv r7.dst, iv r7.low, iv r7.cap, iv r7.cost] rfl rfl rfl rfl rfl rfl rfl rfl rfl (.tail (.tail (.tail (.tail .head)))) rfl rfl ?_
    refine WP.any1 7 rfl (by kernel_rfl) rfl ?_
    refine WP.sto' tysOk [iv ((gt x1.arcs (gt r1 0)).src), iv ((gt x1.arcs (gt r1 0)).dst), iv ((gt x1.arcs (gt r1 0)).low), iv ((gt x1.arcs (gt r1 0)).cap), iv ((gt x1.arcs (gt r1 0)).cost), iv ((gt x1.arcs (gt r1 1)).src), iv ((gt x1.arcs (gt r1 1)).dst), iv ((gt x1.arcs (gt r1 1)).low), iv ((gt x1.arcs (gt r1 1)).cap), iv ((gt x1.arcs (gt r1 1)).cost), iv x2, iv (gt x1.supply x2)] rfl rfl rfl rfl rfl rfl rfl rfl rfl (.tail (.tail (.tail (.tail .head)))) rfl rfl ?_
    refine WP.anyP 8 tysOk putInv_body rfl rfl rfl (by kernel_rfl) (by kernel_rfl) rfl rfl rfl rfl rfl True.intro ?_
    refine WP.any0 rfl (by kernel_rfl) ?_
    refine WP.stop rfl () True.intro ?_ ?_
    ·repeat first | exact ⟨⟩ | refine ⟨rfl, ?_⟩
    exact (.cons .head (.cons .head (.cons .head (.cons .head (.cons .head (.cons .head (.cons .head (.cons .head .nil))))))))
   refine WP.mx_ tysOk rfl ⟨⟩ (SegAt.blk' (.tail .head) rfl) ?_
   refine WP.any1 3 rfl (by kernel_rfl) rfl ?_
   refine WP.mx_ tysOk rfl ⟨⟩ (SegAt.blk' .head rfl) ?_
   refine WP.any1 4 rfl (by kernel_rfl) rfl ?_
   refine WP.bld (cs := [iv x2, iv (gt r1 0), iv (gt r1 1), iv r7.src, iv r7.dst, iv r7.low, iv r7.cap, iv r7.cost]) tysOk rfl ⟨⟩ rfl rfl rfl rfl rfl rfl rfl ?_
   refine WP.any1 6 rfl (by kernel_rfl) rfl ?_
   refine WP.sto' tysOk [iv x2, iv (gt r1 0), iv (gt r1 1), iv r7.src, iv r7.dst, iv r7.low, iv r7.cap, iv r7.cost] rfl rfl rfl rfl rfl rfl rfl rfl rfl (.tail (.tail (.tail (.tail .head)))) rfl rfl ?_
   refine WP.any1 7 rfl (by kernel_rfl) rfl ?_
   refine WP.sto' tysOk [iv ((gt x1.arcs (gt r1 0)).src), iv ((gt x1.arcs (gt r1 0)).dst), iv ((gt x1.arcs (gt r1 0)).low), iv ((gt x1.arcs (gt r1 0)).cap), iv ((gt x1.arcs (gt r1 0)).cost), iv ((gt x1.arcs (gt r1 1)).src), iv ((gt x1.arcs (gt r1 1)).dst), iv ((gt x1.arcs (gt r1 1)).low), iv ((gt x1.arcs (gt r1 1)).cap), iv ((gt x1.arcs (gt r1 1)).cost), iv x2, iv (gt x1.supply x2)] rfl rfl rfl rfl rfl rfl rfl rfl rfl (.tail (.tail (.tail (.tail .head)))) rfl rfl ?_
   refine WP.anyP 8 tysOk putInv_body rfl rfl rfl (by kernel_rfl) (by kernel_rfl) rfl rfl rfl rfl rfl True.intro ?_
   refine WP.any0 rfl (by kernel_rfl) ?_
   refine WP.stop rfl () True.intro ?_ ?_
   ·repeat first | exact ⟨⟩ | refine ⟨rfl, ?_⟩
   exact (.cons .head (.cons .head (.cons .head (.cons .head (.cons .head (.cons .head (.cons .head (.cons .head .nil))))))))
  rintro _ _
  cases h
  refine WP.retR tysOk rfl rfl ⟨_, _, _, _, rfl, ⟨_, rfl, .inr ⟨rfl, _, rfl, rfl, (SegAt.blk' (z := 8) (.tail .head) rfl).1⟩⟩, ⟨_, _, _, _, rfl, ⟨_, rfl, .inr ⟨rfl, _, rfl, rfl, (SegAt.blk' (z := 12) .head rfl).1⟩⟩, ⟨_, _, rfl, rfl, rfl⟩, rfl⟩, rfl⟩ (fun w1 hw1 => ⟨rfl, Ret.below_ hw1 (.cons (.tail (.tail (.tail (.tail (.tail (.tail (.tail .head))))))) .nil)⟩)

set_option maxRecDepth 20000 in
set_option maxHeartbeats 8000000 in
theorem two_Chain_w {w : World} {v0 : Value} {i1 : Inst} {n1 : Int} {r : Spot × Bool} (h : two_Chain i1 n1 = some r) (p1 : InsZ (PH.of w) v0 i1) :
    Calls Tryz.prog 13 #[v0, iv n1] w fun e w' => e = .returned (.tuple #[.agg #[iv r.1.node, iv r.1.a, iv r.1.b, iv r.1.new.src, iv r.1.new.dst, iv r.1.new.low, iv r.1.new.cap, iv r.1.new.cost], .bool (r.2)]) ∧ Below w.heap.size w w' := by
  obtain ⟨A1, c1, A2, c2, rfl, hs1, hs2⟩ := p1
  unfold two_Chain at h
  refine enter_ Tryz.func13 rfl Tryz.ntmps13 rfl ?_
  refine WP.box rfl rfl rfl rfl rfl rfl ?_
  intro g1
  refine WP.al tysOk rfl rfl rfl rfl rfl rfl ?_
  intro g2
  refine WP.sx tysOk rfl ⟨⟨⟩, ⟨⟩⟩ ?_
  obtain ⟨r1, hg1, h⟩ := bind_some h
  obtain ⟨r2, hg2, h⟩ := bind_some h
  refine WP.edges [(12, 8), (12, 9), (13, 9)] putInv_body rfl rfl (by kernel_rfl) (by kernel_rfl) ?_
  refine WP.heads [0, 1, 2, 3, 4, 5, 6, 7, 8, 9, 10, 11] [12, 13, 14] [(0, [], fun _ => constSpec (.agg #[iv 8, .func (.func 37) #[] #[], .func (.func 38) #[] #[], .func (.func 39) #[] #[]])), (2, [], fun _ => adj_New_S r1), (5, [2], fun _ => constSpec (.tuple #[.agg #[iv r2.1.node, iv r2.1.a, iv r2.1.b, iv r2.1.new.src, iv r2.1.new.dst, iv r2.1.new.low, iv r2.1.new.cap, iv r2.1.new.cost], .agg #[iv r2.2.1.x.src, iv r2.2.1.x.dst, iv r2.2.1.x.low, iv r2.2.1.x.cap, iv r2.2.1.x.cost, iv r2.2.1.y.src, iv r2.2.1.y.dst, iv r2.2.1.y.low, iv r2.2.1.y.cap, iv r2.2.1.y.cost, iv r2.2.1.n, iv r2.2.1.s], .bool (r2.2.2)])), (10, [], fun _ => blkSpec 39 [iv 0, iv 0, iv 0, iv 0, iv 0, iv 0, iv 0, iv 0]), (11, [], fun _ => blkSpec 66 [iv 0, iv 0, iv 0, iv 0, iv 0, iv 0, iv 0, iv 0, iv 0, iv 0, iv 0, iv 0])] rfl (by kernel_rfl) (by decide) rfl (by kernel_rfl) (by kernel_rfl) ?_
  refine WP.callV rfl rfl rfl rfl rfl rfl rfl (by kernel_rfl) (fun w1 hw1 => two_series_w) ⟨⟨rfl, rfl⟩, rfl⟩ ?_
  refine WP.mx_ tysOk rfl ⟨⟨rfl, rfl⟩, rfl⟩ (SegAt.blk' (.tail .head) rfl) ?_
  refine WP.lcall rfl ⟨rfl, rfl⟩ rfl rfl rfl rfl rfl rfl rfl (by kernel_rfl) (fun w1 hw1 => (adj_New_w hg1 (InsZ.mk_ ((hs1.le' ((Held.mem (List.Mem.tail _ (List.Mem.tail _ (List.Mem.head _)))) _ _ hw1)).of) ((hs2.le' ((Held.mem (List.Mem.tail _ (List.Mem.tail _ (List.Mem.head _)))) _ _ hw1)).of)) :)) ?_
  rintro vg1 _ ⟨Zn1, hgr1, rfl⟩
  obtain ⟨gg1, rfl⟩ := hgr1.ptr'
  refine WP.mx_ tysOk rfl ⟨⟨rfl, rfl⟩, rfl⟩ (SegAt.blk' (.tail .head) rfl) ?_
  refine WP.sx tysOk rfl ⟨⟨⟨rfl, rfl⟩, rfl⟩, ⟨⟩⟩ ?_
  refine WP.lcall rfl ⟨rfl, rfl⟩ rfl rfl rfl rfl rfl rfl rfl (by kernel_rfl) (fun w1 hw1 => ((two_shape_at_1_w hg2 (hgr1.le ((Held.mem (List.Mem.head _)) _ _ hw1)) (InsZ.mk_ ((hs1.le' ((Held.mem (List.Mem.tail _ (List.Mem.tail _ (List.Mem.tail _ (List.Mem.head _))))) _ _ hw1)).of) ((hs2.le' ((Held.mem (List.Mem.tail _ (List.Mem.tail _ (List.Mem.tail _ (List.Mem.head _))))) _ _ hw1)).of)) :)).mono fun e w' h => ⟨_, [], h.1, ⟨rfl, rfl⟩, Ret.nil h.2⟩) ?_
  rintro _ _ ⟨rfl, rfl⟩
  iterate 4 (refine WP.sx tysOk rfl ⟨⟨⟨rfl, rfl⟩, rfl⟩, ⟨⟩⟩ ?_)
  refine WP.lal tysOk rfl ⟨rfl, rfl⟩ rfl rfl rfl rfl rfl rfl rfl ?_
  intro g3
  refine WP.lal tysOk rfl ⟨rfl, rfl⟩ rfl rfl rfl rfl rfl rfl rfl ?_
  intro g4
  refine WP.lend rfl ⟨rfl, rfl⟩ ?_
  refine WP.joinA (α := Unit) (fun x => True) (fun x => [(4, .pointer (some ⟨g2, 0, none⟩)), (6, .pointer (some ⟨g3, 0, none⟩)), (8, .bool (r2.2.2))]) (fun x => [.blk g4 66 [iv r2.2.1.x.src, iv r2.2.1.x.dst, iv r2.2.1.x.low, iv r2.2.1.x.cap, iv r2.2.1.x.cost, iv r2.2.1.y.src, iv r2.2.1.y.dst, iv r2.2.1.y.low, iv r2.2.1.y.cap, iv r2.2.1.y.cost, iv r2.2.1.n, iv r2.2.1.s], .blk g3 39 [iv r2.1.node, iv r2.1.a, iv r2.1.b, iv r2.1.new.src, iv r2.1.new.dst, iv r2.1.new.low, iv r2.1.new.cap, iv r2.1.new.cost], .fz Zn1, .blk g2 39 [iv 0, iv 0, iv 0, iv 0, iv 0, iv 0, iv 0, iv 0], .blk g1 25 [.slice A1 i1.supply.length c1, .slice A2 i1.arcs.length c2], .fz (PH.of w)]) rfl ?_ ?_
  ·refine WP.any1 12 rfl (by kernel_rfl) rfl ?_
   refine WP.sto' tysOk [iv r2.1.node, iv r2.1.a, iv r2.1.b, iv r2.1.new.src, iv r2.1.new.dst, iv r2.1.new.low, iv r2.1.new.cap, iv r2.1.new.cost] rfl rfl rfl rfl rfl rfl rfl rfl rfl (.tail .head) rfl rfl ?_
   refine WP.any1 13 rfl (by kernel_rfl) rfl ?_
   refine WP.sto' tysOk [iv r2.2.1.x.src, iv r2.2.1.x.dst, iv r2.2.1.x.low, iv r2.2.1.x.cap, iv r2.2.1.x.cost, iv r2.2.1.y.src, iv r2.2.1.y.dst, iv r2.2.1.y.low, iv r2.2.1.y.cap, iv r2.2.1.y.cost, iv r2.2.1.n, iv r2.2.1.s] rfl rfl rfl rfl rfl rfl rfl rfl rfl (.tail .head) rfl rfl ?_
   refine WP.anyP 14 tysOk putInv_body rfl rfl rfl (by kernel_rfl) (by kernel_rfl) rfl rfl rfl rfl rfl True.intro ?_
   refine WP.any0 rfl (by kernel_rfl) ?_
   refine WP.stop rfl () True.intro ?_ ?_
   ·repeat first | exact ⟨⟩ | refine ⟨rfl, ?_⟩
   exact (.cons .head (.cons .head (.cons .head (.cons .head (.cons .head (.cons .head .nil))))))
  rintro _ _
  refine WP.mx_ tysOk rfl ⟨⟩ (SegAt.blk' (.tail .head) rfl) ?_
  refine WP.sx tysOk rfl ⟨⟨⟩, ⟨⟩⟩ ?_
  refine WP.sto' tysOk [iv r2.1.node, iv r2.1.a, iv r2.1.b, iv r2.1.new.src, iv r2.1.new.dst, iv r2.1.new.low, iv r2.1.new.cap, iv r2.1.new.cost] rfl rfl rfl rfl rfl rfl rfl rfl rfl (.tail (.tail (.tail .head))) rfl rfl ?_
  refine WP.sx tysOk rfl ⟨⟨⟩, ⟨⟩⟩ ?_
  cases h
  refine WP.retR tysOk rfl rfl ⟨_, _, _, _, rfl, ⟨_, rfl, .inr ⟨rfl, _, rfl, rfl, (SegAt.blk' (z := 8) .head rfl).1⟩⟩, ⟨_, _, rfl, rfl, rfl⟩, rfl⟩ (fun w1 hw1 => ⟨rfl, Ret.below_ hw1 (.cons (.tail (.tail (.tail (.tail (.tail .head))))) .nil)⟩)

set_option maxRecDepth 20000 in
set_option maxHeartbeats 8000000 in
theorem two_fork_w {w : World} :
    Calls Tryz.prog 28 #[] w fun e w' => e = .returned (.agg #[iv 9, .func (.func 46) #[] #[], .func (.func 47) #[] #[], .func (.func 48) #[] #[]]) ∧ Below w.heap.size w w' := by
  refine enter_ Tryz.func28 rfl Tryz.ntmps28 rfl ?_
  refine WP.al tysOk rfl rfl rfl rfl rfl rfl ?_
  intro g1
  refine WP.bld (cs := [iv 9, .func (.func 46) #[] #[], .func (.func 47) #[] #[], .func (.func 48) #[] #[]]) tysOk rfl ⟨⟩ rfl rfl rfl rfl rfl rfl rfl ?_
  refine WP.sto' tysOk [iv 9, .func (.func 46) #[] #[], .func (.func 47) #[] #[], .func (.func 48) #[] #[]] rfl rfl rfl rfl rfl rfl rfl rfl rfl .head rfl rfl ?_
  refine WP.retR tysOk rfl rfl ⟨_, _, _, _, rfl, ⟨_, rfl, .inr ⟨rfl, _, rfl, rfl, (SegAt.blk' (z := 4) .head rfl).1⟩⟩, rfl, rfl⟩ (fun w1 hw1 => ⟨rfl, Ret.below_ hw1 (.cons (.tail .head) .nil)⟩)

set_option maxRecDepth 20000 in
set_option maxHeartbeats 8000000 in
theorem two_fork_1_w {w : World} {x1 : Arc} {y1 : Arc} {n1 : Int} {r : Bool} (h : two_fork_1 x1 y1 n1 = some r) :
    Calls Tryz.prog 46 #[.agg #[iv x1.src, iv x1.dst, iv x1.low, iv x1.cap, iv x1.cost], .agg #[iv y1.src, iv y1.dst, iv y1.low, iv y1.cap, iv y1.cost], iv n1] w fun e w' => e = .returned (.bool (r)) ∧ Below w.heap.size w w' := by
  unfold two_fork_1 at h
  refine enter_ Tryz.func46 rfl Tryz.ntmps46 rfl ?_
  refine WP.box rfl rfl rfl rfl rfl rfl ?_
  intro g1
  refine WP.box rfl rfl rfl rfl rfl rfl ?_
  intro g2
  iterate 2 (refine WP.sx tysOk rfl ⟨⟨⟩, ⟨⟩⟩ ?_)
  refine WP.lx tysOk rfl ⟨⟩ (CellAt.blk (.tail .head) rfl) ?_
  iterate 3 (refine WP.sx tysOk rfl ⟨⟨⟩, ⟨⟩⟩ ?_)
  refine WP.lx tysOk rfl ⟨⟩ (CellAt.blk .head rfl) ?_
  iterate 4 (refine WP.sx tysOk rfl ⟨⟨⟩, ⟨⟩⟩ ?_)
  cases h
  refine WP.retR tysOk rfl rfl ⟨_, _, rfl, rfl, rfl⟩ (fun w1 hw1 => ⟨rfl, Ret.below_ hw1 (.cons (.tail (.tail .head)) .nil)⟩)

set_option maxRecDepth 20000 in
set_option maxHeartbeats 8000000 in
theorem two_pair_both_w {w : World} {p1 : Pair} {r : Int} (h : two_pair_both p1 = some r) :
    Calls Tryz.prog 48 #[.agg #[iv p1.x.src, iv p1.x.dst, iv p1.x.low, iv p1.x.cap, iv p1.x.cost, iv p1.y.src, iv p1.y.dst, iv p1.y.low, iv p1.y.cap, iv p1.y.cost, iv p1.n, iv p1.s]] w fun e w' => e = .returned (iv r) ∧ Below w.heap.size w w' := by
  unfold two_pair_both at h
  refine enter_ Tryz.func48 rfl Tryz.ntmps48 rfl ?_
  refine WP.box rfl rfl rfl rfl rfl rfl ?_
  intro g1
  iterate 4 (refine WP.sx tysOk rfl ⟨⟨⟩, ⟨⟩⟩ ?_)
  refine WP.lx tysOk rfl ⟨⟩ (CellAt.blk .head rfl) ?_
  refine WP.sx tysOk rfl ⟨⟨⟩, ⟨⟩⟩ ?_
  refine WP.lx tysOk rfl ⟨⟩ (CellAt.blk .head rfl) ?_
  refine WP.sx tysOk rfl ⟨⟨⟩, ⟨⟩⟩ ?_
  refine WP.cond_d rfl rfl (fun hh1 => ?_) (fun hh1 => ?_)
  ·rw [if_pos hh1] at h
   refine WP.sx tysOk rfl ⟨⟨⟩, ⟨⟩⟩ ?_
   refine WP.lx tysOk rfl ⟨⟩ (CellAt.blk .head rfl) ?_
   iterate 2 (refine WP.sx tysOk rfl ⟨⟨⟩, ⟨⟩⟩ ?_)
   cases h
   refine WP.retR tysOk rfl rfl ⟨_, _, rfl, rfl, rfl⟩ (fun w1 hw1 => ⟨rfl, Ret.below_ hw1 (.cons (.tail .head) .nil)⟩)
  rw [if_neg hh1] at h
  refine WP.sx tysOk rfl ⟨⟨⟩, ⟨⟩⟩ ?_
  refine WP.lx tysOk rfl ⟨⟩ (CellAt.blk .head rfl) ?_
  refine WP.sx tysOk rfl ⟨⟨⟩, ⟨⟩⟩ ?_
  cases h
  refine WP.retR tysOk rfl rfl ⟨_, _, rfl, rfl, rfl⟩ (fun w1 hw1 => ⟨rfl, Ret.below_ hw1 (.cons (.tail .head) .nil)⟩)

set_option maxRecDepth 20000 in
set_option maxHeartbeats 8000000 in
theorem two_pair_split_w {w : World} {d1 : Pair} {r : Arc} (h : two_pair_split d1 = some r) :
    Calls Tryz.prog 47 #[.agg #[iv d1.x.src, iv d1.x.dst, iv d1.x.low, iv d1.x.cap, iv d1.x.cost, iv d1.y.src, iv d1.y.dst, iv d1.y.low, iv d1.y.cap, iv d1.y.cost, iv d1.n, iv d1.s]] w fun e w' => e = .returned (.agg #[iv r.src, iv r.dst, iv r.low, iv r.cap, iv r.cost]) ∧ Below w.heap.size w w' := by
  unfold two_pair_split at h
  refine enter_ Tryz.func47 rfl Tryz.ntmps47 rfl ?_
  refine WP.box rfl rfl rfl rfl rfl rfl ?_
  intro g1
  refine WP.al tysOk rfl rfl rfl rfl rfl rfl ?_
  intro g2
  refine WP.mx_ tysOk rfl ⟨⟩ (SegAt.blk' (.tail .head) rfl) ?_
  obtain ⟨r1, hg1, h⟩ := bind_some h
  refine WP.callV rfl rfl rfl rfl rfl rfl rfl (by kernel_rfl) (fun w1 hw1 => (two_pair_both_w hg1  :)) ⟨⟩ ?_
  iterate 4 (refine WP.sx tysOk rfl ⟨⟨⟩, ⟨⟩⟩ ?_)
  refine WP.lx tysOk rfl ⟨⟩ (CellAt.blk (.tail .head) rfl) ?_
  iterate 3 (refine WP.sx tysOk rfl ⟨⟨⟩, ⟨⟩⟩ ?_)
  refine WP.lx tysOk rfl ⟨⟩ (CellAt.blk (.tail .head) rfl) ?_
  iterate 3 (refine WP.sx tysOk rfl ⟨⟨⟩, ⟨⟩⟩ ?_)
  refine WP.lx tysOk rfl ⟨⟩ (CellAt.blk (.tail .head) rfl) ?_
  iterate 3 (refine WP.sx tysOk rfl ⟨⟨⟩, ⟨⟩⟩ ?_)
  refine WP.lx tysOk rfl ⟨⟩ (CellAt.blk (.tail .head) rfl) ?_
  iterate 4 (refine WP.sx tysOk rfl ⟨⟨⟩, ⟨⟩⟩ ?_)
  refine WP.lx tysOk rfl ⟨⟩ (CellAt.blk (.tail .head) rfl) ?_
  refine WP.sx tysOk rfl ⟨⟨⟩, ⟨⟩⟩ ?_
  refine WP.mn rfl ⟨⟩ rfl rfl rfl rfl rfl rfl ?_
  iterate 3 (refine WP.sx tysOk rfl ⟨⟨⟩, ⟨⟩⟩ ?_)
  refine WP.lx tysOk rfl ⟨⟩ (CellAt.blk (.tail .head) rfl) ?_
  iterate 3 (refine WP.sx tysOk rfl ⟨⟨⟩, ⟨⟩⟩ ?_)
  refine WP.lx tysOk rfl ⟨⟩ (CellAt.blk (.tail .head) rfl) ?_
  refine WP.sx tysOk rfl ⟨⟨⟩, ⟨⟩⟩ ?_
  refine WP.bld (cs := [iv d1.y.dst, iv d1.x.dst, iv d1.x.low, iv (if (w64 (r1 - d1.y.low)) < d1.x.cap then w64 (r1 - d1.y.low) else d1.x.cap), iv (w64 (d1.x.cost - d1.y.cost))]) tysOk rfl ⟨⟩ rfl rfl rfl rfl rfl rfl rfl ?_
  refine WP.al tysOk rfl rfl rfl rfl rfl rfl ?_
  intro g3
  refine WP.sto' tysOk [iv d1.y.dst, iv d1.x.dst, iv d1.x.low, iv (if (w64 (r1 - d1.y.low)) < d1.x.cap then w64 (r1 - d1.y.low) else d1.x.cap), iv (w64 (d1.x.cost - d1.y.cost))] rfl rfl rfl rfl rfl rfl rfl rfl rfl .head rfl rfl ?_
  iterate 3 (refine WP.sx tysOk rfl ⟨⟨⟩, ⟨⟩⟩ ?_)
  refine WP.lx tysOk rfl ⟨⟩ (CellAt.blk (.tail (.tail .head)) rfl) ?_
  refine WP.sx tysOk rfl ⟨⟨⟩, ⟨⟩⟩ ?_
  refine WP.lx tysOk rfl ⟨⟩ (CellAt.blk (.tail (.tail .head)) rfl) ?_
  refine WP.sx tysOk rfl ⟨⟨⟩, ⟨⟩⟩ ?_
  refine WP.cond_d rfl rfl (fun hh1 => ?_) (fun hh1 => ?_)
  ·rw [if_pos hh1] at h
   refine WP.join (α := Unit) (fun x => True) (fun x => [(1, .pointer (some ⟨g1, 0, none⟩)), (2, .pointer (some ⟨g2, 0, none⟩)), (3, iv r1), (4, .pointer (some ⟨g3, 0, none⟩))]) (fun x => [.blk g3 34 [iv d1.x.src, iv d1.y.src, iv d1.x.low, iv (if (w64 (r1 - d1.y.low)) < d1.x.cap then w64 (r1 - d1.y.low) else d1.x.cap), iv (w64 (d1.x.cost - d1.y.cost))], .blk g2 34 [iv 0, iv 0, iv 0, iv 0, iv 0], .blk g1 66 [iv d1.x.src, iv d1.x.dst, iv d1.x.low, iv d1.x.cap, iv d1.x.cost, iv d1.y.src, iv d1.y.dst, iv d1.y.low, iv d1.y.cap, iv d1.y.cost, iv d1.n, iv d1.s], .fz (PH.of w)]) rfl ?_ ?_
   ·refine WP.drawA rfl (by kernel_rfl) ?_
    refine WP.anyP 0 tysOk putInv_body rfl rfl rfl (by kernel_rfl) (by kernel_rfl) rfl rfl rfl rfl rfl True.intro ?_
    refine WP.anyP 1 tysOk putInv_body rfl rfl rfl (by kernel_rfl) (by kernel_rfl) rfl rfl rfl rfl rfl True.intro ?_
    refine WP.anyP 2 tysOk putInv_body rfl rfl rfl (by kernel_rfl) (by kernel_rfl) rfl rfl rfl rfl rfl True.intro ?_
    refine WP.anyP 4 tysOk putInv_body rfl rfl rfl (by kernel_rfl) (by kernel_rfl) rfl rfl rfl rfl rfl True.intro ?_
    refine WP.anyP 5 tysOk putInv_body rfl rfl rfl (by kernel_rfl) (by kernel_rfl) rfl rfl rfl rfl rfl True.intro ?_
    refine WP.anyP 6 tysOk putInv_body rfl rfl rfl (by kernel_rfl) (by kernel_rfl) rfl rfl rfl rfl rfl True.intro ?_
    refine WP.any2 3 7 rfl (by kernel_rfl) rfl rfl ?_ ?_
    ·refine WP.lx tysOk rfl ⟨⟩ (CellAt.blk (.tail (.tail .head)) rfl) ?_
     refine WP.anyP 8 tysOk putInv_body rfl rfl rfl (by kernel_rfl) (by kernel_rfl) rfl rfl rfl rfl rfl True.intro ?_
     refine WP.any2 7 9 rfl (by kernel_rfl) rfl rfl ?_ ?_
     ·refine WP.lx tysOk rfl ⟨⟩ (CellAt.blk (.tail (.tail .head)) rfl) ?_
      refine WP.any1 9 rfl (by kernel_rfl) rfl ?_
      refine WP.sto' tysOk [iv d1.x.src, iv d1.x.dst, iv d1.x.low, iv (if (w64 (r1 - d1.y.low)) < d1.x.cap then w64 (r1 - d1.y.low) else d1.x.cap), iv (w64 (d1.x.cost - d1.y.cost))] rfl rfl rfl rfl rfl rfl rfl rfl rfl .head rfl rfl ?_
      refine WP.anyP 10 tysOk putInv_body rfl rfl rfl (by kernel_rfl) (by kernel_rfl) rfl rfl rfl rfl rfl True.intro ?_
      refine WP.any1 11 rfl (by kernel_rfl) rfl ?_
      refine WP.sto' tysOk [iv d1.x.src, iv d1.y.src, iv d1.x.low, iv (if (w64 (r1 - d1.y.low)) < d1.x.cap then w64 (r1 - d1.y.low) else d1.x.cap), iv (w64 (d1.x.cost - d1.y.cost))] rfl rfl rfl rfl rfl rfl rfl rfl rfl .head rfl rfl ?_
      refine WP.any0 rfl (by kernel_rfl) ?_
      refine WP.stop rfl () True.intro ?_ ?_
      ·repeat first | exact ⟨⟩ | refine ⟨rfl, ?_⟩
      exact (.cons .head (.cons .head (.cons .head (.cons .head .nil))))
     refine WP.sto' tysOk [iv d1.x.src, iv d1.x.dst, iv d1.x.low, iv (if (w64 (r1 - d1.y.low)) < d1.x.cap then w64 (r1 - d1.y.low) else d1.x.cap), iv (w64 (d1.x.cost - d1.y.cost))] rfl rfl rfl rfl rfl rfl rfl rfl rfl .head rfl rfl ?_
     refine WP.any1 7 rfl (by kernel_rfl) rfl ?_
     refine WP.lx tysOk rfl ⟨⟩ (CellAt.blk (.tail (.tail .head)) rfl) ?_
     refine WP.anyP 10 tysOk putInv_body rfl rfl rfl (by kernel_rfl) (by kernel_rfl) rfl rfl rfl rfl rfl True.intro ?_
     refine WP.any1 11 rfl (by kernel_rfl) rfl ?_
     refine WP.sto' tysOk [iv d1.x.src, iv d1.y.src, iv d1.x.low, iv (if (w64 (r1 - d1.y.low)) < d1.x.cap then w64 (r1 - d1.y.low) else d1.x.cap), iv (w64 (d1.x.cost - d1.y.cost))] rfl rfl rfl rfl rfl rfl rfl rfl rfl .head rfl rfl ?_
     refine WP.any0 rfl (by kernel_rfl) ?_
     refine WP.stop rfl () True.intro ?_ ?_
     ·repeat first | exact ⟨⟩ | refine ⟨rfl, ?_⟩
     exact (.cons .head (.cons .head (.cons .head (.cons .head .nil))))
    refine WP.lx tysOk rfl ⟨⟩ (CellAt.blk (.tail (.tail .head)) rfl) ?_
    refine WP.any1 3 rfl (by kernel_rfl) rfl ?_
    refine WP.lx tysOk rfl ⟨⟩ (CellAt.blk (.tail (.tail .head)) rfl) ?_
    refine WP.anyP 8 tysOk putInv_body rfl rfl rfl (by kernel_rfl) (by kernel_rfl) rfl rfl rfl rfl rfl True.intro ?_
    refine WP.any1 9 rfl (by kernel_rfl) rfl ?_
    refine WP.sto' tysOk [iv d1.x.src, iv d1.x.dst, iv d1.x.low, iv (if (w64 (r1 - d1.y.low)) < d1.x.cap then w64 (r1 - d1.y.low) else d1.x.cap), iv (w64 (d1.x.cost - d1.y.cost))] rfl rfl rfl rfl rfl rfl rfl rfl rfl .head rfl rfl ?_
    refine WP.anyP 10 tysOk putInv_body rfl rfl rfl (by kernel_rfl) (by kernel_rfl) rfl rfl rfl rfl rfl True.intro ?_
    refine WP.any1 11 rfl (by kernel_rfl) rfl ?_
    refine WP.sto' tysOk [iv d1.x.src, iv d1.y.src, iv d1.x.low, iv (if (w64 (r1 - d1.y.low)) < d1.x.cap then w64 (r1 - d1.y.low) else d1.x.cap), iv (w64 (d1.x.cost - d1.y.cost))] rfl rfl rfl rfl rfl rfl rfl rfl rfl .head rfl rfl ?_
    refine WP.any0 rfl (by kernel_rfl) ?_
    refine WP.stop rfl () True.intro ?_ ?_
    ·repeat first | exact ⟨⟩ | refine ⟨rfl, ?_⟩
    exact (.cons .head (.cons .head (.cons .head (.cons .head .nil))))
   rintro _ _
   iterate 3 (refine WP.sx tysOk rfl ⟨⟨⟩, ⟨⟩⟩ ?_)
   refine WP.lx tysOk rfl ⟨⟩ (CellAt.blk (.tail (.tail .head)) rfl) ?_
   by_cases hh2 : d1.y.cap = 4611686018427387904
   ·rw [if_pos hh2] at h
    refine WP.callV rfl rfl rfl rfl rfl rfl rfl (by kernel_rfl) (fun w1 hw1 => two_bound_nil hh2) ⟨⟩ ?_
    iterate 3 (refine WP.sx tysOk rfl ⟨⟨⟩, ⟨⟩⟩ ?_)
    refine WP.condF rfl rfl ?_
    refine WP.mx_ tysOk rfl ⟨⟩ (SegAt.blk' .head rfl) ?_
    refine WP.sto' tysOk [iv d1.x.src, iv d1.y.src, iv d1.x.low, iv (if (w64 (r1 - d1.y.low)) < d1.x.cap then w64 (r1 - d1.y.low) else d1.x.cap), iv (w64 (d1.x.cost - d1.y.cost))] rfl rfl rfl rfl rfl rfl rfl rfl rfl (.tail .head) rfl rfl ?_
    cases h
    refine WP.retR tysOk rfl rfl ⟨_, _, _, _, rfl, ⟨_, rfl, .inr ⟨rfl, _, rfl, rfl, (SegAt.blk' (z := 5) .head rfl).1⟩⟩, rfl, rfl⟩ (fun w1 hw1 => ⟨rfl, Ret.below_ hw1 (.cons (.tail (.tail (.tail .head))) .nil)⟩)
   rw [if_neg hh2] at h
   refine WP.callS (two_bound_S d1.y.cap) rfl rfl rfl rfl rfl rfl rfl (by kernel_rfl) (fun w1 hw1 => two_bound_some hh2) ?_
   rintro _ _ ⟨g4, rfl, rfl⟩
   iterate 3 (refine WP.sx tysOk rfl ⟨⟨⟩, ⟨⟩⟩ ?_)
   refine WP.condT rfl rfl ?_
   refine WP.drawL 9 [] rfl (by kernel_rfl) (by kernel_rfl) (by kernel_rfl) ?_
   refine WP.sx tysOk rfl ⟨⟨⟨rfl, rfl⟩, rfl⟩, ⟨⟩⟩ ?_
   refine WP.lx tysOk rfl ⟨⟨rfl, rfl⟩, rfl⟩ (CellAt.blk (.tail .head) rfl) ?_
   iterate 3 (refine WP.sx tysOk rfl ⟨⟨⟨rfl, rfl⟩, rfl⟩, ⟨⟩⟩ ?_)
   refine WP.lx tysOk rfl ⟨⟨rfl, rfl⟩, rfl⟩ (CellAt.blk .head rfl) ?_
   refine WP.sx tysOk rfl ⟨⟨⟨rfl, rfl⟩, rfl⟩, ⟨⟩⟩ ?_
   refine WP.mx rfl ⟨⟨rfl, rfl⟩, rfl⟩ rfl rfl rfl rfl rfl rfl ?_
   refine WP.sx tysOk rfl ⟨⟨⟨rfl, rfl⟩, rfl⟩, ⟨⟩⟩ ?_
   refine WP.lend rfl ⟨rfl, rfl⟩ ?_
   refine WP.sto' tysOk [iv d1.x.src, iv d1.y.src, iv (if (w64 (r1 - d1.y.cap)) > d1.x.low then w64 (r1 - d1.y.cap) else d1.x.low), iv (if (w64 (r1 - d1.y.low)) < d1.x.cap then w64 (r1 - d1.y.low) else d1.x.cap), iv (w64 (d1.x.cost - d1.y.cost))] rfl rfl rfl rfl rfl rfl rfl rfl rfl (.tail .head) rfl rfl ?_
   refine WP.mx_ tysOk rfl ⟨⟩ (SegAt.blk' .head rfl) ?_
   refine WP.sto' tysOk [iv d1.x.src, iv d1.y.src, iv (if (w64 (r1 - d1.y.cap)) > d1.x.low then w64 (r1 - d1.y.cap) else d1.x.low), iv (if (w64 (r1 - d1.y.low)) < d1.x.cap then w64 (r1 - d1.y.low) else d1.x.cap), iv (w64 (d1.x.cost - d1.y.cost))] rfl rfl rfl rfl rfl rfl rfl rfl rfl (.tail (.tail .head)) rfl rfl ?_
   cases h
   refine WP.retR tysOk rfl rfl ⟨_, _, _, _, rfl, ⟨_, rfl, .inr ⟨rfl, _, rfl, rfl, (SegAt.blk' (z := 5) .head rfl).1⟩⟩, rfl, rfl⟩ (fun w1 hw1 => ⟨rfl, Ret.below_ hw1 (.cons (.tail (.tail (.tail (.tail .head)))) .nil)⟩)
  rw [if_neg hh1] at h
  iterate 3 (refine WP.sx tysOk rfl ⟨⟨⟩, ⟨⟩⟩ ?_)
  refine WP.lx tysOk rfl ⟨⟩ (CellAt.blk (.tail (.tail .head)) rfl) ?_
  by_cases hh3 : d1.y.cap = 4611686018427387904
  ·rw [if_pos hh3] at h
   refine WP.callV rfl rfl rfl rfl rfl rfl rfl (by kernel_rfl) (fun w1 hw1 => two_bound_nil hh3) ⟨⟩ ?_
   iterate 3 (refine WP.sx tysOk rfl ⟨⟨⟩, ⟨⟩⟩ ?_)
   refine WP.condF rfl rfl ?_
   refine WP.mx_ tysOk rfl ⟨⟩ (SegAt.blk' .head rfl) ?_
   refine WP.sto' tysOk [iv d1.y.dst, iv d1.x.dst, iv d1.x.low, iv (if (w64 (r1 - d1.y.low)) < d1.x.cap then w64 (r1 - d1.y.low) else d1.x.cap), iv (w64 (d1.x.cost - d1.y.cost))] rfl rfl rfl rfl rfl rfl rfl rfl rfl (.tail .head) rfl rfl ?_
   cases h
   refine WP.retR tysOk rfl rfl ⟨_, _, _, _, rfl, ⟨_, rfl, .inr ⟨rfl, _, rfl, rfl, (SegAt.blk' (z := 5) .head rfl).1⟩⟩, rfl, rfl⟩ (fun w1 hw1 => ⟨rfl, Ret.below_ hw1 (.cons (.tail (.tail (.tail .head))) .nil)⟩)
  rw [if_neg hh3] at h
  refine WP.callS (two_bound_S d1.y.cap) rfl rfl rfl rfl rfl rfl rfl (by kernel_rfl) (fun w1 hw1 => two_bound_some hh3) ?_
  rintro _ _ ⟨g5, rfl, rfl⟩
  iterate 3 (refine WP.sx tysOk rfl ⟨⟨⟩, ⟨⟩⟩ ?_)
  refine WP.condT rfl rfl ?_
  refine WP.drawL 9 [] rfl (by kernel_rfl) (by kernel_rfl) (by kernel_rfl) ?_
  refine WP.sx tysOk rfl ⟨⟨⟨rfl, rfl⟩, rfl⟩, ⟨⟩⟩ ?_
  refine WP.lx tysOk rfl ⟨⟨rfl, rfl⟩, rfl⟩ (CellAt.blk (.tail .head) rfl) ?_
  iterate 3 (refine WP.sx tysOk rfl ⟨⟨⟨rfl, rfl⟩, rfl⟩, ⟨⟩⟩ ?_)
  refine WP.lx tysOk rfl ⟨⟨rfl, rfl⟩, rfl⟩ (CellAt.blk .head rfl) ?_
  refine WP.sx tysOk rfl ⟨⟨⟨rfl, rfl⟩, rfl⟩, ⟨⟩⟩ ?_
  refine WP.mx rfl ⟨⟨rfl, rfl⟩, rfl⟩ rfl rfl rfl rfl rfl rfl ?_
  refine WP.sx tysOk rfl ⟨⟨⟨rfl, rfl⟩, rfl⟩, ⟨⟩⟩ ?_
  refine WP.lend rfl ⟨rfl, rfl⟩ ?_
  refine WP.sto' tysOk [iv d1.y.dst, iv d1.x.dst, iv (if (w64 (r1 - d1.y.cap)) > d1.x.low then w64 (r1 - d1.y.cap) else d1.x.low), iv (if (w64 (r1 - d1.y.low)) < d1.x.cap then w64 (r1 - d1.y.low) else d1.x.cap), iv (w64 (d1.x.cost - d1.y.cost))] rfl rfl rfl rfl rfl rfl rfl rfl rfl (.tail .head) rfl rfl ?_
  refine WP.mx_ tysOk rfl ⟨⟩ (SegAt.blk' .head rfl) ?_
  refine WP.sto' tysOk [iv d1.y.dst, iv d1.x.dst, iv (if (w64 (r1 - d1.y.cap)) > d1.x.low then w64 (r1 - d1.y.cap) else d1.x.low), iv (if (w64 (r1 - d1.y.low)) < d1.x.cap then w64 (r1 - d1.y.low) else d1.x.cap), iv (w64 (d1.x.cost - d1.y.cost))] rfl rfl rfl rfl rfl rfl rfl rfl rfl (.tail (.tail .head)) rfl rfl ?_
  cases h
  refine WP.retR tysOk rfl rfl ⟨_, _, _, _, rfl, ⟨_, rfl, .inr ⟨rfl, _, rfl, rfl, (SegAt.blk' (z := 5) .head rfl).1⟩⟩, rfl, rfl⟩ (fun w1 hw1 => ⟨rfl, Ret.below_ hw1 (.cons (.tail (.tail (.tail (.tail .head)))) .nil)⟩)

set_option maxRecDepth 20000 in
set_option maxHeartbeats 8000000 in
theorem two_shape_at_2_w {w : World} {v0 : Value} {v1 : Value} {i1 : Inst} {x1 : Inst} {x2 : Int} {r : Spot × Pair × Bool} (h : two_shape_at_2 i1 x1 x2 = some r) (p1 : GraphZ (PH.of w) v0 i1) (p2 : InsZ (PH.of w) v1 x1) :
    Calls Tryz.prog 26 #[.agg #[iv 9, .func (.func 46) #[] #[], .func (.func 47) #[] #[], .func (.func 48) #[] #[]], v0, v1, iv x2] w fun e w' => e = .returned (.tuple #[.agg #[iv r.1.node, iv r.1.a, iv r.1.b, iv r.1.new.src, iv r.1.new.dst, iv r.1.new.low, iv r.1.new.cap, iv r.1.new.cost], .agg #[iv r.2.1.x.src, iv r.2.1.x.dst, iv r.2.1.x.low, iv r.2.1.x.cap, iv r.2.1.x.cost, iv r.2.1.y.src, iv r.2.1.y.dst, iv r.2.1.y.low, iv r.2.1.y.cap, iv r.2.1.y.cost, iv r.2.1.n, iv r.2.1.s], .bool (r.2.2)]) ∧ Below w.heap.size w w' := by
  obtain ⟨gg1, rfl⟩ := p1.ptr'
  obtain ⟨A1, c1, A2, c2, rfl, hs1, hs2⟩ := p2
  unfold two_shape_at_2 at h
  refine enter_ Tryz.func26 rfl Tryz.ntmps26 rfl ?_
  refine WP.box rfl rfl rfl rfl rfl rfl ?_
  intro g1
  refine WP.box rfl rfl rfl rfl rfl rfl ?_
  intro g2
  refine WP.al tysOk rfl rfl rfl rfl rfl rfl ?_
  intro g3
  refine WP.al tysOk rfl rfl rfl rfl rfl rfl ?_
  intro g4
  iterate 3 (refine WP.sx tysOk rfl ⟨⟨⟩, ⟨⟩⟩ ?_)
  obtain ⟨r1, hg1, h⟩ := bind_some h
  refine WP.callS (adj_Graph_At_S r1) rfl rfl rfl rfl rfl rfl rfl (by kernel_rfl) (fun w1 hw1 => (adj_Graph_At_w hg1 (p1.le ((Held.mem (List.Mem.tail _ (List.Mem.tail _ (List.Mem.tail _ (List.Mem.tail _ (List.Mem.head _)))))) _ _ hw1)) :)) ?_
  rintro _ _ ⟨A3, n1, c3, rfl, hf1, rfl⟩
  iterate 2 (refine WP.sx tysOk rfl ⟨⟨⟩, ⟨⟩⟩ ?_)
  refine WP.lenO (xs := r1) tysOk rfl ⟨⟩ rfl rfl rfl rfl rfl rfl hf1 ?_
  iterate 2 (refine WP.sx tysOk rfl ⟨⟨⟩, ⟨⟩⟩ ?_)
  by_cases hh1 : ¬ (r1.length : Int) = 2
  ·rw [if_pos hh1] at h
   refine WP.no rfl rfl (decide_eq_true hh1) rfl rfl ?_
   iterate 3 (refine WP.no rfl rfl rfl rfl rfl ?_)
   refine WP.sx tysOk rfl ⟨⟨⟩, ⟨⟩⟩ ?_
   refine WP.condT rfl rfl ?_
   refine WP.bld (cs := [iv 0, iv 0, iv 0, iv 0, iv 0, iv 0, iv 0, iv 0]) tysOk rfl ⟨⟩ rfl rfl rfl rfl rfl rfl rfl ?_
   refine WP.bld (cs := [iv 0, iv 0, iv 0, iv 0, iv 0, iv 0, iv 0, iv 0, iv 0, iv 0, iv 0, iv 0]) tysOk rfl ⟨⟩ rfl rfl rfl rfl rfl rfl rfl ?_
   refine WP.sto' tysOk [iv 0, iv 0, iv 0, iv 0, iv 0, iv 0, iv 0, iv 0] rfl rfl rfl rfl rfl rfl rfl rfl rfl (.tail (.tail .head)) rfl rfl ?_
   refine WP.sto' tysOk [iv 0, iv 0, iv 0, iv 0, iv 0, iv 0, iv 0, iv 0, iv 0, iv 0, iv 0, iv 0] rfl rfl rfl rfl rfl rfl rfl rfl rfl (.tail (.tail .head)) rfl rfl ?_
   refine WP.sx tysOk rfl ⟨⟨⟩, ⟨⟩⟩ ?_
   cases h
   refine WP.retR tysOk rfl rfl ⟨_, _, _, _, rfl, ⟨_, rfl, .inr ⟨rfl, _, rfl, rfl, (SegAt.blk' (z := 8) (.tail .head) rfl).1⟩⟩, ⟨_, _, _, _, rfl, ⟨_, rfl, .inr ⟨rfl, _, rfl, rfl, (SegAt.blk' (z := 12) .head rfl).1⟩⟩, ⟨_, _, rfl, rfl, rfl⟩, rfl⟩, rfl⟩ (fun w1 hw1 => ⟨rfl, Ret.below_ hw1 (.cons (.tail (.tail (.tail (.tail (.tail .head))))) .nil)⟩)
  rw [if_neg hh1] at h
  refine WP.yes rfl rfl (decide_eq_false hh1) ?_
  iterate 2 (refine WP.sx tysOk rfl ⟨⟨⟩, ⟨⟩⟩ ?_; refine WP.yes rfl rfl rfl ?_)
  obtain ⟨r2, hg2, h⟩ := bind_some h
  refine WP.callV rfl rfl rfl rfl rfl rfl rfl (by kernel_rfl) (fun w1 hw1 => (adj_Graph_Loops_w hg2 (p1.le ((Held.mem (List.Mem.tail _ (List.Mem.tail _ (List.Mem.tail _ (List.Mem.tail _ (List.Mem.tail _ (List.Mem.head _))))))) _ _ hw1)) :)) ⟨⟩ ?_
  refine WP.yes rfl rfl rfl ?_
  iterate 2 (refine WP.sx tysOk rfl ⟨⟨⟩, ⟨⟩⟩ ?_)
  refine WP.cond_d rfl rfl (fun hh2 => ?_) (fun hh2 => ?_)
  ·rw [if_pos hh2] at h
   refine WP.bld (cs := [iv 0, iv 0, iv 0, iv 0, iv 0, iv 0, iv 0, iv 0]) tysOk rfl ⟨⟩ rfl rfl rfl rfl rfl rfl rfl ?_
   refine WP.bld (cs := [iv 0, iv 0, iv 0, iv 0, iv 0, iv 0, iv 0, iv 0, iv 0, iv 0, iv 0, iv 0]) tysOk rfl ⟨⟩ rfl rfl rfl rfl rfl rfl rfl ?_
   refine WP.sto' tysOk [iv 0, iv 0, iv 0, iv 0, iv 0, iv 0, iv 0, iv 0] rfl rfl rfl rfl rfl rfl rfl rfl rfl (.tail (.tail .head)) rfl rfl ?_
   refine WP.sto' tysOk [iv 0, iv 0, iv 0, iv 0, iv 0, iv 0, iv 0, iv 0, iv 0, iv 0, iv 0, iv 0] rfl rfl rfl rfl rfl rfl rfl rfl rfl (.tail (.tail .head)) rfl rfl ?_
   refine WP.sx tysOk rfl ⟨⟨⟩, ⟨⟩⟩ ?_
   cases h
   refine WP.retR tysOk rfl rfl ⟨_, _, _, _, rfl, ⟨_, rfl, .inr ⟨rfl, _, rfl, rfl, (SegAt.blk' (z := 8) (.tail .head) rfl).1⟩⟩, ⟨_, _, _, _, rfl, ⟨_, rfl, .inr ⟨rfl, _, rfl, rfl, (SegAt.blk' (z := 12) .head rfl).1⟩⟩, ⟨_, _, rfl, rfl, rfl⟩, rfl⟩, rfl⟩ (fun w1 hw1 => ⟨rfl, Ret.below_ hw1 (.cons (.tail (.tail (.tail (.tail (.tail .head))))) .nil)⟩)
  rw [if_neg hh2] at h
  refine WP.draw rfl (by kernel_rfl) (by kernel_rfl) ?_
  refine WP.sx tysOk rfl ⟨rfl, ⟨⟩⟩ ?_
  obtain ⟨hj1, h⟩ := ck_some h
  refine WP.ixO tysOk rfl rfl rfl rfl rfl rfl rfl rfl rfl rfl hf1 hj1 ?_
  intro b1 hA1
  refine WP.lx tysOk rfl rfl (OwS.at0 .head hA1 hj1 rfl) ?_
  refine WP.sx tysOk rfl ⟨rfl, ⟨⟩⟩ ?_
  obtain ⟨hj2, h⟩ := ck_some h
  refine WP.ixO tysOk rfl rfl rfl rfl rfl rfl rfl rfl rfl rfl hf1 hj2 ?_
  intro b2 hA2
  refine WP.lx tysOk rfl rfl (OwS.at0 .head hA2 hj2 rfl) ?_
  iterate 2 (refine WP.sx tysOk rfl ⟨rfl, ⟨⟩⟩ ?_)
  refine WP.qend rfl ?_
  obtain ⟨hj3, h⟩ := ck_some h
  obtain ⟨hj4, h⟩ := ck_some h
  obtain ⟨r3, hg3, h⟩ := bind_some h
  refine WP.drawL 15 [(13, [], fun _ => constSpec (.bool (r3)))] rfl (by kernel_rfl) (by kernel_rfl) (by kernel_rfl) ?_
  refine WP.sx tysOk rfl ⟨⟨⟨rfl, rfl⟩, rfl⟩, ⟨⟩⟩ ?_
  refine WP.lx tysOk rfl ⟨⟨rfl, rfl⟩, rfl⟩ (CellAt.blk (.tail (.tail (.tail (.tail .head)))) rfl) ?_
  refine WP.sx tysOk rfl ⟨⟨⟨rfl, rfl⟩, rfl⟩, ⟨⟩⟩ ?_
  refine WP.lx tysOk rfl ⟨⟨rfl, rfl⟩, rfl⟩ (CellAt.blk (.tail (.tail (.tail .head))) rfl) ?_
  refine WP.sx tysOk rfl ⟨⟨⟨rfl, rfl⟩, rfl⟩, ⟨⟩⟩ ?_
  refine WP.ixA tysOk rfl ⟨⟨rfl, rfl⟩, rfl⟩ rfl rfl rfl rfl rfl rfl rfl rfl hj3 (hs2.ex hj3) ?_
  intro b3 b3v hA3
  refine WP.mx_ tysOk rfl ⟨⟨rfl, rfl⟩, rfl⟩ (hs2.seg hA3 (Held.mem (List.Mem.tail _ (List.Mem.tail _ (List.Mem.tail _ (List.Mem.tail _ (List.Mem.tail _ (List.Mem.head _))))))) hj3) ?_
  refine WP.sx tysOk rfl ⟨⟨⟨rfl, rfl⟩, rfl⟩, ⟨⟩⟩ ?_
  refine WP.lx tysOk rfl ⟨⟨rfl, rfl⟩, rfl⟩ (CellAt.blk (.tail (.tail (.tail .head))) rfl) ?_
  refine WP.sx tysOk rfl ⟨⟨⟨rfl, rfl⟩, rfl⟩, ⟨⟩⟩ ?_
  refine WP.ixA tysOk rfl ⟨⟨rfl, rfl⟩, rfl⟩ rfl rfl rfl rfl rfl rfl rfl rfl hj4 (hs2.ex hj4) ?_
  intro b4 b4v hA4
  refine WP.mx_ tysOk rfl ⟨⟨rfl, rfl⟩, rfl⟩ (hs2.seg hA4 (Held.mem (List.Mem.tail _ (List.Mem.tail _ (List.Mem.tail _ (List.Mem.tail _ (List.Mem.tail _ (List.Mem.head _))))))) hj4) ?_
  refine WP.sx tysOk rfl ⟨⟨⟨rfl, rfl⟩, rfl⟩, ⟨⟩⟩ ?_
  refine WP.callV rfl rfl rfl rfl rfl rfl rfl (by kernel_rfl) (fun w1 hw1 => (two_fork_1_w hg3  :)) ⟨⟨rfl, rfl⟩, rfl⟩ ?_
  refine WP.sx tysOk rfl ⟨⟨⟨rfl, rfl⟩, rfl⟩, ⟨⟩⟩ ?_
  refine WP.lend rfl ⟨rfl, rfl⟩ ?_
  refine WP.cond_n rfl rfl (fun hh3 => ?_) (fun hh3 => ?_)
  ·rw [if_neg (bneg hh3)] at h
   iterate 4 (refine WP.sx tysOk rfl ⟨⟨⟩, ⟨⟩⟩ ?_)
   obtain ⟨r4, hg4, h⟩ := bind_some h
   refine WP.drawL 15 [(13, [], fun _ => constSpec (.bool (r4)))] rfl (by kernel_rfl) (by kernel_rfl) (by kernel_rfl) ?_
   refine WP.sx tysOk rfl ⟨⟨⟨rfl, rfl⟩, rfl⟩, ⟨⟩⟩ ?_
   refine WP.lx tysOk rfl ⟨⟨rfl, rfl⟩, rfl⟩ (CellAt.blk (.tail (.tail (.tail (.tail .head)))) rfl) ?_
   refine WP.sx tysOk rfl ⟨⟨⟨rfl, rfl⟩, rfl⟩, ⟨⟩⟩ ?_
   refine WP.lx tysOk rfl ⟨⟨rfl, rfl⟩, rfl⟩ (CellAt.blk (.tail (.tail (.tail .head))) rfl) ?_
   refine WP.sx tysOk rfl ⟨⟨⟨rfl, rfl⟩, rfl⟩, ⟨⟩⟩ ?_
   refine WP.ixA tysOk rfl ⟨⟨rfl, rfl⟩, rfl⟩ rfl rfl rfl rfl rfl rfl rfl rfl hj4 (hs2.ex hj4) ?_
   intro b5 b5v hA5
   refine WP.mx_ tysOk rfl ⟨⟨rfl, rfl⟩, rfl⟩ (hs2.seg hA5 (Held.mem (List.Mem.tail _ (List.Mem.tail _ (List.Mem.tail _ (List.Mem.tail _ (List.Mem.tail _ (List.Mem.head _))))))) hj4) ?_
   refine WP.sx tysOk rfl ⟨⟨⟨rfl, rfl⟩, rfl⟩, ⟨⟩⟩ ?_
   refine WP.lx tysOk rfl ⟨⟨rfl, rfl⟩, rfl⟩ (CellAt.blk (.tail (.tail (.tail .head))) rfl) ?_
   refine WP.sx tysOk rfl ⟨⟨⟨rfl, rfl⟩, rfl⟩, ⟨⟩⟩ ?_
   refine WP.ixA tysOk rfl ⟨⟨rfl, rfl⟩, rfl⟩ rfl rfl rfl rfl rfl rfl rfl rfl hj3 (hs2.ex hj3) ?_
   intro b6 b6v hA6
   refine WP.mx_ tysOk rfl ⟨⟨rfl, rfl⟩, rfl⟩ (hs2.seg hA6 (Held.mem (List.Mem.tail _ (List.Mem.tail _ (List.Mem.tail _ (List.Mem.tail _ (List.Mem.tail _ (List.Mem.head _))))))) hj3) ?_
   refine WP.sx tysOk rfl ⟨⟨⟨rfl, rfl⟩, rfl⟩, ⟨⟩⟩ ?_
   refine WP.callV rfl rfl rfl rfl rfl rfl rfl (by kernel_rfl) (fun w1 hw1 => (two_fork_1_w hg4  :)) ⟨⟨rfl, rfl⟩, rfl⟩ ?_
   refine WP.sx tysOk rfl ⟨⟨⟨rfl, rfl⟩, rfl⟩, ⟨⟩⟩ ?_
   refine WP.lend rfl ⟨rfl, rfl⟩ ?_
   refine WP.cond_n rfl rfl (fun hh4 => ?_) (fun hh4 => ?_)
   ·rw [if_neg (bneg hh4)] at h
    refine WP.bld (cs := [iv 0, iv 0, iv 0, iv 0, iv 0, iv 0, iv 0, iv 0]) tysOk rfl ⟨⟩ rfl rfl rfl rfl rfl rfl rfl ?_
    refine WP.bld (cs := [iv 0, iv 0, iv 0, iv 0, iv 0, iv 0, iv 0, iv 0, iv 0, iv 0, iv 0, iv 0]) tysOk rfl ⟨⟩ rfl rfl rfl rfl rfl rfl rfl ?_
    refine WP.sto' tysOk [iv 0, iv 0, iv 0, iv 0, iv 0, iv 0, iv 0, iv 0] rfl rfl rfl rfl rfl rfl rfl rfl rfl (.tail (.tail .head)) rfl rfl ?_
    refine WP.sto' tysOk [iv 0, iv 0, iv 0, iv 0, iv 0, iv 0, iv 0, iv 0, iv 0, iv 0, iv 0, iv 0] rfl rfl rfl rfl rfl rfl rfl rfl rfl (.tail (.tail .head)) rfl rfl ?_
    refine WP.sx tysOk rfl ⟨⟨⟩, ⟨⟩⟩ ?_
    cases h
    refine WP.retR tysOk rfl rfl ⟨_, _, _, _, rfl, ⟨_, rfl, .inr ⟨rfl, _, rfl, rfl, (SegAt.blk' (z := 8) (.tail .head) rfl).1⟩⟩, ⟨_, _, _, _, rfl, ⟨_, rfl, .inr ⟨rfl, _, rfl, rfl, (SegAt.blk' (z := 12) .head rfl).1⟩⟩, ⟨_, _, rfl, rfl, rfl⟩, rfl⟩, rfl⟩ (fun w1 hw1 => ⟨rfl, Ret.below_ hw1 (.cons (.tail (.tail (.tail (.tail (.tail .head))))) .nil)⟩)
   rw [if_pos hh4] at h
   obtain ⟨hj5, h⟩ := ck_some h
   refine WP.drawL 20 [(19, [], fun _ => blkSpec 66 [iv 0, iv 0, iv 0, iv 0, iv 0, iv 0, iv 0, iv 0, iv 0, iv 0, iv 0, iv 0])] rfl (by kernel_rfl) (by kernel_rfl) (by kernel_rfl) ?_
   refine WP.sx tysOk rfl ⟨⟨⟨rfl, rfl⟩, rfl⟩, ⟨⟩⟩ ?_
   refine WP.lx tysOk rfl ⟨⟨rfl, rfl⟩, rfl⟩ (CellAt.blk (.tail (.tail (.tail .head))) rfl) ?_
   refine WP.sx tysOk rfl ⟨⟨⟨rfl, rfl⟩, rfl⟩, ⟨⟩⟩ ?_
   refine WP.ixA tysOk rfl ⟨⟨rfl, rfl⟩, rfl⟩ rfl rfl rfl rfl rfl rfl rfl rfl hj4 (hs2.ex hj4) ?_
   intro b7 b7v hA7
   refine WP.mx_ tysOk rfl ⟨⟨rfl, rfl⟩, rfl⟩ (hs2.seg hA7 (Held.mem (List.Mem.tail _ (List.Mem.tail _ (List.Mem.tail _ (List.Mem.tail _ (List.Mem.tail _ (List.Mem.head _))))))) hj4) ?_
   refine WP.bld (cs := [iv ((gt x1.arcs (gt r1 1)).src), iv ((gt x1.arcs (gt r1 1)).dst), iv ((gt x1.arcs (gt r1 1)).low), iv ((gt x1.arcs (gt r1 1)).cap), iv ((gt x1.arcs (gt r1 1)).cost)]) tysOk rfl ⟨⟨rfl, rfl⟩, rfl⟩ rfl rfl rfl rfl rfl rfl rfl ?_
   refine WP.sx tysOk rfl ⟨⟨⟨rfl, rfl⟩, rfl⟩, ⟨⟩⟩ ?_
   refine WP.lx tysOk rfl ⟨⟨rfl, rfl⟩, rfl⟩ (CellAt.blk (.tail (.tail (.tail .head))) rfl) ?_
   refine WP.sx tysOk rfl ⟨⟨⟨rfl, rfl⟩, rfl⟩, ⟨⟩⟩ ?_
   refine WP.ixA tysOk rfl ⟨⟨rfl, rfl⟩, rfl⟩ rfl rfl rfl rfl rfl rfl rfl rfl hj3 (hs2.ex hj3) ?_
   intro b8 b8v hA8
   refine WP.mx_ tysOk rfl ⟨⟨rfl, rfl⟩, rfl⟩ (hs2.seg hA8 (Held.mem (List.Mem.tail _ (List.Mem.tail _ (List.Mem.tail _ (List.Mem.tail _ (List.Mem.tail _ (List.Mem.head _))))))) hj3) ?_
   refine WP.bld (cs := [iv ((gt x1.arcs (gt r1 0)).src), iv ((gt x1.arcs (gt r1 0)).dst), iv ((gt x1.arcs (gt r1 0)).low), iv ((gt x1.arcs (gt r1 0)).cap), iv ((gt x1.arcs (gt r1 0)).cost)]) tysOk rfl ⟨⟨rfl, rfl⟩, rfl⟩ rfl rfl rfl rfl rfl rfl rfl ?_
   iterate 2 (refine WP.sx tysOk rfl ⟨⟨⟨rfl, rfl⟩, rfl⟩, ⟨⟩⟩ ?_)
   refine WP.lx tysOk rfl ⟨⟨rfl, rfl⟩, rfl⟩ (CellAt.blk (.tail (.tail (.tail .head))) rfl) ?_
   refine WP.sx tysOk rfl ⟨⟨⟨rfl, rfl⟩, rfl⟩, ⟨⟩⟩ ?_
   refine WP.ixA tysOk rfl ⟨⟨rfl, rfl⟩, rfl⟩ rfl rfl rfl rfl rfl rfl rfl rfl hj5 (hs1.ex hj5) ?_
   intro b9 b9v hA9
   refine WP.lx tysOk rfl ⟨⟨rfl, rfl⟩, rfl⟩ (hs1.at0 hA9 (Held.mem (List.Mem.tail _ (List.Mem.tail _ (List.Mem.tail _ (List.Mem.tail _ (List.Mem.tail _ (List.Mem.head _))))))) hj5 rfl) ?_
   refine WP.bld (cs := [iv ((gt x1.arcs (gt r1 1)).src), iv ((gt x1.arcs (gt r1 1)).dst), iv ((gt x1.arcs (gt r1 1)).low), iv ((gt x1.arcs (gt r1 1)).cap), iv ((gt x1.arcs (gt r1 1)).cost), iv ((gt x1.arcs (gt r1 0)).src), iv ((gt x1.arcs (gt r1 0)).dst), iv ((gt x1.arcs (gt r1 0)).low), iv ((gt x1.arcs (gt r1 0)).cap), iv ((gt x1.arcs (gt r1 0)).cost), iv x2, iv (gt x1.supply x2)]) tysOk rfl ⟨⟨rfl, rfl⟩, rfl⟩ rfl rfl rfl rfl rfl rfl rfl ?_
   refine WP.lal tysOk rfl ⟨rfl, rfl⟩ rfl rfl rfl rfl rfl rfl rfl ?_
   intro g5
   refine WP.lend rfl ⟨rfl, rfl⟩ ?_
   refine WP.sto' tysOk [iv ((gt x1.arcs (gt r1 1)).src), iv ((gt x1.arcs (gt r1 1)).dst), iv ((gt x1.arcs (gt r1 1)).low), iv ((gt x1.arcs (gt r1 1)).cap), iv ((gt x1.arcs (gt r1 1)).cost), iv ((gt x1.arcs (gt r1 0)).src), iv ((gt x1.arcs (gt r1 0)).dst), iv ((gt x1.arcs (gt r1 0)).low), iv ((gt x1.arcs (gt r1 0)).cap), iv ((gt x1.arcs (gt r1 0)).cost), iv x2, iv (gt x1.supply x2)] rfl rfl rfl rfl rfl rfl rfl rfl rfl .head rfl rfl ?_
   refine WP.sx tysOk rfl ⟨⟨⟩, ⟨⟩⟩ ?_
   refine WP.lx tysOk rfl ⟨⟩ (CellAt.blk (.tail (.tail (.tail (.tail (.tail .head))))) rfl) ?_
   refine WP.mx_ tysOk rfl ⟨⟩ (SegAt.blk' .head rfl) ?_
   obtain ⟨r5, hg5, h⟩ := bind_some h
   refine WP.callV rfl rfl rfl rfl rfl rfl rfl (by kernel_rfl) (fun w1 hw1 => (two_pair_split_w hg5  :)) ⟨⟩ ?_
   refine WP.al tysOk rfl rfl rfl rfl rfl rfl ?_
   intro g6
   refine WP.sto' tysOk [iv r5.src, iv r5.dst, iv r5.low, iv r5.cap, iv r5.cost] rfl rfl rfl rfl rfl rfl rfl rfl rfl .head rfl rfl ?_
   refine WP.sx tysOk rfl ⟨⟨⟩, ⟨⟩⟩ ?_
   refine WP.lx tysOk rfl ⟨⟩ (CellAt.blk .head rfl) ?_
   refine WP.sx tysOk rfl ⟨⟨⟩, ⟨⟩⟩ ?_
   refine WP.lx tysOk rfl ⟨⟩ (CellAt.blk .head rfl) ?_
   refine WP.sx tysOk rfl ⟨⟨⟩, ⟨⟩⟩ ?_
   refine WP.cond_d rfl rfl (fun hh5 => ?_) (fun hh5 => ?_)
   ·rw [if_pos hh5] at h
    refine WP.bld (cs := [iv 0, iv 0, iv 0, iv 0, iv 0, iv 0, iv 0, iv 0]) tysOk rfl ⟨⟩ rfl rfl rfl rfl rfl rfl rfl ?_
    refine WP.bld (cs := [iv 0, iv 0, iv 0, iv 0, iv 0, iv 0, iv 0, iv 0, iv 0, iv 0, iv 0, iv 0]) tysOk rfl ⟨⟩ rfl rfl rfl rfl rfl rfl rfl ?_
    refine WP.sto' tysOk [iv 0, iv 0, iv 0, iv 0, iv 0, iv 0, iv 0, iv 0] rfl rfl rfl rfl rfl rfl rfl rfl rfl (.tail (.tail (.tail (.tail .head)))) rfl rfl ?_
    refine WP.sto' tysOk [iv 0, iv 0, iv 0, iv 0, iv 0, iv 0, iv 0, iv 0, iv 0, iv 0, iv 0, iv 0] rfl rfl rfl rfl rfl rfl rfl rfl rfl (.tail (.tail (.tail (.tail .head)))) rfl rfl ?_
    refine WP.sx tysOk rfl ⟨⟨⟩, ⟨⟩⟩ ?_
    cases h
    refine WP.retR tysOk rfl rfl ⟨_, _, _, _, rfl, ⟨_, rfl, .inr ⟨rfl, _, rfl, rfl, (SegAt.blk' (z := 8) (.tail .head) rfl).1⟩⟩, ⟨_, _, _, _, rfl, ⟨_, rfl, .inr ⟨rfl, _, rfl, rfl, (SegAt.blk' (z := 12) .head rfl).1⟩⟩, ⟨_, _, rfl, rfl, rfl⟩, rfl⟩, rfl⟩ (fun w1 hw1 => ⟨rfl, Ret.below_ hw1 (.cons (.tail (.tail (.tail (.tail (.tail (.tail (.tail .head))))))) .nil)⟩)
   rw [if_neg hh5] at h
   refine WP.join (α := Unit) (fun x => True) (fun x => [(8, .pointer (some ⟨g3, 0, none⟩)), (9, .pointer (some ⟨g4, 0, none⟩)), (10, .bool (true))]) (fun x => [.blk g4 66 [iv ((gt x1.arcs (gt r1 1)).src), iv ((gt x1.arcs (gt r1 1)).dst), iv ((gt x1.arcs (gt r1 1)).low), iv ((gt x1.arcs (gt r1 1)).cap), iv ((gt x1.arcs (gt r1 1)).cost), iv ((gt x1.arcs (gt r1 0)).src), iv ((gt x1.arcs (gt r1 0)).dst), iv ((gt x1.arcs (gt r1 0)).low), iv ((gt x1.arcs (gt r1 0)).cap), iv ((gt x1.arcs (gt r1 0)).cost), iv x2, iv (gt x1.supply x2)], .blk g3 39 [iv x2, iv (gt r1 1), iv (gt r1 0), iv r5.src, iv r5.dst, iv r5.low, iv r5.cap, iv r5.cost], .blk g6 34 [iv r5.src, iv r5.dst, iv r5.low, iv r5.cap, iv r5.cost], .blk g5 66 [iv ((gt x1.arcs (gt r1 1)).src), iv ((gt x1.arcs (gt r1 1)).dst), iv ((gt x1.arcs (gt r1 1)).low), iv ((gt x1.arcs (gt r1 1)).cap), iv ((gt x1.arcs (gt r1 1)).cost), iv ((gt x1.arcs (gt r1 0)).src), iv ((gt x1.arcs (gt r1 0)).dst), iv ((gt x1.arcs (gt r1 0)).low), iv ((gt x1.arcs (gt r1 0)).cap), iv ((gt x1.arcs (gt r1 0)).cost), iv x2, iv (gt x1.supply x2)], Ow (fI .i64) 3 A3 n1 c3 r1, .blk g2 25 [.slice A1 x1.supply.length c1, .slice A2 x1.arcs.length c2], .blk g1 72 [iv 9, .func (.func 46) #[] #[], .func (.func 47) #[] #[], .func (.func 48) #[] #[]], .fz (PH.of w)]) rfl ?_ ?_
   ·refine WP.drawA rfl (by kernel_rfl) ?_
    refine WP.anyP 0 tysOk putInv_body rfl rfl rfl (by kernel_rfl) (by kernel_rfl) rfl rfl rfl rfl rfl True.intro ?_
    refine WP.anyP 1 tysOk putInv_body rfl rfl rfl (by kernel_rfl) (by kernel_rfl) rfl rfl rfl rfl rfl True.intro ?_
    refine WP.anyP 2 tysOk putInv_body rfl rfl rfl (by kernel_rfl) (by kernel_rfl) rfl rfl rfl rfl rfl True.intro ?_
    refine WP.any2 3 5 rfl (by kernel_rfl) rfl rfl ?_ ?_
    ·refine WP.mx_ tysOk rfl ⟨⟩ (SegAt.blk' .head rfl) ?_
     refine WP.any2 4 5 rfl (by kernel_rfl) rfl rfl ?_ ?_
     ·refine WP.bld (cs := [iv x2, iv (gt r1 1), iv (gt r1 0), iv r5.src, iv r5.dst, iv r5.low, iv r5.cap, iv r5.cost]) tysOk rfl ⟨⟩ rfl rfl rfl rfl rfl rfl rfl ?_
      refine WP.any2 5 6 rfl (by kernel_rfl) rfl rfl ?_ ?_
      ·refine WP.mx_ tysOk rfl ⟨⟩ (SegAt.blk' (.tail .head) rfl) ?_
       refine WP.any1 6 rfl (by kernel_rfl) rfl ?_
       refine WP.sto' tysOk [iv x2, iv (gt r1 1), iv (gt r1 0), iv r5.src, iv r5.dst, iv r5.low, iv r5.cap, iv r5.cost] rfl rfl rfl rfl rfl rfl rfl rfl rfl (.tail (.tail (.tail (.tail .head)))) rfl rfl ?_
       refine WP.any1 7 rfl (by kernel_rfl) rfl ?_
       refine WP.sto' tysOk [iv ((gt x1.arcs (gt r1 1)).src), iv ((gt x1.arcs (gt r1 1)).dst), iv ((gt x1.arcs (gt r1 1)).low), iv ((gt x1.arcs (gt r1 1)).cap), iv ((gt x1.arcs (gt r1 1)).cost), iv ((gt x1.arcs (gt r1 0)).src), iv ((gt x1.arcs (gt r1 0)).dst), iv ((gt x1.arcs (gt r1 0)).low), iv ((gt x1.arcs (gt r1 0)).cap), iv ((gt x1.arcs (gt r1 0)).cost), iv x2, iv (gt x1.supply x2)] rfl rfl rfl rfl rfl rfl rfl rfl rfl (.tail (.tail (.tail (.tail .head)))) rfl rfl ?_
       refine WP.anyP 8 tysOk putInv_body rfl rfl rfl (by kernel_rfl) (by kernel_rfl) rfl rfl rfl rfl rfl True.intro ?_
       refine WP.any0 rfl (by kernel_rfl) ?_
       refine WP.stop rfl () True.intro ?_ ?_
       ·repeat first | exact ⟨⟩ | refine ⟨rfl, ?_⟩
       exact (.cons .head (.cons .head (.cons .head (.cons .head (.cons .head (.cons .head (.cons .head (.cons .head .nil))))))))
      refine WP.sto' tysOk [iv x2, iv (gt r1 1), iv (gt r1 0), iv r5.src, iv r5.dst, iv r5.low, iv r5.cap, iv r5.cost] rfl rfl rfl rfl rfl rfl rfl rfl rfl (.tail (.tail (.tail (.tail .head)))) rfl rfl ?_
      refine WP.any1 5 rfl (by kernel_rfl) rfl ?_
      refine WP.mx_ tysOk rfl ⟨⟩ (SegAt.blk' (.tail (.tail .head)) rfl) ?_
      refine WP.any1 7 rfl (by kernel_rfl) rfl ?_
      refine WP.sto' tysOk [iv ((gt x1.arcs (gt r1 1)).src), iv ((gt x1.arcs (gt r1 1)).dst), iv ((gt x1.arcs (gt r1 1)).low), iv ((gt x1.arcs (gt r1 1)).cap), iv ((gt x1.arcs (gt r1 1)).cost), iv ((gt x1.arcs (gt r1 0)).src), iv ((gt x1.arcs (gt r1 0)).dst), iv ((gt x1.arcs (gt r1 0)).low), iv ((gt x1.arcs (gt r1 0)).cap), iv ((gt x1.arcs (gt r1 0)).cost), iv x2, iv (gt x1.supply x2)] rfl rfl rfl rfl rfl rfl rfl rfl rfl (.tail (.tail (.tail (.tail .head)))) rfl rfl ?_
      refine WP.anyP 8 tysOk putInv_body rfl rfl rfl (by kernel_rfl) (by kernel_rfl) rfl rfl rfl rfl rfl True.intro ?_
      refine WP.any0 rfl (by kernel_rfl) ?_
      refine WP.stop rfl () True.intro ?_ ?_
      ·repeat first | exact ⟨⟩ | refine ⟨rfl, ?_⟩
      exact (.cons .head (.cons .head (.cons .head (.cons .head (.cons .head (.cons .head (.cons .head (.cons .head .nil))))))))
     refine WP.mx_ tysOk rfl ⟨⟩ (SegAt.blk' (.tail .head) rfl) ?_
     refine WP.any1 4 rfl (by kernel_rfl) rfl ?_
     refine WP.bld (cs := [iv x2, iv (gt r1 1), iv (gt r1 0), iv r5.src, iv r5.dst, iv r5.low, iv r5.cap, iv r5.cost]) tysOk rfl ⟨⟩ rfl rfl rfl rfl rfl rfl rfl ?_
     refine WP.any1 6 rfl (by kernel_rfl) rfl ?_
     refine WP.sto' tysOk [iv x2, iv (gt r1 1), iv (gt r1 0), iv r5.src, iv r5.dst, iv r5.low, iv r5.cap, iv r5.cost] rfl rfl rfl rfl rfl rfl rfl rfl rfl (.tail (.tail (.tail (.tail .head)))) rfl rfl ?_
     refine WP.any1 7 rfl (by kernel_rfl) rfl ?_
     refine WP.sto' tysOk [iv ((gt x1.arcs (gt r1 1)).src), iv ((gt x1.arcs (gt r1 1)).dst), iv ((gt x1.arcs (gt r1 1)).low), iv ((gt x1.arcs (gt r1 1)).cap), iv ((gt x1.arcs (gt r1 1)).cost), iv ((gt x1.arcs (gt r1 0)).src), iv ((gt x1.arcs (gt r1 0)).dst), iv ((gt x1.arcs (gt r1 0)).low), iv ((gt x1.arcs (gt r1 0)).cap), iv ((gt x1.arcs (gt r1 0)).cost), iv x2, iv (gt x1.supply x2)] rfl rfl rfl rfl rfl rfl rfl rfl rfl (.tail (.tail (.tail (.tail .head)))) rfl rfl ?_
     refine WP.anyP 8 tysOk putInv_body rfl rfl rfl (by kernel_rfl) (by kernel_rfl) rfl rfl rfl rfl rfl True.intro ?_
     refine WP.any0 rfl (by kernel_rfl) ?_
     refine WP.stop rfl () True.intro ?_ ?_
     ·repeat first | exact ⟨⟩ | refine ⟨rfl, ?_⟩
     exact (.cons .head (.cons .head (.cons .head (.cons .head (.cons .head (.cons .head (.cons .head (.cons .head .nil))))))))
    refine WP.mx_ tysOk rfl ⟨⟩ (SegAt.blk' (.tail .head) rfl) ?_
    refine WP.any1 3 rfl (by kernel_rfl) rfl ?_
    refine WP.mx_ tysOk rfl ⟨⟩ (SegAt.blk' .head rfl) ?_
    refine WP.any1 4 rfl (by kernel_rfl) rfl ?_
    refine WP.bld (cs := [iv x2, iv (gt r1 1), iv (gt r1 0), iv r5.src, iv r5.dst, iv r5.low, iv r5.cap, iv r5.cost]) tysOk rfl ⟨⟩ rfl rfl rfl rfl rfl rfl rfl ?_
    refine WP.any1 6 rfl (by kernel_rfl) rfl ?_
    refine WP.sto' tysOk [iv x2, iv (gt r1 1), iv (gt r1 0), iv r5.src, iv r5.dst, iv r5.low, iv r5.cap, iv r5.cost] rfl rfl rfl rfl rfl rfl rfl rfl rfl (.tail (.tail (.tail (.tail .head)))) rfl rfl ?_
    refine WP.any1 7 rfl (by kernel_rfl) rfl ?_
    refine WP.sto' tysOk [iv ((gt x1.arcs (gt r1 1)).src), iv ((gt x1.arcs (gt r1 1)).dst), iv ((gt x1.arcs (gt r1 1)).low), iv ((gt x1.arcs (gt r1 1)).cap), iv ((gt x1.arcs (gt r1 1)).cost), iv ((gt x1.arcs (gt r1 0)).src), iv ((gt x1.arcs (gt r1 0)).dst), iv ((gt x1.arcs (gt r1 0)).low), iv ((gt x1.arcs (gt r1 0)).cap), iv ((gt x1.arcs (gt r1 0)).cost), iv x2, iv (gt x1.supply x2)] rfl rfl rfl rfl rfl rfl rfl rfl rfl (.tail (.tail (.tail (.tail .head)))) rfl rfl ?_
    refine WP.anyP 8 tysOk putInv_body rfl rfl rfl (by kernel_rfl) (by kernel_rfl) rfl rfl rfl rfl rfl True.intro ?_
    refine WP.any0 rfl (by kernel_rfl) ?_
    refine WP.stop rfl () True.intro ?_ ?_
    ·repeat first | exact ⟨⟩ | refine ⟨rfl, ?_⟩
    exact (.cons .head (.cons .head (.cons .head (.cons .head (.cons .head (.cons .head (.cons .head (.cons .head .nil))))))))
   rintro _ _
   cases h
   refine WP.retR tysOk rfl rfl ⟨_, _, _, _, rfl, ⟨_, rfl, .inr ⟨rfl, _, rfl, rfl, (SegAt.blk' (z := 8) (.tail .head) rfl).1⟩⟩, ⟨_, _, _, _, rfl, ⟨_, rfl, .inr ⟨rfl, _, rfl, rfl, (SegAt.blk' (z := 12) .head rfl).1⟩⟩, ⟨_, _, rfl, rfl, rfl⟩, rfl⟩, rfl⟩ (fun w1 hw1 => ⟨rfl, Ret.below_ hw1 (.cons (.tail (.tail (.tail (.tail (.tail (.tail (.tail .head))))))) .nil)⟩)
  rw [if_pos hh3] at h
  obtain ⟨r6, hg6, h⟩ := bind_some h
  refine WP.drawL 15 [(13, [], fun _ => constSpec (.bool (r6)))] rfl (by kernel_rfl) (by kernel_rfl) (by kernel_rfl) ?_
  refine WP.sx tysOk rfl ⟨⟨⟨rfl, rfl⟩, rfl⟩, ⟨⟩⟩ ?_
  refine WP.lx tysOk rfl ⟨⟨rfl, rfl⟩, rfl⟩ (CellAt.blk (.tail (.tail (.tail (.tail .head)))) rfl) ?_
  refine WP.sx tysOk rfl ⟨⟨⟨rfl, rfl⟩, rfl⟩, ⟨⟩⟩ ?_
  refine WP.lx tysOk rfl ⟨⟨rfl, rfl⟩, rfl⟩ (CellAt.blk (.tail (.tail (.tail .head))) rfl) ?_
  refine WP.sx tysOk rfl ⟨⟨⟨rfl, rfl⟩, rfl⟩, ⟨⟩⟩ ?_
  refine WP.ixA tysOk rfl ⟨⟨rfl, rfl⟩, rfl⟩ rfl rfl rfl rfl rfl rfl rfl rfl hj3 (hs2.ex hj3) ?_
  intro b10 b10v hA10
  refine WP.mx_ tysOk rfl ⟨⟨rfl, rfl⟩, rfl⟩ (hs2.seg hA10 (Held.mem (List.Mem.tail _ (List.Mem.tail _ (List.Mem.tail _ (List.Mem.tail _ (List.Mem.tail _ (List.Mem.head _))))))) hj3) ?_
  refine WP.sx tysOk rfl ⟨⟨⟨rfl, rfl⟩, rfl⟩, ⟨⟩⟩ ?_
  refine WP.lx tysOk rfl ⟨⟨rfl, rfl⟩, rfl⟩ (CellAt.blk (.tail (.tail (.tail .head))) rfl) ?_
  refine WP.sx tysOk rfl ⟨⟨⟨rfl, rfl⟩, rfl⟩, ⟨⟩⟩ ?_
  refine WP.ixA tysOk rfl ⟨⟨rfl, rfl⟩, rfl⟩ rfl rfl rfl rfl rfl rfl rfl rfl hj4 (hs2.ex hj4) ?_
  intro b11 b11v hA11
  refine WP.mx_ tysOk rfl ⟨⟨rfl, rfl⟩, rfl⟩ (hs2.seg hA11 (Held.mem (List.Mem.tail _ (List.Mem.tail _ (List.Mem.tail _ (List.Mem.tail _ (List.Mem.tail _ (List.Mem.head _))))))) hj4) ?_
  refine WP.sx tysOk rfl ⟨⟨⟨rfl, rfl⟩, rfl⟩, ⟨⟩⟩ ?_
  refine WP.callV rfl rfl rfl rfl rfl rfl rfl (by kernel_rfl) (fun w1 hw1 => (two_fork_1_w hg6  :)) ⟨⟨rfl, rfl⟩, rfl⟩ ?_
  refine WP.sx tysOk rfl ⟨⟨⟨rfl, rfl⟩, rfl⟩, ⟨⟩⟩ ?_
  refine WP.lend rfl ⟨rfl, rfl⟩ ?_
  refine WP.cond_n rfl rfl (fun hh6 => ?_) (fun hh6 => ?_)
  ·rw [if_neg (bneg hh6)] at h
   refine WP.bld (cs := [iv 0, iv 0, iv 0, iv 0, iv 0, iv 0, iv 0, iv 0]) tysOk rfl ⟨⟩ rfl rfl rfl rfl rfl rfl rfl ?_
   refine WP.bld (cs := [iv 0, iv 0, iv 0, iv 0, iv 0, iv 0, iv 0, iv 0, iv 0, iv 0, iv 0, iv 0]) tysOk rfl ⟨⟩ rfl rfl rfl rfl rfl rfl rfl ?_
   refine WP.sto' tysOk [iv 0, iv 0, iv 0, iv 0, iv 0, iv 0, iv 0, iv 0] rfl rfl rfl rfl rfl rfl rfl rfl rfl (.tail (.tail .head)) rfl rfl ?_
   refine WP.sto' tysOk [iv 0, iv 0, iv 0, iv 0, iv 0, iv 0, iv 0, iv 0, iv 0, iv 0, iv 0, iv 0] rfl rfl rfl rfl rfl rfl rfl rfl rfl (.tail (.tail .head)) rfl rfl ?_
   refine WP.sx tysOk rfl ⟨⟨⟩, ⟨⟩⟩ ?_
   cases h
   refine WP.retR tysOk rfl rfl ⟨_, _, _, _, rfl, ⟨_, rfl, .inr ⟨rfl, _, rfl, rfl, (SegAt.blk' (z := 8) (.tail .head) rfl).1⟩⟩, ⟨_, _, _, _, rfl, ⟨_, rfl, .inr ⟨rfl, _, rfl, rfl, (SegAt.blk' (z := 12) .head rfl).1⟩⟩, ⟨_, _, rfl, rfl, rfl⟩, rfl⟩, rfl⟩ (fun w1 hw1 => ⟨rfl, Ret.below_ hw1 (.cons (.tail (.tail (.tail (.tail (.tail .head))))) .nil)⟩)
  rw [if_pos hh6] at h
  obtain ⟨hj6, h⟩ := ck_some h
  refine WP.drawL 20 [(19, [], fun _ => blkSpec 66 [iv 0, iv 0, iv 0, iv 0, iv 0, iv 0, iv 0, iv 0, iv 0, iv 0, iv 0, iv 0])] rfl (by kernel_rfl) (by kernel_rfl) (by kernel_rfl) ?_
  refine WP.sx tysOk rfl ⟨⟨⟨rfl, rfl⟩, rfl⟩, ⟨⟩⟩ ?_
  refine WP.lx tysOk rfl ⟨⟨rfl, rfl⟩, rfl⟩ (CellAt.blk (.tail (.tail (.tail .head))) rfl) ?_
  refine WP.sx tysOk rfl ⟨⟨⟨rfl, rfl⟩, rfl⟩, ⟨⟩⟩ ?_
  refine WP.ixA tysOk rfl ⟨⟨rfl, rfl⟩, rfl⟩ rfl rfl rfl rfl rfl rfl rfl rfl hj3 (hs2.ex hj3) ?_
  intro b12 b12v hA12
  refine WP.mx_ tysOk rfl ⟨⟨rfl, rfl⟩, rfl⟩ (hs2.seg hA12 (Held.mem (List.Mem.tail _ (List.Mem.tail _ (List.Mem.tail _ (List.Mem.tail _ (List.Mem.tail _ (List.Mem.head _))))))) hj3) ?_
  refine WP.bld (cs := [iv ((gt x1.arcs (gt r1 0)).src), iv ((gt x1.arcs (gt r1 0)).dst), iv ((gt x1.arcs (gt r1 0)).low), iv ((gt x1.arcs (gt r1 0)).cap), iv ((gt x1.arcs (gt r1 0)).cost)]) tysOk rfl ⟨⟨rfl, rfl⟩, rfl⟩ rfl rfl rfl rfl rfl rfl rfl ?_
  refine WP.sx tysOk rfl ⟨⟨⟨rfl, rfl⟩, rfl⟩, ⟨⟩⟩ ?_
  refine WP.lx tysOk rfl ⟨⟨rfl, rfl⟩, rfl⟩ (CellAt.blk (.tail (.tail (.tail .head))) rfl) ?_
  refine WP.sx tysOk rfl ⟨⟨⟨rfl, rfl⟩, rfl⟩, ⟨⟩⟩ ?_
  refine WP.ixA tysOk rfl ⟨⟨rfl, rfl⟩, rfl⟩ rfl rfl rfl rfl rfl rfl rfl rfl hj4 (hs2.ex hj4) ?_
  intro b13 b13v hA13
  refine WP.mx_ tysOk rfl ⟨⟨rfl, rfl⟩, rfl⟩ (hs2.seg hA13 (Held.mem (List.Mem.tail _ (List.Mem.tail _ (List.Mem.tail _ (List.Mem.tail _ (List.Mem.tail _ (List.Mem.head _))))))) hj4) ?_
  refine WP.bld (cs := [iv ((gt x1.arcs (gt r1 1)).src), iv ((gt x1.arcs (gt r1 1)).dst), iv ((gt x1.arcs (gt r1 1)).low), iv ((gt x1.arcs (gt r1 1)).cap), iv ((gt x1.arcs (gt r1 1)).cost)]) tysOk rfl ⟨⟨rfl, rfl⟩, rfl⟩ rfl rfl rfl rfl rfl rfl rfl ?_
  iterate 2 (refine WP.sx tysOk rfl ⟨⟨⟨rfl, rfl⟩, rfl⟩, ⟨⟩⟩ ?_)
  refine WP.lx tysOk rfl ⟨⟨rfl, rfl⟩, rfl⟩ (CellAt.blk (.tail (.tail (.tail .head))) rfl) ?_
  refine WP.sx tysOk rfl ⟨⟨⟨rfl, rfl⟩, rfl⟩, ⟨⟩⟩ ?_
  refine WP.ixA tysOk rfl ⟨⟨rfl, rfl⟩, rfl⟩ rfl rfl rfl rfl rfl rfl rfl rfl hj6 (hs1.ex hj6) ?_
  intro b14 b14v hA14
  refine WP.lx tysOk rfl ⟨⟨rfl, rfl⟩, rfl⟩ (hs1.at0 hA14 (Held.mem (List.Mem.tail _ (List.Mem.tail _ (List.Mem.tail _ (List.Mem.tail _ (List.Mem.tail _ (List.Mem.head _))))))) hj6 rfl) ?_
  refine WP.bld (cs := [iv ((gt x1.arcs (gt r1 0)).src), iv ((gt x1.arcs (gt r1 0)).dst), iv ((gt x1.arcs (gt r1 0)).low), iv ((gt x1.arcs (gt r1 0)).cap), iv ((gt x1.arcs (gt r1 0)).cost), iv ((gt x1.arcs (gt r1 1)).src), iv ((gt x1.arcs (gt r1 1)).dst), iv ((gt x1.arcs (gt r1 1)).low), iv ((gt x1.arcs (gt r1 1)).cap), iv ((gt x1.arcs (gt r1 1)).cost), iv x2, iv (gt x1.supply x2)]) tysOk rfl ⟨⟨rfl, rfl⟩, rfl⟩ rfl rfl rfl rfl rfl rfl rfl ?_
  refine WP.lal tysOk rfl ⟨rfl, rfl⟩ rfl rfl rfl rfl rfl rfl rfl ?_
  intro g7
  refine WP.lend rfl ⟨rfl, rfl⟩ ?_
  refine WP.sto' tysOk [iv ((gt x1.arcs (gt r1 0)).src), iv ((gt x1.arcs (gt r1 0)).dst), iv ((gt x1.arcs (gt r1 0)).low), iv ((gt x1.arcs (gt r1 0)).cap), iv ((gt x1.arcs (gt r1 0)).cost), iv ((gt x1.arcs (gt r1 1)).src), iv ((gt x1.arcs (gt r1 1)).dst), iv ((gt x1.arcs (gt r1 1)).low), iv ((gt x1.arcs (gt r1 1)).cap), iv ((gt x1.arcs (gt r1 1)).cost), iv x2, iv (gt x1.supply x2)] rfl rfl rfl rfl rfl rfl rfl rfl rfl .head rfl rfl ?_
  refine WP.sx tysOk rfl ⟨⟨⟩, ⟨⟩⟩ ?_
  refine WP.lx tysOk rfl ⟨⟩ (CellAt.blk (.tail (.tail (.tail (.tail (.tail .head))))) rfl) ?_
  refine WP.mx_ tysOk rfl ⟨⟩ (SegAt.blk' .head rfl) ?_
  obtain ⟨r7, hg7, h⟩ := bind_some h
  refine WP.callV rfl rfl rfl rfl rfl rfl rfl (by kernel_rfl) (fun w1 hw1 => (two_pair_split_w hg7  :)) ⟨⟩ ?_
  refine WP.al tysOk rfl rfl rfl rfl rfl rfl ?_
  intro g8
  refine WP.sto' tysOk [iv r7.src, iv r7.dst, iv r7.low, iv r7.cap, iv r7.cost] rfl rfl rfl rfl rfl rfl rfl rfl rfl .head rfl rfl ?_
  refine WP.sx tysOk rfl ⟨⟨⟩, ⟨⟩⟩ ?_
  refine WP.lx tysOk rfl ⟨⟩ (CellAt.blk .head rfl) ?_
  refine WP.sx tysOk rfl ⟨⟨⟩, ⟨⟩⟩ ?_
  refine WP.lx tysOk rfl ⟨⟩ (CellAt.blk .head rfl) ?_
  refine WP.sx tysOk rfl ⟨⟨⟩, ⟨⟩⟩ ?_
  refine WP.cond_d rfl rfl (fun hh7 => ?_) (fun hh7 => ?_)
  ·rw [if_pos hh7] at h
   refine WP.bld (cs := [iv 0, iv 0, iv 0, iv 0, iv 0, iv 0, iv 0, iv 0]) tysOk rfl ⟨⟩ rfl rfl rfl rfl rfl rfl rfl ?_
   refine WP.bld (cs := [iv 0, iv 0, iv 0, iv 0, iv 0, iv 0, iv 0, iv 0, iv 0, iv 0, iv 0, iv 0]) tysOk rfl ⟨⟩ rfl rfl rfl rfl rfl rfl rfl ?_
   refine WP.sto' tysOk [iv 0, iv 0, iv 0, iv 0, iv 0, iv 0, iv 0, iv 0] rfl rfl rfl rfl rfl rfl rfl rfl rfl (.tail (.tail (.tail (.tail .head)))) rfl rfl ?_
   refine WP.sto' tysOk [iv 0, iv 0, iv 0, iv 0, iv 0, iv 0, iv 0, iv 0, iv 0, iv 0, iv 0, iv 0] rfl rfl rfl rfl rfl rfl rfl rfl rfl (.tail (.tail (.tail (.tail .head)))) rfl rfl ?_
   refine WP.sx tysOk rfl ⟨⟨⟩, ⟨⟩⟩ ?_
   cases h
   refine WP.retR tysOk rfl rfl ⟨_, _, _, _, rfl, ⟨_, rfl, .inr ⟨rfl, _, rfl, rfl, (SegAt.blk' (z := 8) (.tail .head) rfl).1⟩⟩, ⟨_, _, _, _, rfl, ⟨_, rfl, .inr ⟨rfl, _, rfl, rfl, (SegAt.blk' (z := 12) .head rfl).1⟩⟩, ⟨_, _, rfl, rfl, rfl⟩, rfl⟩, rfl⟩ (fun w1 hw1 => ⟨rfl, Ret.below_ hw1 (.cons (.tail (.tail (.tail (.tail (.tail (.tail (.tail .head))))))) .nil)⟩)
  rw [if_neg hh7] at h
  refine WP.join (α := Unit) (fun x => True) (fun x => [(8, .pointer (some ⟨g3, 0, none⟩)), (9, .pointer (some ⟨g4, 0, none⟩)), (10, .bool (true))]) (fun x => [.blk g4 66 [iv ((gt x1.arcs (gt r1 0)).src), iv ((gt x1.arcs (gt r1 0)).dst), iv ((gt x1.arcs (gt r1 0)).low), iv ((gt x1.arcs (gt r1 0)).cap), iv ((gt x1.arcs (gt r1 0)).cost), iv ((gt x1.arcs (gt r1 1)).src), iv ((gt x1.arcs (gt r1 1)).dst), iv ((gt x1.arcs (gt r1 1)).low), iv ((gt x1.arcs (gt r1 1)).cap), iv ((gt x1.arcs (gt r1 1)).cost), iv x2, iv (gt x1.supply x2)], .blk g3 39 [iv x2, iv (gt r1 0), iv (gt r1 1), iv r7.src, iv r7.dst, iv r7.low, iv r7.cap, iv r7.cost], .blk g8 34 [iv r7.src, iv r7.dst, iv r7.low, iv r7.cap, iv r7.cost], .blk g7 66 [iv ((gt x1.arcs (gt r1 0)).src), iv ((gt x1.arcs (gt r1 0)).dst), iv ((gt x1.arcs (gt r1 0)).low), iv ((gt x1.arcs (gt r1 0)).cap), iv ((gt x1.arcs (gt r1 0)).cost), iv ((gt x1.arcs (gt r1 1)).src), iv ((gt x1.arcs (gt r1 1)).dst), iv ((gt x1.arcs (gt r1 1)).low), iv ((gt x1.arcs (gt r1 1)).cap), iv ((gt x1.arcs (gt r1 1)).cost), iv x2, iv (gt x1.supply x2)], Ow (fI .i64) 3 A3 n1 c3 r1, .blk g2 25 [.slice A1 x1.supply.length c1, .slice A2 x1.arcs.length c2], .blk g1 72 [iv 9, .func (.func 46) #[] #[], .func (.func 47) #[] #[], .func (.func 48) #[] #[]], .fz (PH.of w)]) rfl ?_ ?_
  ·refine WP.drawA rfl (by kernel_rfl) ?_
   refine WP.anyP 0 tysOk putInv_body rfl rfl rfl (by kernel_rfl) (by kernel_rfl) rfl rfl rfl rfl rfl True.intro ?_
   refine WP.anyP 1 tysOk putInv_body rfl rfl rfl (by kernel_rfl) (by kernel_rfl) rfl rfl rfl rfl rfl True.intro ?_
   refine WP.anyP 2 tysOk putInv_body rfl rfl rfl (by kernel_rfl) (by kernel_rfl) rfl rfl rfl rfl rfl True.intro ?_
   refine WP.any2 3 5 rfl (by kernel_rfl) rfl rfl ?_ ?_
   ·refine WP.mx_ tysOk rfl ⟨⟩ (SegAt.blk' .head rfl) ?_
    refine WP.any2 4 5 rfl (by kernel_rfl) rfl rfl ?_ ?_
    ·refine WP.bld (cs := [iv x2, iv (gt r1 0), iv (gt r1 1), iv r7.src, iv r7.dst, iv r7.low, iv r7.cap, iv r7.cost]) tysOk rfl ⟨⟩ rfl rfl rfl rfl rfl rfl rfl ?_
     refine WP.any2 5 6 rfl (by kernel_rfl) rfl rfl ?_ ?_
     ·refine WP.mx_ tysOk rfl ⟨⟩ (SegAt.blk' (.tail .head) rfl) ?_
      refine WP.any1 6 rfl (by kernel_rfl) rfl ?_
      refine WP.sto' tysOk [iv x2, iv (gt r1 0), iv (gt r1 1), iv r7.src, iv r7.dst, iv r7.low, iv r7.cap, iv r7.cost] rfl rfl rfl rfl rfl rfl rfl rfl rfl (.tail (.tail (.tail (.tail .head)))) rfl rfl ?_
      refine WP.any1 7 rfl (by kernel_rfl) rfl ?_
      refine WP.sto' tysOk [iv ((gt x1.arcs (gt r1 0)).src), iv ((gt x1.arcs (gt r1 0)).dst), iv ((gt x1.arcs (gt r1 0)).low), iv ((gt x1.arcs (gt r1 0)).cap), iv ((gt x1.arcs (gt r1 0)).cost), iv ((gt x1.arcs (gt r1 1)).src), iv ((gt x1.arcs (gt r1 1)).dst), iv ((gt x1.arcs (gt r1 1)).low), iv ((gt x1.arcs (gt r1 1)).cap), iv ((gt x1.arcs (gt r1 1)).cost), iv x2, iv (gt x1.supply x2)] rfl rfl rfl rfl rfl rfl rfl rfl rfl (.tail (.tail (.tail (.tail .head)))) rfl rfl ?_
      refine WP.anyP 8 tysOk putInv_body rfl rfl rfl (by kernel_rfl) (by kernel_rfl) rfl rfl rfl rfl rfl True.intro ?_
      refine WP.any0 rfl (by kernel_rfl) ?_
      refine WP.stop rfl () True.intro ?_ ?_
      ·repeat first | exact ⟨⟩ | refine ⟨rfl, ?_⟩
      exact (.cons .head (.cons .head (.cons .head (.cons .head (.cons .head (.cons .head (.cons .head (.cons .head .nil))))))))
     refine WP.sto' tysOk [iv x2, iv (gt r1 0), iv (gt r1 1), iv r7.src, iv r7.dst, iv r7.low, iv r7.cap, iv r7.cost] rfl rfl rfl rfl rfl rfl rfl rfl rfl (.tail (.tail (.tail (.tail .head)))) rfl rfl ?_
     refine WP.any1 5 rfl (by kernel_rfl) rfl ?_
     refine WP.mx_ tysOk rfl ⟨⟩ (SegAt.blk' (.tail (.tail .head)) rfl) ?_
     refine WP.any1 7 rfl (by kernel_rfl) rfl ?_
     refine WP.sto' tysOk [iv ((gt x1.arcs (gt r1 0)).src), iv ((gt x1.arcs (gt r1 0)).dst), iv ((gt x1.arcs (gt r1 0)).low), iv ((gt x1.arcs (gt r1 0)).cap), iv ((gt x1.arcs (gt r1 0)).cost), iv ((gt x1.arcs (gt r1 1)).src), iv ((gt x1.arcs (gt r1 1)).dst), iv ((gt x1.arcs (gt r1 1)).low), iv ((gt x1.arcs (gt r1 1)).cap), iv ((gt x1.arcs (gt r1 1)).cost), iv x2, iv (gt x1.supply x2)] rfl rfl rfl rfl rfl rfl rfl rfl rfl (.tail (.tail (.tail (.tail .head)))) rfl rfl ?_
     refine WP.anyP 8 tysOk putInv_body rfl rfl rfl (by kernel_rfl) (by kernel_rfl) rfl rfl rfl rfl rfl True.intro ?_
     refine WP.any0 rfl (by kernel_rfl) ?_
     refine WP.stop rfl () True.intro ?_ ?_
     ·repeat first | exact ⟨⟩ | refine ⟨rfl, ?_⟩
     exact (.cons .head (.cons .head (.cons .head (.cons .head (.cons .head (.cons .head (.cons .head (.cons .head .nil))))))))
    refine WP.mx_ tysOk rfl ⟨⟩ (SegAt.blk' (.tail .head) rfl) ?_
    refine WP.any1 4 rfl (by kernel_rfl) rfl ?_
    refine WP.bld (cs := [iv x2, iv (gt r1 0), iv (gt r1 1), iv r7.src, iv r7.dst, iv r7.low, iv r7.cap, iv r7.cost]) tysOk rfl ⟨⟩ rfl rfl rfl rfl rfl rfl rfl ?_
    refine WP.any1 6 rfl (by kernel_rfl) rfl ?_
    refine WP.sto' tysOk [iv x2, iv (gt r1 0), iv (gt r1 1), iv r7.src, iv r7.dst, iv r7.low, iv r7.cap, iv r7.cost] rfl rfl rfl rfl rfl rfl rfl rfl rfl (.tail (.tail (.tail (.tail .head)))) rfl rfl ?_
    refine WP.any1 7 rfl (by kernel_rfl) rfl ?_
    refine WP.sto' tysOk [iv ((gt x1.arcs (gt r1 0)).src), iv ((gt x1.arcs (gt r1 0)).dst), iv ((gt x1.arcs (gt r1 0)).low), iv ((gt x1.arcs (gt r1 0)).cap), iv ((gt x1.arcs (gt r1 0)).cost), iv ((gt x1.arcs (gt r1 1)).src), iv ((gt x1.arcs (gt r1 1)).dst), iv ((gt x1.arcs (gt r1 1)).low), iv ((gt x1.arcs (gt r1 1)).cap), iv ((gt x1.arcs (gt r1 1)).cost), iv x2, iv (gt x1.supply x2)] rfl rfl rfl rfl rfl rfl rfl rfl rfl (.tail (.tail (.tail (.tail .head)))) rfl rfl ?_
    refine WP.anyP 8 tysOk putInv_body rfl rfl rfl (by kernel_rfl) (by kernel_rfl) rfl rfl rfl rfl rfl True.intro ?_
    refine WP.any0 rfl (by kernel_rfl) ?_
    refine WP.stop rfl () True.intro ?_ ?_
    ·repeat first | exact ⟨⟩ | refine ⟨rfl, ?_⟩
    exact (.cons .head (.cons .head (.cons .head (.cons .head (.cons .head (.cons .head (.cons .head (.cons .head .nil))))))))
   refine WP.mx_ tysOk rfl ⟨⟩ (SegAt.blk' (.tail .head) rfl) ?_
   refine WP.any1 3 rfl (by kernel_rfl) rfl ?_
   refine WP.mx_ tysOk rfl ⟨⟩ (SegAt.blk' .head rfl) ?_
   refine WP.any1 4 rfl (by kernel_rfl) rfl ?_
   refine WP.bld (cs := [iv x2, iv (gt r1 0), iv (gt r1 1), iv r7.src, iv r7.dst, iv r7.low, iv r7.cap, iv r7.cost]) tysOk rfl ⟨⟩ rfl rfl rfl rfl rfl rfl rfl ?_
   refine WP.any1 6 rfl (by kernel_rfl) rfl ?_
   refine WP.sto' tysOk [iv x2, iv (gt r1 0), iv (gt r1 1), iv r7.src, iv r7.dst, iv r7.low, iv r7.cap, iv r7.cost] rfl rfl rfl rfl rfl rfl rfl rfl rfl (.tail (.tail (.tail (.tail .head)))) rfl rfl ?_
   refine WP.any1 7 rfl (by kernel_rfl) rfl ?_
   refine WP.sto' tysOk [iv ((gt x1.arcs (gt r1 0)).src), iv ((gt x1.arcs (gt r1 0)).dst), iv ((gt x1.arcs (gt r1 0)).low), iv ((gt x1.arcs (gt r1 0)).cap), iv ((gt x1.arcs (gt r1 0)).cost), iv ((gt x1.arcs (gt r1 1)).src), iv ((gt x1.arcs (gt r1 1)).dst), iv ((gt x1.arcs (gt r1 1)).low), iv ((gt x1.arcs (gt r1 1)).cap), iv ((gt x1.arcs (gt r1 1)).cost), iv x2, iv (gt x1.supply x2)] rfl rfl rfl rfl rfl rfl rfl rfl rfl (.tail (.tail (.tail (.tail .head)))) rfl rfl ?_
   refine WP.anyP 8 tysOk putInv_body rfl rfl rfl (by kernel_rfl) (by kernel_rfl) rfl rfl rfl rfl rfl True.intro ?_
   refine WP.any0 rfl (by kernel_rfl) ?_
   refine WP.stop rfl () True.intro ?_ ?_
   ·repeat first | exact ⟨⟩ | refine ⟨rfl, ?_⟩
   exact (.cons .head (.cons .head (.cons .head (.cons .head (.cons .head (.cons .head (.cons .head (.cons .head .nil))))))))
  rintro _ _
  cases h
  refine WP.retR tysOk rfl rfl ⟨_, _, _, _, rfl, ⟨_, rfl, .inr ⟨rfl, _, rfl, rfl, (SegAt.blk' (z := 8) (.tail .head) rfl).1⟩⟩, ⟨_, _, _, _, rfl, ⟨_, rfl, .inr ⟨rfl, _, rfl, rfl, (SegAt.blk' (z := 12) .head rfl).1⟩⟩, ⟨_, _, rfl, rfl, rfl⟩, rfl⟩, rfl⟩ (fun w1 hw1 => ⟨rfl, Ret.below_ hw1 (.cons (.tail (.tail (.tail (.tail (.tail (.tail (.tail .head))))))) .nil)⟩)

set_option maxRecDepth 20000 in
set_option maxHeartbeats 8000000 in
theorem two_Split_w {w : World} {v0 : Value} {i1 : Inst} {n1 : Int} {r : Spot × Bool} (h : two_Split i1 n1 = some r) (p1 : InsZ (PH.of w) v0 i1) :
    Calls Tryz.prog 14 #[v0, iv n1] w fun e w' => e = .returned (.tuple #[.agg #[iv r.1.node, iv r.1.a, iv r.1.b, iv r.1.new.src, iv r.1.new.dst, iv r.1.new.low, iv r.1.new.cap, iv r.1.new.cost], .bool (r.2)]) ∧ Below w.heap.size w w' := by
  obtain ⟨A1, c1, A2, c2, rfl, hs1, hs2⟩ := p1
  unfold two_Split at h
  refine enter_ Tryz.func14 rfl Tryz.ntmps14 rfl ?_
  refine WP.box rfl rfl rfl rfl rfl rfl ?_
  intro g1
  refine WP.al tysOk rfl rfl rfl rfl rfl rfl ?_
  intro g2
  refine WP.sx tysOk rfl ⟨⟨⟩, ⟨⟩⟩ ?_
  obtain ⟨r1, hg1, h⟩ := bind_some h
  obtain ⟨r2, hg2, h⟩ := bind_some h
  refine WP.edges [(12, 8), (12, 9), (13, 9)] putInv_body rfl rfl (by kernel_rfl) (by kernel_rfl) ?_
  refine WP.heads [0, 1, 2, 3, 4, 5, 6, 7, 8, 9, 10, 11] [12, 13, 14] [(0, [], fun _ => constSpec (.agg #[iv 9, .func (.func 46) #[] #[], .func (.func 47) #[] #[], .func (.func 48) #[] #[]])), (2, [], fun _ => adj_New_S r1), (5, [2], fun _ => constSpec (.tuple #[.agg #[iv r2.1.node, iv r2.1.a, iv r2.1.b, iv r2.1.new.src, iv r2.1.new.dst, iv r2.1.new.low, iv r2.1.new.cap, iv r2.1.new.cost], .agg #[iv r2.2.1.x.src, iv r2.2.1.x.dst, iv r2.2.1.x.low, iv r2.2.1.x.cap, iv r2.2.1.x.cost, iv r2.2.1.y.src, iv r2.2.1.y.dst, iv r2.2.1.y.low, iv r2.2.1.y.cap, iv r2.2.1.y.cost, iv r2.2.1.n, iv r2.2.1.s], .bool (r2.2.2)])), (10, [], fun _ => blkSpec 39 [iv 0, iv 0, iv 0, iv 0, iv 0, iv 0, iv 0, iv 0]), (11, [], fun _ => blkSpec 66 [iv 0, iv 0, iv 0, iv 0, iv 0, iv 0, iv 0, iv 0, iv 0, iv 0, iv 0, iv 0])] rfl (by kernel_rfl) (by decide) rfl (by kernel_rfl) (by kernel_rfl) ?_
  refine WP.callV rfl rfl rfl rfl rfl rfl rfl (by kernel_rfl) (fun w1 hw1 => two_fork_w) ⟨⟨rfl, rfl⟩, rfl⟩ ?_
  refine WP.mx_ tysOk rfl ⟨⟨rfl, rfl⟩, rfl⟩ (SegAt.blk' (.tail .head) rfl) ?_
  refine WP.lcall rfl ⟨rfl, rfl⟩ rfl rfl rfl rfl rfl rfl rfl (by kernel_rfl) (fun w1 hw1 => (adj_New_w hg1 (InsZ.mk_ ((hs1.le' ((Held.mem (List.Mem.tail _ (List.Mem.tail _ (List.Mem.head _)))) _ _ hw1)).of) ((hs2.le' ((Held.mem (List.Mem.tail _ (List.Mem.tail _ (List.Mem.head _)))) _ _ hw1)).of)) :)) ?_
  rintro vg1 _ ⟨Zn1, hgr1, rfl⟩
  obtain ⟨gg1, rfl⟩ := hgr1.ptr'
  refine WP.mx_ tysOk rfl ⟨⟨rfl, rfl⟩, rfl⟩ (SegAt.blk' (.tail .head) rfl) ?_
  refine WP.sx tysOk rfl ⟨⟨⟨rfl, rfl⟩, rfl⟩, ⟨⟩⟩ ?_
  refine WP.lcall rfl ⟨rfl, rfl⟩ rfl rfl rfl rfl rfl rfl rfl (by kernel_rfl) (fun w1 hw1 => ((two_shape_at_2_w hg2 (hgr1.le ((Held.mem (List.Mem.head _)) _ _ hw1)) (InsZ.mk_ ((hs1.le' ((Held.mem (List.Mem.tail _ (List.Mem.tail _ (List.Mem.tail _ (List.Mem.head _))))) _ _ hw1)).of) ((hs2.le' ((Held.mem (List.Mem.tail _ (List.Mem.tail _ (List.Mem.tail _ (List.Mem.head _))))) _ _ hw1)).of)) :)).mono fun e w' h => ⟨_, [], h.1, ⟨rfl, rfl⟩, Ret.nil h.2⟩) ?_
  rintro _ _ ⟨rfl, rfl⟩
  iterate 4 (refine WP.sx tysOk rfl ⟨⟨⟨rfl, rfl⟩, rfl⟩, ⟨⟩⟩ ?_)
  refine WP.lal tysOk rfl ⟨rfl, rfl⟩ rfl rfl rfl rfl rfl rfl rfl ?_
  intro g3
  refine WP.lal tysOk rfl ⟨rfl, rfl⟩ rfl rfl rfl rfl rfl rfl rfl ?_
  intro g4
  refine WP.lend rfl ⟨rfl, rfl⟩ ?_
  refine WP.joinA (α := Unit) (fun x => True) (fun x => [(4, .pointer (some ⟨g2, 0, none⟩)), (6, .pointer (some ⟨g3, 0, none⟩)), (8, .bool (r2.2.2))]) (fun x => [.blk g4 66 [iv r2.2.1.x.src, iv r2.2.1.x.dst, iv r2.2.1.x.low, iv r2.2.1.x.cap, iv r2.2.1.x.cost, iv r2.2.1.y.src, iv r2.2.1.y.dst, iv r2.2.1.y.low, iv r2.2.1.y.cap, iv r2.2.1.y.cost, iv r2.2.1.n, iv r2.2.1.s], .blk g3 39 [iv r2.1.node, iv r2.1.a, iv r2.1.b, iv r2.1.new.src, iv r2.1.new.dst, iv r2.1.new.low, iv r2.1.new.cap, iv r2.1.new.cost], .fz Zn1, .blk g2 39 [iv 0, iv 0, iv 0, iv 0, iv 0, iv 0, iv 0, iv 0], .blk g1 25 [.slice A1 i1.supply.length c1, .slice A2 i1.arcs.length c2], .fz (PH.of w)]) rfl ?_ ?_
  ·refine WP.any1 12 rfl (by kernel_rfl) rfl ?_
   refine WP.sto' tysOk [iv r2.1.node, iv r2.1.a, iv r2.1.b, iv r2.1.new.src, iv r2.1.new.dst, iv r2.1.new.low, iv r2.1.new.cap, iv r2.1.new.cost] rfl rfl rfl rfl rfl rfl rfl rfl rfl (.tail .head) rfl rfl ?_
   refine WP.any1 13 rfl (by kernel_rfl) rfl ?_
   refine WP.sto' tysOk [iv r2.2.1.x.src, iv r2.2.1.x.dst, iv r2.2.1.x.low, iv r2.2.1.x.cap, iv r2.2.1.x.cost, iv r2.2.1.y.src, iv r2.2.1.y.dst, iv r2.2.1.y.low, iv r2.2.1.y.cap, iv r2.2.1.y.cost, iv r2.2.1.n, iv r2.2.1.s] rfl rfl rfl rfl rfl rfl rfl rfl rfl (.tail .head) rfl rfl ?_
   refine WP.anyP 14 tysOk putInv_body rfl rfl rfl (by kernel_rfl) (by kernel_rfl) rfl rfl rfl rfl rfl True.intro ?_
   refine WP.any0 rfl (by kernel_rfl) ?_
   refine WP.stop rfl () True.intro ?_ ?_
   ·repeat first | exact ⟨⟩ | refine ⟨rfl, ?_⟩
   exact (.cons .head (.cons .head (.cons .head (.cons .head (.cons .head (.cons .head .nil))))))
  rintro _ _
  refine WP.mx_ tysOk rfl ⟨⟩ (SegAt.blk' (.tail .head) rfl) ?_
  refine WP.sx tysOk rfl ⟨⟨⟩, ⟨⟩⟩ ?_
  refine WP.sto' tysOk [iv r2.1.node, iv r2.1.a, iv r2.1.b, iv r2.1.new.src, iv r2.1.new.dst, iv r2.1.new.low, iv r2.1.new.cap, iv r2.1.new.cost] rfl rfl rfl rfl rfl rfl rfl rfl rfl (.tail (.tail (.tail .head))) rfl rfl ?_
  refine WP.sx tysOk rfl ⟨⟨⟩, ⟨⟩⟩ ?_
  cases h
  refine WP.retR tysOk rfl rfl ⟨_, _, _, _, rfl, ⟨_, rfl, .inr ⟨rfl, _, rfl, rfl, (SegAt.blk' (z := 8) .head rfl).1⟩⟩, ⟨_, _, rfl, rfl, rfl⟩, rfl⟩ (fun w1 hw1 => ⟨rfl, Ret.below_ hw1 (.cons (.tail (.tail (.tail (.tail (.tail .head))))) .nil)⟩)

set_option maxRecDepth 20000 in
set_option maxHeartbeats 8000000 in
theorem inst_wrong_1_1_w {w : World} {gg1 : Nat} {n1 : Int} {x1 : Int} {r : Bool} (h : inst_wrong_1_1 n1 x1 = some r) (hb1 : Zc (PH.of w) gg1 0 = some (iv x1)) :
    Calls Tryz.prog 91 #[iv n1, .pointer (some ⟨gg1, 0, none⟩)] w fun e w' => e = .returned (.bool (r)) ∧ Below w.heap.size w w' := by
  unfold inst_wrong_1_1 at h
  refine enter_ Tryz.func91 rfl Tryz.ntmps91 rfl ?_
  iterate 4 (refine WP.sx tysOk rfl ⟨⟨⟩, ⟨⟩⟩ ?_)
  by_cases hh1 : 0 ≤ n1
  ·rw [if_pos hh1] at h
   refine WP.yes rfl rfl (decide_eq_true hh1) ?_
   refine WP.sx tysOk rfl ⟨⟨⟩, ⟨⟩⟩ ?_
   refine WP.yes rfl rfl rfl ?_
   refine WP.lx tysOk rfl ⟨⟩ (Held.cell (Held.mem (List.Mem.head _)) hb1) ?_
   refine WP.yes rfl rfl rfl ?_
   iterate 3 (refine WP.sx tysOk rfl ⟨⟨⟩, ⟨⟩⟩ ?_)
   cases h
   refine WP.retR tysOk rfl rfl ⟨_, _, rfl, rfl, rfl⟩ (fun w1 hw1 => ⟨rfl, Ret.below_ hw1 (.cons .head .nil)⟩)
  rw [if_neg hh1] at h
  refine WP.no rfl rfl (decide_eq_false hh1) rfl rfl ?_
  iterate 2 (refine WP.no rfl rfl rfl rfl rfl ?_)
  iterate 2 (refine WP.sx tysOk rfl ⟨⟨⟩, ⟨⟩⟩ ?_)
  cases h
  refine WP.retR tysOk rfl rfl ⟨_, _, rfl, rfl, rfl⟩ (fun w1 hw1 => ⟨rfl, Ret.below_ hw1 (.cons .head .nil)⟩)

set_option maxRecDepth 20000 in
set_option maxHeartbeats 8000000 in
theorem inst_within_w {w : World} {n1 : Int} {r : Bool} (h : inst_within n1 = some r) :
    Calls Tryz.prog 72 #[iv n1] w fun e w' => e = .returned (.bool (r)) ∧ Below w.heap.size w w' := by
  unfold inst_within at h
  refine enter_ Tryz.func72 rfl Tryz.ntmps72 rfl ?_
  iterate 4 (refine WP.sx tysOk rfl ⟨⟨⟩, ⟨⟩⟩ ?_)
  by_cases hh1 : (-4398046511104) ≤ n1
  ·rw [if_pos hh1] at h
   refine WP.yes rfl rfl (decide_eq_true hh1) ?_
   refine WP.sx tysOk rfl ⟨⟨⟩, ⟨⟩⟩ ?_
   refine WP.yes rfl rfl rfl ?_
   iterate 3 (refine WP.sx tysOk rfl ⟨⟨⟩, ⟨⟩⟩ ?_)
   cases h
   refine WP.retR tysOk rfl rfl ⟨_, _, rfl, rfl, rfl⟩ (fun w1 hw1 => ⟨rfl, Ret.below_ hw1 (.cons .head .nil)⟩)
  rw [if_neg hh1] at h
  refine WP.no rfl rfl (decide_eq_false hh1) rfl rfl ?_
  refine WP.no rfl rfl rfl rfl rfl ?_
  iterate 2 (refine WP.sx tysOk rfl ⟨⟨⟩, ⟨⟩⟩ ?_)
  cases h
  refine WP.retR tysOk rfl rfl ⟨_, _, rfl, rfl, rfl⟩ (fun w1 hw1 => ⟨rfl, Ret.below_ hw1 (.cons .head .nil)⟩)

set_option maxRecDepth 20000 in
set_option maxHeartbeats 8000000 in
theorem inst_wrong_w {w : World} {a1 : Arc} {nodes1 : Int} {r : Int} (h : inst_wrong a1 nodes1 = some r) :
    Calls Tryz.prog 71 #[.agg #[iv a1.src, iv a1.dst, iv a1.low, iv a1.cap, iv a1.cost], iv nodes1] w fun e w' => e = .returned (.int .u16 (r)) ∧ Below w.heap.size w w' := by
  unfold inst_wrong at h
  refine enter_ Tryz.func71 rfl Tryz.ntmps71 rfl ?_
  refine WP.box rfl rfl rfl rfl rfl rfl ?_
  intro g1
  refine WP.box rfl rfl rfl rfl rfl rfl ?_
  intro g2
  iterate 5 (refine WP.sx tysOk rfl ⟨⟨⟩, ⟨⟩⟩ ?_)
  refine WP.lx tysOk rfl ⟨⟩ (CellAt.blk (.tail .head) rfl) ?_
  obtain ⟨r1, hg1, h⟩ := bind_some h
  refine WP.callV rfl rfl rfl rfl rfl rfl rfl (by kernel_rfl) (fun w1 hw1 => (inst_wrong_1_1_w hg1 (KH.zcb hw1 .head rfl) :)) ⟨⟩ ?_
  iterate 2 (refine WP.sx tysOk rfl ⟨⟨⟩, ⟨⟩⟩ ?_)
  refine WP.cond_n rfl rfl (fun hh1 => ?_) (fun hh1 => ?_)
  ·rw [if_neg (bneg hh1)] at h
   refine WP.cond_n rfl rfl (fun _ => ?_) (fun hh' => absurd hh' (bneg hh1))
   refine WP.sx tysOk rfl ⟨⟨⟩, ⟨⟩⟩ ?_
   cases h
   refine WP.retR tysOk rfl rfl ⟨_, _, rfl, rfl, rfl⟩ (fun w1 hw1 => ⟨rfl, Ret.below_ hw1 (.cons (.tail (.tail .head)) .nil)⟩)
  rw [if_pos hh1] at h
  iterate 2 (refine WP.sx tysOk rfl ⟨⟨⟩, ⟨⟩⟩ ?_)
  refine WP.lx tysOk rfl ⟨⟩ (CellAt.blk (.tail .head) rfl) ?_
  obtain ⟨r2, hg2, h⟩ := bind_some h
  refine WP.callV rfl rfl rfl rfl rfl rfl rfl (by kernel_rfl) (fun w1 hw1 => (inst_wrong_1_1_w hg2 (KH.zcb hw1 .head rfl) :)) ⟨⟩ ?_
  iterate 2 (refine WP.sx tysOk rfl ⟨⟨⟩, ⟨⟩⟩ ?_)
  refine WP.cond_n rfl rfl (fun hh2 => ?_) (fun hh2 => ?_)
  ·rw [if_neg (bneg hh2)] at h
   refine WP.sx tysOk rfl ⟨⟨⟩, ⟨⟩⟩ ?_
   cases h
   refine WP.retR tysOk rfl rfl ⟨_, _, rfl, rfl, rfl⟩ (fun w1 hw1 => ⟨rfl, Ret.below_ hw1 (.cons (.tail (.tail .head)) .nil)⟩)
  rw [if_pos hh2] at h
  refine WP.sx tysOk rfl ⟨⟨⟩, ⟨⟩⟩ ?_
  refine WP.lx tysOk rfl ⟨⟩ (CellAt.blk (.tail .head) rfl) ?_
  iterate 2 (refine WP.sx tysOk rfl ⟨⟨⟩, ⟨⟩⟩ ?_)
  refine WP.cond_d rfl rfl (fun hh3 => ?_) (fun hh3 => ?_)
  ·rw [if_pos hh3] at h
   refine WP.cond_d rfl rfl (fun _ => ?_) (fun hh' => (absurd hh3 hh'))
   refine WP.sx tysOk rfl ⟨⟨⟩, ⟨⟩⟩ ?_
   cases h
   refine WP.retR tysOk rfl rfl ⟨_, _, rfl, rfl, rfl⟩ (fun w1 hw1 => ⟨rfl, Ret.below_ hw1 (.cons (.tail (.tail .head)) .nil)⟩)
  rw [if_neg hh3] at h
  refine WP.sx tysOk rfl ⟨⟨⟩, ⟨⟩⟩ ?_
  refine WP.lx tysOk rfl ⟨⟩ (CellAt.blk (.tail .head) rfl) ?_
  iterate 2 (refine WP.sx tysOk rfl ⟨⟨⟩, ⟨⟩⟩ ?_)
  refine WP.cond_d rfl rfl (fun hh4 => ?_) (fun hh4 => ?_)
  ·rw [if_pos hh4] at h
   refine WP.cond_d rfl rfl (fun _ => ?_) (fun hh' => (absurd hh4 hh'))
   refine WP.sx tysOk rfl ⟨⟨⟩, ⟨⟩⟩ ?_
   cases h
   refine WP.retR tysOk rfl rfl ⟨_, _, rfl, rfl, rfl⟩ (fun w1 hw1 => ⟨rfl, Ret.below_ hw1 (.cons (.tail (.tail .head)) .nil)⟩)
  rw [if_neg hh4] at h
  refine WP.sx tysOk rfl ⟨⟨⟩, ⟨⟩⟩ ?_
  refine WP.lx tysOk rfl ⟨⟩ (CellAt.blk (.tail .head) rfl) ?_
  iterate 2 (refine WP.sx tysOk rfl ⟨⟨⟩, ⟨⟩⟩ ?_)
  by_cases hh5 : ¬ a1.cap = 4611686018427387904
  ·rw [if_pos hh5] at h
   refine WP.yes rfl rfl (decide_eq_true hh5) ?_
   refine WP.sx tysOk rfl ⟨⟨⟩, ⟨⟩⟩ ?_
   refine WP.yes rfl rfl rfl ?_
   refine WP.lx tysOk rfl ⟨⟩ (CellAt.blk (.tail .head) rfl) ?_
   refine WP.yes rfl rfl rfl ?_
   refine WP.sx tysOk rfl ⟨⟨⟩, ⟨⟩⟩ ?_
   refine WP.yes rfl rfl rfl ?_
   refine WP.lx tysOk rfl ⟨⟩ (CellAt.blk (.tail .head) rfl) ?_
   iterate 2 (refine WP.yes rfl rfl rfl ?_; refine WP.sx tysOk rfl ⟨⟨⟩, ⟨⟩⟩ ?_)
   by_cases hh6 : a1.cap < a1.low
   ·rw [if_pos hh6] at h
    refine WP.no rfl rfl (decide_eq_true hh6) rfl rfl ?_
    iterate 2 (refine WP.no rfl rfl rfl rfl rfl ?_)
    refine WP.yes rfl rfl rfl ?_
    iterate 3 (refine WP.sx tysOk rfl ⟨⟨⟩, ⟨⟩⟩ ?_)
    refine WP.condT rfl rfl ?_
    refine WP.sx tysOk rfl ⟨⟨⟩, ⟨⟩⟩ ?_
    cases h
    refine WP.retR tysOk rfl rfl ⟨_, _, rfl, rfl, rfl⟩ (fun w1 hw1 => ⟨rfl, Ret.below_ hw1 (.cons (.tail (.tail .head)) .nil)⟩)
   rw [if_neg hh6] at h
   refine WP.yes rfl rfl (decide_eq_false hh6) ?_
   refine WP.sx tysOk rfl ⟨⟨⟩, ⟨⟩⟩ ?_
   refine WP.yes rfl rfl rfl ?_
   refine WP.lx tysOk rfl ⟨⟩ (CellAt.blk (.tail .head) rfl) ?_
   refine WP.yes rfl rfl rfl ?_
   refine WP.sx tysOk rfl ⟨⟨⟩, ⟨⟩⟩ ?_
   refine WP.yes rfl rfl rfl ?_
   iterate 3 (refine WP.sx tysOk rfl ⟨⟨⟩, ⟨⟩⟩ ?_)
   refine WP.cond_d rfl rfl (fun hh7 => ?_) (fun hh7 => ?_)
   ·rw [if_pos hh7] at h
    refine WP.sx tysOk rfl ⟨⟨⟩, ⟨⟩⟩ ?_
    cases h
    refine WP.retR tysOk rfl rfl ⟨_, _, rfl, rfl, rfl⟩ (fun w1 hw1 => ⟨rfl, Ret.below_ hw1 (.cons (.tail (.tail .head)) .nil)⟩)
   rw [if_neg hh7] at h
   refine WP.sx tysOk rfl ⟨⟨⟩, ⟨⟩⟩ ?_
   refine WP.lx tysOk rfl ⟨⟩ (CellAt.blk (.tail .head) rfl) ?_
   obtain ⟨r3, hg3, h⟩ := bind_some h
   refine WP.callV rfl rfl rfl rfl rfl rfl rfl (by kernel_rfl) (fun w1 hw1 => (inst_within_w hg3  :)) ⟨⟩ ?_
   iterate 2 (refine WP.sx tysOk rfl ⟨⟨⟩, ⟨⟩⟩ ?_)
   refine WP.cond_n rfl rfl (fun hh8 => ?_) (fun hh8 => ?_)
   ·rw [if_neg (bneg hh8)] at h
    refine WP.sx tysOk rfl ⟨⟨⟩, ⟨⟩⟩ ?_
    cases h
    refine WP.retR tysOk rfl rfl ⟨_, _, rfl, rfl, rfl⟩ (fun w1 hw1 => ⟨rfl, Ret.below_ hw1 (.cons (.tail (.tail .head)) .nil)⟩)
   rw [if_pos hh8] at h
   refine WP.sx tysOk rfl ⟨⟨⟩, ⟨⟩⟩ ?_
   cases h
   refine WP.retR tysOk rfl rfl ⟨_, _, rfl, rfl, rfl⟩ (fun w1 hw1 => ⟨rfl, Ret.below_ hw1 (.cons (.tail (.tail .head)) .nil)⟩)
  rw [if_neg hh5] at h
  refine WP.no rfl rfl (decide_eq_false hh5) rfl rfl ?_
  iterate 5 (refine WP.no rfl rfl rfl rfl rfl ?_)
  iterate 3 (refine WP.noU rfl rfl rfl rfl ?_)
  refine WP.no rfl rfl rfl rfl rfl ?_
  iterate 2 (refine WP.sx tysOk rfl ⟨⟨⟩, ⟨⟩⟩ ?_)
  refine WP.condF rfl rfl ?_
  refine WP.sx tysOk rfl ⟨⟨⟩, ⟨⟩⟩ ?_
  refine WP.lx tysOk rfl ⟨⟩ (CellAt.blk (.tail .head) rfl) ?_
  obtain ⟨r4, hg4, h⟩ := bind_some h
  refine WP.callV rfl rfl rfl rfl rfl rfl rfl (by kernel_rfl) (fun w1 hw1 => (inst_within_w hg4  :)) ⟨⟩ ?_
  iterate 2 (refine WP.sx tysOk rfl ⟨⟨⟩, ⟨⟩⟩ ?_)
  refine WP.cond_n rfl rfl (fun hh9 => ?_) (fun hh9 => ?_)
  ·rw [if_neg (bneg hh9)] at h
   refine WP.sx tysOk rfl ⟨⟨⟩, ⟨⟩⟩ ?_
   cases h
   refine WP.retR tysOk rfl rfl ⟨_, _, rfl, rfl, rfl⟩ (fun w1 hw1 => ⟨rfl, Ret.below_ hw1 (.cons (.tail (.tail .head)) .nil)⟩)
  rw [if_pos hh9] at h
  refine WP.sx tysOk rfl ⟨⟨⟩, ⟨⟩⟩ ?_
  cases h
  refine WP.retR tysOk rfl rfl ⟨_, _, rfl, rfl, rfl⟩ (fun w1 hw1 => ⟨rfl, Ret.below_ hw1 (.cons (.tail (.tail .head)) .nil)⟩)

set_option maxRecDepth 20000 in
set_option maxHeartbeats 8000000 in
theorem inst_Right_w {w : World} {v0 : Value} {i1 : Inst} {r : Int} (h : inst_Right i1 = some r) (p1 : InsZ (PH.of w) v0 i1) :
    Calls Tryz.prog 49 #[v0] w fun e w' => e = .returned (.int .u16 (r)) ∧ Below w.heap.size w w' := by
  obtain ⟨A1, c1, A2, c2, rfl, hs1, hs2⟩ := p1
  unfold inst_Right at h
  refine enter_ Tryz.func49 rfl Tryz.ntmps49 rfl ?_
  refine WP.box rfl rfl rfl rfl rfl rfl ?_
  intro g1
  iterate 2 (refine WP.sx tysOk rfl ⟨⟨⟩, ⟨⟩⟩ ?_)
  refine WP.lx tysOk rfl ⟨⟩ (CellAt.blk .head rfl) ?_
  iterate 3 (refine WP.sx tysOk rfl ⟨⟨⟩, ⟨⟩⟩ ?_)
  by_cases hh1 : 64 < (i1.supply.length : Int)
  ·rw [if_pos hh1] at h
   refine WP.no rfl rfl (decide_eq_true hh1) rfl rfl ?_
   iterate 3 (refine WP.no rfl rfl rfl rfl rfl ?_)
   refine WP.sx tysOk rfl ⟨⟨⟩, ⟨⟩⟩ ?_
   refine WP.condT rfl rfl ?_
   refine WP.sx tysOk rfl ⟨⟨⟩, ⟨⟩⟩ ?_
   cases h
   refine WP.retR tysOk rfl rfl ⟨_, _, rfl, rfl, rfl⟩ (fun w1 hw1 => ⟨rfl, Ret.below_ hw1 (.cons (.tail .head) .nil)⟩)
  rw [if_neg hh1] at h
  refine WP.yes rfl rfl (decide_eq_false hh1) ?_
  refine WP.sx tysOk rfl ⟨⟨⟩, ⟨⟩⟩ ?_
  refine WP.yes rfl rfl rfl ?_
  refine WP.lx tysOk rfl ⟨⟩ (CellAt.blk .head rfl) ?_
  refine WP.yes rfl rfl rfl ?_
  refine WP.sx tysOk rfl ⟨⟨⟩, ⟨⟩⟩ ?_
  refine WP.yes rfl rfl rfl ?_
  iterate 2 (refine WP.sx tysOk rfl ⟨⟨⟩, ⟨⟩⟩ ?_)
  refine WP.cond_d rfl rfl (fun hh2 => ?_) (fun hh2 => ?_)
  ·rw [if_pos hh2] at h
   refine WP.sx tysOk rfl ⟨⟨⟩, ⟨⟩⟩ ?_
   cases h
   refine WP.retR tysOk rfl rfl ⟨_, _, rfl, rfl, rfl⟩ (fun w1 hw1 => ⟨rfl, Ret.below_ hw1 (.cons (.tail .head) .nil)⟩)
  rw [if_neg hh2] at h
  refine WP.sx tysOk rfl ⟨⟨⟩, ⟨⟩⟩ ?_
  refine WP.lx tysOk rfl ⟨⟩ (CellAt.blk .head rfl) ?_
  iterate 2 (refine WP.sx tysOk rfl ⟨⟨⟩, ⟨⟩⟩ ?_)
  refine WP.loop (α := Nat × Int) (fun x => lp (inst_Right_b1 i1) x.1 x.2 = some r) (fun x => [(1, .pointer (some ⟨g1, 0, none⟩)), (20, .slice A2 i1.arcs.length c2), (21, iv (i1.arcs.length : Int)), (22, iv x.2)]) (fun x => [.blk g1 25 [.slice A1 i1.supply.length c1, .slice A2 i1.arcs.length c2], .fz (PH.of w)]) (fun x => x.1) rfl (big, 0) h ?_ ?_ ?_
  ·repeat first | exact ⟨⟩ | refine ⟨rfl, ?_⟩
  ·exact (.cons .head (.cons .head .nil))
  rintro ⟨n3, s6⟩ h
  dsimp only at h ⊢
  rcases n3 with _ | n3
  · exact (lp_no h).elim
  replace h := lp_succ h
  unfold inst_Right_b1 at h
  try dsimp only at h
  refine WP.sx tysOk rfl ⟨⟨⟩, ⟨⟩⟩ ?_
  refine WP.cond_d rfl rfl (fun hh25 => ?_) (fun hh25 => ?_)
  ·rw [if_pos hh25] at h
   obtain ⟨hj9, h⟩ := ck_some h
   refine WP.ixA tysOk rfl ⟨⟩ rfl rfl rfl rfl rfl rfl rfl rfl hj9 (hs2.ex hj9) ?_
   intro b9 b9v hA9
   refine WP.mx_ tysOk rfl ⟨⟩ (hs2.seg hA9 (Held.mem (List.Mem.tail _ (List.Mem.head _))) hj9) ?_
   refine WP.al tysOk rfl rfl rfl rfl rfl rfl ?_
   intro g4
   refine WP.sto' tysOk [iv ((gt i1.arcs s6).src), iv ((gt i1.arcs s6).dst), iv ((gt i1.arcs s6).low), iv ((gt i1.arcs s6).cap), iv ((gt i1.arcs s6).cost)] rfl rfl rfl rfl rfl rfl rfl rfl rfl .head rfl rfl ?_
   refine WP.mx_ tysOk rfl ⟨⟩ (SegAt.blk' .head rfl) ?_
   refine WP.sx tysOk rfl ⟨⟨⟩, ⟨⟩⟩ ?_
   refine WP.lx tysOk rfl ⟨⟩ (CellAt.blk (.tail .head) rfl) ?_
   refine WP.sx tysOk rfl ⟨⟨⟩, ⟨⟩⟩ ?_
   obtain ⟨r9, hg9, h⟩ := bind_some h
   refine WP.callV rfl rfl rfl rfl rfl rfl rfl (by kernel_rfl) (fun w1 hw1 => (inst_wrong_w hg9  :)) ⟨⟩ ?_
   iterate 3 (refine WP.sx tysOk rfl ⟨⟨⟩, ⟨⟩⟩ ?_)
   refine WP.cond_d rfl rfl (fun hh26 => ?_) (fun hh26 => ?_)
   ·rw [if_pos hh26] at h
    iterate 2 (refine WP.sx tysOk rfl ⟨⟨⟩, ⟨⟩⟩ ?_)
    cases h
    refine WP.retR tysOk rfl rfl ⟨_, _, rfl, rfl, rfl⟩ (fun w1 hw1 => ⟨rfl, Ret.below_ hw1 (.cons (.tail (.tail .head)) .nil)⟩)
   rw [if_neg hh26] at h
   iterate 2 (refine WP.sx tysOk rfl ⟨⟨⟩, ⟨⟩⟩ ?_)
   refine WP.stop rfl (n3, w64 (s6 + 1)) ⟨h, Nat.lt_succ_self _⟩ ?_ ?_
   ·repeat first | exact ⟨⟩ | refine ⟨rfl, ?_⟩
   exact (.cons (.tail .head) (.cons (.tail .head) .nil))
  rw [if_neg hh25] at h
  iterate 2 (refine WP.sx tysOk rfl ⟨⟨⟩, ⟨⟩⟩ ?_)
  refine WP.lx tysOk rfl ⟨⟩ (CellAt.blk .head rfl) ?_
  iterate 2 (refine WP.sx tysOk rfl ⟨⟨⟩, ⟨⟩⟩ ?_)
  refine WP.loop (α := Nat × Int × Int) (fun x => lp (inst_Right_b2 i1) x.1 (x.2.1, x.2.2) = some r) (fun x => [(6, iv x.2.1), (36, .slice A1 i1.supply.length c1), (37, iv (i1.supply.length : Int)), (38, iv x.2.2)]) (fun x => [.fz (PH.of w)]) (fun x => x.1) rfl (big, 0, 0) h ?_ ?_ ?_
  ·repeat first | exact ⟨⟩ | refine ⟨rfl, ?_⟩
  ·exact (.cons (.tail .head) .nil)
  rintro ⟨n4, sum14, s8⟩ h
  dsimp only at h ⊢
  rcases n4 with _ | n4
  · exact (lp_no h).elim
  replace h := lp_succ h
  unfold inst_Right_b2 at h
  try dsimp only at h
  refine WP.sx tysOk rfl ⟨⟨⟩, ⟨⟩⟩ ?_
  refine WP.cond_d rfl rfl (fun hh33 => ?_) (fun hh33 => ?_)
  ·rw [if_pos hh33] at h
   obtain ⟨hj12, h⟩ := ck_some h
   refine WP.ixA tysOk rfl ⟨⟩ rfl rfl rfl rfl rfl rfl rfl rfl hj12 (hs1.ex hj12) ?_
   intro b12 b12v hA12
   refine WP.lx tysOk rfl ⟨⟩ (hs1.at0 hA12 (Held.mem (List.Mem.head _)) hj12 rfl) ?_
   iterate 2 (refine WP.sx tysOk rfl ⟨⟨⟩, ⟨⟩⟩ ?_)
   obtain ⟨r12, hg12, h⟩ := bind_some h
   refine WP.callV rfl rfl rfl rfl rfl rfl rfl (by kernel_rfl) (fun w1 hw1 => (inst_within_w hg12  :)) ⟨⟩ ?_
   refine WP.sx tysOk rfl ⟨⟨⟩, ⟨⟩⟩ ?_
   refine WP.cond_n rfl rfl (fun hh34 => ?_) (fun hh34 => ?_)
   ·rw [if_neg (bneg hh34)] at h
    refine WP.sx tysOk rfl ⟨⟨⟩, ⟨⟩⟩ ?_
    cases h
    refine WP.retR tysOk rfl rfl ⟨_, _, rfl, rfl, rfl⟩ (fun w1 hw1 => ⟨rfl, Ret.below_ hw1 (.cons .head .nil)⟩)
   rw [if_pos hh34] at h
   iterate 3 (refine WP.sx tysOk rfl ⟨⟨⟩, ⟨⟩⟩ ?_)
   obtain ⟨sum15, hx9, h⟩ := lt_some h
   refine WP.sx tysOk rfl ⟨⟨⟩, ⟨⟩⟩ ?_
   refine WP.retell (s := 6) (.int .i64 sum15) rfl (congrArg (Value.int .i64) hx9.symm) ?_
   iterate 2 (refine WP.sx tysOk rfl ⟨⟨⟩, ⟨⟩⟩ ?_)
   refine WP.stop rfl (n4, sum15, w64 (s8 + 1)) ⟨h, Nat.lt_succ_self _⟩ ?_ ?_
   ·repeat first | exact ⟨⟩ | refine ⟨rfl, ?_⟩
   exact (.cons .head .nil)
  rw [if_neg hh33] at h
  iterate 2 (refine WP.sx tysOk rfl ⟨⟨⟩, ⟨⟩⟩ ?_)
  refine WP.cond_d rfl rfl (fun hh35 => ?_) (fun hh35 => ?_)
  ·rw [if_pos hh35] at h
   refine WP.sx tysOk rfl ⟨⟨⟩, ⟨⟩⟩ ?_
   cases h
   refine WP.retR tysOk rfl rfl ⟨_, _, rfl, rfl, rfl⟩ (fun w1 hw1 => ⟨rfl, Ret.below_ hw1 (.cons .head .nil)⟩)
  rw [if_neg hh35] at h
  refine WP.sx tysOk rfl ⟨⟨⟩, ⟨⟩⟩ ?_
  cases h
  refine WP.retR tysOk rfl rfl ⟨_, _, rfl, rfl, rfl⟩ (fun w1 hw1 => ⟨rfl, Ret.below_ hw1 (.cons .head .nil)⟩)

abbrev inst_Copy_S (r : Inst) : Value → Heap → Prop := fun v L => ∃ (A1 : Option Addr) (n1 c1 : Nat) (A2 : Option Addr) (n2 c2 : Nat), v = .agg #[.slice A1 n1 c1, .slice A2 n2 c2] ∧ OwF A1 n1 r.supply ∧ OwF A2 n2 r.arcs ∧ L = [Ow (fI .i64) 2 A1 n1 c1 r.supply, Ow fA 34 A2 n2 c2 r.arcs]
set_option maxRecDepth 20000 in
set_option maxHeartbeats 8000000 in
theorem inst_Copy_w {w : World} {v0 : Value} {i1 : Inst} {r : Inst} (h : inst_Copy i1 = some r) (p1 : InsZ (PH.of w) v0 i1) :
    Calls Tryz.prog 42 #[v0] w fun e w' => ∃ v L, e = .returned v ∧ inst_Copy_S r v L ∧ Ret w w' L := by
  obtain ⟨A1, c1, A2, c2, rfl, hs1, hs2⟩ := p1
  unfold inst_Copy at h
  refine enter_ Tryz.func42 rfl Tryz.ntmps42 rfl ?_
  refine WP.box rfl rfl rfl rfl rfl rfl ?_
  intro g1
  refine WP.al tysOk rfl rfl rfl rfl rfl rfl ?_
  intro g2
  obtain ⟨r1, hg1, h⟩ := bind_some h
  obtain ⟨r2, hg2, h⟩ := bind_some h
  refine WP.drawL 7 [(2, [], fun _ => slices_Clone_int64_S r1), (5, [], fun _ => slices_Clone_api_Arc_S r2)] rfl (by kernel_rfl) (by kernel_rfl) (by kernel_rfl) ?_
  refine WP.sx tysOk rfl ⟨⟨⟨rfl, rfl⟩, rfl⟩, ⟨⟩⟩ ?_
  refine WP.lx tysOk rfl ⟨⟨rfl, rfl⟩, rfl⟩ (CellAt.blk (.tail .head) rfl) ?_
  refine WP.lcall rfl ⟨rfl, rfl⟩ rfl rfl rfl rfl rfl rfl rfl (by kernel_rfl) (fun w1 hw1 => (slices_Clone_int64_w hg1 (hs1.le' ((Held.mem (List.Mem.tail _ (List.Mem.tail _ (List.Mem.head _)))) _ _ hw1)).of :)) ?_
  rintro _ _ ⟨A3, n1, c3, rfl, hf1, rfl⟩
  refine WP.sx tysOk rfl ⟨⟨⟨rfl, rfl⟩, rfl⟩, ⟨⟩⟩ ?_
  refine WP.lx tysOk rfl ⟨⟨rfl, rfl⟩, rfl⟩ (CellAt.blk (.tail .head) rfl) ?_
  refine WP.lcall rfl ⟨rfl, rfl⟩ rfl rfl rfl rfl rfl rfl rfl (by kernel_rfl) (fun w1 hw1 => (slices_Clone_api_Arc_w hg2 (hs2.le' ((Held.mem (List.Mem.tail _ (List.Mem.tail _ (List.Mem.head _)))) _ _ hw1)).of :)) ?_
  rintro _ _ ⟨A4, n2, c4, rfl, hf2, rfl⟩
  refine WP.bld (cs := [.slice A3 n1 c3, .slice A4 n2 c4]) tysOk rfl ⟨⟨rfl, rfl⟩, rfl⟩ rfl rfl rfl rfl rfl rfl rfl ?_
  refine WP.lend rfl ⟨rfl, rfl⟩ ?_
  refine WP.sto' tysOk [.slice A3 n1 c3, .slice A4 n2 c4] rfl rfl rfl rfl rfl rfl rfl rfl rfl (.tail (.tail .head)) rfl rfl ?_
  cases h
  refine WP.retR tysOk rfl rfl ⟨_, _, _, _, rfl, ⟨_, rfl, .inr ⟨rfl, _, rfl, rfl, (SegAt.blk' (z := 2) .head rfl).1⟩⟩, rfl, rfl⟩ (fun w1 hw1 => ⟨_, _, rfl, ⟨A3, n1, c3, A4, n2, c4, rfl, hf1, hf2, rfl⟩, Ret.of_KH hw1 (.cons (.tail (.tail .head)) (.cons (.tail .head) (.cons (.tail (.tail .head)) .nil)))⟩)

abbrev inst_Kept_S (r : (List Int)) : Value → Heap → Prop := fun v L => ∃ (A1 : Option Addr) (n1 c1 : Nat), v = .slice A1 n1 c1 ∧ OwF A1 n1 r ∧ L = [Ow (fI .i64) 3 A1 n1 c1 r]
set_option maxRecDepth 20000 in
set_option maxHeartbeats 8000000 in
theorem inst_Kept_w {w : World} {v0 : Value} {off1 : List Bool} {n1 : Int} {r : (List Int)} (h : inst_Kept off1 n1 = some r) (p1 : SlF fB (PH.of w) v0 off1) :
    Calls Tryz.prog 74 #[v0, iv n1] w fun e w' => ∃ v L, e = .returned v ∧ inst_Kept_S r v L ∧ Ret w w' L := by
  obtain ⟨A1, c1, rfl, hs1⟩ := p1
  unfold inst_Kept at h
  refine enter_ Tryz.func74 rfl Tryz.ntmps74 rfl ?_
  iterate 3 (refine WP.sx tysOk rfl ⟨⟨⟩, ⟨⟩⟩ ?_)
  refine WP.mn rfl ⟨⟩ rfl rfl rfl rfl rfl rfl ?_
  refine WP.sx tysOk rfl ⟨⟨⟩, ⟨⟩⟩ ?_
  refine WP.own_nil 3 (fI .i64).z ?_
  refine WP.loop (α := Nat × Int × (List Int) × (Option Addr) × Nat × Nat) (fun x => lp (inst_Kept_b1 off1 n1) x.1 (x.2.1, x.2.2.1) = some r ∧ OwF x.2.2.2.1 x.2.2.2.2.1 x.2.2.1) (fun x => [(0, .slice A1 off1.length c1), (5, .slice x.2.2.2.1 x.2.2.2.2.1 x.2.2.2.2.2), (8, iv (if 1000 < n1 then 1000 else n1)), (9, iv x.2.1)]) (fun x => [Ow (fI .i64) 3 x.2.2.2.1 x.2.2.2.2.1 x.2.2.2.2.2 x.2.2.1, .fz (PH.of w)]) (fun x => x.1) rfl (big, 0, ([] : List Int), none, 0, 0) ⟨h, OwF.nil_⟩ ?_ ?_ ?_
  ·repeat first | exact ⟨⟩ | refine ⟨rfl, ?_⟩
  ·exact (.cons .head (.cons .head .nil))
  rintro ⟨n2, s3, xs10, A11, m2, c11⟩ ⟨h, hf18⟩
  dsimp only at h hf18 ⊢
  rcases n2 with _ | n2
  · exact (lp_no h).elim
  replace h := lp_succ h
  unfold inst_Kept_b1 at h
  try dsimp only at h
  refine WP.sx tysOk rfl ⟨⟨⟩, ⟨⟩⟩ ?_
  refine WP.cond_d rfl rfl (fun hh13 => ?_) (fun hh13 => ?_)
  ·rw [if_pos hh13] at h
   iterate 7 (refine WP.sx tysOk rfl ⟨⟨⟩, ⟨⟩⟩ ?_)
   by_cases hh14 : (off1.length : Int) ≤ s3
   ·rw [if_pos hh14] at h
    refine WP.no rfl rfl (decide_eq_true hh14) rfl rfl ?_
    iterate 4 (refine WP.no rfl rfl rfl rfl rfl ?_)
    refine WP.sx tysOk rfl ⟨⟨⟩, ⟨⟩⟩ ?_
    refine WP.condT rfl rfl ?_
    iterate 2 (refine WP.sx tysOk rfl ⟨⟨⟩, ⟨⟩⟩ ?_)
    refine WP.bsO (f := (fI .i64)) [s3] tysOk rfl rfl rfl rfl rfl rfl rfl rfl rfl rfl rfl rfl rfl rfl ?_
    intro g9 hf19
    obtain ⟨hl9, h⟩ := ck_some h
    obtain ⟨xs11, hz9, h⟩ := lt_some h
    refine WP.appO (f := (fI .i64)) (xs := xs10) (ys := [s3]) tysOk rfl rfl rfl rfl rfl rfl rfl rfl rfl rfl rfl rfl (.tail .head) hf18 hf19.len (OwS.app .head hf19) hl9 hz9 ?_
    intro A12 c12 hf20
    iterate 3 (refine WP.sx tysOk rfl ⟨⟨⟩, ⟨⟩⟩ ?_)
    refine WP.stop rfl (n2, w64 (s3 + 1), xs11, A12, xs11.length, c12) ⟨⟨h, hf20⟩, Nat.lt_succ_self _⟩ ?_ ?_
    ·repeat first | exact ⟨⟩ | refine ⟨rfl, ?_⟩
    exact (.cons .head (.cons (.tail .head) .nil))
   rw [if_neg hh14] at h
   refine WP.yes rfl rfl (decide_eq_false hh14) ?_
   iterate 2 (refine WP.sx tysOk rfl ⟨⟨⟩, ⟨⟩⟩ ?_; refine WP.yes rfl rfl rfl ?_)
   obtain ⟨hj5, h⟩ := ck_some h
   refine WP.ixA tysOk rfl ⟨⟩ rfl rfl rfl rfl rfl rfl rfl rfl hj5 (hs1.ex hj5) ?_
   intro b5 b5v hA5
   refine WP.yes rfl rfl rfl ?_
   refine WP.lx tysOk rfl ⟨⟩ (hs1.at0 hA5 (Held.mem (List.Mem.tail _ (List.Mem.head _))) hj5 rfl) ?_
   refine WP.yes rfl rfl rfl ?_
   iterate 2 (refine WP.sx tysOk rfl ⟨⟨⟩, ⟨⟩⟩ ?_)
   refine WP.cond_n rfl rfl (fun hh15 => ?_) (fun hh15 => ?_)
   ·rw [if_neg (bneg hh15)] at h
    iterate 2 (refine WP.sx tysOk rfl ⟨⟨⟩, ⟨⟩⟩ ?_)
    refine WP.bsO (f := (fI .i64)) [s3] tysOk rfl rfl rfl rfl rfl rfl rfl rfl rfl rfl rfl rfl rfl rfl ?_
    intro g10 hf21
    obtain ⟨hl10, h⟩ := ck_some h
    obtain ⟨xs12, hz10, h⟩ := lt_some h
    refine WP.appO (f := (fI .i64)) (xs := xs10) (ys := [s3]) tysOk rfl rfl rfl rfl rfl rfl rfl rfl rfl rfl rfl rfl (.tail .head) hf18 hf21.len (OwS.app .head hf21) hl10 hz10 ?_
    intro A13 c13 hf22
    iterate 3 (refine WP.sx tysOk rfl ⟨⟨⟩, ⟨⟩⟩ ?_)
    refine WP.stop rfl (n2, w64 (s3 + 1), xs12, A13, xs12.length, c13) ⟨⟨h, hf22⟩, Nat.lt_succ_self _⟩ ?_ ?_
    ·repeat first | exact ⟨⟩ | refine ⟨rfl, ?_⟩
    exact (.cons .head (.cons (.tail .head) .nil))
   rw [if_pos hh15] at h
   iterate 2 (refine WP.sx tysOk rfl ⟨⟨⟩, ⟨⟩⟩ ?_)
   refine WP.stop rfl (n2, w64 (s3 + 1), xs10, A11, m2, c11) ⟨⟨h, hf18⟩, Nat.lt_succ_self _⟩ ?_ ?_
   ·repeat first | exact ⟨⟩ | refine ⟨rfl, ?_⟩
   exact (.cons .head (.cons .head .nil))
  rw [if_neg hh13] at h
  iterate 2 (refine WP.sx tysOk rfl ⟨⟨⟩, ⟨⟩⟩ ?_)
  cases h
  refine WP.retR tysOk rfl rfl ⟨_, _, rfl, rfl, rfl⟩ (fun w1 hw1 => ⟨_, _, rfl, ⟨A11, m2, c11, rfl, hf18, rfl⟩, Ret.of_KH hw1 (.cons .head (.cons .head .nil))⟩)

abbrev inst_pick_int64_S (r : (List Int)) : Value → Heap → Prop := fun v L => ∃ (A1 : Option Addr) (n1 c1 : Nat), v = .slice A1 n1 c1 ∧ OwF A1 n1 r ∧ L = [Ow (fI .i64) 2 A1 n1 c1 r]
set_option maxRecDepth 20000 in
set_option maxHeartbeats 8000000 in
theorem inst_pick_int64_w {w : World} {v0 : Value} {v1 : Value} {l1 : List Int} {atv1 : List Int} {r : (List Int)} (h : inst_pick_int64 l1 atv1 = some r) (p1 : SlF (fI .i64) (PH.of w) v0 l1) (p2 : SlF (fI .i64) (PH.of w) v1 atv1) :
    Calls Tryz.prog 75 #[v0, v1] w fun e w' => ∃ v L, e = .returned v ∧ inst_pick_int64_S r v L ∧ Ret w w' L := by
  obtain ⟨A1, c1, rfl, hs1⟩ := p1
  obtain ⟨A2, c2, rfl, hs2⟩ := p2
  unfold inst_pick_int64 at h
  refine enter_ Tryz.func75 rfl Tryz.ntmps75 rfl ?_
  iterate 5 (refine WP.sx tysOk rfl ⟨⟨⟩, ⟨⟩⟩ ?_)
  refine WP.own_nil 2 (fI .i64).z ?_
  refine WP.loop (α := Nat × Int × (List Int) × (Option Addr) × Nat × Nat) (fun x => lp (inst_pick_int64_b1 l1 atv1) x.1 (x.2.1, x.2.2.1) = some r ∧ OwF x.2.2.2.1 x.2.2.2.2.1 x.2.2.1) (fun x => [(0, .slice A1 l1.length c1), (5, .slice x.2.2.2.1 x.2.2.2.2.1 x.2.2.2.2.2), (8, .slice A2 atv1.length c2), (9, iv (atv1.length : Int)), (10, iv x.2.1)]) (fun x => [Ow (fI .i64) 2 x.2.2.2.1 x.2.2.2.2.1 x.2.2.2.2.2 x.2.2.1, .fz (PH.of w)]) (fun x => x.1) rfl (big, 0, ([] : List Int), none, 0, 0) ⟨h, OwF.nil_⟩ ?_ ?_ ?_
  ·repeat first | exact ⟨⟩ | refine ⟨rfl, ?_⟩
  ·exact (.cons .head (.cons .head .nil))
  rintro ⟨n1, s3, xs6, A8, m2, c8⟩ ⟨h, hf10⟩
  dsimp only at h hf10 ⊢
  rcases n1 with _ | n1
  · exact (lp_no h).elim
  replace h := lp_succ h
  unfold inst_pick_int64_b1 at h
  try dsimp only at h
  refine WP.sx tysOk rfl ⟨⟨⟩, ⟨⟩⟩ ?_
  refine WP.cond_d rfl rfl (fun hh5 => ?_) (fun hh5 => ?_)
  ·rw [if_pos hh5] at h
   obtain ⟨hj9, h⟩ := ck_some h
   refine WP.ixA tysOk rfl ⟨⟩ rfl rfl rfl rfl rfl rfl rfl rfl hj9 (hs2.ex hj9) ?_
   intro b9 b9v hA9
   refine WP.lx tysOk rfl ⟨⟩ (hs2.at0 hA9 (Held.mem (List.Mem.tail _ (List.Mem.head _))) hj9 rfl) ?_
   iterate 4 (refine WP.sx tysOk rfl ⟨⟨⟩, ⟨⟩⟩ ?_)
   obtain ⟨hj10, h⟩ := ck_some h
   refine WP.ixA tysOk rfl ⟨⟩ rfl rfl rfl rfl rfl rfl rfl rfl hj10 (hs1.ex hj10) ?_
   intro b10 b10v hA10
   refine WP.lx tysOk rfl ⟨⟩ (hs1.at0 hA10 (Held.mem (List.Mem.tail _ (List.Mem.head _))) hj10 rfl) ?_
   refine WP.bsO (f := (fI .i64)) [(gt l1 (gt atv1 s3))] tysOk rfl rfl rfl rfl rfl rfl rfl rfl rfl rfl rfl rfl rfl rfl ?_
   intro g5 hf11
   obtain ⟨hl5, h⟩ := ck_some h
   obtain ⟨xs7, hz5, h⟩ := lt_some h
   refine WP.appO (f := (fI .i64)) (xs := xs6) (ys := [(gt l1 (gt atv1 s3))]) tysOk rfl rfl rfl rfl rfl rfl rfl rfl rfl rfl rfl rfl (.tail .head) hf10 hf11.len (OwS.app .head hf11) hl5 hz5 ?_
   intro A9 c9 hf12
   iterate 3 (refine WP.sx tysOk rfl ⟨⟨⟩, ⟨⟩⟩ ?_)
   refine WP.stop rfl (n1, w64 (s3 + 1), xs7, A9, xs7.length, c9) ⟨⟨h, hf12⟩, Nat.lt_succ_self _⟩ ?_ ?_
   ·repeat first | exact ⟨⟩ | refine ⟨rfl, ?_⟩
   exact (.cons .head (.cons (.tail .head) .nil))
  rw [if_neg hh5] at h
  iterate 2 (refine WP.sx tysOk rfl ⟨⟨⟩, ⟨⟩⟩ ?_)
  cases h
  refine WP.retR tysOk rfl rfl ⟨_, _, rfl, rfl, rfl⟩ (fun w1 hw1 => ⟨_, _, rfl, ⟨A8, m2, c8, rfl, hf10, rfl⟩, Ret.of_KH hw1 (.cons .head (.cons .head .nil))⟩)

abbrev inst_pick_api_Arc_S (r : (List Arc)) : Value → Heap → Prop := fun v L => ∃ (A1 : Option Addr) (n1 c1 : Nat), v = .slice A1 n1 c1 ∧ OwF A1 n1 r ∧ L = [Ow fA 34 A1 n1 c1 r]
set_option maxRecDepth 20000 in
set_option maxHeartbeats 8000000 in
theorem inst_pick_api_Arc_w {w : World} {v0 : Value} {v1 : Value} {l1 : List Arc} {atv1 : List Int} {r : (List Arc)} (h : inst_pick_api_Arc l1 atv1 = some r) (p1 : SlF fA (PH.of w) v0 l1) (p2 : SlF (fI .i64) (PH.of w) v1 atv1) :
    Calls Tryz.prog 76 #[v0, v1] w fun e w' => ∃ v L, e = .returned v ∧ inst_pick_api_Arc_S r v L ∧ Ret w w' L := by
  obtain ⟨A1, c1, rfl, hs1⟩ := p1
  obtain ⟨A2, c2, rfl, hs2⟩ := p2
  unfold inst_pick_api_Arc at h
  refine enter_ Tryz.func76 rfl Tryz.ntmps76 rfl ?_
  iterate 5 (refine WP.sx tysOk rfl ⟨⟨⟩, ⟨⟩⟩ ?_)
  refine WP.own_nil 34 fA.z ?_
  refine WP.loop (α := Nat × Int × (List Arc) × (Option Addr) × Nat × Nat) (fun x => lp (inst_pick_api_Arc_b1 l1 atv1) x.1 (x.2.1, x.2.2.1) = some r ∧ OwF x.2.2.2.1 x.2.2.2.2.1 x.2.2.1) (fun x => [(0, .slice A1 l1.length c1), (5, .slice x.2.2.2.1 x.2.2.2.2.1 x.2.2.2.2.2), (8, .slice A2 atv1.length c2), (9, iv (atv1.length : Int)), (10, iv x.2.1)]) (fun x => [Ow fA 34 x.2.2.2.1 x.2.2.2.2.1 x.2.2.2.2.2 x.2.2.1, .fz (PH.of w)]) (fun x => x.1) rfl (big, 0, ([] : List Arc), none, 0, 0) ⟨h, OwF.nil_⟩ ?_ ?_ ?_
  ·repeat first | exact ⟨⟩ | refine ⟨rfl, ?_⟩
  ·exact (.cons .head (.cons .head .nil))
  rintro ⟨n1, s3, xs6, A8, m2, c8⟩ ⟨h, hf10⟩
  dsimp only at h hf10 ⊢
  rcases n1 with _ | n1
  · exact (lp_no h).elim
  replace h := lp_succ h
  unfold inst_pick_api_Arc_b1 at h
  try dsimp only at h
  refine WP.sx tysOk rfl ⟨⟨⟩, ⟨⟩⟩ ?_
  refine WP.cond_d rfl rfl (fun hh5 => ?_) (fun hh5 => ?_)
  ·rw [if_pos hh5] at h
   obtain ⟨hj9, h⟩ := ck_some h
   refine WP.ixA tysOk rfl ⟨⟩ rfl rfl rfl rfl rfl rfl rfl rfl hj9 (hs2.ex hj9) ?_
   intro b9 b9v hA9
   refine WP.lx tysOk rfl ⟨⟩ (hs2.at0 hA9 (Held.mem (List.Mem.tail _ (List.Mem.head _))) hj9 rfl) ?_
   iterate 4 (refine WP.sx tysOk rfl ⟨⟨⟩, ⟨⟩⟩ ?_)
   obtain ⟨hj10, h⟩ := ck_some h
   refine WP.ixA tysOk rfl ⟨⟩ rfl rfl rfl rfl rfl rfl rfl rfl hj10 (hs1.ex hj10) ?_
   intro b10 b10v hA10
   refine WP.mx_ tysOk rfl ⟨⟩ (hs1.seg hA10 (Held.mem (List.Mem.tail _ (List.Mem.head _))) hj10) ?_
   refine WP.bsO (f := fA) [(gt l1 (gt atv1 s3))] tysOk rfl rfl rfl rfl rfl rfl rfl rfl rfl rfl rfl rfl rfl rfl ?_
   intro g5 hf11
   obtain ⟨hl5, h⟩ := ck_some h
   obtain ⟨xs7, hz5, h⟩ := lt_some h
   refine WP.appO (f := fA) (xs := xs6) (ys := [(gt l1 (gt atv1 s3))]) tysOk rfl rfl rfl rfl rfl rfl rfl rfl rfl rfl rfl rfl (.tail .head) hf10 hf11.len (OwS.app .head hf11) hl5 hz5 ?_
   intro A9 c9 hf12
   iterate 3 (refine WP.sx tysOk rfl ⟨⟨⟩, ⟨⟩⟩ ?_)
   refine WP.stop rfl (n1, w64 (s3 + 1), xs7, A9, xs7.length, c9) ⟨⟨h, hf12⟩, Nat.lt_succ_self _⟩ ?_ ?_
   ·repeat first | exact ⟨⟩ | refine ⟨rfl, ?_⟩
   exact (.cons .head (.cons (.tail .head) .nil))
  rw [if_neg hh5] at h
  iterate 2 (refine WP.sx tysOk rfl ⟨⟨⟩, ⟨⟩⟩ ?_)
  cases h
  refine WP.retR tysOk rfl rfl ⟨_, _, rfl, rfl, rfl⟩ (fun w1 hw1 => ⟨_, _, rfl, ⟨A8, m2, c8, rfl, hf10, rfl⟩, Ret.of_KH hw1 (.cons .head (.cons .head .nil))⟩)

set_option maxRecDepth 20000 in
set_option maxHeartbeats 8000000 in
theorem slices_Index_int_w {w : World} {v0 : Value} {s1 : List Int} {v1 : Int} {r : Int} (h : slices_Index_int s1 v1 = some r) (p1 : SlF (fI .i64) (PH.of w) v0 s1) :
    Calls Tryz.prog 77 #[v0, iv v1] w fun e w' => e = .returned (iv r) ∧ Below w.heap.size w w' := by
  obtain ⟨A1, c1, rfl, hs1⟩ := p1
  unfold slices_Index_int at h
  refine enter_ Tryz.func77 rfl Tryz.ntmps77 rfl ?_
  iterate 4 (refine WP.sx tysOk rfl ⟨⟨⟩, ⟨⟩⟩ ?_)
  refine WP.loop (α := Nat × Int) (fun x => lp (slices_Index_int_b1 s1 v1) x.1 x.2 = some r) (fun x => [(0, .slice A1 s1.length c1), (1, iv v1), (7, iv (s1.length : Int)), (8, iv x.2)]) (fun x => [.fz (PH.of w)]) (fun x => x.1) rfl (big, 0) h ?_ ?_ ?_
  ·repeat first | exact ⟨⟩ | refine ⟨rfl, ?_⟩
  ·exact (.cons .head .nil)
  rintro ⟨n1, s3⟩ h
  dsimp only at h ⊢
  rcases n1 with _ | n1
  · exact (lp_no h).elim
  replace h := lp_succ h
  unfold slices_Index_int_b1 at h
  try dsimp only at h
  refine WP.sx tysOk rfl ⟨⟨⟩, ⟨⟩⟩ ?_
  refine WP.cond_d rfl rfl (fun hh5 => ?_) (fun hh5 => ?_)
  ·rw [if_pos hh5] at h
   iterate 5 (refine WP.sx tysOk rfl ⟨⟨⟩, ⟨⟩⟩ ?_)
   obtain ⟨hj3, h⟩ := ck_some h
   refine WP.ixA tysOk rfl ⟨⟩ rfl rfl rfl rfl rfl rfl rfl rfl hj3 (hs1.ex hj3) ?_
   intro b3 b3v hA3
   refine WP.lx tysOk rfl ⟨⟩ (hs1.at0 hA3 (Held.mem (List.Mem.head _)) hj3 rfl) ?_
   refine WP.sx tysOk rfl ⟨⟨⟩, ⟨⟩⟩ ?_
   refine WP.cond_d rfl rfl (fun hh6 => ?_) (fun hh6 => ?_)
   ·rw [if_pos hh6] at h
    iterate 2 (refine WP.sx tysOk rfl ⟨⟨⟩, ⟨⟩⟩ ?_)
    cases h
    refine WP.retR tysOk rfl rfl ⟨_, _, rfl, rfl, rfl⟩ (fun w1 hw1 => ⟨rfl, Ret.below_ hw1 (.cons .head .nil)⟩)
   rw [if_neg hh6] at h
   iterate 2 (refine WP.sx tysOk rfl ⟨⟨⟩, ⟨⟩⟩ ?_)
   refine WP.stop rfl (n1, w64 (s3 + 1)) ⟨h, Nat.lt_succ_self _⟩ ?_ ?_
   ·repeat first | exact ⟨⟩ | refine ⟨rfl, ?_⟩
   exact (.cons .head .nil)
  rw [if_neg hh5] at h
  refine WP.sx tysOk rfl ⟨⟨⟩, ⟨⟩⟩ ?_
  cases h
  refine WP.retR tysOk rfl rfl ⟨_, _, rfl, rfl, rfl⟩ (fun w1 hw1 => ⟨rfl, Ret.below_ hw1 (.cons .head .nil)⟩)
end Go.Proofs.YtpnohbdfgmjdbaaGreat
