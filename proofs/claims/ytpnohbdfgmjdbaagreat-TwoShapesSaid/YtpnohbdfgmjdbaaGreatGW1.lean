/- The walks: the code computes that. -/
import Derived.Test.YtpnohbdfgmjdbaaGreatGD
import Derived.Test.YtpnohbdfgmjdbaaGreatTys
import Derived.Test.YtpnohbdfgmjdbaaGreatEngG
import Derived.KernelRfl
namespace Go.Proofs.YtpnohbdfgmjdbaaGreat
open Go.RowKit Go.Qe
set_option maxHeartbeats 4000000 in
theorem eq34 (x y : Arc) (w : World) : (Op.equalIn 10000 34 (.agg #[iv x.src, iv x.dst, iv x.low, iv x.cap, iv x.cost]) (.agg #[iv y.src, iv y.dst, iv y.low, iv y.cap, iv y.cost])).run Tryz.prog w = .ok (decide (x = y)) w := by
  rw [run_equalIn_struct w 9999 34 _ _ (by kernel_rfl) (by kernel_rfl)]
  have e : decide (x = y) = ((x.src == y.src) && ((x.dst == y.dst) && ((x.low == y.low) && ((x.cap == y.cap) && ((x.cost == y.cost)))))) := by
    cases x; cases y; rw [Bool.eq_iff_iff]; simp
  rw [e]
  have i2 : ∀ (a b : Int) (w : World), (Op.equalIn 9999 2 (.int .i64 a) (.int .i64 b)).run Tryz.prog w = .ok (a == b) w := fun a b w => run_equalIn_int w 9998 2 .i64 .i64 a b Tryz.underlying2
  have g2 : ∀ w : World, (isAgg 2).run Tryz.prog w = .ok false w := fun w => isAgg_run Tryz.underlying2 w
  have i3 : ∀ (a b : Int) (w : World), (Op.equalIn 9999 3 (.int .i64 a) (.int .i64 b)).run Tryz.prog w = .ok (a == b) w := fun a b w => run_equalIn_int w 9998 3 .i64 .i64 a b Tryz.underlying3
  have g3 : ∀ w : World, (isAgg 3).run Tryz.prog w = .ok false w := fun w => isAgg_run Tryz.underlying3 w
  simp [Program.fieldsOf, Op.eqFields, part, Tryz.underlying34, g2, i2, g3, i3]
  (repeat' split) <;> simp_all
set_option maxHeartbeats 4000000 in
theorem eq46 (x y : Wide) (w : World) : (Op.equalIn 10000 46 (.agg #[iv x.hi, .int .u64 (x.lo)]) (.agg #[iv y.hi, .int .u64 (y.lo)])).run Tryz.prog w = .ok (decide (x = y)) w := by
  rw [run_equalIn_struct w 9999 46 _ _ (by kernel_rfl) (by kernel_rfl)]
  have e : decide (x = y) = ((x.hi == y.hi) && ((x.lo == y.lo))) := by
    cases x; cases y; rw [Bool.eq_iff_iff]; simp
  rw [e]
  have i2 : ∀ (a b : Int) (w : World), (Op.equalIn 9999 2 (.int .i64 a) (.int .i64 b)).run Tryz.prog w = .ok (a == b) w := fun a b w => run_equalIn_int w 9998 2 .i64 .i64 a b Tryz.underlying2
  have g2 : ∀ w : World, (isAgg 2).run Tryz.prog w = .ok false w := fun w => isAgg_run Tryz.underlying2 w
  have i44 : ∀ (a b : Int) (w : World), (Op.equalIn 9999 44 (.int .u64 a) (.int .u64 b)).run Tryz.prog w = .ok (a == b) w := fun a b w => run_equalIn_int w 9998 44 .u64 .u64 a b Tryz.underlying44
  have g44 : ∀ w : World, (isAgg 44).run Tryz.prog w = .ok false w := fun w => isAgg_run Tryz.underlying44 w
  simp [Program.fieldsOf, Op.eqFields, part, Tryz.underlying46, g2, i2, g44, i44]
  (repeat' split) <;> simp_all
abbrev law18_One_S (r : Inst) : Value → Heap → Prop := fun v L => ∃ (A1 : Option Addr) (n1 c1 : Nat) (A2 : Option Addr) (n2 c2 : Nat), v = .agg #[.slice A1 n1 c1, .slice A2 n2 c2] ∧ OwF A1 n1 r.supply ∧ OwF A2 n2 r.arcs ∧ L = [Ow (fI .i64) 2 A1 n1 c1 r.supply, Ow fA 34 A2 n2 c2 r.arcs]
set_option maxRecDepth 20000 in
set_option maxHeartbeats 8000000 in
theorem law18_One_w {w : World} {d1 : Int} {i1 : Arc} {x1 : Arc} {x2 : Int} {x3 : Int} {x4 : Int} {r : Inst} (h : law18_One d1 i1 x1 x2 x3 x4 = some r) :
    Calls Tryz.prog 11 #[.int .u8 (d1), .agg #[iv i1.src, iv i1.dst, iv i1.low, iv i1.cap, iv i1.cost], .agg #[iv x1.src, iv x1.dst, iv x1.low, iv x1.cap, iv x1.cost], iv x2, iv x3, .int .u8 (x4)] w fun e w' => ∃ v L, e = .returned v ∧ law18_One_S r v L ∧ Ret w w' L := by
  unfold law18_One at h
  refine enter_ Tryz.func11 rfl Tryz.ntmps11 rfl ?_
  refine WP.box rfl rfl rfl rfl rfl rfl ?_
  intro g1
  refine WP.box rfl rfl rfl rfl rfl rfl ?_
  intro g2
  refine WP.al tysOk rfl rfl rfl rfl rfl rfl ?_
  intro g3
  refine WP.sx tysOk rfl ⟨⟨⟩, ⟨⟩⟩ ?_
  refine WP.lx tysOk rfl ⟨⟩ (CellAt.blk (.tail (.tail .head)) rfl) ?_
  refine WP.sx tysOk rfl ⟨⟨⟩, ⟨⟩⟩ ?_
  refine WP.lx tysOk rfl ⟨⟩ (CellAt.blk (.tail (.tail .head)) rfl) ?_
  refine WP.sx tysOk rfl ⟨⟨⟩, ⟨⟩⟩ ?_
  refine WP.lx tysOk rfl ⟨⟩ (CellAt.blk (.tail (.tail .head)) rfl) ?_
  refine WP.bld (cs := [iv 0, iv 1, iv i1.low, iv i1.cap, iv i1.cost]) tysOk rfl ⟨⟩ rfl rfl rfl rfl rfl rfl rfl ?_
  refine WP.al tysOk rfl rfl rfl rfl rfl rfl ?_
  intro g4
  refine WP.sto' tysOk [iv 0, iv 1, iv i1.low, iv i1.cap, iv i1.cost] rfl rfl rfl rfl rfl rfl rfl rfl rfl .head rfl rfl ?_
  refine WP.sx tysOk rfl ⟨⟨⟩, ⟨⟩⟩ ?_
  refine WP.lx tysOk rfl ⟨⟩ (CellAt.blk (.tail (.tail .head)) rfl) ?_
  refine WP.sx tysOk rfl ⟨⟨⟩, ⟨⟩⟩ ?_
  refine WP.lx tysOk rfl ⟨⟩ (CellAt.blk (.tail (.tail .head)) rfl) ?_
  refine WP.sx tysOk rfl ⟨⟨⟩, ⟨⟩⟩ ?_
  refine WP.lx tysOk rfl ⟨⟩ (CellAt.blk (.tail (.tail .head)) rfl) ?_
  refine WP.bld (cs := [iv 1, iv 2, iv x1.low, iv x1.cap, iv x1.cost]) tysOk rfl ⟨⟩ rfl rfl rfl rfl rfl rfl rfl ?_
  refine WP.al tysOk rfl rfl rfl rfl rfl rfl ?_
  intro g5
  refine WP.sto' tysOk [iv 1, iv 2, iv x1.low, iv x1.cap, iv x1.cost] rfl rfl rfl rfl rfl rfl rfl rfl rfl .head rfl rfl ?_
  refine WP.sx tysOk rfl ⟨⟨⟩, ⟨⟩⟩ ?_
  refine WP.sx tysOk rfl ⟨⟨⟩, (by decide)⟩ ?_
  refine WP.sx tysOk rfl ⟨⟨⟩, ⟨⟩⟩ ?_
  refine WP.cond_d rfl rfl (fun hh1 => ?_) (fun hh1 => ?_)
  ·rw [if_pos hh1] at h
   refine WP.sx tysOk rfl ⟨⟨⟩, ⟨⟩⟩ ?_
   refine WP.sto' tysOk [iv 1, iv 1, iv i1.low, iv i1.cap, iv i1.cost] rfl rfl rfl rfl rfl rfl rfl rfl rfl (.tail .head) rfl rfl ?_
   refine WP.sx tysOk rfl ⟨⟨⟩, ⟨⟩⟩ ?_
   refine WP.sto' tysOk [iv 1, iv 0, iv i1.low, iv i1.cap, iv i1.cost] rfl rfl rfl rfl rfl rfl rfl rfl rfl .head rfl rfl ?_
   refine WP.sx tysOk rfl ⟨⟨⟩, ⟨⟩⟩ ?_
   refine WP.sx tysOk rfl ⟨⟨⟩, (by decide)⟩ ?_
   refine WP.sx tysOk rfl ⟨⟨⟩, ⟨⟩⟩ ?_
   refine WP.cond_d rfl rfl (fun hh2 => ?_) (fun hh2 => ?_)
   ·rw [if_pos hh2] at h
    refine WP.sx tysOk rfl ⟨⟨⟩, ⟨⟩⟩ ?_
    refine WP.sto' tysOk [iv 2, iv 2, iv x1.low, iv x1.cap, iv x1.cost] rfl rfl rfl rfl rfl rfl rfl rfl rfl (.tail .head) rfl rfl ?_
    refine WP.sx tysOk rfl ⟨⟨⟩, ⟨⟩⟩ ?_
    refine WP.sto' tysOk [iv 2, iv 1, iv x1.low, iv x1.cap, iv x1.cost] rfl rfl rfl rfl rfl rfl rfl rfl rfl .head rfl rfl ?_
    refine WP.mx_ tysOk rfl ⟨⟩ (SegAt.blk' (.tail .head) rfl) ?_
    refine WP.mx_ tysOk rfl ⟨⟩ (SegAt.blk' .head rfl) ?_
    refine WP.bsO (f := fA) [(Arc.mk 1 0 i1.low i1.cap i1.cost), (Arc.mk 2 1 x1.low x1.cap x1.cost)] tysOk rfl rfl rfl rfl rfl rfl rfl rfl rfl rfl rfl rfl rfl rfl ?_
    intro g6 hf1
    iterate 2 (refine WP.sx tysOk rfl ⟨⟨⟩, ⟨⟩⟩ ?_)
    iterate 2 (refine WP.sx tysOk rfl ⟨⟨⟩, (by decide)⟩ ?_)
    refine WP.sx tysOk rfl ⟨⟨⟩, ⟨⟩⟩ ?_
    refine WP.cond_d rfl rfl (fun hh3 => ?_) (fun hh3 => ?_)
    ·rw [if_pos hh3] at h
     refine WP.mx_ tysOk rfl ⟨⟩ (SegAt.blk' (.tail .head) rfl) ?_
     refine WP.mx_ tysOk rfl ⟨⟩ (SegAt.blk' (.tail (.tail .head)) rfl) ?_
     refine WP.bsO (f := fA) [(Arc.mk 2 1 x1.low x1.cap x1.cost), (Arc.mk 1 0 i1.low i1.cap i1.cost)] tysOk rfl rfl rfl rfl rfl rfl rfl rfl rfl rfl rfl rfl rfl rfl ?_
     intro g7 hf2
     iterate 2 ((iterate 3 (refine WP.sx tysOk rfl ⟨⟨⟩, ⟨⟩⟩ ?_)); refine WP.sx tysOk rfl ⟨⟨⟩, (by decide)⟩ ?_)
     refine WP.sx tysOk rfl ⟨⟨⟩, (by decide)⟩ ?_
     iterate 4 (refine WP.sx tysOk rfl ⟨⟨⟩, ⟨⟩⟩ ?_)
     refine WP.bld (cs := [iv (w64 ((w64 (x4.tmod 2)) * 2)), iv (w64 ((w64 ((IntKind.wrap .u8 (x4.tdiv 2)).tmod 2)) * 2)), iv 0, iv 4611686018427387904, iv (w64 (x4))]) tysOk rfl ⟨⟩ rfl rfl rfl rfl rfl rfl rfl ?_
     refine WP.bsO (f := fA) [(Arc.mk (w64 ((w64 (x4.tmod 2)) * 2)) (w64 ((w64 ((IntKind.wrap .u8 (x4.tdiv 2)).tmod 2)) * 2)) 0 4611686018427387904 (w64 (x4)))] tysOk rfl rfl rfl rfl rfl rfl rfl rfl rfl rfl rfl rfl rfl rfl ?_
     intro g8 hf3
     obtain ⟨hl1, h⟩ := ck_some h
     obtain ⟨xs1, hz1, h⟩ := lt_some h
     refine WP.appO (f := fA) (xs := [(Arc.mk 2 1 x1.low x1.cap x1.cost), (Arc.mk 1 0 i1.low i1.cap i1.cost)]) (ys := [(Arc.mk (w64 ((w64 (x4.tmod 2)) * 2)) (w64 ((w64 ((IntKind.wrap .u8 (x4.tdiv 2)).tmod 2)) * 2)) 0 4611686018427387904 (w64 (x4)))]) tysOk rfl rfl rfl rfl rfl rfl rfl rfl rfl rfl rfl rfl (.tail .head) hf2 hf3.len (OwS.app .head hf3) hl1 hz1 ?_
     intro A1 c1 hf4
     iterate 2 (refine WP.sx tysOk rfl ⟨⟨⟩, ⟨⟩⟩ ?_)
     refine WP.bld (cs := [iv 2, iv 0, iv 0, iv 40, iv 1]) tysOk rfl ⟨⟩ rfl rfl rfl rfl rfl rfl rfl ?_
     refine WP.bld (cs := [iv 0, iv 2, iv 0, iv 40, iv 1]) tysOk rfl ⟨⟩ rfl rfl rfl rfl rfl rfl rfl ?_
     refine WP.bsO (f := fA) [(Arc.mk 2 0 0 40 1), (Arc.mk 0 2 0 40 1)] tysOk rfl rfl rfl rfl rfl rfl rfl rfl rfl rfl rfl rfl rfl rfl ?_
     intro g9 hf5
     obtain ⟨hl2, h⟩ := ck_some h
     obtain ⟨xs2, hz2, h⟩ := lt_some h
     refine WP.appO (f := fA) (xs := xs1) (ys := [(Arc.mk 2 0 0 40 1), (Arc.mk 0 2 0 40 1)]) tysOk rfl rfl rfl rfl rfl rfl rfl rfl rfl rfl rfl rfl (.tail .head) hf4 hf5.len (OwS.app .head hf5) hl2 hz2 ?_
     intro A2 c2 hf6
     iterate 7 (refine WP.sx tysOk rfl ⟨⟨⟩, ⟨⟩⟩ ?_)
     refine WP.bsO (f := (fI .i64)) [x3, x2, w64 ((w64 (0 - x3)) - x2)] tysOk rfl rfl rfl rfl rfl rfl rfl rfl rfl rfl rfl rfl rfl rfl ?_
     intro g10 hf7
     refine WP.sx tysOk rfl ⟨⟨⟩, ⟨⟩⟩ ?_
     refine WP.bld (cs := [.slice (some ⟨g10, 0, none⟩) 3 3, .slice A2 xs2.length c2]) tysOk rfl ⟨⟩ rfl rfl rfl rfl rfl rfl rfl ?_
     refine WP.sto' tysOk [.slice (some ⟨g10, 0, none⟩) 3 3, .slice A2 xs2.length c2] rfl rfl rfl rfl rfl rfl rfl rfl rfl (.tail (.tail (.tail (.tail (.tail (.tail (.tail .head))))))) rfl rfl ?_
     cases h
     refine WP.retR tysOk rfl rfl ⟨_, _, _, _, rfl, ⟨_, rfl, .inr ⟨rfl, _, rfl, rfl, (SegAt.blk' (z := 2) .head rfl).1⟩⟩, rfl, rfl⟩ (fun w1 hw1 => ⟨_, _, rfl, ⟨(some ⟨g10, 0, none⟩), 3, 3, A2, xs2.length, c2, rfl, hf7, hf6, rfl⟩, Ret.of_KH hw1 (.cons (.tail .head) (.cons (.tail .head) (.cons (.tail (.tail (.tail (.tail (.tail (.tail (.tail (.tail .head)))))))) .nil)))⟩)
    rw [if_neg hh3] at h
    iterate 2 (refine WP.sx tysOk rfl ⟨⟨⟩, ⟨⟩⟩ ?_)
    refine WP.sx tysOk rfl ⟨⟨⟩, (by decide)⟩ ?_
    iterate 3 (refine WP.sx tysOk rfl ⟨⟨⟩, ⟨⟩⟩ ?_)
    iterate 2 (refine WP.sx tysOk rfl ⟨⟨⟩, (by decide)⟩ ?_)
    iterate 4 (refine WP.sx tysOk rfl ⟨⟨⟩, ⟨⟩⟩ ?_)
    refine WP.bld (cs := [iv (w64 ((w64 (x4.tmod 2)) * 2)), iv (w64 ((w64 ((IntKind.wrap .u8 (x4.tdiv 2)).tmod 2)) * 2)), iv 0, iv 4611686018427387904, iv (w64 (x4))]) tysOk rfl ⟨⟩ rfl rfl rfl rfl rfl rfl rfl ?_
    refine WP.bsO (f := fA) [(Arc.mk (w64 ((w64 (x4.tmod 2)) * 2)) (w64 ((w64 ((IntKind.wrap .u8 (x4.tdiv 2)).tmod 2)) * 2)) 0 4611686018427387904 (w64 (x4)))] tysOk rfl rfl rfl rfl rfl rfl rfl rfl rfl rfl rfl rfl rfl rfl ?_
    intro g11 hf8
    obtain ⟨hl3, h⟩ := ck_some h
    obtain ⟨xs3, hz3, h⟩ := lt_some h
    refine WP.appO (f := fA) (xs := [(Arc.mk 1 0 i1.low i1.cap i1.cost), (Arc.mk 2 1 x1.low x1.cap x1.cost)]) (ys := [(Arc.mk (w64 ((w64 (x4.tmod 2)) * 2)) (w64 ((w64 ((IntKind.wrap .u8 (x4.tdiv 2)).tmod 2)) * 2)) 0 4611686018427387904 (w64 (x4)))]) tysOk rfl rfl rfl rfl rfl rfl rfl rfl rfl rfl rfl rfl (.tail .head) hf1 hf8.len (OwS.app .head hf8) hl3 hz3 ?_
    intro A3 c3 hf9
    iterate 2 (refine WP.sx tysOk rfl ⟨⟨⟩, ⟨⟩⟩ ?_)
    refine WP.bld (cs := [iv 2, iv 0, iv 0, iv 40, iv 1]) tysOk rfl ⟨⟩ rfl rfl rfl rfl rfl rfl rfl ?_
    refine WP.bld (cs := [iv 0, iv 2, iv 0, iv 40, iv 1]) tysOk rfl ⟨⟩ rfl rfl rfl rfl rfl rfl rfl ?_
    refine WP.bsO (f := fA) [(Arc.mk 2 0 0 40 1), (Arc.mk 0 2 0 40 1)] tysOk rfl rfl rfl rfl rfl rfl rfl rfl rfl rfl rfl rfl rfl rfl ?_
    intro g12 hf10
    obtain ⟨hl4, h⟩ := ck_some h
    obtain ⟨xs4, hz4, h⟩ := lt_some h
    refine WP.appO (f := fA) (xs := xs3) (ys := [(Arc.mk 2 0 0 40 1), (Arc.mk 0 2 0 40 1)]) tysOk rfl rfl rfl rfl rfl rfl rfl rfl rfl rfl rfl rfl (.tail .head) hf9 hf10.len (OwS.app .head hf10) hl4 hz4 ?_
    intro A4 c4 hf11
    iterate 7 (refine WP.sx tysOk rfl ⟨⟨⟩, ⟨⟩⟩ ?_)
    refine WP.bsO (f := (fI .i64)) [x3, x2, w64 ((w64 (0 - x3)) - x2)] tysOk rfl rfl rfl rfl rfl rfl rfl rfl rfl rfl rfl rfl rfl rfl ?_
    intro g13 hf12
    refine WP.sx tysOk rfl ⟨⟨⟩, ⟨⟩⟩ ?_
    refine WP.bld (cs := [.slice (some ⟨g13, 0, none⟩) 3 3, .slice A4 xs4.length c4]) tysOk rfl ⟨⟩ rfl rfl rfl rfl rfl rfl rfl ?_
    refine WP.sto' tysOk [.slice (some ⟨g13, 0, none⟩) 3 3, .slice A4 xs4.length c4] rfl rfl rfl rfl rfl rfl rfl rfl rfl (.tail (.tail (.tail (.tail (.tail (.tail .head)))))) rfl rfl ?_
    cases h
    refine WP.retR tysOk rfl rfl ⟨_, _, _, _, rfl, ⟨_, rfl, .inr ⟨rfl, _, rfl, rfl, (SegAt.blk' (z := 2) .head rfl).1⟩⟩, rfl, rfl⟩ (fun w1 hw1 => ⟨_, _, rfl, ⟨(some ⟨g13, 0, none⟩), 3, 3, A4, xs4.length, c4, rfl, hf12, hf11, rfl⟩, Ret.of_KH hw1 (.cons (.tail .head) (.cons (.tail .head) (.cons (.tail (.tail (.tail (.tail (.tail (.tail (.tail .head))))))) .nil)))⟩)
   rw [if_neg hh2] at h
   refine WP.mx_ tysOk rfl ⟨⟩ (SegAt.blk' .head rfl) ?_
   refine WP.mx_ tysOk rfl ⟨⟩ (SegAt.blk' (.tail .head) rfl) ?_
   refine WP.bsO (f := fA) [(Arc.mk 1 0 i1.low i1.cap i1.cost), (Arc.mk 1 2 x1.low x1.cap x1.cost)] tysOk rfl rfl rfl rfl rfl rfl rfl rfl rfl rfl rfl rfl rfl rfl ?_
   intro g14 hf13
   iterate 2 (refine WP.sx tysOk rfl ⟨⟨⟩, ⟨⟩⟩ ?_)
   iterate 2 (refine WP.sx tysOk rfl ⟨⟨⟩, (by decide)⟩ ?_)
   refine WP.sx tysOk rfl ⟨⟨⟩, ⟨⟩⟩ ?_
   refine WP.cond_d rfl rfl (fun hh4 => ?_) (fun hh4 => ?_)
   ·rw [if_pos hh4] at h
    refine WP.mx_ tysOk rfl ⟨⟩ (SegAt.blk' (.tail (.tail .head)) rfl) ?_
    refine WP.mx_ tysOk rfl ⟨⟩ (SegAt.blk' (.tail .head) rfl) ?_
    refine WP.bsO (f := fA) [(Arc.mk 1 2 x1.low x1.cap x1.cost), (Arc.mk 1 0 i1.low i1.cap i1.cost)] tysOk rfl rfl rfl rfl rfl rfl rfl rfl rfl rfl rfl rfl rfl rfl ?_
    intro g15 hf14
    iterate 2 ((iterate 3 (refine WP.sx tysOk rfl ⟨⟨⟩, ⟨⟩⟩ ?_)); refine WP.sx tysOk rfl ⟨⟨⟩, (by decide)⟩ ?_)
    refine WP.sx tysOk rfl ⟨⟨⟩, (by decide)⟩ ?_
    iterate 4 (refine WP.sx tysOk rfl ⟨⟨⟩, ⟨⟩⟩ ?_)
    refine WP.bld (cs := [iv (w64 ((w64 (x4.tmod 2)) * 2)), iv (w64 ((w64 ((IntKind.wrap .u8 (x4.tdiv 2)).tmod 2)) * 2)), iv 0, iv 4611686018427387904, iv (w64 (x4))]) tysOk rfl ⟨⟩ rfl rfl rfl rfl rfl rfl rfl ?_
    refine WP.bsO (f := fA) [(Arc.mk (w64 ((w64 (x4.tmod 2)) * 2)) (w64 ((w64 ((IntKind.wrap .u8 (x4.tdiv 2)).tmod 2)) * 2)) 0 4611686018427387904 (w64 (x4)))] tysOk rfl rfl rfl rfl rfl rfl rfl rfl rfl rfl rfl rfl rfl rfl ?_
    intro g16 hf15
    obtain ⟨hl5, h⟩ := ck_some h
    obtain ⟨xs5, hz5, h⟩ := lt_some h
    refine WP.appO (f := fA) (xs := [(Arc.mk 1 2 x1.low x1.cap x1.cost), (Arc.mk 1 0 i1.low i1.cap i1.cost)]) (ys := [(Arc.mk (w64 ((w64 (x4.tmod 2)) * 2)) (w64 ((w64 ((IntKind.wrap .u8 (x4.tdiv 2)).tmod 2)) * 2)) 0 4611686018427387904 (w64 (x4)))]) tysOk rfl rfl rfl rfl rfl rfl rfl rfl rfl rfl rfl rfl (.tail .head) hf14 hf15.len (OwS.app .head hf15) hl5 hz5 ?_
    intro A5 c5 hf16
    iterate 2 (refine WP.sx tysOk rfl ⟨⟨⟩, ⟨⟩⟩ ?_)
    refine WP.bld (cs := [iv 2, iv 0, iv 0, iv 40, iv 1]) tysOk rfl ⟨⟩ rfl rfl rfl rfl rfl rfl rfl ?_
    refine WP.bld (cs := [iv 0, iv 2, iv 0, iv 40, iv 1]) tysOk rfl ⟨⟩ rfl rfl rfl rfl rfl rfl rfl ?_
    refine WP.bsO (f := fA) [(Arc.mk 2 0 0 40 1), (Arc.mk 0 2 0 40 1)] tysOk rfl rfl rfl rfl rfl rfl rfl rfl rfl rfl rfl rfl rfl rfl ?_
    intro g17 hf17
    obtain ⟨hl6, h⟩ := ck_some h
    obtain ⟨xs6, hz6, h⟩ := lt_some h
    refine WP.appO (f := fA) (xs := xs5) (ys := [(Arc.mk 2 0 0 40 1), (Arc.mk 0 2 0 40 1)]) tysOk rfl rfl rfl rfl rfl rfl rfl rfl rfl rfl rfl rfl (.tail .head) hf16 hf17.len (OwS.app .head hf17) hl6 hz6 ?_
    intro A6 c6 hf18
    iterate 7 (refine WP.sx tysOk rfl ⟨⟨⟩, ⟨⟩⟩ ?_)
    refine WP.bsO (f := (fI .i64)) [x3, x2, w64 ((w64 (0 - x3)) - x2)] tysOk rfl rfl rfl rfl rfl rfl rfl rfl rfl rfl rfl rfl rfl rfl ?_
    intro g18 hf19
    refine WP.sx tysOk rfl ⟨⟨⟩, ⟨⟩⟩ ?_
    refine WP.bld (cs := [.slice (some ⟨g18, 0, none⟩) 3 3, .slice A6 xs6.length c6]) tysOk rfl ⟨⟩ rfl rfl rfl rfl rfl rfl rfl ?_
    refine WP.sto' tysOk [.slice (some ⟨g18, 0, none⟩) 3 3, .slice A6 xs6.length c6] rfl rfl rfl rfl rfl rfl rfl rfl rfl (.tail (.tail (.tail (.tail (.tail (.tail (.tail .head))))))) rfl rfl ?_
    cases h
    refine WP.retR tysOk rfl rfl ⟨_, _, _, _, rfl, ⟨_, rfl, .inr ⟨rfl, _, rfl, rfl, (SegAt.blk' (z := 2) .head rfl).1⟩⟩, rfl, rfl⟩ (fun w1 hw1 => ⟨_, _, rfl, ⟨(some ⟨g18, 0, none⟩), 3, 3, A6, xs6.length, c6, rfl, hf19, hf18, rfl⟩, Ret.of_KH hw1 (.cons (.tail .head) (.cons (.tail .head) (.cons (.tail (.tail (.tail (.tail (.tail (.tail (.tail (.tail .head)))))))) .nil)))⟩)
   rw [if_neg hh4] at h
   iterate 2 (refine WP.sx tysOk rfl ⟨⟨⟩, ⟨⟩⟩ ?_)
   refine WP.sx tysOk rfl ⟨⟨⟩, (by decide)⟩ ?_
   iterate 3 (refine WP.sx tysOk rfl ⟨⟨⟩, ⟨⟩⟩ ?_)
   iterate 2 (refine WP.sx tysOk rfl ⟨⟨⟩, (by decide)⟩ ?_)
   iterate 4 (refine WP.sx tysOk rfl ⟨⟨⟩, ⟨⟩⟩ ?_)
   refine WP.bld (cs := [iv (w64 ((w64 (x4.tmod 2)) * 2)), iv (w64 ((w64 ((IntKind.wrap .u8 (x4.tdiv 2)).tmod 2)) * 2)), iv 0, iv 4611686018427387904, iv (w64 (x4))]) tysOk rfl ⟨⟩ rfl rfl rfl rfl rfl rfl rfl ?_
   refine WP.bsO (f := fA) [(Arc.mk (w64 ((w64 (x4.tmod 2)) * 2)) (w64 ((w64 ((IntKind.wrap .u8 (x4.tdiv 2)).tmod 2)) * 2)) 0 4611686018427387904 (w64 (x4)))] tysOk rfl rfl rfl rfl rfl rfl rfl rfl rfl rfl rfl rfl rfl rfl ?_
   intro g19 hf20
   obtain ⟨hl7, h⟩ := ck_some h
   obtain ⟨xs7, hz7, h⟩ := lt_some h
   refine WP.appO (f := fA) (xs := [(Arc.mk 1 0 i1.low i1.cap i1.cost), (Arc.mk 1 2 x1.low x1.cap x1.cost)]) (ys := [(Arc.mk (w64 ((w64 (x4.tmod 2)) * 2)) (w64 ((w64 ((IntKind.wrap .u8 (x4.tdiv 2)).tmod 2)) * 2)) 0 4611686018427387904 (w64 (x4)))]) tysOk rfl rfl rfl rfl rfl rfl rfl rfl rfl rfl rfl rfl (.tail .head) hf13 hf20.len (OwS.app .head hf20) hl7 hz7 ?_
   intro A7 c7 hf21
   iterate 2 (refine WP.sx tysOk rfl ⟨⟨⟩, ⟨⟩⟩ ?_)
   refine WP.bld (cs := [iv 2, iv 0, iv 0, iv 40, iv 1]) tysOk rfl ⟨⟩ rfl rfl rfl rfl rfl rfl rfl ?_
   refine WP.bld (cs := [iv 0, iv 2, iv 0, iv 40, iv 1]) tysOk rfl ⟨⟩ rfl rfl rfl rfl rfl rfl rfl ?_
   refine WP.bsO (f := fA) [(Arc.mk 2 0 0 40 1), (Arc.mk 0 2 0 40 1)] tysOk rfl rfl rfl rfl rfl rfl rfl rfl rfl rfl rfl rfl rfl rfl ?_
   intro g20 hf22
   obtain ⟨hl8, h⟩ := ck_some h
   obtain ⟨xs8, hz8, h⟩ := lt_some h
   refine WP.appO (f := fA) (xs := xs7) (ys := [(Arc.mk 2 0 0 40 1), (Arc.mk 0 2 0 40 1)]) tysOk rfl rfl rfl rfl rfl rfl rfl rfl rfl rfl rfl rfl (.tail .head) hf21 hf22.len (OwS.app .head hf22) hl8 hz8 ?_
   intro A8 c8 hf23
   iterate 7 (refine WP.sx tysOk rfl ⟨⟨⟩, ⟨⟩⟩ ?_)
   refine WP.bsO (f := (fI .i64)) [x3, x2, w64 ((w64 (0 - x3)) - x2)] tysOk rfl rfl rfl rfl rfl rfl rfl rfl rfl rfl rfl rfl rfl rfl ?_
   intro g21 hf24
   refine WP.sx tysOk rfl ⟨⟨⟩, ⟨⟩⟩ ?_
   refine WP.bld (cs := [.slice (some ⟨g21, 0, none⟩) 3 3, .slice A8 xs8.length c8]) tysOk rfl ⟨⟩ rfl rfl rfl rfl rfl rfl rfl ?_
   refine WP.sto' tysOk [.slice (some ⟨g21, 0, none⟩) 3 3, .slice A8 xs8.length c8] rfl rfl rfl rfl rfl rfl rfl rfl rfl (.tail (.tail (.tail (.tail (.tail (.tail .head)))))) rfl rfl ?_
   cases h
   refine WP.retR tysOk rfl rfl ⟨_, _, _, _, rfl, ⟨_, rfl, .inr ⟨rfl, _, rfl, rfl, (SegAt.blk' (z := 2) .head rfl).1⟩⟩, rfl, rfl⟩ (fun w1 hw1 => ⟨_, _, rfl, ⟨(some ⟨g21, 0, none⟩), 3, 3, A8, xs8.length, c8, rfl, hf24, hf23, rfl⟩, Ret.of_KH hw1 (.cons (.tail .head) (.cons (.tail .head) (.cons (.tail (.tail (.tail (.tail (.tail (.tail (.tail .head))))))) .nil)))⟩)
  rw [if_neg hh1] at h
  refine WP.sx tysOk rfl ⟨⟨⟩, ⟨⟩⟩ ?_
  refine WP.sx tysOk rfl ⟨⟨⟩, (by decide)⟩ ?_
  refine WP.sx tysOk rfl ⟨⟨⟩, ⟨⟩⟩ ?_
  refine WP.cond_d rfl rfl (fun hh5 => ?_) (fun hh5 => ?_)
  ·rw [if_pos hh5] at h
   refine WP.sx tysOk rfl ⟨⟨⟩, ⟨⟩⟩ ?_
   refine WP.sto' tysOk [iv 2, iv 2, iv x1.low, iv x1.cap, iv x1.cost] rfl rfl rfl rfl rfl rfl rfl rfl rfl .head rfl rfl ?_
   refine WP.sx tysOk rfl ⟨⟨⟩, ⟨⟩⟩ ?_
   refine WP.sto' tysOk [iv 2, iv 1, iv x1.low, iv x1.cap, iv x1.cost] rfl rfl rfl rfl rfl rfl rfl rfl rfl .head rfl rfl ?_
   refine WP.mx_ tysOk rfl ⟨⟩ (SegAt.blk' (.tail .head) rfl) ?_
   refine WP.mx_ tysOk rfl ⟨⟩ (SegAt.blk' .head rfl) ?_
   refine WP.bsO (f := fA) [(Arc.mk 0 1 i1.low i1.cap i1.cost), (Arc.mk 2 1 x1.low x1.cap x1.cost)] tysOk rfl rfl rfl rfl rfl rfl rfl rfl rfl rfl rfl rfl rfl rfl ?_
   intro g22 hf25
   iterate 2 (refine WP.sx tysOk rfl ⟨⟨⟩, ⟨⟩⟩ ?_)
   iterate 2 (refine WP.sx tysOk rfl ⟨⟨⟩, (by decide)⟩ ?_)
   refine WP.sx tysOk rfl ⟨⟨⟩, ⟨⟩⟩ ?_
   refine WP.cond_d rfl rfl (fun hh6 => ?_) (fun hh6 => ?_)
   ·rw [if_pos hh6] at h
    refine WP.mx_ tysOk rfl ⟨⟩ (SegAt.blk' (.tail .head) rfl) ?_
    refine WP.mx_ tysOk rfl ⟨⟩ (SegAt.blk' (.tail (.tail .head)) rfl) ?_
    refine WP.bsO (f := fA) [(Arc.mk 2 1 x1.low x1.cap x1.cost), (Arc.mk 0 1 i1.low i1.cap i1.cost)] tysOk rfl rfl rfl rfl rfl rfl rfl rfl rfl rfl rfl rfl rfl rfl ?_
    intro g23 hf26
    iterate 2 ((iterate 3 (refine WP.sx tysOk rfl ⟨⟨⟩, ⟨⟩⟩ ?_)); refine WP.sx tysOk rfl ⟨⟨⟩, (by decide)⟩ ?_)
    refine WP.sx tysOk rfl ⟨⟨⟩, (by decide)⟩ ?_
    iterate 4 (refine WP.sx tysOk rfl ⟨⟨⟩, ⟨⟩⟩ ?_)
    refine WP.bld (cs := [iv (w64 ((w64 (x4.tmod 2)) * 2)), iv (w64 ((w64 ((IntKind.wrap .u8 (x4.tdiv 2)).tmod 2)) * 2)), iv 0, iv 4611686018427387904, iv (w64 (x4))]) tysOk rfl ⟨⟩ rfl rfl rfl rfl rfl rfl rfl ?_
    refine WP.bsO (f := fA) [(Arc.mk (w64 ((w64 (x4.tmod 2)) * 2)) (w64 ((w64 ((IntKind.wrap .u8 (x4.tdiv 2)).tmod 2)) * 2)) 0 4611686018427387904 (w64 (x4)))] tysOk rfl rfl rfl rfl rfl rfl rfl rfl rfl rfl rfl rfl rfl rfl ?_
    intro g24 hf27
    obtain ⟨hl9, h⟩ := ck_some h
    obtain ⟨xs9, hz9, h⟩ := lt_some h
    refine WP.appO (f := fA) (xs := [(Arc.mk 2 1 x1.low x1.cap x1.cost), (Arc.mk 0 1 i1.low i1.cap i1.cost)]) (ys := [(Arc.mk (w64 ((w64 (x4.tmod 2)) * 2)) (w64 ((w64 ((IntKind.wrap .u8 (x4.tdiv 2)).tmod 2)) * 2)) 0 4611686018427387904 (w64 (x4)))]) tysOk rfl rfl rfl rfl rfl rfl rfl rfl rfl rfl rfl rfl (.tail .head) hf26 hf27.len (OwS.app .head hf27) hl9 hz9 ?_
    intro A9 c9 hf28
    iterate 2 (refine WP.sx tysOk rfl ⟨⟨⟩, ⟨⟩⟩ ?_)
    refine WP.bld (cs := [iv 2, iv 0, iv 0, iv 40, iv 1]) tysOk rfl ⟨⟩ rfl rfl rfl rfl rfl rfl rfl ?_
    refine WP.bld (cs := [iv 0, iv 2, iv 0, iv 40, iv 1]) tysOk rfl ⟨⟩ rfl rfl rfl rfl rfl rfl rfl ?_
    refine WP.bsO (f := fA) [(Arc.mk 2 0 0 40 1), (Arc.mk 0 2 0 40 1)] tysOk rfl rfl rfl rfl rfl rfl rfl rfl rfl rfl rfl rfl rfl rfl ?_
    intro g25 hf29
    obtain ⟨hl10, h⟩ := ck_some h
    obtain ⟨xs10, hz10, h⟩ := lt_some h
    refine WP.appO (f := fA) (xs := xs9) (ys := [(Arc.mk 2 0 0 40 1), (Arc.mk 0 2 0 40 1)]) tysOk rfl rfl rfl rfl rfl rfl rfl rfl rfl rfl rfl rfl (.tail .head) hf28 hf29.len (OwS.app .head hf29) hl10 hz10 ?_
    intro A10 c10 hf30
    iterate 7 (refine WP.sx tysOk rfl ⟨⟨⟩, ⟨⟩⟩ ?_)
    refine WP.bsO (f := (fI .i64)) [x3, x2, w64 ((w64 (0 - x3)) - x2)] tysOk rfl rfl rfl rfl rfl rfl rfl rfl rfl rfl rfl rfl rfl rfl ?_
    intro g26 hf31
    refine WP.sx tysOk rfl ⟨⟨⟩, ⟨⟩⟩ ?_
    refine WP.bld (cs := [.slice (some ⟨g26, 0, none⟩) 3 3, .slice A10 xs10.length c10]) tysOk rfl ⟨⟩ rfl rfl rfl rfl rfl rfl rfl ?_
    refine WP.sto' tysOk [.slice (some ⟨g26, 0, none⟩) 3 3, .slice A10 xs10.length c10] rfl rfl rfl rfl rfl rfl rfl rfl rfl (.tail (.tail (.tail (.tail (.tail (.tail (.tail .head))))))) rfl rfl ?_
    cases h
    refine WP.retR tysOk rfl rfl ⟨_, _, _, _, rfl, ⟨_, rfl, .inr ⟨rfl, _, rfl, rfl, (SegAt.blk' (z := 2) .head rfl).1⟩⟩, rfl, rfl⟩ (fun w1 hw1 => ⟨_, _, rfl, ⟨(some ⟨g26, 0, none⟩), 3, 3, A10, xs10.length, c10, rfl, hf31, hf30, rfl⟩, Ret.of_KH hw1 (.cons (.tail .head) (.cons (.tail .head) (.cons (.tail (.tail (.tail (.tail (.tail (.tail (.tail (.tail .head)))))))) .nil)))⟩)
   rw [if_neg hh6] at h
   iterate 2 (refine WP.sx tysOk rfl ⟨⟨⟩, ⟨⟩⟩ ?_)
   refine WP.sx tysOk rfl ⟨⟨⟩, (by decide)⟩ ?_
   iterate 3 (refine WP.sx tysOk rfl ⟨⟨⟩, ⟨⟩⟩ ?_)
   iterate 2 (refine WP.sx tysOk rfl ⟨⟨⟩, (by decide)⟩ ?_)
   iterate 4 (refine WP.sx tysOk rfl ⟨⟨⟩, ⟨⟩⟩ ?_)
   refine WP.bld (cs := [iv (w64 ((w64 (x4.tmod 2)) * 2)), iv (w64 ((w64 ((IntKind.wrap .u8 (x4.tdiv 2)).tmod 2)) * 2)), iv 0, iv 4611686018427387904, iv (w64 (x4))]) tysOk rfl ⟨⟩ rfl rfl rfl rfl rfl rfl rfl ?_
   refine WP.bsO (f := fA) [(Arc.mk (w64 ((w64 (x4.tmod 2)) * 2)) (w64 ((w64 ((IntKind.wrap .u8 (x4.tdiv 2)).tmod 2)) * 2)) 0 4611686018427387904 (w64 (x4)))] tysOk rfl rfl rfl rfl rfl rfl rfl rfl rfl rfl rfl rfl rfl rfl ?_
   intro g27 hf32
   obtain ⟨hl11, h⟩ := ck_some h
   obtain ⟨xs11, hz11, h⟩ := lt_some h
   refine WP.appO (f := fA) (xs := [(Arc.mk 0 1 i1.low i1.cap i1.cost), (Arc.mk 2 1 x1.low x1.cap x1.cost)]) (ys := [(Arc.mk (w64 ((w64 (x4.tmod 2)) * 2)) (w64 ((w64 ((IntKind.wrap .u8 (x4.tdiv 2)).tmod 2)) * 2)) 0 4611686018427387904 (w64 (x4)))]) tysOk rfl rfl rfl rfl rfl rfl rfl rfl rfl rfl rfl rfl (.tail .head) hf25 hf32.len (OwS.app .head hf32) hl11 hz11 ?_
   intro A11 c11 hf33
   iterate 2 (refine WP.sx tysOk rfl ⟨⟨⟩, ⟨⟩⟩ ?_)
   refine WP.bld (cs := [iv 2, iv 0, iv 0, iv 40, iv 1]) tysOk rfl ⟨⟩ rfl rfl rfl rfl rfl rfl rfl ?_
   refine WP.bld (cs := [iv 0, iv 2, iv 0, iv 40, iv 1]) tysOk rfl ⟨⟩ rfl rfl rfl rfl rfl rfl rfl ?_
   refine WP.bsO (f := fA) [(Arc.mk 2 0 0 40 1), (Arc.mk 0 2 0 40 1)] tysOk rfl rfl rfl rfl rfl rfl rfl rfl rfl rfl rfl rfl rfl rfl ?_
   intro g28 hf34
   obtain ⟨hl12, h⟩ := ck_some h
   obtain ⟨xs12, hz12, h⟩ := lt_some h
   refine WP.appO (f := fA) (xs := xs11) (ys := [(Arc.mk 2 0 0 40 1), (Arc.mk 0 2 0 40 1)]) tysOk rfl rfl rfl rfl rfl rfl rfl rfl rfl rfl rfl rfl (.tail .head) hf33 hf34.len (OwS.app .head hf34) hl12 hz12 ?_
   intro A12 c12 hf35
   iterate 7 (refine WP.sx tysOk rfl ⟨⟨⟩, ⟨⟩⟩ ?_)
   refine WP.bsO (f := (fI .i64)) [x3, x2, w64 ((w64 (0 - x3)) - x2)] tysOk rfl rfl rfl rfl rfl rfl rfl rfl rfl rfl rfl rfl rfl rfl ?_
   intro g29 hf36
   refine WP.sx tysOk rfl ⟨⟨⟩, ⟨⟩⟩ ?_
   refine WP.bld (cs := [.slice (some ⟨g29, 0, none⟩) 3 3, .slice A12 xs12.length c12]) tysOk rfl ⟨⟩ rfl rfl rfl rfl rfl rfl rfl ?_
   refine WP.sto' tysOk [.slice (some ⟨g29, 0, none⟩) 3 3, .slice A12 xs12.length c12] rfl rfl rfl rfl rfl rfl rfl rfl rfl (.tail (.tail (.tail (.tail (.tail (.tail .head)))))) rfl rfl ?_
   cases h
   refine WP.retR tysOk rfl rfl ⟨_, _, _, _, rfl, ⟨_, rfl, .inr ⟨rfl, _, rfl, rfl, (SegAt.blk' (z := 2) .head rfl).1⟩⟩, rfl, rfl⟩ (fun w1 hw1 => ⟨_, _, rfl, ⟨(some ⟨g29, 0, none⟩), 3, 3, A12, xs12.length, c12, rfl, hf36, hf35, rfl⟩, Ret.of_KH hw1 (.cons (.tail .head) (.cons (.tail .head) (.cons (.tail (.tail (.tail (.tail (.tail (.tail (.tail .head))))))) .nil)))⟩)
  rw [if_neg hh5] at h
  refine WP.mx_ tysOk rfl ⟨⟩ (SegAt.blk' (.tail .head) rfl) ?_
  refine WP.mx_ tysOk rfl ⟨⟩ (SegAt.blk' .head rfl) ?_
  refine WP.bsO (f := fA) [(Arc.mk 0 1 i1.low i1.cap i1.cost), (Arc.mk 1 2 x1.low x1.cap x1.cost)] tysOk rfl rfl rfl rfl rfl rfl rfl rfl rfl rfl rfl rfl rfl rfl ?_
  intro g30 hf37
  iterate 2 (refine WP.sx tysOk rfl ⟨⟨⟩, ⟨⟩⟩ ?_)
  iterate 2 (refine WP.sx tysOk rfl ⟨⟨⟩, (by decide)⟩ ?_)
  refine WP.sx tysOk rfl ⟨⟨⟩, ⟨⟩⟩ ?_
  refine WP.cond_d rfl rfl (fun hh7 => ?_) (fun hh7 => ?_)
  ·rw [if_pos hh7] at h
   refine WP.mx_ tysOk rfl ⟨⟩ (SegAt.blk' (.tail .head) rfl) ?_
   refine WP.mx_ tysOk rfl ⟨⟩ (SegAt.blk' (.tail (.tail .head)) rfl) ?_
   refine WP.bsO (f := fA) [(Arc.mk 1 2 x1.low x1.cap x1.cost), (Arc.mk 0 1 i1.low i1.cap i1.cost)] tysOk rfl rfl rfl rfl rfl rfl rfl rfl rfl rfl rfl rfl rfl rfl ?_
   intro g31 hf38
   iterate 2 ((iterate 3 (refine WP.sx tysOk rfl ⟨⟨⟩, ⟨⟩⟩ ?_)); refine WP.sx tysOk rfl ⟨⟨⟩, (by decide)⟩ ?_)
   refine WP.sx tysOk rfl ⟨⟨⟩, (by decide)⟩ ?_
   iterate 4 (refine WP.sx tysOk rfl ⟨⟨⟩, ⟨⟩⟩ ?_)
   refine WP.bld (cs := [iv (w64 ((w64 (x4.tmod 2)) * 2)), iv (w64 ((w64 ((IntKind.wrap .u8 (x4.tdiv 2)).tmod 2)) * 2)), iv 0, iv 4611686018427387904, iv (w64 (x4))]) tysOk rfl ⟨⟩ rfl rfl rfl rfl rfl rfl rfl ?_
   refine WP.bsO (f := fA) [(Arc.mk (w64 ((w64 (x4.tmod 2)) * 2)) (w64 ((w64 ((IntKind.wrap .u8 (x4.tdiv 2)).tmod 2)) * 2)) 0 4611686018427387904 (w64 (x4)))] tysOk rfl rfl rfl rfl rfl rfl rfl rfl rfl rfl rfl rfl rfl rfl ?_
   intro g32 hf39
   obtain ⟨hl13, h⟩ := ck_some h
   obtain ⟨xs13, hz13, h⟩ := lt_some h
   refine WP.appO (f := fA) (xs := [(Arc.mk 1 2 x1.low x1.cap x1.cost), (Arc.mk 0 1 i1.low i1.cap i1.cost)]) (ys := [(Arc.mk (w64 ((w64 (x4.tmod 2)) * 2)) (w64 ((w64 ((IntKind.wrap .u8 (x4.tdiv 2)).tmod 2)) * 2)) 0 4611686018427387904 (w64 (x4)))]) tysOk rfl rfl rfl rfl rfl rfl rfl rfl rfl rfl rfl rfl (.tail .head) hf38 hf39.len (OwS.app .head hf39) hl13 hz13 ?_
   intro A13 c13 hf40
   iterate 2 (refine WP.sx tysOk rfl ⟨⟨⟩, ⟨⟩⟩ ?_)
   refine WP.bld (cs := [iv 2, iv 0, iv 0, iv 40, iv 1]) tysOk rfl ⟨⟩ rfl rfl rfl rfl rfl rfl rfl ?_
   refine WP.bld (cs := [iv 0, iv 2, iv 0, iv 40, iv 1]) tysOk rfl ⟨⟩ rfl rfl rfl rfl rfl rfl rfl ?_
   refine WP.bsO (f := fA) [(Arc.mk 2 0 0 40 1), (Arc.mk 0 2 0 40 1)] tysOk rfl rfl rfl rfl rfl rfl rfl rfl rfl rfl rfl rfl rfl rfl ?_
   intro g33 hf41
   obtain ⟨hl14, h⟩ := ck_some h
   obtain ⟨xs14, hz14, h⟩ := lt_some h
   refine WP.appO (f := fA) (xs := xs13) (ys := [(Arc.mk 2 0 0 40 1), (Arc.mk 0 2 0 40 1)]) tysOk rfl rfl rfl rfl rfl rfl rfl rfl rfl rfl rfl rfl (.tail .head) hf40 hf41.len (OwS.app .head hf41) hl14 hz14 ?_
   intro A14 c14 hf42
   iterate 7 (refine WP.sx tysOk rfl ⟨⟨⟩, ⟨⟩⟩ ?_)
   refine WP.bsO (f := (fI .i64)) [x3, x2, w64 ((w64 (0 - x3)) - x2)] tysOk rfl rfl rfl rfl rfl rfl rfl rfl rfl rfl rfl rfl rfl rfl ?_
   intro g34 hf43
   refine WP.sx tysOk rfl ⟨⟨⟩, ⟨⟩⟩ ?_
   refine WP.bld (cs := [.slice (some ⟨g34, 0, none⟩) 3 3, .slice A14 xs14.length c14]) tysOk rfl ⟨⟩ rfl rfl rfl rfl rfl rfl rfl ?_
   refine WP.sto' tysOk [.slice (some ⟨g34, 0, none⟩) 3 3, .slice A14 xs14.length c14] rfl rfl rfl rfl rfl rfl rfl rfl rfl (.tail (.tail (.tail (.tail (.tail (.tail (.tail .head))))))) rfl rfl ?_
   cases h
   refine WP.retR tysOk rfl rfl ⟨_, _, _, _, rfl, ⟨_, rfl, .inr ⟨rfl, _, rfl, rfl, (SegAt.blk' (z := 2) .head rfl).1⟩⟩, rfl, rfl⟩ (fun w1 hw1 => ⟨_, _, rfl, ⟨(some ⟨g34, 0, none⟩), 3, 3, A14, xs14.length, c14, rfl, hf43, hf42, rfl⟩, Ret.of_KH hw1 (.cons (.tail .head) (.cons (.tail .head) (.cons (.tail (.tail (.tail (.tail (.tail (.tail (.tail (.tail .head)))))))) .nil)))⟩)
  rw [if_neg hh7] at h
  iterate 2 (refine WP.sx tysOk rfl ⟨⟨⟩, ⟨⟩⟩ ?_)
  refine WP.sx tysOk rfl ⟨⟨⟩, (by decide)⟩ ?_
  iterate 3 (refine WP.sx tysOk rfl ⟨⟨⟩, ⟨⟩⟩ ?_)
  iterate 2 (refine WP.sx tysOk rfl ⟨⟨⟩, (by decide)⟩ ?_)
  iterate 4 (refine WP.sx tysOk rfl ⟨⟨⟩, ⟨⟩⟩ ?_)
  refine WP.bld (cs := [iv (w64 ((w64 (x4.tmod 2)) * 2)), iv (w64 ((w64 ((IntKind.wrap .u8 (x4.tdiv 2)).tmod 2)) * 2)), iv 0, iv 4611686018427387904, iv (w64 (x4))]) tysOk rfl ⟨⟩ rfl rfl rfl rfl rfl rfl rfl ?_
  refine WP.bsO (f := fA) [(Arc.mk (w64 ((w64 (x4.tmod 2)) * 2)) (w64 ((w64 ((IntKind.wrap .u8 (x4.tdiv 2)).tmod 2)) * 2)) 0 4611686018427387904 (w64 (x4)))] tysOk rfl rfl rfl rfl rfl rfl rfl rfl rfl rfl rfl rfl rfl rfl ?_
  intro g35 hf44
  obtain ⟨hl15, h⟩ := ck_some h
  obtain ⟨xs15, hz15, h⟩ := lt_some h
  refine WP.appO (f := fA) (xs := [(Arc.mk 0 1 i1.low i1.cap i1.cost), (Arc.mk 1 2 x1.low x1.cap x1.cost)]) (ys := [(Arc.mk (w64 ((w64 (x4.tmod 2)) * 2)) (w64 ((w64 ((IntKind.wrap .u8 (x4.tdiv 2)).tmod 2)) * 2)) 0 4611686018427387904 (w64 (x4)))]) tysOk rfl rfl rfl rfl rfl rfl rfl rfl rfl rfl rfl rfl (.tail .head) hf37 hf44.len (OwS.app .head hf44) hl15 hz15 ?_
  intro A15 c15 hf45
  iterate 2 (refine WP.sx tysOk rfl ⟨⟨⟩, ⟨⟩⟩ ?_)
  refine WP.bld (cs := [iv 2, iv 0, iv 0, iv 40, iv 1]) tysOk rfl ⟨⟩ rfl rfl rfl rfl rfl rfl rfl ?_
  refine WP.bld (cs := [iv 0, iv 2, iv 0, iv 40, iv 1]) tysOk rfl ⟨⟩ rfl rfl rfl rfl rfl rfl rfl ?_
  refine WP.bsO (f := fA) [(Arc.mk 2 0 0 40 1), (Arc.mk 0 2 0 40 1)] tysOk rfl rfl rfl rfl rfl rfl rfl rfl rfl rfl rfl rfl rfl rfl ?_
  intro g36 hf46
  obtain ⟨hl16, h⟩ := ck_some h
  obtain ⟨xs16, hz16, h⟩ := lt_some h
  refine WP.appO (f := fA) (xs := xs15) (ys := [(Arc.mk 2 0 0 40 1), (Arc.mk 0 2 0 40 1)]) tysOk rfl rfl rfl rfl rfl rfl rfl rfl rfl rfl rfl rfl (.tail .head) hf45 hf46.len (OwS.app .head hf46) hl16 hz16 ?_
  intro A16 c16 hf47
  iterate 7 (refine WP.sx tysOk rfl ⟨⟨⟩, ⟨⟩⟩ ?_)
  refine WP.bsO (f := (fI .i64)) [x3, x2, w64 ((w64 (0 - x3)) - x2)] tysOk rfl rfl rfl rfl rfl rfl rfl rfl rfl rfl rfl rfl rfl rfl ?_
  intro g37 hf48
  refine WP.sx tysOk rfl ⟨⟨⟩, ⟨⟩⟩ ?_
  refine WP.bld (cs := [.slice (some ⟨g37, 0, none⟩) 3 3, .slice A16 xs16.length c16]) tysOk rfl ⟨⟩ rfl rfl rfl rfl rfl rfl rfl ?_
  refine WP.sto' tysOk [.slice (some ⟨g37, 0, none⟩) 3 3, .slice A16 xs16.length c16] rfl rfl rfl rfl rfl rfl rfl rfl rfl (.tail (.tail (.tail (.tail (.tail (.tail .head)))))) rfl rfl ?_
  cases h
  refine WP.retR tysOk rfl rfl ⟨_, _, _, _, rfl, ⟨_, rfl, .inr ⟨rfl, _, rfl, rfl, (SegAt.blk' (z := 2) .head rfl).1⟩⟩, rfl, rfl⟩ (fun w1 hw1 => ⟨_, _, rfl, ⟨(some ⟨g37, 0, none⟩), 3, 3, A16, xs16.length, c16, rfl, hf48, hf47, rfl⟩, Ret.of_KH hw1 (.cons (.tail .head) (.cons (.tail .head) (.cons (.tail (.tail (.tail (.tail (.tail (.tail (.tail .head))))))) .nil)))⟩)

set_option maxRecDepth 20000 in
set_option maxHeartbeats 8000000 in
theorem law18_tame_w {w : World} {a1 : Arc} {r : Arc} (h : law18_tame a1 = some r) :
    Calls Tryz.prog 12 #[.agg #[iv a1.src, iv a1.dst, iv a1.low, iv a1.cap, iv a1.cost]] w fun e w' => e = .returned (.agg #[iv r.src, iv r.dst, iv r.low, iv r.cap, iv r.cost]) ∧ Below w.heap.size w w' := by
  unfold law18_tame at h
  refine enter_ Tryz.func12 rfl Tryz.ntmps12 rfl ?_
  refine WP.box rfl rfl rfl rfl rfl rfl ?_
  intro g1
  refine WP.al tysOk rfl rfl rfl rfl rfl rfl ?_
  intro g2
  refine WP.sx tysOk rfl ⟨⟨⟩, ⟨⟩⟩ ?_
  refine WP.lx tysOk rfl ⟨⟩ (CellAt.blk (.tail .head) rfl) ?_
  refine WP.sx tysOk rfl ⟨⟨⟩, (by decide)⟩ ?_
  refine WP.sx tysOk rfl ⟨⟨⟩, ⟨⟩⟩ ?_
  refine WP.sto' tysOk [iv a1.src, iv a1.dst, iv (a1.low.tmod 1000), iv a1.cap, iv a1.cost] rfl rfl rfl rfl rfl rfl rfl rfl rfl (.tail .head) rfl rfl ?_
  refine WP.sx tysOk rfl ⟨⟨⟩, ⟨⟩⟩ ?_
  refine WP.lx tysOk rfl ⟨⟩ (CellAt.blk .head rfl) ?_
  refine WP.sx tysOk rfl ⟨⟨⟩, ⟨⟩⟩ ?_
  refine WP.cond_d rfl rfl (fun hh1 => ?_) (fun hh1 => ?_)
  ·rw [if_pos hh1] at h
   refine WP.sx tysOk rfl ⟨⟨⟩, ⟨⟩⟩ ?_
   refine WP.lx tysOk rfl ⟨⟩ (CellAt.blk .head rfl) ?_
   iterate 2 (refine WP.sx tysOk rfl ⟨⟨⟩, ⟨⟩⟩ ?_)
   refine WP.sto' tysOk [iv a1.src, iv a1.dst, iv (w64 (0 - (a1.low.tmod 1000))), iv a1.cap, iv a1.cost] rfl rfl rfl rfl rfl rfl rfl rfl rfl .head rfl rfl ?_
   refine WP.sx tysOk rfl ⟨⟨⟩, ⟨⟩⟩ ?_
   refine WP.lx tysOk rfl ⟨⟩ (CellAt.blk .head rfl) ?_
   refine WP.sx tysOk rfl ⟨⟨⟩, (by decide)⟩ ?_
   refine WP.sx tysOk rfl ⟨⟨⟩, ⟨⟩⟩ ?_
   refine WP.cond_d rfl rfl (fun hh2 => ?_) (fun hh2 => ?_)
   ·rw [if_pos hh2] at h
    refine WP.sx tysOk rfl ⟨⟨⟩, ⟨⟩⟩ ?_
    refine WP.sto' tysOk [iv a1.src, iv a1.dst, iv (w64 (0 - (a1.low.tmod 1000))), iv 4611686018427387904, iv a1.cost] rfl rfl rfl rfl rfl rfl rfl rfl rfl .head rfl rfl ?_
    refine WP.sx tysOk rfl ⟨⟨⟩, ⟨⟩⟩ ?_
    refine WP.lx tysOk rfl ⟨⟩ (CellAt.blk .head rfl) ?_
    refine WP.sx tysOk rfl ⟨⟨⟩, (by decide)⟩ ?_
    refine WP.sx tysOk rfl ⟨⟨⟩, ⟨⟩⟩ ?_
    refine WP.sto' tysOk [iv a1.src, iv a1.dst, iv (w64 (0 - (a1.low.tmod 1000))), iv 4611686018427387904, iv (a1.cost.tmod 1000)] rfl rfl rfl rfl rfl rfl rfl rfl rfl .head rfl rfl ?_
    refine WP.mx_ tysOk rfl ⟨⟩ (SegAt.blk' .head rfl) ?_
    refine WP.sto' tysOk [iv a1.src, iv a1.dst, iv (w64 (0 - (a1.low.tmod 1000))), iv 4611686018427387904, iv (a1.cost.tmod 1000)] rfl rfl rfl rfl rfl rfl rfl rfl rfl (.tail .head) rfl rfl ?_
    cases h
    refine WP.retR tysOk rfl rfl ⟨_, _, _, _, rfl, ⟨_, rfl, .inr ⟨rfl, _, rfl, rfl, (SegAt.blk' (z := 5) .head rfl).1⟩⟩, rfl, rfl⟩ (fun w1 hw1 => ⟨rfl, Ret.below_ hw1 (.cons (.tail (.tail .head)) .nil)⟩)
   rw [if_neg hh2] at h
   refine WP.sx tysOk rfl ⟨⟨⟩, ⟨⟩⟩ ?_
   refine WP.lx tysOk rfl ⟨⟩ (CellAt.blk .head rfl) ?_
   refine WP.sx tysOk rfl ⟨⟨⟩, ⟨⟩⟩ ?_
   refine WP.lx tysOk rfl ⟨⟩ (CellAt.blk .head rfl) ?_
   refine WP.sx tysOk rfl ⟨⟨⟩, (by decide)⟩ ?_
   refine WP.sx tysOk rfl ⟨⟨⟩, ⟨⟩⟩ ?_
   refine WP.lx tysOk rfl ⟨⟩ (CellAt.blk .head rfl) ?_
   refine WP.sx tysOk rfl ⟨⟨⟩, (by decide)⟩ ?_
   refine WP.sx tysOk rfl ⟨⟨⟩, ⟨⟩⟩ ?_
   refine WP.mx rfl ⟨⟩ rfl rfl rfl rfl rfl rfl ?_
   iterate 2 (refine WP.sx tysOk rfl ⟨⟨⟩, ⟨⟩⟩ ?_)
   refine WP.sto' tysOk [iv a1.src, iv a1.dst, iv (w64 (0 - (a1.low.tmod 1000))), iv (w64 ((w64 (0 - (a1.low.tmod 1000))) + (if (w64 (0 - (a1.cap.tmod 1000))) > (a1.cap.tmod 1000) then w64 (0 - (a1.cap.tmod 1000)) else a1.cap.tmod 1000))), iv a1.cost] rfl rfl rfl rfl rfl rfl rfl rfl rfl .head rfl rfl ?_
   refine WP.sx tysOk rfl ⟨⟨⟩, ⟨⟩⟩ ?_
   refine WP.lx tysOk rfl ⟨⟩ (CellAt.blk .head rfl) ?_
   refine WP.sx tysOk rfl ⟨⟨⟩, (by decide)⟩ ?_
   refine WP.sx tysOk rfl ⟨⟨⟩, ⟨⟩⟩ ?_
   refine WP.sto' tysOk [iv a1.src, iv a1.dst, iv (w64 (0 - (a1.low.tmod 1000))), iv (w64 ((w64 (0 - (a1.low.tmod 1000))) + (if (w64 (0 - (a1.cap.tmod 1000))) > (a1.cap.tmod 1000) then w64 (0 - (a1.cap.tmod 1000)) else a1.cap.tmod 1000))), iv (a1.cost.tmod 1000)] rfl rfl rfl rfl rfl rfl rfl rfl rfl .head rfl rfl ?_
   refine WP.mx_ tysOk rfl ⟨⟩ (SegAt.blk' .head rfl) ?_
   refine WP.sto' tysOk [iv a1.src, iv a1.dst, iv (w64 (0 - (a1.low.tmod 1000))), iv (w64 ((w64 (0 - (a1.low.tmod 1000))) + (if (w64 (0 - (a1.cap.tmod 1000))) > (a1.cap.tmod 1000) then w64 (0 - (a1.cap.tmod 1000)) else a1.cap.tmod 1000))), iv (a1.cost.tmod 1000)] rfl rfl rfl rfl rfl rfl rfl rfl rfl (.tail .head) rfl rfl ?_
   cases h
   refine WP.retR tysOk rfl rfl ⟨_, _, _, _, rfl, ⟨_, rfl, .inr ⟨rfl, _, rfl, rfl, (SegAt.blk' (z := 5) .head rfl).1⟩⟩, rfl, rfl⟩ (fun w1 hw1 => ⟨rfl, Ret.below_ hw1 (.cons (.tail (.tail .head)) .nil)⟩)
  rw [if_neg hh1] at h
  refine WP.sx tysOk rfl ⟨⟨⟩, ⟨⟩⟩ ?_
  refine WP.lx tysOk rfl ⟨⟩ (CellAt.blk .head rfl) ?_
  refine WP.sx tysOk rfl ⟨⟨⟩, (by decide)⟩ ?_
  refine WP.sx tysOk rfl ⟨⟨⟩, ⟨⟩⟩ ?_
  refine WP.cond_d rfl rfl (fun hh3 => ?_) (fun hh3 => ?_)
  ·rw [if_pos hh3] at h
   refine WP.sx tysOk rfl ⟨⟨⟩, ⟨⟩⟩ ?_
   refine WP.sto' tysOk [iv a1.src, iv a1.dst, iv (a1.low.tmod 1000), iv 4611686018427387904, iv a1.cost] rfl rfl rfl rfl rfl rfl rfl rfl rfl .head rfl rfl ?_
   refine WP.sx tysOk rfl ⟨⟨⟩, ⟨⟩⟩ ?_
   refine WP.lx tysOk rfl ⟨⟩ (CellAt.blk .head rfl) ?_
   refine WP.sx tysOk rfl ⟨⟨⟩, (by decide)⟩ ?_
   refine WP.sx tysOk rfl ⟨⟨⟩, ⟨⟩⟩ ?_
   refine WP.sto' tysOk [iv a1.src, iv a1.dst, iv (a1.low.tmod 1000), iv 4611686018427387904, iv (a1.cost.tmod 1000)] rfl rfl rfl rfl rfl rfl rfl rfl rfl .head rfl rfl ?_
   refine WP.mx_ tysOk rfl ⟨⟩ (SegAt.blk' .head rfl) ?_
   refine WP.sto' tysOk [iv a1.src, iv a1.dst, iv (a1.low.tmod 1000), iv 4611686018427387904, iv (a1.cost.tmod 1000)] rfl rfl rfl rfl rfl rfl rfl rfl rfl (.tail .head) rfl rfl ?_
   cases h
   refine WP.retR tysOk rfl rfl ⟨_, _, _, _, rfl, ⟨_, rfl, .inr ⟨rfl, _, rfl, rfl, (SegAt.blk' (z := 5) .head rfl).1⟩⟩, rfl, rfl⟩ (fun w1 hw1 => ⟨rfl, Ret.below_ hw1 (.cons (.tail (.tail .head)) .nil)⟩)
  rw [if_neg hh3] at h
  refine WP.sx tysOk rfl ⟨⟨⟩, ⟨⟩⟩ ?_
  refine WP.lx tysOk rfl ⟨⟩ (CellAt.blk .head rfl) ?_
  refine WP.sx tysOk rfl ⟨⟨⟩, ⟨⟩⟩ ?_
  refine WP.lx tysOk rfl ⟨⟩ (CellAt.blk .head rfl) ?_
  refine WP.sx tysOk rfl ⟨⟨⟩, (by decide)⟩ ?_
  refine WP.sx tysOk rfl ⟨⟨⟩, ⟨⟩⟩ ?_
  refine WP.lx tysOk rfl ⟨⟩ (CellAt.blk .head rfl) ?_
  refine WP.sx tysOk rfl ⟨⟨⟩, (by decide)⟩ ?_
  refine WP.sx tysOk rfl ⟨⟨⟩, ⟨⟩⟩ ?_
  refine WP.mx rfl ⟨⟩ rfl rfl rfl rfl rfl rfl ?_
  iterate 2 (refine WP.sx tysOk rfl ⟨⟨⟩, ⟨⟩⟩ ?_)
  refine WP.sto' tysOk [iv a1.src, iv a1.dst, iv (a1.low.tmod 1000), iv (w64 ((a1.low.tmod 1000) + (if (w64 (0 - (a1.cap.tmod 1000))) > (a1.cap.tmod 1000) then w64 (0 - (a1.cap.tmod 1000)) else a1.cap.tmod 1000))), iv a1.cost] rfl rfl rfl rfl rfl rfl rfl rfl rfl .head rfl rfl ?_
  refine WP.sx tysOk rfl ⟨⟨⟩, ⟨⟩⟩ ?_
  refine WP.lx tysOk rfl ⟨⟩ (CellAt.blk .head rfl) ?_
  refine WP.sx tysOk rfl ⟨⟨⟩, (by decide)⟩ ?_
  refine WP.sx tysOk rfl ⟨⟨⟩, ⟨⟩⟩ ?_
  refine WP.sto' tysOk [iv a1.src, iv a1.dst, iv (a1.low.tmod 1000), iv (w64 ((a1.low.tmod 1000) + (if (w64 (0 - (a1.cap.tmod 1000))) > (a1.cap.tmod 1000) then w64 (0 - (a1.cap.tmod 1000)) else a1.cap.tmod 1000))), iv (a1.cost.tmod 1000)] rfl rfl rfl rfl rfl rfl rfl rfl rfl .head rfl rfl ?_
  refine WP.mx_ tysOk rfl ⟨⟩ (SegAt.blk' .head rfl) ?_
  refine WP.sto' tysOk [iv a1.src, iv a1.dst, iv (a1.low.tmod 1000), iv (w64 ((a1.low.tmod 1000) + (if (w64 (0 - (a1.cap.tmod 1000))) > (a1.cap.tmod 1000) then w64 (0 - (a1.cap.tmod 1000)) else a1.cap.tmod 1000))), iv (a1.cost.tmod 1000)] rfl rfl rfl rfl rfl rfl rfl rfl rfl (.tail .head) rfl rfl ?_
  cases h
  refine WP.retR tysOk rfl rfl ⟨_, _, _, _, rfl, ⟨_, rfl, .inr ⟨rfl, _, rfl, rfl, (SegAt.blk' (z := 5) .head rfl).1⟩⟩, rfl, rfl⟩ (fun w1 hw1 => ⟨rfl, Ret.below_ hw1 (.cons (.tail (.tail .head)) .nil)⟩)

set_option maxRecDepth 20000 in
set_option maxHeartbeats 8000000 in
theorem two_series_w {w : World} :
    Calls Tryz.prog 25 #[] w fun e w' => e = .returned (.agg #[iv 8, .func (.func 37) #[] #[], .func (.func 38) #[] #[], .func (.func 39) #[] #[]]) ∧ Below w.heap.size w w' := by
  refine enter_ Tryz.func25 rfl Tryz.ntmps25 rfl ?_
  refine WP.al tysOk rfl rfl rfl rfl rfl rfl ?_
  intro g1
  refine WP.bld (cs := [iv 8, .func (.func 37) #[] #[], .func (.func 38) #[] #[], .func (.func 39) #[] #[]]) tysOk rfl ⟨⟩ rfl rfl rfl rfl rfl rfl rfl ?_
  refine WP.sto' tysOk [iv 8, .func (.func 37) #[] #[], .func (.func 38) #[] #[], .func (.func 39) #[] #[]] rfl rfl rfl rfl rfl rfl rfl rfl rfl .head rfl rfl ?_
  refine WP.retR tysOk rfl rfl ⟨_, _, _, _, rfl, ⟨_, rfl, .inr ⟨rfl, _, rfl, rfl, (SegAt.blk' (z := 4) .head rfl).1⟩⟩, rfl, rfl⟩ (fun w1 hw1 => ⟨rfl, Ret.below_ hw1 (.cons (.tail .head) .nil)⟩)

set_option maxRecDepth 20000 in
set_option maxHeartbeats 8000000 in
theorem two_series_1_w {w : World} {x1 : Arc} {y1 : Arc} {n1 : Int} {r : Bool} (h : two_series_1 x1 y1 n1 = some r) :
    Calls Tryz.prog 37 #[.agg #[iv x1.src, iv x1.dst, iv x1.low, iv x1.cap, iv x1.cost], .agg #[iv y1.src, iv y1.dst, iv y1.low, iv y1.cap, iv y1.cost], iv n1] w fun e w' => e = .returned (.bool (r)) ∧ Below w.heap.size w w' := by
  unfold two_series_1 at h
  refine enter_ Tryz.func37 rfl Tryz.ntmps37 rfl ?_
  refine WP.box rfl rfl rfl rfl rfl rfl ?_
  intro g1
  refine WP.box rfl rfl rfl rfl rfl rfl ?_
  intro g2
  iterate 2 (refine WP.sx tysOk rfl ⟨⟨⟩, ⟨⟩⟩ ?_)
  refine WP.lx tysOk rfl ⟨⟩ (CellAt.blk (.tail .head) rfl) ?_
  iterate 3 (refine WP.sx tysOk rfl ⟨⟨⟩, ⟨⟩⟩ ?_)
  by_cases hh1 : x1.dst = n1
  ·rw [if_pos hh1] at h
   refine WP.yes rfl rfl (decide_eq_true hh1) ?_
   refine WP.sx tysOk rfl ⟨⟨⟩, ⟨⟩⟩ ?_
   refine WP.yes rfl rfl rfl ?_
   refine WP.lx tysOk rfl ⟨⟩ (CellAt.blk .head rfl) ?_
   refine WP.yes rfl rfl rfl ?_
   refine WP.sx tysOk rfl ⟨⟨⟩, ⟨⟩⟩ ?_
   refine WP.yes rfl rfl rfl ?_
   iterate 3 (refine WP.sx tysOk rfl ⟨⟨⟩, ⟨⟩⟩ ?_)
   cases h
   refine WP.retR tysOk rfl rfl ⟨_, _, rfl, rfl, rfl⟩ (fun w1 hw1 => ⟨rfl, Ret.below_ hw1 (.cons (.tail (.tail .head)) .nil)⟩)
  rw [if_neg hh1] at h
  refine WP.no rfl rfl (decide_eq_false hh1) rfl rfl ?_
  iterate 3 (refine WP.no rfl rfl rfl rfl rfl ?_)
  iterate 2 (refine WP.sx tysOk rfl ⟨⟨⟩, ⟨⟩⟩ ?_)
  cases h
  refine WP.retR tysOk rfl rfl ⟨_, _, rfl, rfl, rfl⟩ (fun w1 hw1 => ⟨rfl, Ret.below_ hw1 (.cons (.tail (.tail .head)) .nil)⟩)

set_option maxRecDepth 20000 in
set_option maxHeartbeats 8000000 in
theorem two_least_w {w : World} {a1 : Int} {b1 : Int} {s1 : Int} {r : Int} (h : two_least a1 b1 s1 = some r) :
    Calls Tryz.prog 60 #[iv a1, iv b1, iv s1] w fun e w' => e = .returned (iv r) ∧ Below w.heap.size w w' := by
  unfold two_least at h
  refine enter_ Tryz.func60 rfl Tryz.ntmps60 rfl ?_
  iterate 2 (refine WP.sx tysOk rfl ⟨⟨⟩, ⟨⟩⟩ ?_)
  by_cases hh1 : b1 = 4611686018427387904
  ·rw [if_pos hh1] at h
   refine WP.callV rfl rfl rfl rfl rfl rfl rfl (by kernel_rfl) (fun w1 hw1 => two_bound_nil hh1) ⟨⟩ ?_
   iterate 3 (refine WP.sx tysOk rfl ⟨⟨⟩, ⟨⟩⟩ ?_)
   refine WP.condF rfl rfl ?_
   iterate 2 (refine WP.sx tysOk rfl ⟨⟨⟩, ⟨⟩⟩ ?_)
   cases h
   refine WP.retR tysOk rfl rfl ⟨_, _, rfl, rfl, rfl⟩ (fun w1 hw1 => ⟨rfl, Ret.below_ hw1 (.cons .head .nil)⟩)
  rw [if_neg hh1] at h
  refine WP.callS (two_bound_S b1) rfl rfl rfl rfl rfl rfl rfl (by kernel_rfl) (fun w1 hw1 => two_bound_some hh1) ?_
  rintro _ _ ⟨g1, rfl, rfl⟩
  iterate 3 (refine WP.sx tysOk rfl ⟨⟨⟩, ⟨⟩⟩ ?_)
  refine WP.condT rfl rfl ?_
  iterate 3 (refine WP.sx tysOk rfl ⟨⟨⟩, ⟨⟩⟩ ?_)
  refine WP.lx tysOk rfl ⟨⟩ (CellAt.blk .head rfl) ?_
  iterate 2 (refine WP.sx tysOk rfl ⟨⟨⟩, ⟨⟩⟩ ?_)
  refine WP.mn rfl ⟨⟩ rfl rfl rfl rfl rfl rfl ?_
  refine WP.sx tysOk rfl ⟨⟨⟩, ⟨⟩⟩ ?_
  cases h
  refine WP.retR tysOk rfl rfl ⟨_, _, rfl, rfl, rfl⟩ (fun w1 hw1 => ⟨rfl, Ret.below_ hw1 (.cons (.tail .head) .nil)⟩)

set_option maxRecDepth 20000 in
set_option maxHeartbeats 8000000 in
theorem two_pair_chain_w {w : World} {p1 : Pair} {r : Arc} (h : two_pair_chain p1 = some r) :
    Calls Tryz.prog 38 #[.agg #[iv p1.x.src, iv p1.x.dst, iv p1.x.low, iv p1.x.cap, iv p1.x.cost, iv p1.y.src, iv p1.y.dst, iv p1.y.low, iv p1.y.cap, iv p1.y.cost, iv p1.n, iv p1.s]] w fun e w' => e = .returned (.agg #[iv r.src, iv r.dst, iv r.low, iv r.cap, iv r.cost]) ∧ Below w.heap.size w w' := by
  unfold two_pair_chain at h
  refine enter_ Tryz.func38 rfl Tryz.ntmps38 rfl ?_
  refine WP.box rfl rfl rfl rfl rfl rfl ?_
  intro g1
  refine WP.al tysOk rfl rfl rfl rfl rfl rfl ?_
  intro g2
  obtain ⟨r1, hg1, h⟩ := bind_some h
  refine WP.drawL 41 [(30, [], fun _ => constSpec (iv r1))] rfl (by kernel_rfl) (by kernel_rfl) (by kernel_rfl) ?_
  iterate 3 (refine WP.sx tysOk rfl ⟨⟨⟨rfl, rfl⟩, rfl⟩, ⟨⟩⟩ ?_)
  refine WP.lx tysOk rfl ⟨⟨rfl, rfl⟩, rfl⟩ (CellAt.blk (.tail .head) rfl) ?_
  iterate 3 (refine WP.sx tysOk rfl ⟨⟨⟨rfl, rfl⟩, rfl⟩, ⟨⟩⟩ ?_)
  refine WP.lx tysOk rfl ⟨⟨rfl, rfl⟩, rfl⟩ (CellAt.blk (.tail .head) rfl) ?_
  iterate 3 (refine WP.sx tysOk rfl ⟨⟨⟨rfl, rfl⟩, rfl⟩, ⟨⟩⟩ ?_)
  refine WP.lx tysOk rfl ⟨⟨rfl, rfl⟩, rfl⟩ (CellAt.blk (.tail .head) rfl) ?_
  iterate 3 (refine WP.sx tysOk rfl ⟨⟨⟨rfl, rfl⟩, rfl⟩, ⟨⟩⟩ ?_)
  refine WP.lx tysOk rfl ⟨⟨rfl, rfl⟩, rfl⟩ (CellAt.blk (.tail .head) rfl) ?_
  refine WP.sx tysOk rfl ⟨⟨⟨rfl, rfl⟩, rfl⟩, ⟨⟩⟩ ?_
  refine WP.lx tysOk rfl ⟨⟨rfl, rfl⟩, rfl⟩ (CellAt.blk (.tail .head) rfl) ?_
  refine WP.sx tysOk rfl ⟨⟨⟨rfl, rfl⟩, rfl⟩, ⟨⟩⟩ ?_
  refine WP.mx rfl ⟨⟨rfl, rfl⟩, rfl⟩ rfl rfl rfl rfl rfl rfl ?_
  iterate 3 (refine WP.sx tysOk rfl ⟨⟨⟨rfl, rfl⟩, rfl⟩, ⟨⟩⟩ ?_)
  refine WP.lx tysOk rfl ⟨⟨rfl, rfl⟩, rfl⟩ (CellAt.blk (.tail .head) rfl) ?_
  iterate 3 (refine WP.sx tysOk rfl ⟨⟨⟨rfl, rfl⟩, rfl⟩, ⟨⟩⟩ ?_)
  refine WP.lx tysOk rfl ⟨⟨rfl, rfl⟩, rfl⟩ (CellAt.blk (.tail .head) rfl) ?_
  refine WP.sx tysOk rfl ⟨⟨⟨rfl, rfl⟩, rfl⟩, ⟨⟩⟩ ?_
  refine WP.lx tysOk rfl ⟨⟨rfl, rfl⟩, rfl⟩ (CellAt.blk (.tail .head) rfl) ?_
  refine WP.callV rfl rfl rfl rfl rfl rfl rfl (by kernel_rfl) (fun w1 hw1 => (two_least_w hg1  :)) ⟨⟨rfl, rfl⟩, rfl⟩ ?_
  iterate 3 (refine WP.sx tysOk rfl ⟨⟨⟨rfl, rfl⟩, rfl⟩, ⟨⟩⟩ ?_)
  refine WP.lx tysOk rfl ⟨⟨rfl, rfl⟩, rfl⟩ (CellAt.blk (.tail .head) rfl) ?_
  iterate 3 (refine WP.sx tysOk rfl ⟨⟨⟨rfl, rfl⟩, rfl⟩, ⟨⟩⟩ ?_)
  refine WP.lx tysOk rfl ⟨⟨rfl, rfl⟩, rfl⟩ (CellAt.blk (.tail .head) rfl) ?_
  refine WP.sx tysOk rfl ⟨⟨⟨rfl, rfl⟩, rfl⟩, ⟨⟩⟩ ?_
  refine WP.bld (cs := [iv p1.x.src, iv p1.y.dst, iv (if (w64 (p1.y.low - p1.s)) > p1.x.low then w64 (p1.y.low - p1.s) else p1.x.low), iv r1, iv (w64 (p1.x.cost + p1.y.cost))]) tysOk rfl ⟨⟨rfl, rfl⟩, rfl⟩ rfl rfl rfl rfl rfl rfl rfl ?_
  refine WP.lend rfl ⟨rfl, rfl⟩ ?_
  refine WP.sto' tysOk [iv p1.x.src, iv p1.y.dst, iv (if (w64 (p1.y.low - p1.s)) > p1.x.low then w64 (p1.y.low - p1.s) else p1.x.low), iv r1, iv (w64 (p1.x.cost + p1.y.cost))] rfl rfl rfl rfl rfl rfl rfl rfl rfl .head rfl rfl ?_
  cases h
  refine WP.retR tysOk rfl rfl ⟨_, _, _, _, rfl, ⟨_, rfl, .inr ⟨rfl, _, rfl, rfl, (SegAt.blk' (z := 5) .head rfl).1⟩⟩, rfl, rfl⟩ (fun w1 hw1 => ⟨rfl, Ret.below_ hw1 (.cons (.tail (.tail .head)) .nil)⟩)

set_option maxRecDepth 20000 in
set_option maxHeartbeats 8000000 in
theorem two_shape_at_1_w {w : World} {v0 : Value} {v1 : Value} {i1 : Inst} {x1 : Inst} {x2 : Int} {r : Spot × Pair × Bool} (h : two_shape_at_1 i1 x1 x2 = some r) (p1 : GraphZ (PH.of w) v0 i1) (p2 : InsZ (PH.of w) v1 x1) :
    Calls Tryz.prog 26 #[.agg #[iv 8, .func (.func 37) #[] #[], .func (.func 38) #[] #[], .func (.func 39) #[] #[]], v0, v1, iv x2] w fun e w' => e = .returned (.tuple #[.agg #[iv r.1.node, iv r.1.a, iv r.1.b, iv r.1.new.src, iv r.1.new.dst, iv r.1.new.low, iv r.1.new.cap, iv r.1.new.cost], .agg #[iv r.2.1.x.src, iv r.2.1.x.dst, iv r.2.1.x.low, iv r.2.1.x.cap, iv r.2.1.x.cost, iv r.2.1.y.src, iv r.2.1.y.dst, iv r.2.1.y.low, iv r.2.1.y.cap, iv r.2.1.y.cost, iv r.2.1.n, iv r.2.1.s], .bool (r.2.2)]) ∧ Below w.heap.size w w' := by
  obtain ⟨gg1, rfl⟩ := p1.ptr'
  obtain ⟨A1, c1, A2, c2, rfl, hs1, hs2⟩ := p2
  unfold two_shape_at_1 at h
  refine enter_ Tryz.func26 rfl Tryz.ntmps26 rfl ?_
  refine WP.box rfl rfl rfl rfl rfl rfl ?_
  intro g1
  refine WP.box rfl rfl rfl rfl rfl rfl ?_
  intro g2
  refine WP.al tysOk rfl rfl rfl rfl rfl rfl ?_
  intro g3
  refine WP.al tysOk rfl rfl rfl rfl rfl rfl ?_
  intro g4
  iterate 3 (refine WP.sx tysOk rfl ⟨⟨⟩, ⟨⟩⟩ ?_)
  obtain ⟨r1, hg1, h⟩ := bind_some h
  refine WP.callS (adj_Graph_At_S r1) rfl rfl rfl rfl rfl rfl rfl (by kernel_rfl) (fun w1 hw1 => (adj_Graph_At_w hg1 (p1.le ((Held.mem (List.Mem.tail _ (List.Mem.tail _ (List.Mem.tail _ (List.Mem.tail _ (List.Mem.head _)))))) _ _ hw1)) :)) ?_
  rintro _ _ ⟨A3, n1, c3, rfl, hf1, rfl⟩
  iterate 2 (refine WP.sx tysOk rfl ⟨⟨⟩, ⟨⟩⟩ ?_)
  refine WP.lenO (xs := r1) tysOk rfl ⟨⟩ rfl rfl rfl rfl rfl rfl hf1 ?_
  iterate 2 (refine WP.sx tysOk rfl ⟨⟨⟩, ⟨⟩⟩ ?_)
  by_cases hh1 : ¬ (r1.length : Int) = 2
  ·rw [if_pos hh1] at h
   refine WP.no rfl rfl (decide_eq_true hh1) rfl rfl ?_
   iterate 3 (refine WP.no rfl rfl rfl rfl rfl ?_)
   refine WP.sx tysOk rfl ⟨⟨⟩, ⟨⟩⟩ ?_
   refine WP.condT rfl rfl ?_
   refine WP.bld (cs := [iv 0, iv 0, iv 0, iv 0, iv 0, iv 0, iv 0, iv 0]) tysOk rfl ⟨⟩ rfl rfl rfl rfl rfl rfl rfl ?_
   refine WP.bld (cs := [iv 0, iv 0, iv 0, iv 0, iv 0, iv 0, iv 0, iv 0, iv 0, iv 0, iv 0, iv 0]) tysOk rfl ⟨⟩ rfl rfl rfl rfl rfl rfl rfl ?_
   refine WP.sto' tysOk [iv 0, iv 0, iv 0, iv 0, iv 0, iv 0, iv 0, iv 0] rfl rfl rfl rfl rfl rfl rfl rfl rfl (.tail (.tail .head)) rfl rfl ?_
   refine WP.sto' tysOk [iv 0, iv 0, iv 0, iv 0, iv 0, iv 0, iv 0, iv 0, iv 0, iv 0, iv 0, iv 0] rfl rfl rfl rfl rfl rfl rfl rfl rfl (.tail (.tail .head)) rfl rfl ?_
   refine WP.sx tysOk rfl ⟨⟨⟩, ⟨⟩⟩ ?_
   cases h
   refine WP.retR tysOk rfl rfl ⟨_, _, _, _, rfl, ⟨_, rfl, .inr ⟨rfl, _, rfl, rfl, (SegAt.blk' (z := 8) (.tail .head) rfl).1⟩⟩, ⟨_, _, _, _, rfl, ⟨_, rfl, .inr ⟨rfl, _, rfl, rfl, (SegAt.blk' (z := 12) .head rfl).1⟩⟩, ⟨_, _, rfl, rfl, rfl⟩, rfl⟩, rfl⟩ (fun w1 hw1 => ⟨rfl, Ret.below_ hw1 (.cons (.tail (.tail (.tail (.tail (.tail .head))))) .nil)⟩)
  rw [if_neg hh1] at h
  refine WP.yes rfl rfl (decide_eq_false hh1) ?_
  iterate 2 (refine WP.sx tysOk rfl ⟨⟨⟩, ⟨⟩⟩ ?_; refine WP.yes rfl rfl rfl ?_)
  obtain ⟨r2, hg2, h⟩ := bind_some h
  refine WP.callV rfl rfl rfl rfl rfl rfl rfl (by kernel_rfl) (fun w1 hw1 => (adj_Graph_Loops_w hg2 (p1.le ((Held.mem (List.Mem.tail _ (List.Mem.tail _ (List.Mem.tail _ (List.Mem.tail _ (List.Mem.tail _ (List.Mem.head _))))))) _ _ hw1)) :)) ⟨⟩ ?_
  refine WP.yes rfl rfl rfl ?_
  iterate 2 (refine WP.sx tysOk rfl ⟨⟨⟩, ⟨⟩⟩ ?_)
  refine WP.cond_d rfl rfl (fun hh2 => ?_) (fun hh2 => ?_)
  ·rw [if_pos hh2] at h
   refine WP.bld (cs := [iv 0, iv 0, iv 0, iv 0, iv 0, iv 0, iv 0, iv 0]) tysOk rfl ⟨⟩ rfl rfl rfl rfl rfl rfl rfl ?_
   refine WP.bld (cs := [iv 0, iv 0, iv 0, iv 0, iv 0, iv 0, iv 0, iv 0, iv 0, iv 0, iv 0, iv 0]) tysOk rfl ⟨⟩ rfl rfl rfl rfl rfl rfl rfl ?_
   refine WP.sto' tysOk [iv 0, iv 0, iv 0, iv 0, iv 0, iv 0, iv 0, iv 0] rfl rfl rfl rfl rfl rfl rfl rfl rfl (.tail (.tail .head)) rfl rfl ?_
   refine WP.sto' tysOk [iv 0, iv 0, iv 0, iv 0, iv 0, iv 0, iv 0, iv 0, iv 0, iv 0, iv 0, iv 0] rfl rfl rfl rfl rfl rfl rfl rfl rfl (.tail (.tail .head)) rfl rfl ?_
   refine WP.sx tysOk rfl ⟨⟨⟩, ⟨⟩⟩ ?_
   cases h
   refine WP.retR tysOk rfl rfl ⟨_, _, _, _, rfl, ⟨_, rfl, .inr ⟨rfl, _, rfl, rfl, (SegAt.blk' (z := 8) (.tail .head) rfl).1⟩⟩, ⟨_, _, _, _, rfl, ⟨_, rfl, .inr ⟨rfl, _, rfl, rfl, (SegAt.blk' (z := 12) .head rfl).1⟩⟩, ⟨_, _, rfl, rfl, rfl⟩, rfl⟩, rfl⟩ (fun w1 hw1 => ⟨rfl, Ret.below_ hw1 (.cons (.tail (.tail (.tail (.tail (.tail .head))))) .nil)⟩)
  rw [if_neg hh2] at h
  refine WP.draw rfl (by kernel_rfl) (by kernel_rfl) ?_
  refine WP.sx tysOk rfl ⟨rfl, ⟨⟩⟩ ?_
  obtain ⟨hj1, h⟩ := ck_some h
  refine WP.ixO tysOk rfl rfl rfl rfl rfl rfl rfl rfl rfl rfl hf1 hj1 ?_
  intro b1 hA1
  refine WP.lx tysOk rfl rfl (OwS.at0 .head hA1 hj1 rfl) ?_
  refine WP.sx tysOk rfl ⟨rfl, ⟨⟩⟩ ?_
  obtain ⟨hj2, h⟩ := ck_some h
  refine WP.ixO tysOk rfl rfl rfl rfl rfl rfl rfl rfl rfl rfl hf1 hj2 ?_
  intro b2 hA2
  refine WP.lx tysOk rfl rfl (OwS.at0 .head hA2 hj2 rfl) ?_
  iterate 2 (refine WP.sx tysOk rfl ⟨rfl, ⟨⟩⟩ ?_)
  refine WP.qend rfl ?_
  obtain ⟨hj3, h⟩ := ck_some h
  obtain ⟨hj4, h⟩ := ck_some h
  obtain ⟨r3, hg3, h⟩ := bind_some h
  refine WP.drawL 15 [(13, [], fun _ => constSpec (.bool (r3)))] rfl (by kernel_rfl) (by kernel_rfl) (by kernel_rfl) ?_
  refine WP.sx tysOk rfl ⟨⟨⟨rfl, rfl⟩, rfl⟩, ⟨⟩⟩ ?_
  refine WP.lx tysOk rfl ⟨⟨rfl, rfl⟩, rfl⟩ (CellAt.blk (.tail (.tail (.tail (.tail .head)))) rfl) ?_
  refine WP.sx tysOk rfl ⟨⟨⟨rfl, rfl⟩, rfl⟩, ⟨⟩⟩ ?_
  refine WP.lx tysOk rfl ⟨⟨rfl, rfl⟩, rfl⟩ (CellAt.blk (.tail (.tail (.tail .head))) rfl) ?_
  refine WP.sx tysOk rfl ⟨⟨⟨rfl, rfl⟩, rfl⟩, ⟨⟩⟩ ?_
  refine WP.ixA tysOk rfl ⟨⟨rfl, rfl⟩, rfl⟩ rfl rfl rfl rfl rfl rfl rfl rfl hj3 (hs2.ex hj3) ?_
  intro b3 b3v hA3
  refine WP.mx_ tysOk rfl ⟨⟨rfl, rfl⟩, rfl⟩ (hs2.seg hA3 (Held.mem (List.Mem.tail _ (List.Mem.tail _ (List.Mem.tail _ (List.Mem.tail _ (List.Mem.tail _ (List.Mem.head _))))))) hj3) ?_
  refine WP.sx tysOk rfl ⟨⟨⟨rfl, rfl⟩, rfl⟩, ⟨⟩⟩ ?_
  refine WP.lx tysOk rfl ⟨⟨rfl, rfl⟩, rfl⟩ (CellAt.blk (.tail (.tail (.tail .head))) rfl) ?_
  refine WP.sx tysOk rfl ⟨⟨⟨rfl, rfl⟩, rfl⟩, ⟨⟩⟩ ?_
  refine WP.ixA tysOk rfl ⟨⟨rfl, rfl⟩, rfl⟩ rfl rfl rfl rfl rfl rfl rfl rfl hj4 (hs2.ex hj4) ?_
  intro b4 b4v hA4
  refine WP.mx_ tysOk rfl ⟨⟨rfl, rfl⟩, rfl⟩ (hs2.seg hA4 (Held.mem (List.Mem.tail _ (List.Mem.tail _ (List.Mem.tail _ (List.Mem.tail _ (List.Mem.tail _ (List.Mem.head _))))))) hj4) ?_
  refine WP.sx tysOk rfl ⟨⟨⟨rfl, rfl⟩, rfl⟩, ⟨⟩⟩ ?_
  refine WP.callV rfl rfl rfl rfl rfl rfl rfl (by kernel_rfl) (fun w1 hw1 => (two_series_1_w hg3  :)) ⟨⟨rfl, rfl⟩, rfl⟩ ?_
  refine WP.sx tysOk rfl ⟨⟨⟨rfl, rfl⟩, rfl⟩, ⟨⟩⟩ ?_
  refine WP.lend rfl ⟨rfl, rfl⟩ ?_
  refine WP.cond_n rfl rfl (fun hh3 => ?_) (fun hh3 => ?_)
  ·rw [if_neg (bneg hh3)] at h
   iterate 4 (refine WP.sx tysOk rfl ⟨⟨⟩, ⟨⟩⟩ ?_)
   obtain ⟨r4, hg4, h⟩ := bind_some h
   refine WP.drawL 15 [(13, [], fun _ => constSpec (.bool (r4)))] rfl (by kernel_rfl) (by kernel_rfl) (by kernel_rfl) ?_
   refine WP.sx tysOk rfl ⟨⟨⟨rfl, rfl⟩, rfl⟩, ⟨⟩⟩ ?_
   refine WP.lx tysOk rfl ⟨⟨rfl, rfl⟩, rfl⟩ (CellAt.blk (.tail (.tail (.tail (.tail .head)))) rfl) ?_
   refine WP.sx tysOk rfl ⟨⟨⟨rfl, rfl⟩, rfl⟩, ⟨⟩⟩ ?_
   refine WP.lx tysOk rfl ⟨⟨rfl, rfl⟩, rfl⟩ (CellAt.blk (.tail (.tail (.tail .head))) rfl) ?_
   refine WP.sx tysOk rfl ⟨⟨⟨rfl, rfl⟩, rfl⟩, ⟨⟩⟩ ?_
   refine WP.ixA tysOk rfl ⟨⟨rfl, rfl⟩, rfl⟩ rfl rfl rfl rfl rfl rfl rfl rfl hj4 (hs2.ex hj4) ?_
   intro b5 b5v hA5
   refine WP.mx_ tysOk rfl ⟨⟨rfl, rfl⟩, rfl⟩ (hs2.seg hA5 (Held.mem (List.Mem.tail _ (List.Mem.tail _ (List.Mem.tail _ (List.Mem.tail _ (List.Mem.tail _ (List.Mem.head _))))))) hj4) ?_
   refine WP.sx tysOk rfl ⟨⟨⟨rfl, rfl⟩, rfl⟩, ⟨⟩⟩ ?_
   refine WP.lx tysOk rfl ⟨⟨rfl, rfl⟩, rfl⟩ (CellAt.blk (.tail (.tail (.tail .head))) rfl) ?_
   refine WP.sx tysOk rfl ⟨⟨⟨rfl, rfl⟩, rfl⟩, ⟨⟩⟩ ?_
   refine WP.ixA tysOk rfl ⟨⟨rfl, rfl⟩, rfl⟩ rfl rfl rfl rfl rfl rfl rfl rfl hj3 (hs2.ex hj3) ?_
   intro b6 b6v hA6
   refine WP.mx_ tysOk rfl ⟨⟨rfl, rfl⟩, rfl⟩ (hs2.seg hA6 (Held.mem (List.Mem.tail _ (List.Mem.tail _ (List.Mem.tail _ (List.Mem.tail _ (List.Mem.tail _ (List.Mem.head _))))))) hj3) ?_
   refine WP.sx tysOk rfl ⟨⟨⟨rfl, rfl⟩, rfl⟩, ⟨⟩⟩ ?_
   refine WP.callV rfl rfl rfl rfl rfl rfl rfl (by kernel_rfl) (fun w1 hw1 => (two_series_1_w hg4  :)) ⟨⟨rfl, rfl⟩, rfl⟩ ?_
   refine WP.sx tysOk rfl ⟨⟨⟨rfl, rfl⟩, rfl⟩, ⟨⟩⟩ ?_
   refine WP.lend rfl ⟨rfl, rfl⟩ ?_
   refine WP.cond_n rfl rfl (fun hh4 => ?_) (fun hh4 => ?_)
   ·rw [if_neg (bneg hh4)] at h
    refine WP.bld (cs := [iv 0, iv 0, iv 0, iv 0, iv 0, iv 0, iv 0, iv 0]) tysOk rfl ⟨⟩ rfl rfl rfl rfl rfl rfl rfl ?_
    refine WP.bld (cs := [iv 0, iv 0, iv 0, iv 0, iv 0, iv 0, iv 0, iv 0, iv 0, iv 0, iv 0, iv 0]) tysOk rfl ⟨⟩ rfl rfl rfl rfl rfl rfl rfl ?_
    refine WP.sto' tysOk [iv 0, iv 0, iv 0, iv 0, iv 0, iv 0, iv 0, iv 0] rfl rfl rfl rfl rfl rfl rfl rfl rfl (.tail (.tail .head)) rfl rfl ?_
    refine WP.sto' tysOk [iv 0, iv 0, iv 0, iv 0, iv 0, iv 0, iv 0, iv 0, iv 0, iv 0, iv 0, iv 0] rfl rfl rfl rfl rfl rfl rfl rfl rfl (.tail (.tail .head)) rfl rfl ?_
    refine WP.sx tysOk rfl ⟨⟨⟩, ⟨⟩⟩ ?_
    cases h
    refine WP.retR tysOk rfl rfl ⟨_, _, _, _, rfl, ⟨_, rfl, .inr ⟨rfl, _, rfl, rfl, (SegAt.blk' (z := 8) (.tail .head) rfl).1⟩⟩, ⟨_, _, _, _, rfl, ⟨_, rfl, .inr ⟨rfl, _, rfl, rfl, (SegAt.blk' (z := 12) .head rfl).1⟩⟩, ⟨_, _, rfl, rfl, rfl⟩, rfl⟩, rfl⟩ (fun w1 hw1 => ⟨rfl, Ret.below_ hw1 (.cons (.tail (.tail (.tail (.tail (.tail .head))))) .nil)⟩)
   rw [if_pos hh4] at h
   obtain ⟨hj5, h⟩ := ck_some h
   refine WP.drawL 20 [(19, [], fun _ => blkSpec 66 [iv 0, iv 0, iv 0, iv 0, iv 0, iv 0, iv 0, iv 0, iv 0, iv 0, iv 0, iv 0])] rfl (by kernel_rfl) (by kernel_rfl) (by kernel_rfl) ?_
   refine WP.sx tysOk rfl ⟨⟨⟨rfl, rfl⟩, rfl⟩, ⟨⟩⟩ ?_
   refine WP.lx tysOk rfl ⟨⟨rfl, rfl⟩, rfl⟩ (CellAt.blk (.tail (.tail (.tail .head))) rfl) ?_
   refine WP.sx tysOk rfl ⟨⟨⟨rfl, rfl⟩, rfl⟩, ⟨⟩⟩ ?_
   refine WP.ixA tysOk rfl ⟨⟨rfl, rfl⟩, rfl⟩ rfl rfl rfl rfl rfl rfl rfl rfl hj4 (hs2.ex hj4) ?_
   intro b7 b7v hA7
   refine WP.mx_ tysOk rfl ⟨⟨rfl, rfl⟩, rfl⟩ (hs2.seg hA7 (Held.mem (List.Mem.tail _ (List.Mem.tail _ (List.Mem.tail _ (List.Mem.tail _ (List.Mem.tail _ (List.Mem.head _))))))) hj4) ?_
   refine WP.bld (cs := [iv ((gt x1.arcs (gt r1 1)).src), iv ((gt x1.arcs (gt r1 1)).dst), iv ((gt x1.arcs (gt r1 1)).low), iv ((gt x1.arcs (gt r1 1)).cap), iv ((gt x1.arcs (gt r1 1)).cost)]) tysOk rfl ⟨⟨rfl, rfl⟩, rfl⟩ rfl rfl rfl rfl rfl rfl rfl ?_
   refine WP.sx tysOk rfl ⟨⟨⟨rfl, rfl⟩, rfl⟩, ⟨⟩⟩ ?_
   refine WP.lx tysOk rfl ⟨⟨rfl, rfl⟩, rfl⟩ (CellAt.blk (.tail (.tail (.tail .head))) rfl) ?_
   refine WP.sx tysOk rfl ⟨⟨⟨rfl, rfl⟩, rfl⟩, ⟨⟩⟩ ?_
   refine WP.ixA tysOk rfl ⟨⟨rfl, rfl⟩, rfl⟩ rfl rfl rfl rfl rfl rfl rfl rfl hj3 (hs2.ex hj3) ?_
   intro b8 b8v hA8
   refine WP.mx_ tysOk rfl ⟨⟨rfl, rfl⟩, rfl⟩ (hs2.seg hA8 (Held.mem (List.Mem.tail _ (List.Mem.tail _ (List.Mem.tail _ (List.Mem.tail _ (List.Mem.tail _ (List.Mem.head _))))))) hj3) ?_
   refine WP.bld (cs := [iv ((gt x1.arcs (gt r1 0)).src), iv ((gt x1.arcs (gt r1 0)).dst), iv ((gt x1.arcs (gt r1 0)).low), iv ((gt x1.arcs (gt r1 0)).cap), iv ((gt x1.arcs (gt r1 0)).cost)]) tysOk rfl ⟨⟨rfl, rfl⟩, rfl⟩ rfl rfl rfl rfl rfl rfl rfl ?_
   iterate 2 (refine WP.sx tysOk rfl ⟨⟨⟨rfl, rfl⟩, rfl⟩, ⟨⟩⟩ ?_)
   refine WP.lx tysOk rfl ⟨⟨rfl, rfl⟩, rfl⟩ (CellAt.blk (.tail (.tail (.tail .head))) rfl) ?_
   refine WP.sx tysOk rfl ⟨⟨⟨rfl, rfl⟩, rfl⟩, ⟨⟩⟩ ?_
   refine WP.ixA tysOk rfl ⟨⟨rfl, rfl⟩, rfl⟩ rfl rfl rfl rfl rfl rfl rfl rfl hj5 (hs1.ex hj5) ?_
   intro b9 b9v hA9
   refine WP.lx tysOk rfl ⟨⟨rfl, rfl⟩, rfl⟩ (hs1.at0 hA9 (Held.mem (List.Mem.tail _ (List.Mem.tail _ (List.Mem.tail _ (List.Mem.tail _ (List.Mem.tail _ (List.Mem.head _))))))) hj5 rfl) ?_
   refine WP.bld (cs := [iv ((gt x1.arcs (gt r1 1)).src), iv ((gt x1.arcs (gt r1 1)).dst), iv ((gt x1.arcs (gt r1 1)).low), iv ((gt x1.arcs (gt r1 1)).cap), iv ((gt x1.arcs (gt r1 1)).cost), iv ((gt x1.arcs (gt r1 0)).src), iv ((gt x1.arcs (gt r1 0)).dst), iv ((gt x1.arcs (gt r1 0)).low), iv ((gt x1.arcs (gt r1 0)).cap), iv ((gt x1.arcs (gt r1 0)).cost), iv x2, iv (gt x1.supply x2)]) tysOk rfl ⟨⟨rfl, rfl⟩, rfl⟩ rfl rfl rfl rfl rfl rfl rfl ?_
   refine WP.lal tysOk rfl ⟨rfl, rfl⟩ rfl rfl rfl rfl rfl rfl rfl ?_
   intro g5
   refine WP.lend rfl ⟨rfl, rfl⟩ ?_
   refine WP.sto' tysOk [iv ((gt x1.arcs (gt r1 1)).src), iv ((gt x1.arcs (gt r1 1)).dst), iv ((gt x1.arcs (gt r1 1)).low), iv ((gt x1.arcs (gt r1 1)).cap), iv ((gt x1.arcs (gt r1 1)).cost), iv ((gt x1.arcs (gt r1 0)).src), iv ((gt x1.arcs (gt r1 0)).dst), iv ((gt x1.arcs (gt r1 0)).low), iv ((gt x1.arcs (gt r1 0)).cap), iv ((gt x1.arcs (gt r1 0)).cost), iv x2, iv (gt x1.supply x2)] rfl rfl rfl rfl rfl rfl rfl rfl rfl .head rfl rfl ?_
   refine WP.sx tysOk rfl ⟨⟨⟩, ⟨⟩⟩ ?_
   refine WP.lx tysOk rfl ⟨⟩ (CellAt.blk (.tail (.tail (.tail (.tail (.tail .head))))) rfl) ?_
   refine WP.mx_ tysOk rfl ⟨⟩ (SegAt.blk' .head rfl) ?_
   obtain ⟨r5, hg5, h⟩ := bind_some h
   refine WP.callV rfl rfl rfl rfl rfl rfl rfl (by kernel_rfl) (fun w1 hw1 => (two_pair_chain_w hg5  :)) ⟨⟩ ?_
   refine WP.al tysOk rfl rfl rfl rfl rfl rfl ?_
   intro g6
   refine WP.sto' tysOk [iv r5.src, iv r5.dst, iv r5.low, iv r5.cap, iv r5.cost] rfl rfl rfl rfl rfl rfl rfl rfl rfl .head rfl rfl ?_
   refine WP.sx tysOk rfl ⟨⟨⟩, ⟨⟩⟩ ?_
   refine WP.lx tysOk rfl ⟨⟩ (CellAt.blk .head rfl) ?_
   refine WP.sx tysOk rfl ⟨⟨⟩, ⟨⟩⟩ ?_
   refine WP.lx tysOk rfl ⟨⟩ (CellAt.blk .head rfl) ?_
   refine WP.sx tysOk rfl ⟨⟨⟩, ⟨⟩⟩ ?_
   refine WP.cond_d rfl rfl (fun hh5 => ?_) (fun hh5 => ?_)
   ·rw [if_pos hh5] at h
    refine WP.bld (cs := [iv 0, iv 0, iv 0, iv 0, iv 0, iv 0, iv 0, iv 0]) tysOk rfl ⟨⟩ rfl rfl rfl rfl rfl rfl rfl ?_
    refine WP.bld (cs := [iv 0, iv 0, iv 0, iv 0, iv 0, iv 0, iv 0, iv 0, iv 0, iv 0, iv 0, iv 0]) tysOk rfl ⟨⟩ rfl rfl rfl rfl rfl rfl rfl ?_
    refine WP.sto' tysOk [iv 0, iv 0, iv 0, iv 0, iv 0, iv 0, iv 0, iv 0] rfl rfl rfl rfl rfl rfl rfl rfl rfl (.tail (.tail (.tail (.tail .head)))) rfl rfl ?_
    refine WP.sto' tysOk [iv 0, iv 0, iv 0, iv 0, iv 0, iv 0, iv 0, iv 0, iv 0, iv 0, iv 0, iv 0] rfl rfl rfl rfl rfl rfl rfl rfl rfl (.tail (.tail (.tail (.tail .head)))) rfl rfl ?_
    refine WP.sx tysOk rfl ⟨⟨⟩, ⟨⟩⟩ ?_
    cases h
    refine WP.retR tysOk rfl rfl ⟨_, _, _, _, rfl, ⟨_, rfl, .inr ⟨rfl, _, rfl, rfl, (SegAt.blk' (z := 8) (.tail .head) rfl).1⟩⟩, ⟨_, _, _, _, rfl, ⟨_, rfl, .inr ⟨rfl, _, rfl, rfl, (SegAt.blk' (z := 12) .head rfl).1⟩⟩, ⟨_, _, rfl, rfl, rfl⟩, rfl⟩, rfl⟩ (fun w1 hw1 => ⟨rfl, Ret.below_ hw1 (.cons (.tail (.tail (.tail (.tail (.tail (.tail (.tail .head))))))) .nil)⟩)
   rw [if_neg hh5] at h
   refine WP.join (α := Unit) (fun x => True) (fun x => [(8, .pointer (some ⟨g3, 0, none⟩)), (9, .pointer (some ⟨g4, 0, none⟩)), (10, .bool (true))]) (fun x => [.blk g4 66 [iv ((gt x1.arcs (gt r1 1)).src), iv ((gt x1.arcs (gt r1 1)).dst), iv ((gt x1.arcs (gt r1 1)).low), iv ((gt x1.arcs (gt r1 1)).cap), iv ((gt x1.arcs (gt r1 1)).cost), iv ((gt x1.arcs (gt r1 0)).src), iv ((gt x1.arcs (gt r1 0)).dst), iv ((gt x1.arcs (gt r1 0)).low), iv ((gt x1.arcs (gt r1 0)).cap), iv ((gt x1.arcs (gt r1 0)).cost), iv x2, iv (gt x1.supply x2)], .blk g3 39 [iv x2, iv (gt r1 1), iv (gt r1 0), iv r5.src, iv r5.dst, iv r5.low, iv r5.cap, iv r5.cost], .blk g6 34 [iv r5.src, iv r5.dst, iv r5.low, iv r5.cap, iv r5.cost], .blk g5 66 [iv ((gt x1.arcs (gt r1 1)).src), iv ((gt x1.arcs (gt r1 1)).dst), iv ((gt x1.arcs (gt r1 1)).low), iv ((gt x1.arcs (gt r1 1)).cap), iv ((gt x1.arcs (gt r1 1)).cost), iv ((gt x1.arcs (gt r1 0)).src), iv ((gt x1.arcs (gt r1 0)).dst), iv ((gt x1.arcs (gt r1 0)).low), iv ((gt x1.arcs (gt r1 0)).cap), iv ((gt x1.arcs (gt r1 0)).cost), iv x2, iv (gt x1.supply x2)], Ow (fI .i64) 3 A3 n1 c3 r1, .blk g2 25 [.slice A1 x1.supply.length c1, .slice A2 x1.arcs.length c2], .blk g1 72 [iv 8, .func (.func 37) #[] #[], .func (.func 38) #[] #[], .func (.func 39) #[] #[]], .fz (PH.of w)]) rfl ?_ ?_
   ·refine WP.drawA rfl (by kernel_rfl) ?_
    refine WP.anyP 0 tysOk putInv_body rfl rfl rfl (by kernel_rfl) (by kernel_rfl) rfl rfl rfl rfl rfl True.intro ?_
    refine WP.anyP 1 tysOk putInv_body rfl rfl rfl (by kernel_rfl) (by kernel_rfl) rfl rfl rfl rfl rfl True.intro ?_
    refine WP.anyP 2 tysOk putInv_body rfl rfl rfl (by kernel_rfl) (by kernel_rfl) rfl rfl rfl rfl rfl True.intro ?_
    refine WP.any2 3 5 rfl (by kernel_rfl) rfl rfl ?_ ?_
    ·refine WP.mx_ tysOk rfl ⟨⟩ (SegAt.blk' .head rfl) ?_
     refine WP.any2 4 5 rfl (by kernel_rfl) rfl rfl ?_ ?_
     ·refine WP.bld (cs := [iv x2, iv (gt r1 1), iv (gt r1 0), iv r5.src, iv r5.dst, iv r5.low, iv r5.cap, iv r5.cost]) tysOk rfl ⟨⟩ rfl rfl rfl rfl rfl rfl rfl ?_
      refine WP.any2 5 6 rfl (by kernel_rfl) rfl rfl ?_ ?_
      ·refine WP.mx_ tysOk rfl ⟨⟩ (SegAt.blk' (.tail .head) rfl) ?_
       refine WP.any1 6 rfl (by kernel_rfl) rfl ?_
       refine WP.sto' tysOk [iv x2, iv (gt r1 1), iv (gt r1 0), iv r5.src, iv r5.dst, iv r5.low, iv r5.cap, iv r5.cost] rfl rfl rfl rfl rfl rfl rfl rfl rfl (.tail (.tail (.tail (.tail .head)))) rfl rfl ?_
       refine WP.any1 7 rfl (by kernel_rfl) rfl ?_
       refine WP.sto' tysOk [iv ((gt x1.arcs (gt r1 1)).src), iv ((gt x1.arcs (gt r1 1)).dst), iv ((gt x1.arcs (gt r1 1)).low), iv ((gt x1.arcs (gt r1 1)).cap), iv ((gt x1.arcs (gt r1 1)).cost), iv ((gt x1.arcs (gt r1 0)).src), iv ((gt x1.arcs (gt r1 0)).dst), iv ((gt x1.arcs (gt r1 0)).low), iv ((gt x1.arcs (gt r1 0)).cap), iv ((gt x1.arcs (gt r1 0)).cost), iv x2, iv (gt x1.supply x2)] rfl rfl rfl rfl rfl rfl rfl rfl rfl (.tail (.tail (.tail (.tail .head)))) rfl rfl ?_
       refine WP.anyP 8 tysOk putInv_body rfl rfl rfl (by kernel_rfl) (by kernel_rfl) rfl rfl rfl rfl rfl True.intro ?_
       refine WP.any0 rfl (by kernel_rfl) ?_
       refine WP.stop rfl () True.intro ?_ ?_
       ·repeat first | exact ⟨⟩ | refine ⟨rfl, ?_⟩
       exact (.cons .head (.cons .head (.cons .head (.cons .head (.cons .head (.cons .head (.cons .head (.cons .head .nil))))))))
      refine WP.sto' tysOk [iv x2, iv (gt r1 1), iv (gt r1 0), iv r5.src, iv r5.dst, iv r5.low, iv r5.cap, iv r5.cost] rfl rfl rfl rfl rfl rfl rfl rfl rfl (.tail (.tail (.tail (.tail .head)))) rfl rfl ?_
      refine WP.any1 5 rfl (by kernel_rfl) rfl ?_
      refine WP.mx_ tysOk rfl ⟨⟩ (SegAt.blk' (.tail (.tail .head)) rfl) ?_
      refine WP.any1 7 rfl (by kernel_rfl) rfl ?_
      refine WP.sto' tysOk [iv ((gt x1.arcs (gt r1 1)).src), iv ((gt x1.arcs (gt r1 1)).dst), iv ((gt x1.arcs (gt r1 1)).low), iv ((gt x1.arcs (gt r1 1)).cap), iv ((gt x1.arcs (gt r1 1)).cost), iv ((gt x1.arcs (gt r1 0)).src), iv ((gt x1.arcs (gt r1 0)).dst), iv ((gt x1.arcs (gt r1 0)).low), iv ((gt x1.arcs (gt r1 0)).cap), iv ((gt x1.arcs (gt r1 0)).cost), iv x2, iv (gt x1.supply x2)] rfl rfl rfl rfl rfl rfl rfl rfl rfl (.tail (.tail (.tail (.tail .head)))) rfl rfl ?_
      refine WP.anyP 8 tysOk putInv_body rfl rfl rfl (by kernel_rfl) (by kernel_rfl) rfl rfl rfl rfl rfl True.intro ?_
      refine WP.any0 rfl (by kernel_rfl) ?_
      refine WP.stop rfl () True.intro ?_ ?_
      ·repeat first | exact ⟨⟩ | refine ⟨rfl, ?_⟩
      exact (.cons .head (.cons .head (.cons .head (.cons .head (.cons .head (.cons .head (.cons .head (.cons .head .nil))))))))
     refine WP.mx_ tysOk rfl ⟨⟩ (SegAt.blk' (.tail .head) rfl) ?_
     refine WP.any1 4 rfl (by kernel_rfl) rfl ?_
     refine WP.bld (cs := [iv x2, iv (gt r1 1), iv (gt r1 0), iv r5.src, iv r5.dst, iv r5.low, iv r5.cap, iv r5.cost]) tysOk rfl ⟨⟩ rfl rfl rfl rfl rfl rfl rfl ?_
     refine WP.any1 6 rfl (by kernel_rfl) rfl ?_
     refine WP.sto' tysOk [iv x2, iv (gt r1 1), iv (gt r1 0), iv r5.src, iv r5.dst, iv r5.low, iv r5.cap, iv r5.cost] rfl rfl rfl rfl rfl rfl rfl rfl rfl (.tail (.tail (.tail (.tail .head)))) rfl rfl ?_
     refine WP.any1 7 rfl (by kernel_rfl) rfl ?_
     refine WP.sto' tysOk [iv ((gt x1.arcs (gt r1 1)).src), iv ((gt x1.arcs (gt r1 1)).dst), iv ((gt x1.arcs (gt r1 1)).low), iv ((gt x1.arcs (gt r1 1)).cap), iv ((gt x1.arcs (gt r1 1)).cost), iv ((gt x1.arcs (gt r1 0)).src), iv ((gt x1.arcs (gt r1 0)).dst), iv ((gt x1.arcs (gt r1 0)).low), iv ((gt x1.arcs (gt r1 0)).cap), iv ((gt x1.arcs (gt r1 0)).cost), iv x2, iv (gt x1.supply x2)] rfl rfl rfl rfl rfl rfl rfl rfl rfl (.tail (.tail (.tail (.tail .head)))) rfl rfl ?_
     refine WP.anyP 8 tysOk putInv_body rfl rfl rfl (by kernel_rfl) (by kernel_rfl) rfl rfl rfl rfl rfl True.intro ?_
     refine WP.any0 rfl (by kernel_rfl) ?_
     refine WP.stop rfl () True.intro ?_ ?_
     ·repeat first | exact ⟨⟩ | refine ⟨rfl, ?_⟩
     exact (.cons .head (.cons .head (.cons .head (.cons .head (.cons .head (.cons .head (.cons .head (.cons .head .nil))))))))
    refine WP.mx_ tysOk rfl ⟨⟩ (SegAt.blk' (.tail .head) rfl) ?_
    refine WP.any1 3 rfl (by kernel_rfl) rfl ?_
    refine WP.mx_ tysOk rfl ⟨⟩ (SegAt.blk' .head rfl) ?_
    refine WP.any1 4 rfl (by kernel_rfl) rfl ?_
    refine WP.bld (cs := [iv x2, iv (gt r1 1), iv (gt r1 0), iv r5.src, iv r5.dst, iv r5.low, iv r5.cap, iv r5.cost]) tysOk rfl ⟨⟩ rfl rfl rfl rfl rfl rfl rfl ?_
    refine WP.any1 6 rfl (by kernel_rfl) rfl ?_
    refine WP.sto' tysOk [iv x2, iv (gt r1 1), iv (gt r1 0), iv r5.src, iv r5.dst, iv r5.low, iv r5.cap, iv r5.cost] rfl rfl rfl rfl rfl rfl rfl rfl rfl (.tail (.tail (.tail (.tail .head)))) rfl rfl ?_
    refine WP.any1 7 rfl (by kernel_rfl) rfl ?_
    refine WP.sto' tysOk [iv ((gt x1.arcs (gt r1 1)).src), iv ((gt x1.arcs (gt r1 1)).dst), iv ((gt x1.arcs (gt r1 1)).low), iv ((gt x1.arcs (gt r1 1)).cap), iv ((gt x1.arcs (gt r1 1)).cost), iv ((gt x1.arcs (gt r1 0)).src), iv ((gt x1.arcs (gt r1 0)).dst), iv ((gt x1.arcs (gt r1 0)).low), iv ((gt x1.arcs (gt r1 0)).cap), iv ((gt x1.arcs (gt r1 0)).cost), iv x2, iv (gt x1.supply x2)] rfl rfl rfl rfl rfl rfl rfl rfl rfl (.tail (.tail (.tail (.tail .head)))) rfl rfl ?_
    refine WP.anyP 8 tysOk putInv_body rfl rfl rfl (by kernel_rfl) (by kernel_rfl) rfl rfl rfl rfl rfl True.intro ?_
    refine WP.any0 rfl (by kernel_rfl) ?_
    refine WP.stop rfl () True.intro ?_ ?_
    ·repeat first | exact ⟨⟩ | refine ⟨rfl, ?_⟩
    exact (.cons .head (.cons .head (.cons .head (.cons .head (.cons .head (.cons .head (.cons .head (.cons .head .nil))))))))
   rintro _ _
   cases h
   refine WP.retR tysOk rfl rfl ⟨_, _, _, _, rfl, ⟨_, rfl, .inr ⟨rfl, _, rfl, rfl, (SegAt.blk' (z := 8) (.tail .head) rfl).1⟩⟩, ⟨_, _, _, _, rfl, ⟨_, rfl, .inr ⟨rfl, _, rfl, rfl, (SegAt.blk' (z := 12) .head rfl).1⟩⟩, ⟨_, _, rfl, rfl, rfl⟩, rfl⟩, rfl⟩ (fun w1 hw1 => ⟨rfl, Ret.below_ hw1 (.cons (.tail (.tail (.tail (.tail (.tail (.tail (.tail .head))))))) .nil)⟩)
  rw [if_pos hh3] at h
  obtain ⟨r6, hg6, h⟩ := bind_some h
  refine WP.drawL 15 [(13, [], fun _ => constSpec (.bool (r6)))] rfl (by kernel_rfl) (by kernel_rfl) (by kernel_rfl) ?_
  refine WP.sx tysOk rfl ⟨⟨⟨rfl, rfl⟩, rfl⟩, ⟨⟩⟩ ?_
  refine WP.lx tysOk rfl ⟨⟨rfl, rfl⟩, rfl⟩ (CellAt.blk (.tail (.tail (.tail (.tail .head)))) rfl) ?_
  refine WP.sx tysOk rfl ⟨⟨⟨rfl, rfl⟩, rfl⟩, ⟨⟩⟩ ?_
  refine WP.lx tysOk rfl ⟨⟨rfl, rfl⟩, rfl⟩ (CellAt.blk (.tail (.tail (.tail .head))) rfl) ?_
  refine WP.sx tysOk rfl ⟨⟨⟨rfl, rfl⟩, rfl⟩, ⟨⟩⟩ ?_
  refine WP.ixA tysOk rfl ⟨⟨rfl, rfl⟩, rfl⟩ rfl rfl rfl rfl rfl rfl rfl rfl hj3 (hs2.ex hj3) ?_
  intro b10 b10v hA10
  refine WP.mx_ tysOk rfl ⟨⟨rfl, rfl⟩, rfl⟩ (hs2.seg hA10 (Held.mem (List.Mem.tail _ (List.Mem.tail _ (List.Mem.tail _ (List.Mem.tail _ (List.Mem.tail _ (List.Mem.head _))))))) hj3) ?_
  refine WP.sx tysOk rfl ⟨⟨⟨rfl, rfl⟩, rfl⟩, ⟨⟩⟩ ?_
  refine WP.lx tysOk rfl ⟨⟨rfl, rfl⟩, rfl⟩ (CellAt.blk (.tail (.tail (.tail .head))) rfl) ?_
  refine WP.sx tysOk rfl ⟨⟨⟨rfl, rfl⟩, rfl⟩, ⟨⟩⟩ ?_
  refine WP.ixA tysOk rfl ⟨⟨rfl, rfl⟩, rfl⟩ rfl rfl rfl rfl rfl rfl rfl rfl hj4 (hs2.ex hj4) ?_
  intro b11 b11v hA11
  refine WP.mx_ tysOk rfl ⟨⟨rfl, rfl⟩, rfl⟩ (hs2.seg hA11 (Held.mem (List.Mem.tail _ (List.Mem.tail _ (List.Mem.tail _ (List.Mem.tail _ (List.Mem.tail _ (List.Mem.head _))))))) hj4) ?_
  refine WP.sx tysOk rfl ⟨⟨⟨rfl, rfl⟩, rfl⟩, ⟨⟩⟩ ?_
  refine WP.callV rfl rfl rfl rfl rfl rfl rfl (by kernel_rfl) (fun w1 hw1 => (two_series_1_w hg6  :)) ⟨⟨rfl, rfl⟩, rfl⟩ ?_
  refine WP.sx tysOk rfl ⟨⟨⟨rfl, rfl⟩, rfl⟩, ⟨⟩⟩ ?_
  refine WP.lend rfl ⟨rfl, rfl⟩ ?_
  refine WP.cond_n rfl rfl (fun hh6 => ?_) (fun hh6 => ?_)
  ·rw [if_neg (bneg hh6)] at h
   refine WP.bld (cs := [iv 0, iv 0, iv 0, iv 0, iv 0, iv 0, iv 0, iv 0]) tysOk rfl ⟨⟩ rfl rfl rfl rfl rfl rfl rfl ?_
   refine WP.bld (cs := [iv 0, iv 0, iv 0, iv 0, iv 0, iv 0, iv 0, iv 0, iv 0, iv 0, iv 0, iv 0]) tysOk rfl ⟨⟩ rfl rfl rfl rfl rfl rfl rfl ?_
   refine WP.sto' tysOk [iv 0, iv 0, iv 0, iv 0, iv 0, iv 0, iv 0, iv 0] rfl rfl rfl rfl rfl rfl rfl rfl rfl (.tail (.tail .head)) rfl rfl ?_
   refine WP.sto' tysOk [iv 0, iv 0, iv 0, iv 0, iv 0, iv 0, iv 0, iv 0, iv 0, iv 0, iv 0, iv 0] rfl rfl rfl rfl rfl rfl rfl rfl rfl (.tail (.tail .head)) rfl rfl ?_
   refine WP.sx tysOk rfl ⟨⟨⟩, ⟨⟩⟩ ?_
   cases h
   refine WP.retR tysOk rfl rfl ⟨_, _, _, _, rfl, ⟨_, rfl, .inr ⟨rfl, _, rfl, rfl, (SegAt.blk' (z := 8) (.tail .head) rfl).1⟩⟩, ⟨_, _, _, _, rfl, ⟨_, rfl, .inr ⟨rfl, _, rfl, rfl, (SegAt.blk' (z := 12) .head rfl).1⟩⟩, ⟨_, _, rfl, rfl, rfl⟩, rfl⟩, rfl⟩ (fun w1 hw1 => ⟨rfl, Ret.below_ hw1 (.cons (.tail (.tail (.tail (.tail (.tail .head))))) .nil)⟩)
  rw [if_pos hh6] at h
  obtain ⟨hj6, h⟩ := ck_some h
  refine WP.drawL 20 [(19, [], fun _ => blkSpec 66 [iv 0, iv 0, iv 0, iv 0, iv 0, iv 0, iv 0, iv 0, iv 0, iv 0, iv 0, iv 0])] rfl (by kernel_rfl) (by kernel_rfl) (by kernel_rfl) ?_
  refine WP.sx tysOk rfl ⟨⟨⟨rfl, rfl⟩, rfl⟩, ⟨⟩⟩ ?_
  refine WP.lx tysOk rfl ⟨⟨rfl, rfl⟩, rfl⟩ (CellAt.blk (.tail (.tail (.tail .head))) rfl) ?_
  refine WP.sx tysOk rfl ⟨⟨⟨rfl, rfl⟩, rfl⟩, ⟨⟩⟩ ?_
  refine WP.ixA tysOk rfl ⟨⟨rfl, rfl⟩, rfl⟩ rfl rfl rfl rfl rfl rfl rfl rfl hj3 (hs2.ex hj3) ?_
  intro b12 b12v hA12
  refine WP.mx_ tysOk rfl ⟨⟨rfl, rfl⟩, rfl⟩ (hs2.seg hA12 (Held.mem (List.Mem.tail _ (List.Mem.tail _ (List.Mem.tail _ (List.Mem.tail _ (List.Mem.tail _ (List.Mem.head _))))))) hj3) ?_
  refine WP.bld (cs := [iv ((gt x1.arcs (gt r1 0)).src), iv ((gt x1.arcs (gt r1 0)).dst), iv ((gt x1.arcs (gt r1 0)).low), iv ((gt x1.arcs (gt r1 0)).cap), iv ((gt x1.arcs (gt r1 0)).cost)]) tysOk rfl ⟨⟨rfl, rfl⟩, rfl⟩ rfl rfl rfl rfl rfl rfl rfl ?_
  refine WP.sx tysOk rfl ⟨⟨⟨rfl, rfl⟩, rfl⟩, ⟨⟩⟩ ?_
  refine WP.lx tysOk rfl ⟨⟨rfl, rfl⟩, rfl⟩ (CellAt.blk (.tail (.tail (.tail .head))) rfl) ?_
  refine WP.sx tysOk rfl ⟨⟨⟨rfl, rfl⟩, rfl⟩, ⟨⟩⟩ ?_
  refine WP.ixA tysOk rfl ⟨⟨rfl, rfl⟩, rfl⟩ rfl rfl rfl rfl rfl rfl rfl rfl hj4 (hs2.ex hj4) ?_
  intro b13 b13v hA13
  refine WP.mx_ tysOk rfl ⟨⟨rfl, rfl⟩, rfl⟩ (hs2.seg hA13 (Held.mem (List.Mem.tail _ (List.Mem.tail _ (List.Mem.tail _ (List.Mem.tail _ (List.Mem.tail _ (List.Mem.head _))))))) hj4) ?_
  refine WP.bld (cs := [iv ((gt x1.arcs (gt r1 1)).src), iv ((gt x1.arcs (gt r1 1)).dst), iv ((gt x1.arcs (gt r1 1)).low), iv ((gt x1.arcs (gt r1 1)).cap), iv ((gt x1.arcs (gt r1 1)).cost)]) tysOk rfl ⟨⟨rfl, rfl⟩, rfl⟩ rfl rfl rfl rfl rfl rfl rfl ?_
  iterate 2 (refine WP.sx tysOk rfl ⟨⟨⟨rfl, rfl⟩, rfl⟩, ⟨⟩⟩ ?_)
  refine WP.lx tysOk rfl ⟨⟨rfl, rfl⟩, rfl⟩ (CellAt.blk (.tail (.tail (.tail .head))) rfl) ?_
  refine WP.sx tysOk rfl ⟨⟨⟨rfl, rfl⟩, rfl⟩, ⟨⟩⟩ ?_
  refine WP.ixA tysOk rfl ⟨⟨rfl, rfl⟩, rfl⟩ rfl rfl rfl rfl rfl rfl rfl rfl hj6 (hs1.ex hj6) ?_
  intro b14 b14v hA14
  refine WP.lx tysOk rfl ⟨⟨rfl, rfl⟩, rfl⟩ (hs1.at0 hA14 (Held.mem (List.Mem.tail _ (List.Mem.tail _ (List.Mem.tail _ (List.Mem.tail _ (List.Mem.tail _ (List.Mem.head _))))))) hj6 rfl) ?_
  refine WP.bld (cs := [iv ((gt x1.arcs (gt r1 0)).src), iv ((gt x1.arcs (gt r1 0)).dst), iv ((gt x1.arcs (gt r1 0)).low), iv ((gt x1.arcs (gt r1 0)).cap), iv ((gt x1.arcs (gt r1 0)).cost), iv ((gt x1.arcs (gt r1 1)).src), iv ((gt x1.arcs (gt r1 1)).dst), iv ((gt x1.arcs (gt r1 1)).low), iv ((gt x1.arcs (gt r1 1)).cap), iv ((gt x1.arcs (gt r1 1)).cost), iv x2, iv (gt x1.supply x2)]) tysOk rfl ⟨⟨rfl, rfl⟩, rfl⟩ rfl rfl rfl rfl rfl rfl rfl ?_
  refine WP.lal tysOk rfl ⟨rfl, rfl⟩ rfl rfl rfl rfl rfl rfl rfl ?_
  intro g7
  refine WP.lend rfl ⟨rfl, rfl⟩ ?_
  refine WP.sto' tysOk [iv ((gt x1.arcs (gt r1 0)).src), iv ((gt x1.arcs (gt r1 0)).dst), iv ((gt x1.arcs (gt r1 0)).low), iv ((gt x1.arcs (gt r1 0)).cap), iv ((gt x1.arcs (gt r1 0)).cost), iv ((gt x1.arcs (gt r1 1)).src), iv ((gt x1.arcs (gt r1 1)).dst), iv ((gt x1.arcs (gt r1 1)).low), iv ((gt x1.arcs (gt r1 1)).cap), iv ((gt x1.arcs (gt r1 1)).cost), iv x2, iv (gt x1.supply x2)] rfl rfl rfl rfl rfl rfl rfl rfl rfl .head rfl rfl ?_
  refine WP.sx tysOk rfl ⟨⟨⟩, ⟨⟩⟩ ?_
  refine WP.lx tysOk rfl ⟨⟩ (CellAt.blk (.tail (.tail (.tail (.tail (.tail .head))))) rfl) ?_
  refine WP.mx_ tysOk rfl ⟨⟩ (SegAt.blk' .head rfl) ?_
  obtain ⟨r7, hg7, h⟩ := bind_some h
  refine WP.callV rfl rfl rfl rfl rfl rfl rfl (by kernel_rfl) (fun w1 hw1 => (two_pair_chain_w hg7  :)) ⟨⟩ ?_
  refine WP.al tysOk rfl rfl rfl rfl rfl rfl ?_
  intro g8
  refine WP.sto' tysOk [iv r7.src, iv r7.dst, iv r7.low, iv r7.cap, iv r7.cost] rfl rfl rfl rfl rfl rfl rfl rfl rfl .head rfl rfl ?_
  refine WP.sx tysOk rfl ⟨⟨⟩, ⟨⟩⟩ ?_
  refine WP.lx tysOk rfl ⟨⟩ (CellAt.blk .head rfl) ?_
  refine WP.sx tysOk rfl ⟨⟨⟩, ⟨⟩⟩ ?_
  refine WP.lx tysOk rfl ⟨⟩ (CellAt.blk .head rfl) ?_
  refine WP.sx tysOk rfl ⟨⟨⟩, ⟨⟩⟩ ?_
  refine WP.cond_d rfl rfl (fun hh7 => ?_) (fun hh7 => ?_)
  ·rw [if_pos hh7] at h
   refine WP.bld (cs := [iv 0, iv 0, iv 0, iv 0, iv 0, iv 0, iv 0, iv 0]) tysOk rfl ⟨⟩ rfl rfl rfl rfl rfl rfl rfl ?_
   refine WP.bld (cs := [iv 0, iv 0, iv 0, iv 0, iv 0, iv 0, iv 0, iv 0, iv 0, iv 0, iv 0, iv 0]) tysOk rfl ⟨⟩ rfl rfl rfl rfl rfl rfl rfl ?_
   refine WP.sto' tysOk [iv 0, iv 0, iv 0, iv 0, iv 0, iv 0, iv 0, iv 0] rfl rfl rfl rfl rfl rfl rfl rfl rfl (.tail (.tail (.tail (.tail .head)))) rfl rfl ?_
   refine WP.sto' tysOk [iv 0, iv 0, iv 0, iv 0, iv 0, iv 0, iv 0, iv 0, iv 0, iv 0, iv 0, iv 0] rfl rfl rfl rfl rfl rfl rfl rfl rfl (.tail (.tail (.tail (.tail .head)))) rfl rfl ?_
   refine WP.sx tysOk rfl ⟨⟨⟩, ⟨⟩⟩ ?_
   cases h
   refine WP.retR tysOk rfl rfl ⟨_, _, _, _, rfl, ⟨_, rfl, .inr ⟨rfl, _, rfl, rfl, (SegAt.blk' (z := 8) (.tail .head) rfl).1⟩⟩, ⟨_, _, _, _, rfl, ⟨_, rfl, .inr ⟨rfl, _, rfl, rfl, (SegAt.blk' (z := 12) .head rfl).1⟩⟩, ⟨_, _, rfl, rfl, rfl⟩, rfl⟩, rfl⟩ (fun w1 hw1 => ⟨rfl, Ret.below_ hw1 (.cons (.tail (.tail (.tail (.tail (.tail (.tail (.tail .head))))))) .nil)⟩)
  rw [if_neg hh7] at h
  refine WP.join (α := Unit) (fun x => True) (fun x => [(8, .pointer (some ⟨g3, 0, none⟩)), (9, .pointer (some ⟨g4, 0, none⟩)), (10, .bool (true))]) (fun x => [.blk g4 66 [iv ((gt x1.arcs (gt r1 0)).src), iv ((gt x1.arcs (gt r1 0)).dst), iv ((gt x1.arcs (gt r1 0)).low), iv ((gt x1.arcs (gt r1 0)).cap), iv ((gt x1.arcs (gt r1 0)).cost), iv ((gt x1.arcs (gt r1 1)).src), iv ((gt x1.arcs (gt r1 1)).dst), iv ((gt x1.arcs (gt r1 1)).low), iv ((gt x1.arcs (gt r1 1)).cap), iv ((gt x1.arcs (gt r1 1)).cost), iv x2, iv (gt x1.supply x2)], .blk g3 39 [iv x2, iv (gt r1 0), iv (gt r1 1), iv r7.src, iv r7.dst, iv r7.low, iv r7.cap, iv r7.cost], .blk g8 34 [iv r7.src, iv r7.dst, iv r7.low, iv r7.cap, iv r7.cost], .blk g7 66 [iv ((gt x1.arcs (gt r1 0)).src), iv ((gt x1.arcs (gt r1 0)).dst), iv ((gt x1.arcs (gt r1 0)).low), iv ((gt x1.arcs (gt r1 0)).cap), iv ((gt x1.arcs (gt r1 0)).cost), iv ((gt x1.arcs (gt r1 1)).src), iv ((gt x1.arcs (gt r1 1)).dst), iv ((gt x1.arcs (gt r1 1)).low), iv ((gt x1.arcs (gt r1 1)).cap), iv ((gt x1.arcs (gt r1 1)).cost), iv x2, iv (gt x1.supply x2)], Ow (fI .i64) 3 A3 n1 c3 r1, .blk g2 25 [.slice A1 x1.supply.length c1, .slice A2 x1.arcs.length c2], .blk g1 72 [iv 8, .func (.func 37) #[] #[], .func (.func 38) #[] #[], .func (.func 39) #[] #[]], .fz (PH.of w)]) rfl ?_ ?_
  ·refine WP.drawA rfl (by kernel_rfl) ?_
   refine WP.anyP 0 tysOk putInv_body rfl rfl rfl (by kernel_rfl) (by kernel_rfl) rfl rfl rfl rfl rfl True.intro ?_
   refine WP.anyP 1 tysOk putInv_body rfl rfl rfl (by kernel_rfl) (by kernel_rfl) rfl rfl rfl rfl rfl True.intro ?_
   refine WP.anyP 2 tysOk putInv_body rfl rfl rfl (by kernel_rfl) (by kernel_rfl) rfl rfl rfl rfl rfl True.intro ?_
   refine WP.any2 3 5 rfl (by kernel_rfl) rfl rfl ?_ ?_
   ·refine WP.mx_ tysOk rfl ⟨⟩ (SegAt.blk' .head rfl) ?_
    refine WP.any2 4 5 rfl (by kernel_rfl) rfl rfl ?_ ?_
    ·refine WP.bld (cs := [iv x2, iv (gt r1 0), iv (gt r1 1), iv r7.src, iv r7.dst, iv r7.low, iv r7.cap, iv r7.cost]) tysOk rfl ⟨⟩ rfl rfl rfl rfl rfl rfl rfl ?_
     refine WP.any2 5 6 rfl (by kernel_rfl) rfl rfl ?_ ?_
     ·refine WP.mx_ tysOk rfl ⟨⟩ (SegAt.blk' (.tail .head) rfl) ?_
      refine WP.any1 6 rfl (by kernel_rfl) rfl ?_
      refine WP.sto' tysOk [iv x2, iv (gt r1 0), iv (gt r1 1), iv r7.src, iv r7.dst, iv r7.low, iv r7.cap, iv r7.cost] rfl rfl rfl rfl rfl rfl rfl rfl rfl (.tail (.tail (.tail (.tail .head)))) rfl rfl ?_
      refine WP.any1 7 rfl (by kernel_rfl) rfl ?_
      refine WP.sto' tysOk [iv ((gt x1.arcs (gt r1 0)).src), iv ((gt x1.arcs (gt r1 0)).dst), iv ((gt x1.arcs (gt r1 0)).low), iv ((gt x1.arcs (gt r1 0)).cap), iv ((gt x1.arcs (gt r1 0)).cost), iv ((gt x1.arcs (gt r1 1)).src), iv ((gt x1.arcs (gt r1 1)).dst), iv ((gt x1.arcs (gt r1 1)).low), iv ((gt x1.arcs (gt r1 1)).cap), iv ((gt x1.arcs (gt r1 1)).cost), iv x2, iv (gt x1.supply x2)] rfl rfl rfl rfl rfl rfl rfl rfl rfl (.tail (.tail (.tail (.tail .head)))) rfl rfl ?_
      refine WP.anyP 8 tysOk putInv_body rfl rfl rfl (by kernel_rfl) (by kernel_rfl) rfl rfl rfl rfl rfl True.intro ?_
      refine WP.any0 rfl (by kernel_rfl) ?_
      refine WP.stop rfl () True.intro ?_ ?_
      ·repeat first | exact ⟨⟩ | refine ⟨rfl, ?_⟩
      exact (.cons .head (.cons .head (.cons .head (.cons .head (.cons .head (.cons .head (.cons .head (.cons .head .nil))))))))
     refine WP.sto' tysOk [iv x2, iv (gt r1 0), iv (gt r1 1), iv r7.src, iv r7.dst, iv r7.low, iv r7.cap, iv r7.cost] rfl rfl rfl rfl rfl rfl rfl rfl rfl (.tail (.tail (.tail (.tail .head)))) rfl rfl ?_
     refine WP.any1 5 rfl (by kernel_rfl) rfl ?_
     refine WP.mx_ tysOk rfl ⟨⟩ (SegAt.blk' (.tail (.tail .head)) rfl) ?_
     refine WP.any1 7 rfl (by kernel_rfl) rfl ?_
     refine WP.sto' tysOk [iv ((gt x1.arcs (gt r1 0)).src), iv ((gt x1.arcs (gt r1 0)).dst), iv ((gt x1.arcs (gt r1 0)).low), iv ((gt x1.arcs (gt r1 0)).cap), iv ((gt x1.arcs (gt r1 0)).cost), iv ((gt x1.arcs (gt r1 1)).src), iv ((gt x1.arcs (gt r1 1)).dst), iv ((gt x1.arcs (gt r1 1)).low), iv ((gt x1.arcs (gt r1 1)).cap), iv ((gt x1.arcs (gt r1 1)).cost), iv x2, iv (gt x1.supply x2)] rfl rfl rfl rfl rfl rfl rfl rfl rfl (.tail (.tail (.tail (.tail .head)))) rfl rfl ?_
     refine WP.anyP 8 tysOk putInv_body rfl rfl rfl (by kernel_rfl) (by kernel_rfl) rfl rfl rfl rfl rfl True.intro ?_
     refine WP.any0 rfl (by kernel_rfl) ?_
     refine WP.stop rfl () True.intro ?_ ?_
     ·repeat first | exact ⟨⟩ | refine ⟨rfl, ?_⟩
     exact (.cons .head (.cons .head (.cons .head (.cons .head (.cons .head (.cons .head (.cons .head (.cons .head .nil))))))))
    refine WP.mx_ tysOk rfl ⟨⟩ (SegAt.blk' (.tail .head) rfl) ?_
    refine WP.any1 4 rfl (by kernel_rfl) rfl ?_
    refine WP.bld (cs := [iv x2, iv (gt r1 0), iv (gt r1 1), iv r7.src, iv r7.dst, iv r7.low, iv r7.cap, iv r7.cost]) tysOk rfl ⟨⟩ rfl rfl rfl rfl rfl rfl rfl ?_
    refine WP.any1 6 rfl (by kernel_rfl) rfl ?_
    refine WP.sto' tysOk [iv x2, iv (gt r1 0), iv (gt r1 1), iv r7.src, iv r7.dst, iv r7.low, iv r7.cap, iv r7.cost] rfl rfl rfl rfl rfl rfl rfl rfl rfl (.tail (.tail (.tail (.tail .head)))) rfl rfl ?_
    refine WP.any1 7 rfl (by kernel_rfl) rfl ?_
    refine WP.sto' tysOk [iv ((gt x1.arcs (gt r1 0)).src), iv ((gt x1.arcs (gt r1 0)).dst), iv ((gt x1.arcs (gt r1 0)).low), iv ((gt x1.arcs (gt r1 0)).cap), iv ((gt x1.arcs (gt r1 0)).cost), iv ((gt x1.arcs (gt r1 1)).src), iv ((gt x1.arcs (gt r1 1)).dst), iv ((gt x1.arcs (gt r1 1)).low), iv ((gt x1.arcs (gt r1 1)).cap), iv ((gt x1.arcs (gt r1 1)).cost), iv x2, iv (gt x1.supply x2)] rfl rfl rfl rfl rfl rfl rfl rfl rfl (.tail (.tail (.tail (.tail .head)))) rfl rfl ?_
    refine WP.anyP 8 tysOk putInv_body rfl rfl rfl (by kernel_rfl) (by kernel_rfl) rfl rfl rfl rfl rfl True.intro ?_
    refine WP.any0 rfl (by kernel_rfl) ?_
    refine WP.stop rfl () True.intro ?_ ?_
    ·repeat first | exact ⟨⟩ | refine ⟨rfl, ?_⟩
    exact (.cons .head (.cons .head (.cons .head (.cons .head (.cons .head (.cons .head (.cons .head (.cons .head .nil))))))))
   refine WP.mx_ tysOk rfl ⟨⟩ (SegAt.blk' (.tail .head) rfl) ?_
   refine WP.any1 3 rfl (by kernel_rfl) rfl ?_
   refine WP.mx_ tysOk rfl ⟨⟩ (SegAt.blk' .head rfl) ?_
   refine WP.any1 4 rfl (by kernel_rfl) rfl ?_
   refine WP.bld (cs := [iv x2, iv (gt r1 0), iv (gt r1 1), iv r7.src, iv r7.dst, iv r7.low, iv r7.cap, iv r7.cost]) tysOk rfl ⟨⟩ rfl rfl rfl rfl rfl rfl rfl ?_
   refine WP.any1 6 rfl (by kernel_rfl) rfl ?_
   refine WP.sto' tysOk [iv x2, iv (gt r1 0), iv (gt r1 1), iv r7.src, iv r7.dst, iv r7.low, iv r7.cap, iv r7.cost] rfl rfl rfl rfl rfl rfl rfl rfl rfl (.tail (.tail (.tail (.tail .head)))) rfl rfl ?_
   refine WP.any1 7 rfl (by kernel_rfl) rfl ?_
   refine WP.sto' tysOk [iv ((gt x1.arcs (gt r1 0)).src), iv ((gt x1.arcs (gt r1 0)).dst), iv ((gt x1.arcs (gt r1 0)).low), iv ((gt x1.arcs (gt r1 0)).cap), iv ((gt x1.arcs (gt r1 0)).cost), iv ((gt x1.arcs (gt r1 1)).src), iv ((gt x1.arcs (gt r1 1)).dst), iv ((gt x1.arcs (gt r1 1)).low), iv ((gt x1.arcs (gt r1 1)).cap), iv ((gt x1.arcs (gt r1 1)).cost), iv x2, iv (gt x1.supply x2)] rfl rfl rfl rfl rfl rfl rfl rfl rfl (.tail (.tail (.tail (.tail .head)))) rfl rfl ?_
   refine WP.anyP 8 tysOk putInv_body rfl rfl rfl (by kernel_rfl) (by kernel_rfl) rfl rfl rfl rfl rfl True.intro ?_
   refine WP.any0 rfl (by kernel_rfl) ?_
   refine WP.stop rfl () True.intro ?_ ?_
   ·repeat first | exact ⟨⟩ | refine ⟨rfl, ?_⟩
   exact (.cons .head (.cons .head (.cons .head (.cons .head (.cons .head (.cons .head (.cons .head (.cons .head .nil))))))))
  rintro _ _
  cases h
  refine WP.retR tysOk rfl rfl ⟨_, _, _, _, rfl, ⟨_, rfl, .inr ⟨rfl, _, rfl, rfl, (SegAt.blk' (z := 8) (.tail .head) rfl).1⟩⟩, ⟨_, _, _, _, rfl, ⟨_, rfl, .inr ⟨rfl, _, rfl, rfl, (SegAt.blk' (z := 12) .head rfl).1⟩⟩, ⟨_, _, rfl, rfl, rfl⟩, rfl⟩, rfl⟩ (fun w1 hw1 => ⟨rfl, Ret.below_ hw1 (.cons (.tail (.tail (.tail (.tail (.tail (.tail (.tail .head))))))) .nil)⟩)

set_option maxRecDepth 20000 in
set_option maxHeartbeats 8000000 in
theorem two_Chain_w {w : World} {v0 : Value} {i1 : Inst} {n1 : Int} {r : Spot × Bool} (h : two_Chain i1 n1 = some r) (p1 : InsZ (PH.of w) v0 i1) :
    Calls Tryz.prog 13 #[v0, iv n1] w fun e w' => e = .returned (.tuple #[.agg #[iv r.1.node, iv r.1.a, iv r.1.b, iv r.1.new.src, iv r.1.new.dst, iv r.1.new.low, iv r.1.new.cap, iv r.1.new.cost], .bool (r.2)]) ∧ Below w.heap.size w w' := by
  obtain ⟨A1, c1, A2, c2, rfl, hs1, hs2⟩ := p1
  unfold two_Chain at h
  refine enter_ Tryz.func13 rfl Tryz.ntmps13 rfl ?_
  refine WP.box rfl rfl rfl rfl rfl rfl ?_
  intro g1
  refine WP.al tysOk rfl rfl rfl rfl rfl rfl ?_
  intro g2
  refine WP.sx tysOk rfl ⟨⟨⟩, ⟨⟩⟩ ?_
  obtain ⟨r1, hg1, h⟩ := bind_some h
  obtain ⟨r2, hg2, h⟩ := bind_some h
  refine WP.edges [(12, 8), (12, 9), (13, 9)] putInv_body rfl rfl (by kernel_rfl) (by kernel_rfl) ?_
  refine WP.heads [0, 1, 2, 3, 4, 5, 6, 7, 8, 9, 10, 11] [12, 13, 14] [(0, [], fun _ => constSpec (.agg #[iv 8, .func (.func 37) #[] #[], .func (.func 38) #[] #[], .func (.func 39) #[] #[]])), (2, [], fun _ => adj_New_S r1), (5, [2], fun _ => constSpec (.tuple #[.agg #[iv r2.1.node, iv r2.1.a, iv r2.1.b, iv r2.1.new.src, iv r2.1.new.dst, iv r2.1.new.low, iv r2.1.new.cap, iv r2.1.new.cost], .agg #[iv r2.2.1.x.src, iv r2.2.1.x.dst, iv r2.2.1.x.low, iv r2.2.1.x.cap, iv r2.2.1.x.cost, iv r2.2.1.y.src, iv r2.2.1.y.dst, iv r2.2.1.y.low, iv r2.2.1.y.cap, iv r2.2.1.y.cost, iv r2.2.1.n, iv r2.2.1.s], .bool (r2.2.2)])), (10, [], fun _ => blkSpec 39 [iv 0, iv 0, iv 0, iv 0, iv 0, iv 0, iv 0, iv 0]), (11, [], fun _ => blkSpec 66 [iv 0, iv 0, iv 0, iv 0, iv 0, iv 0, iv 0, iv 0, iv 0, iv 0, iv 0, iv 0])] rfl (by kernel_rfl) (by decide) rfl (by kernel_rfl) (by kernel_rfl) ?_
  refine WP.callV rfl rfl rfl rfl rfl rfl rfl (by kernel_rfl) (fun w1 hw1 => two_series_w) ⟨⟨rfl, rfl⟩, rfl⟩ ?_
  refine WP.mx_ tysOk rfl ⟨⟨rfl, rfl⟩, rfl⟩ (SegAt.blk' (.tail .head) rfl) ?_
  refine WP.lcall rfl ⟨rfl, rfl⟩ rfl rfl rfl rfl rfl rfl rfl (by kernel_rfl) (fun w1 hw1 => (adj_New_w hg1 (InsZ.mk_ ((hs1.le' ((Held.mem (List.Mem.tail _ (List.Mem.tail _ (List.Mem.head _)))) _ _ hw1)).of) ((hs2.le' ((Held.mem (List.Mem.tail _ (List.Mem.tail _ (List.Mem.head _)))) _ _ hw1)).of)) :)) ?_
  rintro vg1 _ ⟨Zn1, hgr1, rfl⟩
  obtain ⟨gg1, rfl⟩ := hgr1.ptr'
  refine WP.mx_ tysOk rfl ⟨⟨rfl, rfl⟩, rfl⟩ (SegAt.blk' (.tail .head) rfl) ?_
  refine WP.sx tysOk rfl ⟨⟨⟨rfl, rfl⟩, rfl⟩, ⟨⟩⟩ ?_
  refine WP.lcall rfl ⟨rfl, rfl⟩ rfl rfl rfl rfl rfl rfl rfl (by kernel_rfl) (fun w1 hw1 => ((two_shape_at_1_w hg2 (hgr1.le ((Held.mem (List.Mem.head _)) _ _ hw1)) (InsZ.mk_ ((hs1.le' ((Held.mem (List.Mem.tail _ (List.Mem.tail _ (List.Mem.tail _ (List.Mem.head _))))) _ _ hw1)).of) ((hs2.le' ((Held.mem (List.Mem.tail _ (List.Mem.tail _ (List.Mem.tail _ (List.Mem.head _))))) _ _ hw1)).of)) :)).mono fun e w' h => ⟨_, [], h.1, ⟨rfl, rfl⟩, Ret.nil h.2⟩) ?_
  rintro _ _ ⟨rfl, rfl⟩
  iterate 4 (refine WP.sx tysOk rfl ⟨⟨⟨rfl, rfl⟩, rfl⟩, ⟨⟩⟩ ?_)
  refine WP.lal tysOk rfl ⟨rfl, rfl⟩ rfl rfl rfl rfl rfl rfl rfl ?_
  intro g3
  refine WP.lal tysOk rfl ⟨rfl, rfl⟩ rfl rfl rfl rfl rfl rfl rfl ?_
  intro g4
  refine WP.lend rfl ⟨rfl, rfl⟩ ?_
  refine WP.joinA (α := Unit) (fun x => True) (fun x => [(4, .pointer (some ⟨g2, 0, none⟩)), (6, .pointer (some ⟨g3, 0, none⟩)), (8, .bool (r2.2.2))]) (fun x => [.blk g4 66 [iv r2.2.1.x.src, iv r2.2.1.x.dst, iv r2.2.1.x.low, iv r2.2.1.x.cap, iv r2.2.1.x.cost, iv r2.2.1.y.src, iv r2.2.1.y.dst, iv r2.2.1.y.low, iv r2.2.1.y.cap, iv r2.2.1.y.cost, iv r2.2.1.n, iv r2.2.1.s], .blk g3 39 [iv r2.1.node, iv r2.1.a, iv r2.1.b, iv r2.1.new.src, iv r2.1.new.dst, iv r2.1.new.low, iv r2.1.new.cap, iv r2.1.new.cost], .fz Zn1, .blk g2 39 [iv 0, iv 0, iv 0, iv 0, iv 0, iv 0, iv 0, iv 0], .blk g1 25 [.slice A1 i1.supply.length c1, .slice A2 i1.arcs.length c2], .fz (PH.of w)]) rfl ?_ ?_
  ·refine WP.any1 12 rfl (by kernel_rfl) rfl ?_
   refine WP.sto' tysOk [iv r2.1.node, iv r2.1.a, iv r2.1.b, iv r2.1.new.src, iv r2.1.new.dst, iv r2.1.new.low, iv r2.1.new.cap, iv r2.1.new.cost] rfl rfl rfl rfl rfl rfl rfl rfl rfl (.tail .head) rfl rfl ?_
   refine WP.any1 13 rfl (by kernel_rfl) rfl ?_
   refine WP.sto' tysOk [iv r2.2.1.x.src, iv r2.2.1.x.dst, iv r2.2.1.x.low, iv r2.2.1.x.cap, iv r2.2.1.x.cost, iv r2.2.1.y.src, iv r2.2.1.y.dst, iv r2.2.1.y.low, iv r2.2.1.y.cap, iv r2.2.1.y.cost, iv r2.2.1.n, iv r2.2.1.s] rfl rfl rfl rfl rfl rfl rfl rfl rfl (.tail .head) rfl rfl ?_
   refine WP.anyP 14 tysOk putInv_body rfl rfl rfl (by kernel_rfl) (by kernel_rfl) rfl rfl rfl rfl rfl True.intro ?_
   refine WP.any0 rfl (by kernel_rfl) ?_
   refine WP.stop rfl () True.intro ?_ ?_
   ·repeat first | exact ⟨⟩ | refine ⟨rfl, ?_⟩
   exact (.cons .head (.cons .head (.cons .head (.cons .head (.cons .head (.cons .head .nil))))))
  rintro _ _
  refine WP.mx_ tysOk rfl ⟨⟩ (SegAt.blk' (.tail .head) rfl) ?_
  refine WP.sx tysOk rfl ⟨⟨⟩, ⟨⟩⟩ ?_
  refine WP.sto' tysOk [iv r2.1.node, iv r2.1.a, iv r2.1.b, iv r2.1.new.src, iv r2.1.new.dst, iv r2.1.new.low, iv r2.1.new.cap, iv r2.1.new.cost] rfl rfl rfl rfl rfl rfl rfl rfl rfl (.tail (.tail (.tail .head))) rfl rfl ?_
  refine WP.sx tysOk rfl ⟨⟨⟩, ⟨⟩⟩ ?_
  cases h
  refine WP.retR tysOk rfl rfl ⟨_, _, _, _, rfl, ⟨_, rfl, .inr ⟨rfl, _, rfl, rfl, (SegAt.blk' (z := 8) .head rfl).1⟩⟩, ⟨_, _, rfl, rfl, rfl⟩, rfl⟩ (fun w1 hw1 => ⟨rfl, Ret.below_ hw1 (.cons (.tail (.tail (.tail (.tail (.tail .head))))) .nil)⟩)

set_option maxRecDepth 20000 in
set_option maxHeartbeats 8000000 in
theorem two_fork_w {w : World} :
    Calls Tryz.prog 28 #[] w fun e w' => e = .returned (.agg #[iv 9, .func (.func 46) #[] #[], .func (.func 47) #[] #[], .func (.func 48) #[] #[]]) ∧ Below w.heap.size w w' := by
  refine enter_ Tryz.func28 rfl Tryz.ntmps28 rfl ?_
  refine WP.al tysOk rfl rfl rfl rfl rfl rfl ?_
  intro g1
  refine WP.bld (cs := [iv 9, .func (.func 46) #[] #[], .func (.func 47) #[] #[], .func (.func 48) #[] #[]]) tysOk rfl ⟨⟩ rfl rfl rfl rfl rfl rfl rfl ?_
  refine WP.sto' tysOk [iv 9, .func (.func 46) #[] #[], .func (.func 47) #[] #[], .func (.func 48) #[] #[]] rfl rfl rfl rfl rfl rfl rfl rfl rfl .head rfl rfl ?_
  refine WP.retR tysOk rfl rfl ⟨_, _, _, _, rfl, ⟨_, rfl, .inr ⟨rfl, _, rfl, rfl, (SegAt.blk' (z := 4) .head rfl).1⟩⟩, rfl, rfl⟩ (fun w1 hw1 => ⟨rfl, Ret.below_ hw1 (.cons (.tail .head) .nil)⟩)

set_option maxRecDepth 20000 in
set_option maxHeartbeats 8000000 in
theorem two_fork_1_w {w : World} {x1 : Arc} {y1 : Arc} {n1 : Int} {r : Bool} (h : two_fork_1 x1 y1 n1 = some r) :
    Calls Tryz.prog 46 #[.agg #[iv x1.src, iv x1.dst, iv x1.low, iv x1.cap, iv x1.cost], .agg #[iv y1.src, iv y1.dst, iv y1.low, iv y1.cap, iv y1.cost], iv n1] w fun e w' => e = .returned (.bool (r)) ∧ Below w.heap.size w w' := by
  unfold two_fork_1 at h
  refine enter_ Tryz.func46 rfl Tryz.ntmps46 rfl ?_
  refine WP.box rfl rfl rfl rfl rfl rfl ?_
  intro g1
  refine WP.box rfl rfl rfl rfl rfl rfl ?_
  intro g2
  iterate 2 (refine WP.sx tysOk rfl ⟨⟨⟩, ⟨⟩⟩ ?_)
  refine WP.lx tysOk rfl ⟨⟩ (CellAt.blk (.tail .head) rfl) ?_
  iterate 3 (refine WP.sx tysOk rfl ⟨⟨⟩, ⟨⟩⟩ ?_)
  refine WP.lx tysOk rfl ⟨⟩ (CellAt.blk .head rfl) ?_
  iterate 4 (refine WP.sx tysOk rfl ⟨⟨⟩, ⟨⟩⟩ ?_)
  cases h
  refine WP.retR tysOk rfl rfl ⟨_, _, rfl, rfl, rfl⟩ (fun w1 hw1 => ⟨rfl, Ret.below_ hw1 (.cons (.tail (.tail .head)) .nil)⟩)

set_option maxRecDepth 20000 in
set_option maxHeartbeats 8000000 in
theorem two_pair_both_w {w : World} {p1 : Pair} {r : Int} (h : two_pair_both p1 = some r) :
    Calls Tryz.prog 48 #[.agg #[iv p1.x.src, iv p1.x.dst, iv p1.x.low, iv p1.x.cap, iv p1.x.cost, iv p1.y.src, iv p1.y.dst, iv p1.y.low, iv p1.y.cap, iv p1.y.cost, iv p1.n, iv p1.s]] w fun e w' => e = .returned (iv r) ∧ Below w.heap.size w w' := by
  unfold two_pair_both at h
  refine enter_ Tryz.func48 rfl Tryz.ntmps48 rfl ?_
  refine WP.box rfl rfl rfl rfl rfl rfl ?_
  intro g1
  iterate 4 (refine WP.sx tysOk rfl ⟨⟨⟩, ⟨⟩⟩ ?_)
  refine WP.lx tysOk rfl ⟨⟩ (CellAt.blk .head rfl) ?_
  refine WP.sx tysOk rfl ⟨⟨⟩, ⟨⟩⟩ ?_
  refine WP.lx tysOk rfl ⟨⟩ (CellAt.blk .head rfl) ?_
  refine WP.sx tysOk rfl ⟨⟨⟩, ⟨⟩⟩ ?_
  refine WP.cond_d rfl rfl (fun hh1 => ?_) (fun hh1 => ?_)
  ·rw [if_pos hh1] at h
   refine WP.sx tysOk rfl ⟨⟨⟩, ⟨⟩⟩ ?_
   refine WP.lx tysOk rfl ⟨⟩ (CellAt.blk .head rfl) ?_
   iterate 2 (refine WP.sx tysOk rfl ⟨⟨⟩, ⟨⟩⟩ ?_)
   cases h
   refine WP.retR tysOk rfl rfl ⟨_, _, rfl, rfl, rfl⟩ (fun w1 hw1 => ⟨rfl, Ret.below_ hw1 (.cons (.tail .head) .nil)⟩)
  rw [if_neg hh1] at h
  refine WP.sx tysOk rfl ⟨⟨⟩, ⟨⟩⟩ ?_
  refine WP.lx tysOk rfl ⟨⟩ (CellAt.blk .head rfl) ?_
  refine WP.sx tysOk rfl ⟨⟨⟩, ⟨⟩⟩ ?_
  cases h
  refine WP.retR tysOk rfl rfl ⟨_, _, rfl, rfl, rfl⟩ (fun w1 hw1 => ⟨rfl, Ret.below_ hw1 (.cons (.tail .head) .nil)⟩)

set_option maxRecDepth 20000 in
set_option maxHeartbeats 8000000 in
theorem two_pair_split_w {w : World} {d1 : Pair} {r : Arc} (h : two_pair_split d1 = some r) :
    Calls Tryz.prog 47 #[.agg #[iv d1.x.src, iv d1.x.dst, iv d1.x.low, iv d1.x.cap, iv d1.x.cost, iv d1.y.src, iv d1.y.dst, iv d1.y.low, iv d1.y.cap, iv d1.y.cost, iv d1.n, iv d1.s]] w fun e w' => e = .returned (.agg #[iv r.src, iv r.dst, iv r.low, iv r.cap, iv r.cost]) ∧ Below w.heap.size w w' := by
  unfold two_pair_split at h
  refine enter_ Tryz.func47 rfl Tryz.ntmps47 rfl ?_
  refine WP.box rfl rfl rfl rfl rfl rfl ?_
  intro g1
  refine WP.al tysOk rfl rfl rfl rfl rfl rfl ?_
  intro g2
  refine WP.mx_ tysOk rfl ⟨⟩ (SegAt.blk' (.tail .head) rfl) ?_
  obtain ⟨r1, hg1, h⟩ := bind_some h
  refine WP.callV rfl rfl rfl rfl rfl rfl rfl (by kernel_rfl) (fun w1 hw1 => (two_pair_both_w hg1  :)) ⟨⟩ ?_
  iterate 4 (refine WP.sx tysOk rfl ⟨⟨⟩, ⟨⟩⟩ ?_)
  refine WP.lx tysOk rfl ⟨⟩ (CellAt.blk (.tail .head) rfl) ?_
  iterate 3 (refine WP.sx tysOk rfl ⟨⟨⟩, ⟨⟩⟩ ?_)
  refine WP.lx tysOk rfl ⟨⟩ (CellAt.blk (.tail .head) rfl) ?_
  iterate 3 (refine WP.sx tysOk rfl ⟨⟨⟩, ⟨⟩⟩ ?_)
  refine WP.lx tysOk rfl ⟨⟩ (CellAt.blk (.tail .head) rfl) ?_
  iterate 3 (refine WP.sx tysOk rfl ⟨⟨⟩, ⟨⟩⟩ ?_)
  refine WP.lx tysOk rfl ⟨⟩ (CellAt.blk (.tail .head) rfl) ?_
  iterate 4 (refine WP.sx tysOk rfl ⟨⟨⟩, ⟨⟩⟩ ?_)
  refine WP.lx tysOk rfl ⟨⟩ (CellAt.blk (.tail .head) rfl) ?_
  refine WP.sx tysOk rfl ⟨⟨⟩, ⟨⟩⟩ ?_
  refine WP.mn rfl ⟨⟩ rfl rfl rfl rfl rfl rfl ?_
  iterate 3 (refine WP.sx tysOk rfl ⟨⟨⟩, ⟨⟩⟩ ?_)
  refine WP.lx tysOk rfl ⟨⟩ (CellAt.blk (.tail .head) rfl) ?_
  iterate 3 (refine WP.sx tysOk rfl ⟨⟨⟩, ⟨⟩⟩ ?_)
  refine WP.lx tysOk rfl ⟨⟩ (CellAt.blk (.tail .head) rfl) ?_
  refine WP.sx tysOk rfl ⟨⟨⟩, ⟨⟩⟩ ?_
  refine WP.bld (cs := [iv d1.y.dst, iv d1.x.dst, iv d1.x.low, iv (if (w64 (r1 - d1.y.low)) < d1.x.cap then w64 (r1 - d1.y.low) else d1.x.cap), iv (w64 (d1.x.cost - d1.y.cost))]) tysOk rfl ⟨⟩ rfl rfl rfl rfl rfl rfl rfl ?_
  refine WP.al tysOk rfl rfl rfl rfl rfl rfl ?_
  intro g3
  refine WP.sto' tysOk [iv d1.y.dst, iv d1.x.dst, iv d1.x.low, iv (if (w64 (r1 - d1.y.low)) < d1.x.cap then w64 (r1 - d1.y.low) else d1.x.cap), iv (w64 (d1.x.cost - d1.y.cost))] rfl rfl rfl rfl rfl rfl rfl rfl rfl .head rfl rfl ?_
  iterate 3 (refine WP.sx tysOk rfl ⟨⟨⟩, ⟨⟩⟩ ?_)
  refine WP.lx tysOk rfl ⟨⟩ (CellAt.blk (.tail (.tail .head)) rfl) ?_
  refine WP.sx tysOk rfl ⟨⟨⟩, ⟨⟩⟩ ?_
  refine WP.lx tysOk rfl ⟨⟩ (CellAt.blk (.tail (.tail .head)) rfl) ?_
  refine WP.sx tysOk rfl ⟨⟨⟩, ⟨⟩⟩ ?_
  refine WP.cond_d rfl rfl (fun hh1 => ?_) (fun hh1 => ?_)
  ·rw [if_pos hh1] at h
   refine WP.join (α := Unit) (fun x => True) (fun x => [(1, .pointer (some ⟨g1, 0, none⟩)), (2, .pointer (some ⟨g2, 0, none⟩)), (3, iv r1), (4, .pointer (some ⟨g3, 0, none⟩))]) (fun x => [.blk g3 34 [iv d1.x.src, iv d1.y.src, iv d1.x.low, iv (if (w64 (r1 - d1.y.low)) < d1.x.cap then w64 (r1 - d1.y.low) else d1.x.cap), iv (w64 (d1.x.cost - d1.y.cost))], .blk g2 34 [iv 0, iv 0, iv 0, iv 0, iv 0], .blk g1 66 [iv d1.x.src, iv d1.x.dst, iv d1.x.low, iv d1.x.cap, iv d1.x.cost, iv d1.y.src, iv d1.y.dst, iv d1.y.low, iv d1.y.cap, iv d1.y.cost, iv d1.n, iv d1.s], .fz (PH.of w)]) rfl ?_ ?_
   ·refine WP.drawA rfl (by kernel_rfl) ?_
    refine WP.anyP 0 tysOk putInv_body rfl rfl rfl (by kernel_rfl) (by kernel_rfl) rfl rfl rfl rfl rfl True.intro ?_
    refine WP.anyP 1 tysOk putInv_body rfl rfl rfl (by kernel_rfl) (by kernel_rfl) rfl rfl rfl rfl rfl True.intro ?_
    refine WP.anyP 2 tysOk putInv_body rfl rfl rfl (by kernel_rfl) (by kernel_rfl) rfl rfl rfl rfl rfl True.intro ?_
    refine WP.anyP 4 tysOk putInv_body rfl rfl rfl (by kernel_rfl) (by kernel_rfl) rfl rfl rfl rfl rfl True.intro ?_
    refine WP.anyP 5 tysOk putInv_body rfl rfl rfl (by kernel_rfl) (by kernel_rfl) rfl rfl rfl rfl rfl True.intro ?_
    refine WP.anyP 6 tysOk putInv_body rfl rfl rfl (by kernel_rfl) (by kernel_rfl) rfl rfl rfl rfl rfl True.intro ?_
    refine WP.any2 3 7 rfl (by kernel_rfl) rfl rfl ?_ ?_
    ·refine WP.lx tysOk rfl ⟨⟩ (CellAt.blk (.tail (.tail .head)) rfl) ?_
     refine WP.anyP 8 tysOk putInv_body rfl rfl rfl (by kernel_rfl) (by kernel_rfl) rfl rfl rfl rfl rfl True.intro ?_
     refine WP.any2 7 9 rfl (by kernel_rfl) rfl rfl ?_ ?_
     ·refine WP.lx tysOk rfl ⟨⟩ (CellAt.blk (.tail (.tail .head)) rfl) ?_
      refine WP.any1 9 rfl (by kernel_rfl) rfl ?_
      refine WP.sto' tysOk [iv d1.x.src, iv d1.x.dst, iv d1.x.low, iv (if (w64 (r1 - d1.y.low)) < d1.x.cap then w64 (r1 - d1.y.low) else d1.x.cap), iv (w64 (d1.x.cost - d1.y.cost))] rfl rfl rfl rfl rfl rfl rfl rfl rfl .head rfl rfl ?_
      refine WP.anyP 10 tysOk putInv_body rfl rfl rfl (by kernel_rfl) (by kernel_rfl) rfl rfl rfl rfl rfl True.intro ?_
      refine WP.any1 11 rfl (by kernel_rfl) rfl ?_
      refine WP.sto' tysOk [iv d1.x.src, iv d1.y.src, iv d1.x.low, iv (if (w64 (r1 - d1.y.low)) < d1.x.cap then w64 (r1 - d1.y.low) else d1.x.cap), iv (w64 (d1.x.cost - d1.y.cost))] rfl rfl rfl rfl rfl rfl rfl rfl rfl .head rfl rfl ?_
      refine WP.any0 rfl (by kernel_rfl) ?_
      refine WP.stop rfl () True.intro ?_ ?_
      ·repeat first | exact ⟨⟩ | refine ⟨rfl, ?_⟩
      exact (.cons .head (.cons .head (.cons .head (.cons .head .nil))))
     refine WP.sto' tysOk [iv d1.x.src, iv d1.x.dst, iv d1.x.low, iv (if (w64 (r1 - d1.y.low)) < d1.x.cap then w64 (r1 - d1.y.low) else d1.x.cap), iv (w64 (d1.x.cost - d1.y.cost))] rfl rfl rfl rfl rfl rfl rfl rfl rfl .head rfl rfl ?_
     refine WP.any1 7 rfl (by kernel_rfl) rfl ?_
     refine WP.lx tysOk rfl ⟨⟩ (CellAt.blk (.tail (.tail .head)) rfl) ?_
     refine WP.anyP 10 tysOk putInv_body rfl rfl rfl (by kernel_rfl) (by kernel_rfl) rfl rfl rfl rfl rfl True.intro ?_
     refine WP.any1 11 rfl (by kernel_rfl) rfl ?_
     refine WP.sto' tysOk [iv d1.x.src, iv d1.y.src, iv d1.x.low, iv (if (w64 (r1 - d1.y.low)) < d1.x.cap then w64 (r1 - d1.y.low) else d1.x.cap), iv (w64 (d1.x.cost - d1.y.cost))] rfl rfl rfl rfl rfl rfl rfl rfl rfl .head rfl rfl ?_
     refine WP.any0 rfl (by kernel_rfl) ?_
     refine WP.stop rfl () True.intro ?_ ?_
     ·repeat first | exact ⟨⟩ | refine ⟨rfl, ?_⟩
     exact (.cons .head (.cons .head (.cons .head (.cons .head .nil))))
    refine WP.lx tysOk rfl ⟨⟩ (CellAt.blk (.tail (.tail .head)) rfl) ?_
    refine WP.any1 3 rfl (by kernel_rfl) rfl ?_
    refine WP.lx tysOk rfl ⟨⟩ (CellAt.blk (.tail (.tail .head)) rfl) ?_
    refine WP.anyP 8 tysOk putInv_body rfl rfl rfl (by kernel_rfl) (by kernel_rfl) rfl rfl rfl rfl rfl True.intro ?_
    refine WP.any1 9 rfl (by kernel_rfl) rfl ?_
    refine WP.sto' tysOk [iv d1.x.src, iv d1.x.dst, iv d1.x.low, iv (if (w64 (r1 - d1.y.low)) < d1.x.cap then w64 (r1 - d1.y.low) else d1.x.cap), iv (w64 (d1.x.cost - d1.y.cost))] rfl rfl rfl rfl rfl rfl rfl rfl rfl .head rfl rfl ?_
    refine WP.anyP 10 tysOk putInv_body rfl rfl rfl (by kernel_rfl) (by kernel_rfl) rfl rfl rfl rfl rfl True.intro ?_
    refine WP.any1 11 rfl (by kernel_rfl) rfl ?_
    refine WP.sto' tysOk [iv d1.x.src, iv d1.y.src, iv d1.x.low, iv (if (w64 (r1 - d1.y.low)) < d1.x.cap then w64 (r1 - d1.y.low) else d1.x.cap), iv (w64 (d1.x.cost - d1.y.cost))] rfl rfl rfl rfl rfl rfl rfl rfl rfl .head rfl rfl ?_
    refine WP.any0 rfl (by kernel_rfl) ?_
    refine WP.stop rfl () True.intro ?_ ?_
    ·repeat first | exact ⟨⟩ | refine ⟨rfl, ?_⟩
    exact (.cons .head (.cons .head (.cons .head (.cons .head .nil))))
   rintro _ _
   iterate 3 (refine WP.sx tysOk rfl ⟨⟨⟩, ⟨⟩⟩ ?_)
   refine WP.lx tysOk rfl ⟨⟩ (CellAt.blk (.tail (.tail .head)) rfl) ?_
   by_cases hh2 : d1.y.cap = 4611686018427387904
   ·rw [if_pos hh2] at h
    refine WP.callV rfl rfl rfl rfl rfl rfl rfl (by kernel_rfl) (fun w1 hw1 => two_bound_nil hh2) ⟨⟩ ?_
    iterate 3 (refine WP.sx tysOk rfl ⟨⟨⟩, ⟨⟩⟩ ?_)
    refine WP.condF rfl rfl ?_
    refine WP.mx_ tysOk rfl ⟨⟩ (SegAt.blk' .head rfl) ?_
    refine WP.sto' tysOk [iv d1.x.src, iv d1.y.src, iv d1.x.low, iv (if (w64 (r1 - d1.y.low)) < d1.x.cap then w64 (r1 - d1.y.low) else d1.x.cap), iv (w64 (d1.x.cost - d1.y.cost))] rfl rfl rfl rfl rfl rfl rfl rfl rfl (.tail .head) rfl rfl ?_
    cases h
    refine WP.retR tysOk rfl rfl ⟨_, _, _, _, rfl, ⟨_, rfl, .inr ⟨rfl, _, rfl, rfl, (SegAt.blk' (z := 5) .head rfl).1⟩⟩, rfl, rfl⟩ (fun w1 hw1 => ⟨rfl, Ret.below_ hw1 (.cons (.tail (.tail (.tail .head))) .nil)⟩)
   rw [if_neg hh2] at h
   refine WP.callS (two_bound_S d1.y.cap) rfl rfl rfl rfl rfl rfl rfl (by kernel_rfl) (fun w1 hw1 => two_bound_some hh2) ?_
   rintro _ _ ⟨g4, rfl, rfl⟩
   iterate 3 (refine WP.sx tysOk rfl ⟨⟨⟩, ⟨⟩⟩ ?_)
   refine WP.condT rfl rfl ?_
   refine WP.drawL 9 [] rfl (by kernel_rfl) (by kernel_rfl) (by kernel_rfl) ?_
   refine WP.sx tysOk rfl ⟨⟨⟨rfl, rfl⟩, rfl⟩, ⟨⟩⟩ ?_
   refine WP.lx tysOk rfl ⟨⟨rfl, rfl⟩, rfl⟩ (CellAt.blk (.tail .head) rfl) ?_
   iterate 3 (refine WP.sx tysOk rfl ⟨⟨⟨rfl, rfl⟩, rfl⟩, ⟨⟩⟩ ?_)
   refine WP.lx tysOk rfl ⟨⟨rfl, rfl⟩, rfl⟩ (CellAt.blk .head rfl) ?_
   refine WP.sx tysOk rfl ⟨⟨⟨rfl, rfl⟩, rfl⟩, ⟨⟩⟩ ?_
   refine WP.mx rfl ⟨⟨rfl, rfl⟩, rfl⟩ rfl rfl rfl rfl rfl rfl ?_
   refine WP.sx tysOk rfl ⟨⟨⟨rfl, rfl⟩, rfl⟩, ⟨⟩⟩ ?_
   refine WP.lend rfl ⟨rfl, rfl⟩ ?_
   refine WP.sto' tysOk [iv d1.x.src, iv d1.y.src, iv (if (w64 (r1 - d1.y.cap)) > d1.x.low then w64 (r1 - d1.y.cap) else d1.x.low), iv (if (w64 (r1 - d1.y.low)) < d1.x.cap then w64 (r1 - d1.y.low) else d1.x.cap), iv (w64 (d1.x.cost - d1.y.cost))] rfl rfl rfl rfl rfl rfl rfl rfl rfl (.tail .head) rfl rfl ?_
   refine WP.mx_ tysOk rfl ⟨⟩ (SegAt.blk' .head rfl) ?_
   refine WP.sto' tysOk [iv d1.x.src, iv d1.y.src, iv (if (w64 (r1 - d1.y.cap)) > d1.x.low then w64 (r1 - d1.y.cap) else d1.x.low), iv (if (w64 (r1 - d1.y.low)) < d1.x.cap then w64 (r1 - d1.y.low) else d1.x.cap), iv (w64 (d1.x.cost - d1.y.cost))] rfl rfl rfl rfl rfl rfl rfl rfl rfl (.tail (.tail .head)) rfl rfl ?_
   cases h
   refine WP.retR tysOk rfl rfl ⟨_, _, _, _, rfl, ⟨_, rfl, .inr ⟨rfl, _, rfl, rfl, (SegAt.blk' (z := 5) .head rfl).1⟩⟩, rfl, rfl⟩ (fun w1 hw1 => ⟨rfl, Ret.below_ hw1 (.cons (.tail (.tail (.tail (.tail .head)))) .nil)⟩)
  rw [if_neg hh1] at h
  iterate 3 (refine WP.sx tysOk rfl ⟨⟨⟩, ⟨⟩⟩ ?_)
  refine WP.lx tysOk rfl ⟨⟩ (CellAt.blk (.tail (.tail .head)) rfl) ?_
  by_cases hh3 : d1.y.cap = 4611686018427387904
  ·rw [if_pos hh3] at h
   refine WP.callV rfl rfl rfl rfl rfl rfl rfl (by kernel_rfl) (fun w1 hw1 => two_bound_nil hh3) ⟨⟩ ?_
   iterate 3 (refine WP.sx tysOk rfl ⟨⟨⟩, ⟨⟩⟩ ?_)
   refine WP.condF rfl rfl ?_
   refine WP.mx_ tysOk rfl ⟨⟩ (SegAt.blk' .head rfl) ?_
   refine WP.sto' tysOk [iv d1.y.dst, iv d1.x.dst, iv d1.x.low, iv (if (w64 (r1 - d1.y.low)) < d1.x.cap then w64 (r1 - d1.y.low) else d1.x.cap), iv (w64 (d1.x.cost - d1.y.cost))] rfl rfl rfl rfl rfl rfl rfl rfl rfl (.tail .head) rfl rfl ?_
   cases h
   refine WP.retR tysOk rfl rfl ⟨_, _, _, _, rfl, ⟨_, rfl, .inr ⟨rfl, _, rfl, rfl, (SegAt.blk' (z := 5) .head rfl).1⟩⟩, rfl, rfl⟩ (fun w1 hw1 => ⟨rfl, Ret.below_ hw1 (.cons (.tail (.tail (.tail .head))) .nil)⟩)
  rw [if_neg hh3] at h
  refine WP.callS (two_bound_S d1.y.cap) rfl rfl rfl rfl rfl rfl rfl (by kernel_rfl) (fun w1 hw1 => two_bound_some hh3) ?_
  rintro _ _ ⟨g5, rfl, rfl⟩
  iterate 3 (refine WP.sx tysOk rfl ⟨⟨⟩, ⟨⟩⟩ ?_)
  refine WP.condT rfl rfl ?_
  refine WP.drawL 9 [] rfl (by kernel_rfl) (by kernel_rfl) (by kernel_rfl) ?_
  refine WP.sx tysOk rfl ⟨⟨⟨rfl, rfl⟩, rfl⟩, ⟨⟩⟩ ?_
  refine WP.lx tysOk rfl ⟨⟨rfl, rfl⟩, rfl⟩ (CellAt.blk (.tail .head) rfl) ?_
  iterate 3 (refine WP.sx tysOk rfl ⟨⟨⟨rfl, rfl⟩, rfl⟩, ⟨⟩⟩ ?_)
  refine WP.lx tysOk rfl ⟨⟨rfl, rfl⟩, rfl⟩ (CellAt.blk .head rfl) ?_
  refine WP.sx tysOk rfl ⟨⟨⟨rfl, rfl⟩, rfl⟩, ⟨⟩⟩ ?_
  refine WP.mx rfl ⟨⟨rfl, rfl⟩, rfl⟩ rfl rfl rfl rfl rfl rfl ?_
  refine WP.sx tysOk rfl ⟨⟨⟨rfl, rfl⟩, rfl⟩, ⟨⟩⟩ ?_
  refine WP.lend rfl ⟨rfl, rfl⟩ ?_
  refine WP.sto' tysOk [iv d1.y.dst, iv d1.x.dst, iv (if (w64 (r1 - d1.y.cap)) > d1.x.low then w64 (r1 - d1.y.cap) else d1.x.low), iv (if (w64 (r1 - d1.y.low)) < d1.x.cap then w64 (r1 - d1.y.low) else d1.x.cap), iv (w64 (d1.x.cost - d1.y.cost))] rfl rfl rfl rfl rfl rfl rfl rfl rfl (.tail .head) rfl rfl ?_
  refine WP.mx_ tysOk rfl ⟨⟩ (SegAt.blk' .head rfl) ?_
  refine WP.sto' tysOk [iv d1.y.dst, iv d1.x.dst, iv (if (w64 (r1 - d1.y.cap)) > d1.x.low then w64 (r1 - d1.y.cap) else d1.x.low), iv (if (w64 (r1 - d1.y.low)) < d1.x.cap then w64 (r1 - d1.y.low) else d1.x.cap), iv (w64 (d1.x.cost - d1.y.cost))] rfl rfl rfl rfl rfl rfl rfl rfl rfl (.tail (.tail .head)) rfl rfl ?_
  cases h
  refine WP.retR tysOk rfl rfl ⟨_, _, _, _, rfl, ⟨_, rfl, .inr ⟨rfl, _, rfl, rfl, (SegAt.blk' (z := 5) .head rfl).1⟩⟩, rfl, rfl⟩ (fun w1 hw1 => ⟨rfl, Ret.below_ hw1 (.cons (.tail (.tail (.tail (.tail .head)))) .nil)⟩)
end Go.Proofs.YtpnohbdfgmjdbaaGreat
