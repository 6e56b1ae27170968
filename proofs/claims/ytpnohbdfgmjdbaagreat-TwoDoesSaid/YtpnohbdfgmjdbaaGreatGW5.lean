/- The walks: the code computes that. -/
import Derived.Test.YtpnohbdfgmjdbaaGreatGW4
import Derived.Test.YtpnohbdfgmjdbaaGreatTys
import Derived.Test.YtpnohbdfgmjdbaaGreatEngG
import Derived.KernelRfl
namespace Go.Proofs.YtpnohbdfgmjdbaaGreat
open Go.RowKit Go.Qe
set_option maxRecDepth 20000 in
set_option maxHeartbeats 8000000 in
theorem law18_does_w {w : World} {v0 : Value} {d1 : Inst} {i1 : Int} {r : Bool} (h : law18_does d1 i1 = some r) (p1 : InsZ (PH.of w) v0 d1) :
    Calls Tryz.prog 7 #[v0, iv i1] w fun e w' => e = .returned (.bool (r)) ∧ Below w.heap.size w w' := by
  obtain ⟨A1, c1, A2, c2, rfl, hs1, hs2⟩ := p1
  unfold law18_does at h
  refine enter_ Tryz.func7 rfl Tryz.ntmps7 rfl ?_
  refine WP.box rfl rfl rfl rfl rfl rfl ?_
  intro g1
  refine WP.sx tysOk rfl ⟨⟨⟩, ⟨⟩⟩ ?_
  refine WP.mx_ tysOk rfl ⟨⟩ (SegAt.blk' .head rfl) ?_
  obtain ⟨r1, hg1, h⟩ := bind_some h
  refine WP.callS (two_Series_S r1) rfl rfl rfl rfl rfl rfl rfl (by kernel_rfl) (fun w1 hw1 => (two_Series_w hg1 (InsZ.mk_ ((hs1.le' ((Held.mem (List.Mem.tail _ (List.Mem.head _))) _ _ hw1)).of) ((hs2.le' ((Held.mem (List.Mem.tail _ (List.Mem.head _))) _ _ hw1)).of)) :)) ?_
  rintro _ _ ⟨A3, n1, c3, A4, n2, c4, A5, n3, c5, A6, n4, c6, rfl, hf1, hf2, hf3, hf4, rfl⟩
  iterate 3 (refine WP.sx tysOk rfl ⟨⟨⟩, ⟨⟩⟩ ?_)
  refine WP.al tysOk rfl rfl rfl rfl rfl rfl ?_
  intro g2
  refine WP.sto' tysOk [.slice A3 n1 c3, .slice A4 n2 c4, iv r1.1.rcd.pass, .slice A5 n3 c5, .slice A6 n4 c6, iv r1.1.off.hi, .int .u64 (r1.1.off.lo), .bool (r1.1.did)] rfl rfl rfl rfl rfl rfl rfl rfl rfl .head rfl rfl ?_
  refine WP.sx tysOk rfl ⟨⟨⟩, ⟨⟩⟩ ?_
  refine WP.mx_ tysOk rfl ⟨⟩ (SegAt.blk' (.tail (.tail (.tail (.tail (.tail .head))))) rfl) ?_
  obtain ⟨r2, hg2, h⟩ := bind_some h
  refine WP.callS (ref18_Series_S (PH.of w) r2) rfl rfl rfl rfl rfl rfl rfl (by kernel_rfl) (fun w1 hw1 => (ref18_Series_w (Z := (PH.of w)) ((Held.mem (List.Mem.tail _ (List.Mem.tail _ (List.Mem.tail _ (List.Mem.tail _ (List.Mem.tail _ (List.Mem.tail _ (List.Mem.head _)))))))) _ _ hw1) hg2 (InsZ.mk_ ((hs1.le' PH.le.rfl_).of) ((hs2.le' PH.le.rfl_).of)) :)) ?_
  rintro _ _ ⟨Zn1, A7, _, c7, A8, _, c8, A9, _, c9, A10, _, c10, rfl, rfl, rfl, rfl, rfl, hs3, hs4, hs5, hs6, rfl⟩
  iterate 3 (refine WP.sx tysOk rfl ⟨⟨⟩, ⟨⟩⟩ ?_)
  refine WP.al tysOk rfl rfl rfl rfl rfl rfl ?_
  intro g3
  refine WP.sto' tysOk [.slice A7 r2.1.inst.supply.length c7, .slice A8 r2.1.inst.arcs.length c8, iv r2.1.rcd.pass, .slice A9 r2.1.rcd.was.supply.length c9, .slice A10 r2.1.rcd.was.arcs.length c10, iv r2.1.off.hi, .int .u64 (r2.1.off.lo), .bool (r2.1.did)] rfl rfl rfl rfl rfl rfl rfl rfl rfl .head rfl rfl ?_
  refine WP.sx tysOk rfl ⟨⟨⟩, ⟨⟩⟩ ?_
  refine WP.mx_ tysOk rfl ⟨⟩ (SegAt.blk' (.tail (.tail (.tail (.tail (.tail (.tail (.tail .head))))))) rfl) ?_
  obtain ⟨r3, hg3, h⟩ := bind_some h
  refine WP.callS (two_Fork_S r3) rfl rfl rfl rfl rfl rfl rfl (by kernel_rfl) (fun w1 hw1 => (two_Fork_w hg3 (InsZ.mk_ ((hs1.le' ((Held.mem (List.Mem.tail _ (List.Mem.tail _ (List.Mem.tail _ (List.Mem.tail _ (List.Mem.tail _ (List.Mem.tail _ (List.Mem.tail _ (List.Mem.tail _ (List.Mem.head _)))))))))) _ _ hw1)).of) ((hs2.le' ((Held.mem (List.Mem.tail _ (List.Mem.tail _ (List.Mem.tail _ (List.Mem.tail _ (List.Mem.tail _ (List.Mem.tail _ (List.Mem.tail _ (List.Mem.tail _ (List.Mem.head _)))))))))) _ _ hw1)).of)) :)) ?_
  rintro _ _ ⟨A11, n5, c11, A12, n6, c12, A13, n7, c13, A14, n8, c14, rfl, hf5, hf6, hf7, hf8, rfl⟩
  iterate 3 (refine WP.sx tysOk rfl ⟨⟨⟩, ⟨⟩⟩ ?_)
  refine WP.al tysOk rfl rfl rfl rfl rfl rfl ?_
  intro g4
  refine WP.sto' tysOk [.slice A11 n5 c11, .slice A12 n6 c12, iv r3.1.rcd.pass, .slice A13 n7 c13, .slice A14 n8 c14, iv r3.1.off.hi, .int .u64 (r3.1.off.lo), .bool (r3.1.did)] rfl rfl rfl rfl rfl rfl rfl rfl rfl .head rfl rfl ?_
  refine WP.sx tysOk rfl ⟨⟨⟩, ⟨⟩⟩ ?_
  refine WP.mx_ tysOk rfl ⟨⟩ (SegAt.blk' (.tail (.tail (.tail (.tail (.tail (.tail (.tail (.tail (.tail (.tail (.tail (.tail .head)))))))))))) rfl) ?_
  obtain ⟨r4, hg4, h⟩ := bind_some h
  refine WP.callS (ref18_Fork_S (PH.of w) r4) rfl rfl rfl rfl rfl rfl rfl (by kernel_rfl) (fun w1 hw1 => (ref18_Fork_w (Z := (PH.of w)) ((Held.mem (List.Mem.tail _ (List.Mem.tail _ (List.Mem.tail _ (List.Mem.tail _ (List.Mem.tail _ (List.Mem.tail _ (List.Mem.tail _ (List.Mem.tail _ (List.Mem.tail _ (List.Mem.tail _ (List.Mem.tail _ (List.Mem.tail _ (List.Mem.tail _ (List.Mem.head _))))))))))))))) _ _ hw1) hg4 (InsZ.mk_ ((hs1.le' PH.le.rfl_).of) ((hs2.le' PH.le.rfl_).of)) :)) ?_
  rintro _ _ ⟨Zn2, A15, _, c15, A16, _, c16, A17, _, c17, A18, _, c18, rfl, rfl, rfl, rfl, rfl, hs7, hs8, hs9, hs10, rfl⟩
  iterate 3 (refine WP.sx tysOk rfl ⟨⟨⟩, ⟨⟩⟩ ?_)
  refine WP.al tysOk rfl rfl rfl rfl rfl rfl ?_
  intro g5
  refine WP.sto' tysOk [.slice A15 r4.1.inst.supply.length c15, .slice A16 r4.1.inst.arcs.length c16, iv r4.1.rcd.pass, .slice A17 r4.1.rcd.was.supply.length c17, .slice A18 r4.1.rcd.was.arcs.length c18, iv r4.1.off.hi, .int .u64 (r4.1.off.lo), .bool (r4.1.did)] rfl rfl rfl rfl rfl rfl rfl rfl rfl .head rfl rfl ?_
  refine WP.sx tysOk rfl ⟨⟨⟩, ⟨⟩⟩ ?_
  refine WP.mx_ tysOk rfl ⟨⟩ (SegAt.blk' (.tail (.tail (.tail (.tail (.tail (.tail (.tail (.tail (.tail (.tail (.tail (.tail (.tail (.tail .head)))))))))))))) rfl) ?_
  obtain ⟨r5, hg5, h⟩ := bind_some h
  refine WP.callV rfl rfl rfl rfl rfl rfl rfl (by kernel_rfl) (fun w1 hw1 => (ref03_Right_w hg5 (InsZ.mk_ ((hs1.le' ((Held.mem (List.Mem.tail _ (List.Mem.tail _ (List.Mem.tail _ (List.Mem.tail _ (List.Mem.tail _ (List.Mem.tail _ (List.Mem.tail _ (List.Mem.tail _ (List.Mem.tail _ (List.Mem.tail _ (List.Mem.tail _ (List.Mem.tail _ (List.Mem.tail _ (List.Mem.tail _ (List.Mem.tail _ (List.Mem.head _))))))))))))))))) _ _ hw1)).of) ((hs2.le' ((Held.mem (List.Mem.tail _ (List.Mem.tail _ (List.Mem.tail _ (List.Mem.tail _ (List.Mem.tail _ (List.Mem.tail _ (List.Mem.tail _ (List.Mem.tail _ (List.Mem.tail _ (List.Mem.tail _ (List.Mem.tail _ (List.Mem.tail _ (List.Mem.tail _ (List.Mem.tail _ (List.Mem.tail _ (List.Mem.head _))))))))))))))))) _ _ hw1)).of)) :)) ⟨⟩ ?_
  refine WP.sx tysOk rfl ⟨⟨⟩, ⟨⟩⟩ ?_
  obtain ⟨k1, hk1, h⟩ := lt_some h
  refine WP.join (α := Unit) (fun x => k1 () = some r) (fun x => [(5, .pointer (some ⟨g2, 0, none⟩)), (6, .int .u16 (r1.2)), (7, .pointer (some ⟨g3, 0, none⟩)), (8, iv r2.2), (9, .pointer (some ⟨g4, 0, none⟩)), (10, .int .u16 (r3.2)), (11, .pointer (some ⟨g5, 0, none⟩)), (12, iv r4.2)]) (fun x => [.blk g5 48 [.slice A15 r4.1.inst.supply.length c15, .slice A16 r4.1.inst.arcs.length c16, iv r4.1.rcd.pass, .slice A17 r4.1.rcd.was.supply.length c17, .slice A18 r4.1.rcd.was.arcs.length c18, iv r4.1.off.hi, .int .u64 (r4.1.off.lo), .bool (r4.1.did)], .fz Zn2, .blk g4 48 [.slice A11 n5 c11, .slice A12 n6 c12, iv r3.1.rcd.pass, .slice A13 n7 c13, .slice A14 n8 c14, iv r3.1.off.hi, .int .u64 (r3.1.off.lo), .bool (r3.1.did)], Ow (fI .i64) 2 A11 n5 c11 r3.1.inst.supply, Ow fA 34 A12 n6 c12 r3.1.inst.arcs, Ow (fI .i64) 2 A13 n7 c13 r3.1.rcd.was.supply, Ow fA 34 A14 n8 c14 r3.1.rcd.was.arcs, .blk g3 48 [.slice A7 r2.1.inst.supply.length c7, .slice A8 r2.1.inst.arcs.length c8, iv r2.1.rcd.pass, .slice A9 r2.1.rcd.was.supply.length c9, .slice A10 r2.1.rcd.was.arcs.length c10, iv r2.1.off.hi, .int .u64 (r2.1.off.lo), .bool (r2.1.did)], .fz Zn1, .blk g2 48 [.slice A3 n1 c3, .slice A4 n2 c4, iv r1.1.rcd.pass, .slice A5 n3 c5, .slice A6 n4 c6, iv r1.1.off.hi, .int .u64 (r1.1.off.lo), .bool (r1.1.did)], Ow (fI .i64) 2 A3 n1 c3 r1.1.inst.supply, Ow fA 34 A4 n2 c4 r1.1.inst.arcs, Ow (fI .i64) 2 A5 n3 c5 r1.1.rcd.was.supply, Ow fA 34 A6 n4 c6 r1.1.rcd.was.arcs, .fz (PH.of w)]) rfl ?_ ?_
  ·refine WP.cond_d rfl rfl (fun hh15 => ?_) (fun hh15 => ?_)
   ·rw [if_pos hh15] at h
    refine WP.mx_ tysOk rfl ⟨⟩ (SegAt.blk' (.tail (.tail (.tail (.tail (.tail (.tail (.tail (.tail (.tail (.tail (.tail (.tail (.tail (.tail .head)))))))))))))) rfl) ?_
    refine WP.sx tysOk rfl ⟨⟨⟩, ⟨⟩⟩ ?_
    obtain ⟨r12, hg12, h⟩ := bind_some h
    refine WP.callV rfl rfl rfl rfl rfl rfl rfl (by kernel_rfl) (fun w1 hw1 => (two_Chain_w hg12 (InsZ.mk_ ((hs1.le' ((Held.mem (List.Mem.tail _ (List.Mem.tail _ (List.Mem.tail _ (List.Mem.tail _ (List.Mem.tail _ (List.Mem.tail _ (List.Mem.tail _ (List.Mem.tail _ (List.Mem.tail _ (List.Mem.tail _ (List.Mem.tail _ (List.Mem.tail _ (List.Mem.tail _ (List.Mem.tail _ (List.Mem.tail _ (List.Mem.head _))))))))))))))))) _ _ hw1)).of) ((hs2.le' ((Held.mem (List.Mem.tail _ (List.Mem.tail _ (List.Mem.tail _ (List.Mem.tail _ (List.Mem.tail _ (List.Mem.tail _ (List.Mem.tail _ (List.Mem.tail _ (List.Mem.tail _ (List.Mem.tail _ (List.Mem.tail _ (List.Mem.tail _ (List.Mem.tail _ (List.Mem.tail _ (List.Mem.tail _ (List.Mem.head _))))))))))))))))) _ _ hw1)).of)) :)) ⟨⟩ ?_
    iterate 3 (refine WP.sx tysOk rfl ⟨⟨⟩, ⟨⟩⟩ ?_)
    refine WP.al tysOk rfl rfl rfl rfl rfl rfl ?_
    intro g10
    refine WP.sto' tysOk [iv r12.1.node, iv r12.1.a, iv r12.1.b, iv r12.1.new.src, iv r12.1.new.dst, iv r12.1.new.low, iv r12.1.new.cap, iv r12.1.new.cost] rfl rfl rfl rfl rfl rfl rfl rfl rfl .head rfl rfl ?_
    refine WP.sx tysOk rfl ⟨⟨⟩, ⟨⟩⟩ ?_
    refine WP.mx_ tysOk rfl ⟨⟩ (SegAt.blk' (.tail (.tail (.tail (.tail (.tail (.tail (.tail (.tail (.tail (.tail (.tail (.tail (.tail (.tail (.tail .head))))))))))))))) rfl) ?_
    refine WP.sx tysOk rfl ⟨⟨⟩, ⟨⟩⟩ ?_
    obtain ⟨r13, hg13, h⟩ := bind_some h
    refine WP.callV rfl rfl rfl rfl rfl rfl rfl (by kernel_rfl) (fun w1 hw1 => (ref18_Chain_w hg13 (InsZ.mk_ ((hs1.le' ((Held.mem (List.Mem.tail _ (List.Mem.tail _ (List.Mem.tail _ (List.Mem.tail _ (List.Mem.tail _ (List.Mem.tail _ (List.Mem.tail _ (List.Mem.tail _ (List.Mem.tail _ (List.Mem.tail _ (List.Mem.tail _ (List.Mem.tail _ (List.Mem.tail _ (List.Mem.tail _ (List.Mem.tail _ (List.Mem.tail _ (List.Mem.head _)))))))))))))))))) _ _ hw1)).of) ((hs2.le' ((Held.mem (List.Mem.tail _ (List.Mem.tail _ (List.Mem.tail _ (List.Mem.tail _ (List.Mem.tail _ (List.Mem.tail _ (List.Mem.tail _ (List.Mem.tail _ (List.Mem.tail _ (List.Mem.tail _ (List.Mem.tail _ (List.Mem.tail _ (List.Mem.tail _ (List.Mem.tail _ (List.Mem.tail _ (List.Mem.tail _ (List.Mem.head _)))))))))))))))))) _ _ hw1)).of)) :)) ⟨⟩ ?_
    iterate 3 (refine WP.sx tysOk rfl ⟨⟨⟩, ⟨⟩⟩ ?_)
    refine WP.al tysOk rfl rfl rfl rfl rfl rfl ?_
    intro g11
    refine WP.sto' tysOk [iv r13.1.node, iv r13.1.a, iv r13.1.b, iv r13.1.new.src, iv r13.1.new.dst, iv r13.1.new.low, iv r13.1.new.cap, iv r13.1.new.cost] rfl rfl rfl rfl rfl rfl rfl rfl rfl .head rfl rfl ?_
    refine WP.sx tysOk rfl ⟨⟨⟩, ⟨⟩⟩ ?_
    refine WP.mx_ tysOk rfl ⟨⟩ (SegAt.blk' (.tail (.tail (.tail (.tail (.tail (.tail (.tail (.tail (.tail (.tail (.tail (.tail (.tail (.tail (.tail (.tail .head)))))))))))))))) rfl) ?_
    refine WP.sx tysOk rfl ⟨⟨⟩, ⟨⟩⟩ ?_
    obtain ⟨r14, hg14, h⟩ := bind_some h
    refine WP.callV rfl rfl rfl rfl rfl rfl rfl (by kernel_rfl) (fun w1 hw1 => (two_Split_w hg14 (InsZ.mk_ ((hs1.le' ((Held.mem (List.Mem.tail _ (List.Mem.tail _ (List.Mem.tail _ (List.Mem.tail _ (List.Mem.tail _ (List.Mem.tail _ (List.Mem.tail _ (List.Mem.tail _ (List.Mem.tail _ (List.Mem.tail _ (List.Mem.tail _ (List.Mem.tail _ (List.Mem.tail _ (List.Mem.tail _ (List.Mem.tail _ (List.Mem.tail _ (List.Mem.tail _ (List.Mem.head _))))))))))))))))))) _ _ hw1)).of) ((hs2.le' ((Held.mem (List.Mem.tail _ (List.Mem.tail _ (List.Mem.tail _ (List.Mem.tail _ (List.Mem.tail _ (List.Mem.tail _ (List.Mem.tail _ (List.Mem.tail _ (List.Mem.tail _ (List.Mem.tail _ (List.Mem.tail _ (List.Mem.tail _ (List.Mem.tail _ (List.Mem.tail _ (List.Mem.tail _ (List.Mem.tail _ (List.Mem.tail _ (List.Mem.head _))))))))))))))))))) _ _ hw1)).of)) :)) ⟨⟩ ?_
    iterate 3 (refine WP.sx tysOk rfl ⟨⟨⟩, ⟨⟩⟩ ?_)
    refine WP.al tysOk rfl rfl rfl rfl rfl rfl ?_
    intro g12
    refine WP.sto' tysOk [iv r14.1.node, iv r14.1.a, iv r14.1.b, iv r14.1.new.src, iv r14.1.new.dst, iv r14.1.new.low, iv r14.1.new.cap, iv r14.1.new.cost] rfl rfl rfl rfl rfl rfl rfl rfl rfl .head rfl rfl ?_
    refine WP.sx tysOk rfl ⟨⟨⟩, ⟨⟩⟩ ?_
    refine WP.mx_ tysOk rfl ⟨⟩ (SegAt.blk' (.tail (.tail (.tail (.tail (.tail (.tail (.tail (.tail (.tail (.tail (.tail (.tail (.tail (.tail (.tail (.tail (.tail .head))))))))))))))))) rfl) ?_
    refine WP.sx tysOk rfl ⟨⟨⟩, ⟨⟩⟩ ?_
    obtain ⟨r15, hg15, h⟩ := bind_some h
    refine WP.callV rfl rfl rfl rfl rfl rfl rfl (by kernel_rfl) (fun w1 hw1 => (ref18_Split_w hg15 (InsZ.mk_ ((hs1.le' ((Held.mem (List.Mem.tail _ (List.Mem.tail _ (List.Mem.tail _ (List.Mem.tail _ (List.Mem.tail _ (List.Mem.tail _ (List.Mem.tail _ (List.Mem.tail _ (List.Mem.tail _ (List.Mem.tail _ (List.Mem.tail _ (List.Mem.tail _ (List.Mem.tail _ (List.Mem.tail _ (List.Mem.tail _ (List.Mem.tail _ (List.Mem.tail _ (List.Mem.tail _ (List.Mem.head _)))))))))))))))))))) _ _ hw1)).of) ((hs2.le' ((Held.mem (List.Mem.tail _ (List.Mem.tail _ (List.Mem.tail _ (List.Mem.tail _ (List.Mem.tail _ (List.Mem.tail _ (List.Mem.tail _ (List.Mem.tail _ (List.Mem.tail _ (List.Mem.tail _ (List.Mem.tail _ (List.Mem.tail _ (List.Mem.tail _ (List.Mem.tail _ (List.Mem.tail _ (List.Mem.tail _ (List.Mem.tail _ (List.Mem.tail _ (List.Mem.head _)))))))))))))))))))) _ _ hw1)).of)) :)) ⟨⟩ ?_
    iterate 3 (refine WP.sx tysOk rfl ⟨⟨⟩, ⟨⟩⟩ ?_)
    refine WP.al tysOk rfl rfl rfl rfl rfl rfl ?_
    intro g13
    refine WP.sto' tysOk [iv r15.1.node, iv r15.1.a, iv r15.1.b, iv r15.1.new.src, iv r15.1.new.dst, iv r15.1.new.low, iv r15.1.new.cap, iv r15.1.new.cost] rfl rfl rfl rfl rfl rfl rfl rfl rfl .head rfl rfl ?_
    iterate 5 (refine WP.sx tysOk rfl ⟨⟨⟩, ⟨⟩⟩ ?_)
    by_cases hh16 : (r12.2 == r13.2) = true
    ·rw [if_pos hh16] at h
     refine WP.yes rfl rfl (by simp [hh16]) ?_
     iterate 2 (refine WP.sx tysOk rfl ⟨⟨⟩, ⟨⟩⟩ ?_; refine WP.yes rfl rfl rfl ?_)
     iterate 3 (refine WP.sx tysOk rfl ⟨⟨⟩, ⟨⟩⟩ ?_)
     by_cases hh17 : (r14.2 == r15.2) = true
     ·rw [if_pos hh17] at h
      refine WP.yes rfl rfl (by simp [hh17]) ?_
      refine WP.sx tysOk rfl ⟨⟨⟩, ⟨⟩⟩ ?_
      refine WP.yes rfl rfl rfl ?_
      refine WP.lx tysOk rfl ⟨⟩ (CellAt.blk (.tail (.tail (.tail .head))) rfl) ?_
      refine WP.yes rfl rfl rfl ?_
      refine WP.sx tysOk rfl ⟨⟨⟩, ⟨⟩⟩ ?_
      refine WP.yes rfl rfl rfl ?_
      refine WP.lx tysOk rfl ⟨⟩ (CellAt.blk (.tail (.tail .head)) rfl) ?_
      refine WP.yes rfl rfl rfl ?_
      iterate 3 (refine WP.sx tysOk rfl ⟨⟨⟩, ⟨⟩⟩ ?_)
      by_cases hh18 : ¬ r12.1.node = r13.1.node
      ·rw [if_pos hh18] at h
       refine WP.no rfl rfl (decide_eq_true hh18) rfl rfl ?_
       iterate 4 (refine WP.no rfl rfl rfl rfl rfl ?_)
       iterate 2 (refine WP.sx tysOk rfl ⟨⟨⟩, ⟨⟩⟩ ?_)
       iterate 5 (refine WP.no rfl rfl rfl rfl rfl ?_)
       iterate 2 (refine WP.sx tysOk rfl ⟨⟨⟩, ⟨⟩⟩ ?_)
       iterate 5 (refine WP.no rfl rfl rfl rfl rfl ?_)
       iterate 2 (refine WP.sx tysOk rfl ⟨⟨⟩, ⟨⟩⟩ ?_)
       iterate 5 (refine WP.no rfl rfl rfl rfl rfl ?_)
       iterate 2 (refine WP.sx tysOk rfl ⟨⟨⟩, ⟨⟩⟩ ?_)
       iterate 5 (refine WP.no rfl rfl rfl rfl rfl ?_)
       iterate 2 (refine WP.sx tysOk rfl ⟨⟨⟩, ⟨⟩⟩ ?_)
       iterate 5 (refine WP.no rfl rfl rfl rfl rfl ?_)
       iterate 2 (refine WP.sx tysOk rfl ⟨⟨⟩, ⟨⟩⟩ ?_)
       iterate 5 (refine WP.no rfl rfl rfl rfl rfl ?_)
       refine WP.sx tysOk rfl ⟨⟨⟩, ⟨⟩⟩ ?_
       refine WP.condT rfl rfl ?_
       refine WP.sx tysOk rfl ⟨⟨⟩, ⟨⟩⟩ ?_
       cases h
       refine WP.retR tysOk rfl rfl ⟨_, _, rfl, rfl, rfl⟩ (fun w1 hw1 => ⟨rfl, Ret.below_ hw1 (.cons (.tail (.tail (.tail (.tail (.tail (.tail (.tail (.tail (.tail (.tail (.tail (.tail (.tail (.tail (.tail (.tail (.tail (.tail (.tail .head))))))))))))))))))) .nil)⟩)
      rw [if_neg hh18] at h
      refine WP.yes rfl rfl (decide_eq_false hh18) ?_
      refine WP.sx tysOk rfl ⟨⟨⟩, ⟨⟩⟩ ?_
      refine WP.yes rfl rfl rfl ?_
      refine WP.lx tysOk rfl ⟨⟩ (CellAt.blk (.tail (.tail (.tail .head))) rfl) ?_
      refine WP.yes rfl rfl rfl ?_
      refine WP.sx tysOk rfl ⟨⟨⟩, ⟨⟩⟩ ?_
      refine WP.yes rfl rfl rfl ?_
      refine WP.lx tysOk rfl ⟨⟩ (CellAt.blk (.tail (.tail .head)) rfl) ?_
      refine WP.yes rfl rfl rfl ?_
      iterate 3 (refine WP.sx tysOk rfl ⟨⟨⟩, ⟨⟩⟩ ?_)
      by_cases hh19 : ¬ r12.1.a = r13.1.a
      ·rw [if_pos hh19] at h
       refine WP.no rfl rfl (decide_eq_true hh19) rfl rfl ?_
       iterate 4 (refine WP.no rfl rfl rfl rfl rfl ?_)
       iterate 2 (refine WP.sx tysOk rfl ⟨⟨⟩, ⟨⟩⟩ ?_)
       iterate 5 (refine WP.no rfl rfl rfl rfl rfl ?_)
       iterate 2 (refine WP.sx tysOk rfl ⟨⟨⟩, ⟨⟩⟩ ?_)
       iterate 5 (refine WP.no rfl rfl rfl rfl rfl ?_)
       iterate 2 (refine WP.sx tysOk rfl ⟨⟨⟩, ⟨⟩⟩ ?_)
       iterate 5 (refine WP.no rfl rfl rfl rfl rfl ?_)
       iterate 2 (refine WP.sx tysOk rfl ⟨⟨⟩, ⟨⟩⟩ ?_)
       iterate 5 (refine WP.no rfl rfl rfl rfl rfl ?_)
       iterate 2 (refine WP.sx tysOk rfl ⟨⟨⟩, ⟨⟩⟩ ?_)
       iterate 5 (refine WP.no rfl rfl rfl rfl rfl ?_)
       refine WP.sx tysOk rfl ⟨⟨⟩, ⟨⟩⟩ ?_
       refine WP.condT rfl rfl ?_
       refine WP.sx tysOk rfl ⟨⟨⟩, ⟨⟩⟩ ?_
       cases h
       refine WP.retR tysOk rfl rfl ⟨_, _, rfl, rfl, rfl⟩ (fun w1 hw1 => ⟨rfl, Ret.below_ hw1 (.cons (.tail (.tail (.tail (.tail (.tail (.tail (.tail (.tail (.tail (.tail (.tail (.tail (.tail (.tail (.tail (.tail (.tail (.tail (.tail .head))))))))))))))))))) .nil)⟩)
      rw [if_neg hh19] at h
      refine WP.yes rfl rfl (decide_eq_false hh19) ?_
      refine WP.sx tysOk rfl ⟨⟨⟩, ⟨⟩⟩ ?_
      refine WP.yes rfl rfl rfl ?_
      refine WP.lx tysOk rfl ⟨⟩ (CellAt.blk (.tail (.tail (.tail .head))) rfl) ?_
      refine WP.yes rfl rfl rfl ?_
      refine WP.sx tysOk rfl ⟨⟨⟩, ⟨⟩⟩ ?_
      refine WP.yes rfl rfl rfl ?_
      refine WP.lx tysOk rfl ⟨⟩ (CellAt.blk (.tail (.tail .head)) rfl) ?_
      refine WP.yes rfl rfl rfl ?_
      iterate 3 (refine WP.sx tysOk rfl ⟨⟨⟩, ⟨⟩⟩ ?_)
      by_cases hh20 : ¬ r12.1.b = r13.1.b
      ·rw [if_pos hh20] at h
       refine WP.no rfl rfl (decide_eq_true hh20) rfl rfl ?_
       iterate 4 (refine WP.no rfl rfl rfl rfl rfl ?_)
       iterate 2 (refine WP.sx tysOk rfl ⟨⟨⟩, ⟨⟩⟩ ?_)
       iterate 5 (refine WP.no rfl rfl rfl rfl rfl ?_)
       iterate 2 (refine WP.sx tysOk rfl ⟨⟨⟩, ⟨⟩⟩ ?_)
       iterate 5 (refine WP.no rfl rfl rfl rfl rfl ?_)
       iterate 2 (refine WP.sx tysOk rfl ⟨⟨⟩, ⟨⟩⟩ ?_)
       iterate 5 (refine WP.no rfl rfl rfl rfl rfl ?_)
       iterate 2 (refine WP.sx tysOk rfl ⟨⟨⟩, ⟨⟩⟩ ?_)
       iterate 5 (refine WP.no rfl rfl rfl rfl rfl ?_)
       refine WP.sx tysOk rfl ⟨⟨⟩, ⟨⟩⟩ ?_
       refine WP.condT rfl rfl ?_
       refine WP.sx tysOk rfl ⟨⟨⟩, ⟨⟩⟩ ?_
       cases h
       refine WP.retR tysOk rfl rfl ⟨_, _, rfl, rfl, rfl⟩ (fun w1 hw1 => ⟨rfl, Ret.below_ hw1 (.cons (.tail (.tail (.tail (.tail (.tail (.tail (.tail (.tail (.tail (.tail (.tail (.tail (.tail (.tail (.tail (.tail (.tail (.tail (.tail .head))))))))))))))))))) .nil)⟩)
      rw [if_neg hh20] at h
      refine WP.yes rfl rfl (decide_eq_false hh20) ?_
      refine WP.sx tysOk rfl ⟨⟨⟩, ⟨⟩⟩ ?_
      refine WP.yes rfl rfl rfl ?_
      refine WP.mx_ tysOk rfl ⟨⟩ (SegAt.blk' (.tail (.tail (.tail .head))) rfl) ?_
      refine WP.yes rfl rfl rfl ?_
      refine WP.sx tysOk rfl ⟨⟨⟩, ⟨⟩⟩ ?_
      refine WP.yes rfl rfl rfl ?_
      refine WP.mx_ tysOk rfl ⟨⟩ (SegAt.blk' (.tail (.tail .head)) rfl) ?_
      refine WP.yes rfl rfl rfl ?_
      refine WP.neS rfl ⟨⟩ rfl rfl rfl rfl rfl rfl (by kernel_rfl) (eq34 r12.1.new r13.1.new) ?_
      iterate 2 (refine WP.sx tysOk rfl ⟨⟨⟩, ⟨⟩⟩ ?_)
      by_cases hh21 : r12.1.new = r13.1.new
      ·rw [if_pos hh21] at h
       refine WP.yes rfl rfl (by simp [hh21]) ?_
       refine WP.sx tysOk rfl ⟨⟨⟩, ⟨⟩⟩ ?_
       refine WP.yes rfl rfl rfl ?_
       refine WP.lx tysOk rfl ⟨⟩ (CellAt.blk (.tail .head) rfl) ?_
       refine WP.yes rfl rfl rfl ?_
       refine WP.sx tysOk rfl ⟨⟨⟩, ⟨⟩⟩ ?_
       refine WP.yes rfl rfl rfl ?_
       refine WP.lx tysOk rfl ⟨⟩ (CellAt.blk .head rfl) ?_
       refine WP.yes rfl rfl rfl ?_
       iterate 3 (refine WP.sx tysOk rfl ⟨⟨⟩, ⟨⟩⟩ ?_)
       by_cases hh22 : ¬ r14.1.node = r15.1.node
       ·rw [if_pos hh22] at h
        refine WP.no rfl rfl (decide_eq_true hh22) rfl rfl ?_
        iterate 4 (refine WP.no rfl rfl rfl rfl rfl ?_)
        iterate 2 (refine WP.sx tysOk rfl ⟨⟨⟩, ⟨⟩⟩ ?_)
        iterate 5 (refine WP.no rfl rfl rfl rfl rfl ?_)
        iterate 2 (refine WP.sx tysOk rfl ⟨⟨⟩, ⟨⟩⟩ ?_)
        iterate 5 (refine WP.no rfl rfl rfl rfl rfl ?_)
        refine WP.sx tysOk rfl ⟨⟨⟩, ⟨⟩⟩ ?_
        refine WP.condT rfl rfl ?_
        refine WP.sx tysOk rfl ⟨⟨⟩, ⟨⟩⟩ ?_
        cases h
        refine WP.retR tysOk rfl rfl ⟨_, _, rfl, rfl, rfl⟩ (fun w1 hw1 => ⟨rfl, Ret.below_ hw1 (.cons (.tail (.tail (.tail (.tail (.tail (.tail (.tail (.tail (.tail (.tail (.tail (.tail (.tail (.tail (.tail (.tail (.tail (.tail (.tail .head))))))))))))))))))) .nil)⟩)
       rw [if_neg hh22] at h
       refine WP.yes rfl rfl (decide_eq_false hh22) ?_
       refine WP.sx tysOk rfl ⟨⟨⟩, ⟨⟩⟩ ?_
       refine WP.yes rfl rfl rfl ?_
       refine WP.lx tysOk rfl ⟨⟩ (CellAt.blk (.tail .head) rfl) ?_
       refine WP.yes rfl rfl rfl ?_
       refine WP.sx tysOk rfl ⟨⟨⟩, ⟨⟩⟩ ?_
       refine WP.yes rfl rfl rfl ?_
       refine WP.lx tysOk rfl ⟨⟩ (CellAt.blk .head rfl) ?_
       refine WP.yes rfl rfl rfl ?_
       iterate 3 (refine WP.sx tysOk rfl ⟨⟨⟩, ⟨⟩⟩ ?_)
       by_cases hh23 : ¬ r14.1.a = r15.1.a
       ·rw [if_pos hh23] at h
        refine WP.no rfl rfl (decide_eq_true hh23) rfl rfl ?_
        iterate 4 (refine WP.no rfl rfl rfl rfl rfl ?_)
        iterate 2 (refine WP.sx tysOk rfl ⟨⟨⟩, ⟨⟩⟩ ?_)
        iterate 5 (refine WP.no rfl rfl rfl rfl rfl ?_)
        refine WP.sx tysOk rfl ⟨⟨⟩, ⟨⟩⟩ ?_
        refine WP.condT rfl rfl ?_
        refine WP.sx tysOk rfl ⟨⟨⟩, ⟨⟩⟩ ?_
        cases h
        refine WP.retR tysOk rfl rfl ⟨_, _, rfl, rfl, rfl⟩ (fun w1 hw1 => ⟨rfl, Ret.below_ hw1 (.cons (.tail (.tail (.tail (.tail (.tail (.tail (.tail (.tail (.tail (.tail (.tail (.tail (.tail (.tail (.tail (.tail (.tail (.tail (.tail .head))))))))))))))))))) .nil)⟩)
       rw [if_neg hh23] at h
       refine WP.yes rfl rfl (decide_eq_false hh23) ?_
       refine WP.sx tysOk rfl ⟨⟨⟩, ⟨⟩⟩ ?_
       refine WP.yes rfl rfl rfl ?_
       refine WP.lx tysOk rfl ⟨⟩ (CellAt.blk (.tail .head) rfl) ?_
       refine WP.yes rfl rfl rfl ?_
       refine WP.sx tysOk rfl ⟨⟨⟩, ⟨⟩⟩ ?_
       refine WP.yes rfl rfl rfl ?_
       refine WP.lx tysOk rfl ⟨⟩ (CellAt.blk .head rfl) ?_
       refine WP.yes rfl rfl rfl ?_
       iterate 3 (refine WP.sx tysOk rfl ⟨⟨⟩, ⟨⟩⟩ ?_)
       by_cases hh24 : ¬ r14.1.b = r15.1.b
       ·rw [if_pos hh24] at h
        refine WP.no rfl rfl (decide_eq_true hh24) rfl rfl ?_
        iterate 4 (refine WP.no rfl rfl rfl rfl rfl ?_)
        refine WP.sx tysOk rfl ⟨⟨⟩, ⟨⟩⟩ ?_
        refine WP.condT rfl rfl ?_
        refine WP.sx tysOk rfl ⟨⟨⟩, ⟨⟩⟩ ?_
        cases h
        refine WP.retR tysOk rfl rfl ⟨_, _, rfl, rfl, rfl⟩ (fun w1 hw1 => ⟨rfl, Ret.below_ hw1 (.cons (.tail (.tail (.tail (.tail (.tail (.tail (.tail (.tail (.tail (.tail (.tail (.tail (.tail (.tail (.tail (.tail (.tail (.tail (.tail .head))))))))))))))))))) .nil)⟩)
       rw [if_neg hh24] at h
       refine WP.yes rfl rfl (decide_eq_false hh24) ?_
       refine WP.sx tysOk rfl ⟨⟨⟩, ⟨⟩⟩ ?_
       refine WP.yes rfl rfl rfl ?_
       refine WP.mx_ tysOk rfl ⟨⟩ (SegAt.blk' (.tail .head) rfl) ?_
       refine WP.yes rfl rfl rfl ?_
       refine WP.sx tysOk rfl ⟨⟨⟩, ⟨⟩⟩ ?_
       refine WP.yes rfl rfl rfl ?_
       refine WP.mx_ tysOk rfl ⟨⟩ (SegAt.blk' .head rfl) ?_
       refine WP.yes rfl rfl rfl ?_
       refine WP.neS rfl ⟨⟩ rfl rfl rfl rfl rfl rfl (by kernel_rfl) (eq34 r14.1.new r15.1.new) ?_
       refine WP.sx tysOk rfl ⟨⟨⟩, ⟨⟩⟩ ?_
       refine WP.cond_nd rfl rfl (fun hh25 => ?_) (fun hh25 => ?_)
       ·rw [if_neg hh25] at h
        refine WP.sx tysOk rfl ⟨⟨⟩, ⟨⟩⟩ ?_
        cases h
        refine WP.retR tysOk rfl rfl ⟨_, _, rfl, rfl, rfl⟩ (fun w1 hw1 => ⟨rfl, Ret.below_ hw1 (.cons (.tail (.tail (.tail (.tail (.tail (.tail (.tail (.tail (.tail (.tail (.tail (.tail (.tail (.tail (.tail (.tail (.tail (.tail (.tail .head))))))))))))))))))) .nil)⟩)
       rw [if_pos hh25] at h
       refine WP.stop rfl () h ?_ ?_
       ·repeat first | exact ⟨⟩ | refine ⟨rfl, ?_⟩
       exact (.cons (.tail (.tail (.tail (.tail .head)))) (.cons (.tail (.tail (.tail (.tail .head)))) (.cons (.tail (.tail (.tail (.tail .head)))) (.cons (.tail (.tail (.tail (.tail .head)))) (.cons (.tail (.tail (.tail (.tail .head)))) (.cons (.tail (.tail (.tail (.tail .head)))) (.cons (.tail (.tail (.tail (.tail .head)))) (.cons (.tail (.tail (.tail (.tail .head)))) (.cons (.tail (.tail (.tail (.tail .head)))) (.cons (.tail (.tail (.tail (.tail .head)))) (.cons (.tail (.tail (.tail (.tail .head)))) (.cons (.tail (.tail (.tail (.tail .head)))) (.cons (.tail (.tail (.tail (.tail .head)))) (.cons (.tail (.tail (.tail (.tail .head)))) (.cons (.tail (.tail (.tail (.tail (.tail .head))))) .nil)))))))))))))))
      rw [if_neg hh21] at h
      refine WP.no rfl rfl (by simp [hh21]) rfl rfl ?_
      iterate 4 (refine WP.no rfl rfl rfl rfl rfl ?_)
      iterate 2 (refine WP.sx tysOk rfl ⟨⟨⟩, ⟨⟩⟩ ?_)
      iterate 5 (refine WP.no rfl rfl rfl rfl rfl ?_)
      iterate 2 (refine WP.sx tysOk rfl ⟨⟨⟩, ⟨⟩⟩ ?_)
      iterate 5 (refine WP.no rfl rfl rfl rfl rfl ?_)
      iterate 2 (refine WP.sx tysOk rfl ⟨⟨⟩, ⟨⟩⟩ ?_)
      iterate 5 (refine WP.no rfl rfl rfl rfl rfl ?_)
      refine WP.sx tysOk rfl ⟨⟨⟩, ⟨⟩⟩ ?_
      refine WP.condT rfl rfl ?_
      refine WP.sx tysOk rfl ⟨⟨⟩, ⟨⟩⟩ ?_
      cases h
      refine WP.retR tysOk rfl rfl ⟨_, _, rfl, rfl, rfl⟩ (fun w1 hw1 => ⟨rfl, Ret.below_ hw1 (.cons (.tail (.tail (.tail (.tail (.tail (.tail (.tail (.tail (.tail (.tail (.tail (.tail (.tail (.tail (.tail (.tail (.tail (.tail (.tail .head))))))))))))))))))) .nil)⟩)
     rw [if_neg hh17] at h
     refine WP.no rfl rfl (by simp [hh17]) rfl rfl ?_
     iterate 4 (refine WP.no rfl rfl rfl rfl rfl ?_)
     iterate 2 (refine WP.sx tysOk rfl ⟨⟨⟩, ⟨⟩⟩ ?_)
     iterate 5 (refine WP.no rfl rfl rfl rfl rfl ?_)
     iterate 2 (refine WP.sx tysOk rfl ⟨⟨⟩, ⟨⟩⟩ ?_)
     iterate 5 (refine WP.no rfl rfl rfl rfl rfl ?_)
     iterate 2 (refine WP.sx tysOk rfl ⟨⟨⟩, ⟨⟩⟩ ?_)
     iterate 5 (refine WP.no rfl rfl rfl rfl rfl ?_)
     iterate 2 (refine WP.sx tysOk rfl ⟨⟨⟩, ⟨⟩⟩ ?_)
     iterate 5 (refine WP.no rfl rfl rfl rfl rfl ?_)
     iterate 2 (refine WP.sx tysOk rfl ⟨⟨⟩, ⟨⟩⟩ ?_)
     iterate 5 (refine WP.no rfl rfl rfl rfl rfl ?_)
     iterate 2 (refine WP.sx tysOk rfl ⟨⟨⟩, ⟨⟩⟩ ?_)
     iterate 5 (refine WP.no rfl rfl rfl rfl rfl ?_)
     iterate 2 (refine WP.sx tysOk rfl ⟨⟨⟩, ⟨⟩⟩ ?_)
     iterate 5 (refine WP.no rfl rfl rfl rfl rfl ?_)
     refine WP.sx tysOk rfl ⟨⟨⟩, ⟨⟩⟩ ?_
     refine WP.condT rfl rfl ?_
     refine WP.sx tysOk rfl ⟨⟨⟩, ⟨⟩⟩ ?_
     cases h
     refine WP.retR tysOk rfl rfl ⟨_, _, rfl, rfl, rfl⟩ (fun w1 hw1 => ⟨rfl, Ret.below_ hw1 (.cons (.tail (.tail (.tail (.tail (.tail (.tail (.tail (.tail (.tail (.tail (.tail (.tail (.tail (.tail (.tail (.tail (.tail (.tail (.tail .head))))))))))))))))))) .nil)⟩)
    rw [if_neg hh16] at h
    refine WP.no rfl rfl (by simp [hh16]) rfl rfl ?_
    iterate 2 (refine WP.no rfl rfl rfl rfl rfl ?_)
    iterate 2 (refine WP.sx tysOk rfl ⟨⟨⟩, ⟨⟩⟩ ?_)
    iterate 5 (refine WP.no rfl rfl rfl rfl rfl ?_)
    iterate 2 (refine WP.sx tysOk rfl ⟨⟨⟩, ⟨⟩⟩ ?_)
    iterate 5 (refine WP.no rfl rfl rfl rfl rfl ?_)
    iterate 2 (refine WP.sx tysOk rfl ⟨⟨⟩, ⟨⟩⟩ ?_)
    iterate 5 (refine WP.no rfl rfl rfl rfl rfl ?_)
    iterate 2 (refine WP.sx tysOk rfl ⟨⟨⟩, ⟨⟩⟩ ?_)
    iterate 5 (refine WP.no rfl rfl rfl rfl rfl ?_)
    iterate 2 (refine WP.sx tysOk rfl ⟨⟨⟩, ⟨⟩⟩ ?_)
    iterate 5 (refine WP.no rfl rfl rfl rfl rfl ?_)
    iterate 2 (refine WP.sx tysOk rfl ⟨⟨⟩, ⟨⟩⟩ ?_)
    iterate 5 (refine WP.no rfl rfl rfl rfl rfl ?_)
    iterate 2 (refine WP.sx tysOk rfl ⟨⟨⟩, ⟨⟩⟩ ?_)
    iterate 5 (refine WP.no rfl rfl rfl rfl rfl ?_)
    iterate 2 (refine WP.sx tysOk rfl ⟨⟨⟩, ⟨⟩⟩ ?_)
    iterate 5 (refine WP.no rfl rfl rfl rfl rfl ?_)
    refine WP.sx tysOk rfl ⟨⟨⟩, ⟨⟩⟩ ?_
    refine WP.condT rfl rfl ?_
    refine WP.sx tysOk rfl ⟨⟨⟩, ⟨⟩⟩ ?_
    cases h
    refine WP.retR tysOk rfl rfl ⟨_, _, rfl, rfl, rfl⟩ (fun w1 hw1 => ⟨rfl, Ret.below_ hw1 (.cons (.tail (.tail (.tail (.tail (.tail (.tail (.tail (.tail (.tail (.tail (.tail (.tail (.tail (.tail (.tail (.tail (.tail (.tail (.tail .head))))))))))))))))))) .nil)⟩)
   rw [if_neg hh15] at h
   refine WP.stop rfl () h ?_ ?_
   ·repeat first | exact ⟨⟩ | refine ⟨rfl, ?_⟩
   exact (.cons .head (.cons .head (.cons .head (.cons .head (.cons .head (.cons .head (.cons .head (.cons .head (.cons .head (.cons .head (.cons .head (.cons .head (.cons .head (.cons .head (.cons (.tail .head) .nil)))))))))))))))
  rintro _ h
  skip
  subst hk1
  try dsimp only at h
  iterate 5 (refine WP.sx tysOk rfl ⟨⟨⟩, ⟨⟩⟩ ?_)
  by_cases hh12 : (w64 (r1.2)) = r2.2
  ·rw [if_pos hh12] at h
   refine WP.yes rfl rfl (decide_eq_true hh12) ?_
   refine WP.mx_ tysOk rfl ⟨⟩ (SegAt.blk' (.tail (.tail (.tail (.tail (.tail (.tail (.tail (.tail (.tail .head))))))))) rfl) ?_
   refine WP.yes rfl rfl rfl ?_
   refine WP.mx_ tysOk rfl ⟨⟩ (SegAt.blk' (.tail (.tail (.tail (.tail (.tail (.tail (.tail .head))))))) rfl) ?_
   refine WP.yes rfl rfl rfl ?_
   obtain ⟨r10, hg10, h⟩ := bind_some h
   refine WP.callV rfl rfl rfl rfl rfl rfl rfl (by kernel_rfl) (fun w1 hw1 => (ref15_Same_w hg10 (StepZ.mk_ (hw1.ow (.tail (.tail (.tail (.tail (.tail (.tail (.tail (.tail (.tail (.tail .head)))))))))) hf1) (hw1.ow (.tail (.tail (.tail (.tail (.tail (.tail (.tail (.tail (.tail (.tail (.tail .head))))))))))) hf2) (hw1.ow (.tail (.tail (.tail (.tail (.tail (.tail (.tail (.tail (.tail (.tail (.tail (.tail .head)))))))))))) hf3) (hw1.ow (.tail (.tail (.tail (.tail (.tail (.tail (.tail (.tail (.tail (.tail (.tail (.tail (.tail .head))))))))))))) hf4)) (StepZ.mk_ ((hs3.le' ((Held.or (Held.mem (List.Mem.tail _ (List.Mem.tail _ (List.Mem.tail _ (List.Mem.tail _ (List.Mem.tail _ (List.Mem.tail _ (List.Mem.tail _ (List.Mem.tail _ (List.Mem.tail _ (List.Mem.tail _ (List.Mem.tail _ (List.Mem.tail _ (List.Mem.tail _ (List.Mem.tail _ (List.Mem.head _)))))))))))))))) (Held.mem (List.Mem.tail _ (List.Mem.tail _ (List.Mem.tail _ (List.Mem.tail _ (List.Mem.tail _ (List.Mem.tail _ (List.Mem.tail _ (List.Mem.tail _ (List.Mem.head _))))))))))) _ _ hw1)).of) ((hs4.le' ((Held.or (Held.mem (List.Mem.tail _ (List.Mem.tail _ (List.Mem.tail _ (List.Mem.tail _ (List.Mem.tail _ (List.Mem.tail _ (List.Mem.tail _ (List.Mem.tail _ (List.Mem.tail _ (List.Mem.tail _ (List.Mem.tail _ (List.Mem.tail _ (List.Mem.tail _ (List.Mem.tail _ (List.Mem.head _)))))))))))))))) (Held.mem (List.Mem.tail _ (List.Mem.tail _ (List.Mem.tail _ (List.Mem.tail _ (List.Mem.tail _ (List.Mem.tail _ (List.Mem.tail _ (List.Mem.tail _ (List.Mem.head _))))))))))) _ _ hw1)).of) ((hs5.le' ((Held.or (Held.mem (List.Mem.tail _ (List.Mem.tail _ (List.Mem.tail _ (List.Mem.tail _ (List.Mem.tail _ (List.Mem.tail _ (List.Mem.tail _ (List.Mem.tail _ (List.Mem.tail _ (List.Mem.tail _ (List.Mem.tail _ (List.Mem.tail _ (List.Mem.tail _ (List.Mem.tail _ (List.Mem.head _)))))))))))))))) (Held.mem (List.Mem.tail _ (List.Mem.tail _ (List.Mem.tail _ (List.Mem.tail _ (List.Mem.tail _ (List.Mem.tail _ (List.Mem.tail _ (List.Mem.tail _ (List.Mem.head _))))))))))) _ _ hw1)).of) ((hs6.le' ((Held.or (Held.mem (List.Mem.tail _ (List.Mem.tail _ (List.Mem.tail _ (List.Mem.tail _ (List.Mem.tail _ (List.Mem.tail _ (List.Mem.tail _ (List.Mem.tail _ (List.Mem.tail _ (List.Mem.tail _ (List.Mem.tail _ (List.Mem.tail _ (List.Mem.tail _ (List.Mem.tail _ (List.Mem.head _)))))))))))))))) (Held.mem (List.Mem.tail _ (List.Mem.tail _ (List.Mem.tail _ (List.Mem.tail _ (List.Mem.tail _ (List.Mem.tail _ (List.Mem.tail _ (List.Mem.tail _ (List.Mem.head _))))))))))) _ _ hw1)).of)) :)) ⟨⟩ ?_
   iterate 2 (refine WP.sx tysOk rfl ⟨⟨⟩, ⟨⟩⟩ ?_)
   by_cases hh13 : r10 = true
   ·rw [if_pos hh13] at h
    refine WP.yes rfl rfl hh13 ?_
    iterate 3 (refine WP.sx tysOk rfl ⟨⟨⟩, ⟨⟩⟩ ?_; refine WP.yes rfl rfl rfl ?_)
    iterate 3 (refine WP.sx tysOk rfl ⟨⟨⟩, ⟨⟩⟩ ?_)
    by_cases hh14 : (w64 (r3.2)) = r4.2
    ·rw [if_pos hh14] at h
     refine WP.yes rfl rfl (decide_eq_true hh14) ?_
     refine WP.mx_ tysOk rfl ⟨⟩ (SegAt.blk' (.tail (.tail .head)) rfl) ?_
     refine WP.yes rfl rfl rfl ?_
     refine WP.mx_ tysOk rfl ⟨⟩ (SegAt.blk' .head rfl) ?_
     refine WP.yes rfl rfl rfl ?_
     obtain ⟨r11, hg11, h⟩ := bind_some h
     refine WP.callV rfl rfl rfl rfl rfl rfl rfl (by kernel_rfl) (fun w1 hw1 => (ref15_Same_w hg11 (StepZ.mk_ (hw1.ow (.tail (.tail (.tail .head))) hf5) (hw1.ow (.tail (.tail (.tail (.tail .head)))) hf6) (hw1.ow (.tail (.tail (.tail (.tail (.tail .head))))) hf7) (hw1.ow (.tail (.tail (.tail (.tail (.tail (.tail .head)))))) hf8)) (StepZ.mk_ ((hs7.le' ((Held.or (Held.mem (List.Mem.tail _ (List.Mem.tail _ (List.Mem.tail _ (List.Mem.tail _ (List.Mem.tail _ (List.Mem.tail _ (List.Mem.tail _ (List.Mem.tail _ (List.Mem.tail _ (List.Mem.tail _ (List.Mem.tail _ (List.Mem.tail _ (List.Mem.tail _ (List.Mem.tail _ (List.Mem.head _)))))))))))))))) (Held.mem (List.Mem.tail _ (List.Mem.head _)))) _ _ hw1)).of) ((hs8.le' ((Held.or (Held.mem (List.Mem.tail _ (List.Mem.tail _ (List.Mem.tail _ (List.Mem.tail _ (List.Mem.tail _ (List.Mem.tail _ (List.Mem.tail _ (List.Mem.tail _ (List.Mem.tail _ (List.Mem.tail _ (List.Mem.tail _ (List.Mem.tail _ (List.Mem.tail _ (List.Mem.tail _ (List.Mem.head _)))))))))))))))) (Held.mem (List.Mem.tail _ (List.Mem.head _)))) _ _ hw1)).of) ((hs9.le' ((Held.or (Held.mem (List.Mem.tail _ (List.Mem.tail _ (List.Mem.tail _ (List.Mem.tail _ (List.Mem.tail _ (List.Mem.tail _ (List.Mem.tail _ (List.Mem.tail _ (List.Mem.tail _ (List.Mem.tail _ (List.Mem.tail _ (List.Mem.tail _ (List.Mem.tail _ (List.Mem.tail _ (List.Mem.head _)))))))))))))))) (Held.mem (List.Mem.tail _ (List.Mem.head _)))) _ _ hw1)).of) ((hs10.le' ((Held.or (Held.mem (List.Mem.tail _ (List.Mem.tail _ (List.Mem.tail _ (List.Mem.tail _ (List.Mem.tail _ (List.Mem.tail _ (List.Mem.tail _ (List.Mem.tail _ (List.Mem.tail _ (List.Mem.tail _ (List.Mem.tail _ (List.Mem.tail _ (List.Mem.tail _ (List.Mem.tail _ (List.Mem.head _)))))))))))))))) (Held.mem (List.Mem.tail _ (List.Mem.head _)))) _ _ hw1)).of)) :)) ⟨⟩ ?_
     iterate 2 (refine WP.sx tysOk rfl ⟨⟨⟩, ⟨⟩⟩ ?_)
     cases h
     refine WP.retR tysOk rfl rfl ⟨_, _, rfl, rfl, rfl⟩ (fun w1 hw1 => ⟨rfl, Ret.below_ hw1 (.cons (.tail (.tail (.tail (.tail (.tail (.tail (.tail (.tail (.tail (.tail (.tail (.tail (.tail (.tail .head)))))))))))))) .nil)⟩)
    rw [if_neg hh14] at h
    refine WP.no rfl rfl (decide_eq_false hh14) rfl rfl ?_
    iterate 2 (refine WP.no rfl rfl rfl rfl rfl ?_)
    iterate 2 (refine WP.sx tysOk rfl ⟨⟨⟩, ⟨⟩⟩ ?_)
    cases h
    refine WP.retR tysOk rfl rfl ⟨_, _, rfl, rfl, rfl⟩ (fun w1 hw1 => ⟨rfl, Ret.below_ hw1 (.cons (.tail (.tail (.tail (.tail (.tail (.tail (.tail (.tail (.tail (.tail (.tail (.tail (.tail (.tail .head)))))))))))))) .nil)⟩)
   rw [if_neg hh13] at h
   refine WP.no rfl rfl (bfalse hh13) rfl rfl ?_
   iterate 2 (refine WP.no rfl rfl rfl rfl rfl ?_; refine WP.no rfl rfl rfl rfl rfl ?_; refine WP.no rfl rfl rfl rfl rfl ?_; (iterate 2 (refine WP.sx tysOk rfl ⟨⟨⟩, ⟨⟩⟩ ?_)))
   cases h
   refine WP.retR tysOk rfl rfl ⟨_, _, rfl, rfl, rfl⟩ (fun w1 hw1 => ⟨rfl, Ret.below_ hw1 (.cons (.tail (.tail (.tail (.tail (.tail (.tail (.tail (.tail (.tail (.tail (.tail (.tail (.tail (.tail .head)))))))))))))) .nil)⟩)
  rw [if_neg hh12] at h
  refine WP.no rfl rfl (decide_eq_false hh12) rfl rfl ?_
  iterate 2 (refine WP.no rfl rfl rfl rfl rfl ?_)
  iterate 2 (refine WP.sx tysOk rfl ⟨⟨⟩, ⟨⟩⟩ ?_)
  iterate 4 (refine WP.no rfl rfl rfl rfl rfl ?_)
  iterate 2 (refine WP.sx tysOk rfl ⟨⟨⟩, ⟨⟩⟩ ?_)
  iterate 3 (refine WP.no rfl rfl rfl rfl rfl ?_)
  iterate 2 (refine WP.sx tysOk rfl ⟨⟨⟩, ⟨⟩⟩ ?_)
  cases h
  refine WP.retR tysOk rfl rfl ⟨_, _, rfl, rfl, rfl⟩ (fun w1 hw1 => ⟨rfl, Ret.below_ hw1 (.cons (.tail (.tail (.tail (.tail (.tail (.tail (.tail (.tail (.tail (.tail (.tail (.tail (.tail (.tail .head)))))))))))))) .nil)⟩)

abbrev law07_Thin_S (r : Inst) : Value → Heap → Prop := fun v L => ∃ (A1 : Option Addr) (n1 c1 : Nat) (A2 : Option Addr) (n2 c2 : Nat), v = .agg #[.slice A1 n1 c1, .slice A2 n2 c2] ∧ OwF A1 n1 r.supply ∧ OwF A2 n2 r.arcs ∧ L = [Ow (fI .i64) 2 A1 n1 c1 r.supply, Ow fA 34 A2 n2 c2 r.arcs]
set_option maxRecDepth 20000 in
set_option maxHeartbeats 8000000 in
theorem law07_Thin_w {w : World} {v0 : Value} {c1 : List Int} {r : Inst} (h : law07_Thin c1 = some r) (p1 : SlF (fI .u8) (PH.of w) v0 c1) :
    Calls Tryz.prog 10 #[v0] w fun e w' => ∃ v L, e = .returned v ∧ law07_Thin_S r v L ∧ Ret w w' L := by
  obtain ⟨A1, c2, rfl, hs1⟩ := p1
  unfold law07_Thin at h
  refine enter_ Tryz.func10 rfl Tryz.ntmps10 rfl ?_
  refine WP.al tysOk rfl rfl rfl rfl rfl rfl ?_
  intro g1
  iterate 4 (refine WP.sx tysOk rfl ⟨⟨⟩, ⟨⟩⟩ ?_)
  refine WP.cond_d rfl rfl (fun hh1 => ?_) (fun hh1 => ?_)
  ·rw [if_pos hh1] at h
   refine WP.sx tysOk rfl ⟨⟨⟩, ⟨⟩⟩ ?_
   obtain ⟨hj1, h⟩ := ck_some h
   refine WP.ixA tysOk rfl ⟨⟩ rfl rfl rfl rfl rfl rfl rfl rfl hj1 (hs1.ex hj1) ?_
   intro b1 b1v hA1
   refine WP.lx tysOk rfl ⟨⟩ (hs1.at0 hA1 (Held.mem (List.Mem.tail _ (List.Mem.head _))) hj1 rfl) ?_
   refine WP.sx tysOk rfl ⟨⟨⟩, (by decide)⟩ ?_
   iterate 2 (refine WP.sx tysOk rfl ⟨⟨⟩, ⟨⟩⟩ ?_)
   obtain ⟨n1, hx1, h⟩ := lt_some h
   refine WP.sx tysOk rfl ⟨⟨⟩, ⟨⟩⟩ ?_
   refine WP.retell (s := 3) (.int .i64 n1) rfl (congrArg (Value.int .i64) hx1.symm) ?_
   refine WP.sx tysOk rfl ⟨⟨⟩, ⟨⟩⟩ ?_
   obtain ⟨hm1, h⟩ := ck_some h
   refine WP.mkO (f := (fI .i64)) 0 tysOk rfl rfl rfl rfl rfl rfl rfl rfl rfl rfl rfl rfl hm1 ?_
   intro g2 hf1
   refine WP.bld (cs := [.slice (some ⟨g2, 0, none⟩) n1.toNat n1.toNat, .slice none 0 0]) tysOk rfl ⟨⟩ rfl rfl rfl rfl rfl rfl rfl ?_
   refine WP.al tysOk rfl rfl rfl rfl rfl rfl ?_
   intro g3
   refine WP.sto' tysOk [.slice (some ⟨g2, 0, none⟩) n1.toNat n1.toNat, .slice none 0 0] rfl rfl rfl rfl rfl rfl rfl rfl rfl .head rfl rfl ?_
   refine WP.sx tysOk rfl ⟨⟨⟩, ⟨⟩⟩ ?_
   refine WP.own_nil 34 fA.z ?_
   refine WP.loop (α := Nat × Int × (List Arc) × (Option Addr) × Nat × Nat) (fun x => lp (law07_Thin_b1 c1 n1) x.1 (x.2.1, x.2.2.1) = some r ∧ OwF x.2.2.2.1 x.2.2.2.2.1 x.2.2.1) (fun x => [(0, .slice A1 c1.length c2), (2, .pointer (some ⟨g1, 0, none⟩)), (3, iv n1), (4, .pointer (some ⟨g3, 0, none⟩)), (5, iv x.2.1)]) (fun x => [Ow fA 34 x.2.2.2.1 x.2.2.2.2.1 x.2.2.2.2.2 x.2.2.1, .blk g3 25 [.slice (some ⟨g2, 0, none⟩) n1.toNat n1.toNat, .slice x.2.2.2.1 x.2.2.2.2.1 x.2.2.2.2.2], Ow (fI .i64) 2 (some ⟨g2, 0, none⟩) n1.toNat n1.toNat (List.replicate n1.toNat 0), .blk g1 25 [.slice none 0 0, .slice none 0 0], .fz (PH.of w)]) (fun x => x.1) rfl (big, 1, ([] : List Arc), none, 0, 0) ⟨h, OwF.nil_⟩ ?_ ?_ ?_
   ·repeat first | exact ⟨⟩ | refine ⟨rfl, ?_⟩
   ·exact (.cons .head (.cons .head (.cons .head (.cons .head (.cons .head .nil)))))
   rintro ⟨n2, k3, xs5, A6, m2, c7⟩ ⟨h, hf9⟩
   dsimp only at h hf9 ⊢
   rcases n2 with _ | n2
   · exact (lp_no h).elim
   replace h := lp_succ h
   unfold law07_Thin_b1 at h
   try dsimp only at h
   iterate 5 (refine WP.sx tysOk rfl ⟨⟨⟩, ⟨⟩⟩ ?_)
   by_cases hh8 : k3 < (c1.length : Int)
   ·rw [if_pos hh8] at h
    refine WP.yes rfl rfl (decide_eq_true hh8) ?_
    refine WP.sx tysOk rfl ⟨⟨⟩, ⟨⟩⟩ ?_
    refine WP.yes rfl rfl rfl ?_
    iterate 2 (refine WP.sx tysOk rfl ⟨⟨⟩, ⟨⟩⟩ ?_)
    refine WP.cond_d rfl rfl (fun hh9 => ?_) (fun hh9 => ?_)
    ·rw [if_pos hh9] at h
     iterate 2 (refine WP.sx tysOk rfl ⟨⟨⟩, ⟨⟩⟩ ?_)
     obtain ⟨hj5, h⟩ := ck_some h
     refine WP.ixA tysOk rfl ⟨⟩ rfl rfl rfl rfl rfl rfl rfl rfl hj5 (hs1.ex hj5) ?_
     intro b8 b8v hA8
     refine WP.lx tysOk rfl ⟨⟩ (hs1.at0 hA8 (Held.mem (List.Mem.tail _ (List.Mem.tail _ (List.Mem.tail _ (List.Mem.tail _ (List.Mem.head _)))))) hj5 rfl) ?_
     iterate 2 (refine WP.sx tysOk rfl ⟨⟨⟩, ⟨⟩⟩ ?_)
     obtain ⟨hz10, h⟩ := ck_some h
     refine WP.sx tysOk rfl ⟨⟨⟩, hz10⟩ ?_
     obtain ⟨fromv4, hx8, h⟩ := lt_some h
     refine WP.sx tysOk rfl ⟨⟨⟩, ⟨⟩⟩ ?_
     refine WP.retell (s := 6) (.int .i64 fromv4) rfl (congrArg (Value.int .i64) hx8.symm) ?_
     iterate 3 (refine WP.sx tysOk rfl ⟨⟨⟩, ⟨⟩⟩ ?_)
     refine WP.ixA tysOk rfl ⟨⟩ rfl rfl rfl rfl rfl rfl rfl rfl hj5 (hs1.ex hj5) ?_
     intro b9 b9v hA9
     refine WP.lx tysOk rfl ⟨⟩ (hs1.at0 hA9 (Held.mem (List.Mem.tail _ (List.Mem.tail _ (List.Mem.tail _ (List.Mem.tail _ (List.Mem.head _)))))) hj5 rfl) ?_
     iterate 2 (refine WP.sx tysOk rfl ⟨⟨⟩, (by decide)⟩ ?_)
     iterate 3 (refine WP.sx tysOk rfl ⟨⟨⟩, ⟨⟩⟩ ?_)
     obtain ⟨hz11, h⟩ := ck_some h
     refine WP.sx tysOk rfl ⟨⟨⟩, hz11⟩ ?_
     obtain ⟨tov4, hx9, h⟩ := lt_some h
     refine WP.sx tysOk rfl ⟨⟨⟩, ⟨⟩⟩ ?_
     refine WP.retell (s := 7) (.int .i64 tov4) rfl (congrArg (Value.int .i64) hx9.symm) ?_
     refine WP.sx tysOk rfl ⟨⟨⟩, ⟨⟩⟩ ?_
     refine WP.lx tysOk rfl ⟨⟩ (CellAt.blk (.tail .head) rfl) ?_
     iterate 3 (refine WP.sx tysOk rfl ⟨⟨⟩, ⟨⟩⟩ ?_)
     refine WP.bld (cs := [iv fromv4, iv tov4, iv 0, iv 3, iv k3]) tysOk rfl ⟨⟩ rfl rfl rfl rfl rfl rfl rfl ?_
     refine WP.bsO (f := fA) [(Arc.mk fromv4 tov4 0 3 k3)] tysOk rfl rfl rfl rfl rfl rfl rfl rfl rfl rfl rfl rfl rfl rfl ?_
     intro g7 hf10
     obtain ⟨hl4, h⟩ := ck_some h
     obtain ⟨xs6, hz12, h⟩ := lt_some h
     refine WP.appO (f := fA) (xs := xs5) (ys := [(Arc.mk fromv4 tov4 0 3 k3)]) tysOk rfl rfl rfl rfl rfl rfl rfl rfl rfl rfl rfl rfl (.tail .head) hf9 hf10.len (OwS.app .head hf10) hl4 hz12 ?_
     intro A7 c8 hf11
     refine WP.sx tysOk rfl ⟨⟨⟩, ⟨⟩⟩ ?_
     refine WP.sto' tysOk [.slice (some ⟨g2, 0, none⟩) n1.toNat n1.toNat, .slice A7 xs6.length c8] rfl rfl rfl rfl rfl rfl rfl rfl rfl (.tail (.tail .head)) rfl rfl ?_
     iterate 3 (refine WP.sx tysOk rfl ⟨⟨⟩, ⟨⟩⟩ ?_)
     refine WP.stop rfl (n2, w64 (k3 + 1), xs6, A7, xs6.length, c8) ⟨⟨h, hf11⟩, Nat.lt_succ_self _⟩ ?_ ?_
     ·repeat first | exact ⟨⟩ | refine ⟨rfl, ?_⟩
     exact (.cons (.tail .head) (.cons .head (.cons (.tail .head) (.cons (.tail .head) (.cons (.tail .head) .nil)))))
    rw [if_neg hh9] at h
    refine WP.mx_ tysOk rfl ⟨⟩ (SegAt.blk' (.tail .head) rfl) ?_
    refine WP.sto' tysOk [.slice (some ⟨g2, 0, none⟩) n1.toNat n1.toNat, .slice A6 m2 c7] rfl rfl rfl rfl rfl rfl rfl rfl rfl (.tail (.tail (.tail .head))) rfl rfl ?_
    cases h
    refine WP.retR tysOk rfl rfl ⟨_, _, _, _, rfl, ⟨_, rfl, .inr ⟨rfl, _, rfl, rfl, (SegAt.blk' (z := 2) .head rfl).1⟩⟩, rfl, rfl⟩ (fun w1 hw1 => ⟨_, _, rfl, ⟨(some ⟨g2, 0, none⟩), n1.toNat, n1.toNat, A6, m2, c7, rfl, hf1, hf9, rfl⟩, Ret.of_KH hw1 (.cons (.tail (.tail (.tail .head))) (.cons (.tail .head) (.cons (.tail (.tail .head)) .nil)))⟩)
   rw [if_neg hh8] at h
   refine WP.no rfl rfl (decide_eq_false hh8) rfl rfl ?_
   refine WP.no rfl rfl rfl rfl rfl ?_
   refine WP.sx tysOk rfl ⟨⟨⟩, ⟨⟩⟩ ?_
   refine WP.condF rfl rfl ?_
   refine WP.mx_ tysOk rfl ⟨⟩ (SegAt.blk' (.tail .head) rfl) ?_
   refine WP.sto' tysOk [.slice (some ⟨g2, 0, none⟩) n1.toNat n1.toNat, .slice A6 m2 c7] rfl rfl rfl rfl rfl rfl rfl rfl rfl (.tail (.tail (.tail .head))) rfl rfl ?_
   cases h
   refine WP.retR tysOk rfl rfl ⟨_, _, _, _, rfl, ⟨_, rfl, .inr ⟨rfl, _, rfl, rfl, (SegAt.blk' (z := 2) .head rfl).1⟩⟩, rfl, rfl⟩ (fun w1 hw1 => ⟨_, _, rfl, ⟨(some ⟨g2, 0, none⟩), n1.toNat, n1.toNat, A6, m2, c7, rfl, hf1, hf9, rfl⟩, Ret.of_KH hw1 (.cons (.tail (.tail (.tail .head))) (.cons (.tail .head) (.cons (.tail (.tail .head)) .nil)))⟩)
  rw [if_neg hh1] at h
  refine WP.sx tysOk rfl ⟨⟨⟩, ⟨⟩⟩ ?_
  obtain ⟨hm2, h⟩ := ck_some h
  refine WP.mkO (f := (fI .i64)) 0 tysOk rfl rfl rfl rfl rfl rfl rfl rfl rfl rfl rfl rfl hm2 ?_
  intro g8 hf12
  refine WP.bld (cs := [.slice (some ⟨g8, 0, none⟩) ((2 : Int).toNat) ((2 : Int).toNat), .slice none 0 0]) tysOk rfl ⟨⟩ rfl rfl rfl rfl rfl rfl rfl ?_
  refine WP.al tysOk rfl rfl rfl rfl rfl rfl ?_
  intro g9
  refine WP.sto' tysOk [.slice (some ⟨g8, 0, none⟩) ((2 : Int).toNat) ((2 : Int).toNat), .slice none 0 0] rfl rfl rfl rfl rfl rfl rfl rfl rfl .head rfl rfl ?_
  refine WP.sx tysOk rfl ⟨⟨⟩, ⟨⟩⟩ ?_
  refine WP.own_nil 34 fA.z ?_
  refine WP.loop (α := Nat × Int × (List Arc) × (Option Addr) × Nat × Nat) (fun x => lp (law07_Thin_b2 c1) x.1 (x.2.1, x.2.2.1) = some r ∧ OwF x.2.2.2.1 x.2.2.2.2.1 x.2.2.1) (fun x => [(0, .slice A1 c1.length c2), (2, .pointer (some ⟨g1, 0, none⟩)), (3, iv 2), (4, .pointer (some ⟨g9, 0, none⟩)), (5, iv x.2.1)]) (fun x => [Ow fA 34 x.2.2.2.1 x.2.2.2.2.1 x.2.2.2.2.2 x.2.2.1, .blk g9 25 [.slice (some ⟨g8, 0, none⟩) ((2 : Int).toNat) ((2 : Int).toNat), .slice x.2.2.2.1 x.2.2.2.2.1 x.2.2.2.2.2], Ow (fI .i64) 2 (some ⟨g8, 0, none⟩) ((2 : Int).toNat) ((2 : Int).toNat) (List.replicate (2 : Int).toNat 0), .blk g1 25 [.slice none 0 0, .slice none 0 0], .fz (PH.of w)]) (fun x => x.1) rfl (big, 1, ([] : List Arc), none, 0, 0) ⟨h, OwF.nil_⟩ ?_ ?_ ?_
  ·repeat first | exact ⟨⟩ | refine ⟨rfl, ?_⟩
  ·exact (.cons .head (.cons .head (.cons .head (.cons .head (.cons .head .nil)))))
  rintro ⟨n3, k7, xs11, A12, m4, c13⟩ ⟨h, hf20⟩
  dsimp only at h hf20 ⊢
  rcases n3 with _ | n3
  · exact (lp_no h).elim
  replace h := lp_succ h
  unfold law07_Thin_b2 at h
  try dsimp only at h
  iterate 5 (refine WP.sx tysOk rfl ⟨⟨⟩, ⟨⟩⟩ ?_)
  by_cases hh16 : k7 < (c1.length : Int)
  ·rw [if_pos hh16] at h
   refine WP.yes rfl rfl (decide_eq_true hh16) ?_
   refine WP.sx tysOk rfl ⟨⟨⟩, ⟨⟩⟩ ?_
   refine WP.yes rfl rfl rfl ?_
   iterate 2 (refine WP.sx tysOk rfl ⟨⟨⟩, ⟨⟩⟩ ?_)
   refine WP.cond_d rfl rfl (fun hh17 => ?_) (fun hh17 => ?_)
   ·rw [if_pos hh17] at h
    iterate 2 (refine WP.sx tysOk rfl ⟨⟨⟩, ⟨⟩⟩ ?_)
    obtain ⟨hj9, h⟩ := ck_some h
    refine WP.ixA tysOk rfl ⟨⟩ rfl rfl rfl rfl rfl rfl rfl rfl hj9 (hs1.ex hj9) ?_
    intro b16 b16v hA16
    refine WP.lx tysOk rfl ⟨⟩ (hs1.at0 hA16 (Held.mem (List.Mem.tail _ (List.Mem.tail _ (List.Mem.tail _ (List.Mem.tail _ (List.Mem.head _)))))) hj9 rfl) ?_
    iterate 2 (refine WP.sx tysOk rfl ⟨⟨⟩, ⟨⟩⟩ ?_)
    refine WP.sx tysOk rfl ⟨⟨⟩, (by decide)⟩ ?_
    obtain ⟨fromv7, hx15, h⟩ := lt_some h
    refine WP.sx tysOk rfl ⟨⟨⟩, ⟨⟩⟩ ?_
    refine WP.retell (s := 6) (.int .i64 fromv7) rfl (congrArg (Value.int .i64) hx15.symm) ?_
    iterate 3 (refine WP.sx tysOk rfl ⟨⟨⟩, ⟨⟩⟩ ?_)
    refine WP.ixA tysOk rfl ⟨⟩ rfl rfl rfl rfl rfl rfl rfl rfl hj9 (hs1.ex hj9) ?_
    intro b17 b17v hA17
    refine WP.lx tysOk rfl ⟨⟩ (hs1.at0 hA17 (Held.mem (List.Mem.tail _ (List.Mem.tail _ (List.Mem.tail _ (List.Mem.tail _ (List.Mem.head _)))))) hj9 rfl) ?_
    iterate 2 (refine WP.sx tysOk rfl ⟨⟨⟩, (by decide)⟩ ?_)
    iterate 3 (refine WP.sx tysOk rfl ⟨⟨⟩, ⟨⟩⟩ ?_)
    refine WP.sx tysOk rfl ⟨⟨⟩, (by decide)⟩ ?_
    obtain ⟨tov8, hx16, h⟩ := lt_some h
    refine WP.sx tysOk rfl ⟨⟨⟩, ⟨⟩⟩ ?_
    refine WP.retell (s := 7) (.int .i64 tov8) rfl (congrArg (Value.int .i64) hx16.symm) ?_
    refine WP.sx tysOk rfl ⟨⟨⟩, ⟨⟩⟩ ?_
    refine WP.lx tysOk rfl ⟨⟩ (CellAt.blk (.tail .head) rfl) ?_
    iterate 3 (refine WP.sx tysOk rfl ⟨⟨⟩, ⟨⟩⟩ ?_)
    refine WP.bld (cs := [iv fromv7, iv tov8, iv 0, iv 3, iv k7]) tysOk rfl ⟨⟩ rfl rfl rfl rfl rfl rfl rfl ?_
    refine WP.bsO (f := fA) [(Arc.mk fromv7 tov8 0 3 k7)] tysOk rfl rfl rfl rfl rfl rfl rfl rfl rfl rfl rfl rfl rfl rfl ?_
    intro g13 hf21
    obtain ⟨hl8, h⟩ := ck_some h
    obtain ⟨xs12, hz16, h⟩ := lt_some h
    refine WP.appO (f := fA) (xs := xs11) (ys := [(Arc.mk fromv7 tov8 0 3 k7)]) tysOk rfl rfl rfl rfl rfl rfl rfl rfl rfl rfl rfl rfl (.tail .head) hf20 hf21.len (OwS.app .head hf21) hl8 hz16 ?_
    intro A13 c14 hf22
    refine WP.sx tysOk rfl ⟨⟨⟩, ⟨⟩⟩ ?_
    refine WP.sto' tysOk [.slice (some ⟨g8, 0, none⟩) ((2 : Int).toNat) ((2 : Int).toNat), .slice A13 xs12.length c14] rfl rfl rfl rfl rfl rfl rfl rfl rfl (.tail (.tail .head)) rfl rfl ?_
    iterate 3 (refine WP.sx tysOk rfl ⟨⟨⟩, ⟨⟩⟩ ?_)
    refine WP.stop rfl (n3, w64 (k7 + 1), xs12, A13, xs12.length, c14) ⟨⟨h, hf22⟩, Nat.lt_succ_self _⟩ ?_ ?_
    ·repeat first | exact ⟨⟩ | refine ⟨rfl, ?_⟩
    exact (.cons (.tail .head) (.cons .head (.cons (.tail .head) (.cons (.tail .head) (.cons (.tail .head) .nil)))))
   rw [if_neg hh17] at h
   refine WP.mx_ tysOk rfl ⟨⟩ (SegAt.blk' (.tail .head) rfl) ?_
   refine WP.sto' tysOk [.slice (some ⟨g8, 0, none⟩) ((2 : Int).toNat) ((2 : Int).toNat), .slice A12 m4 c13] rfl rfl rfl rfl rfl rfl rfl rfl rfl (.tail (.tail (.tail .head))) rfl rfl ?_
   cases h
   refine WP.retR tysOk rfl rfl ⟨_, _, _, _, rfl, ⟨_, rfl, .inr ⟨rfl, _, rfl, rfl, (SegAt.blk' (z := 2) .head rfl).1⟩⟩, rfl, rfl⟩ (fun w1 hw1 => ⟨_, _, rfl, ⟨(some ⟨g8, 0, none⟩), (2 : Int).toNat, (2 : Int).toNat, A12, m4, c13, rfl, hf12, hf20, rfl⟩, Ret.of_KH hw1 (.cons (.tail (.tail (.tail .head))) (.cons (.tail .head) (.cons (.tail (.tail .head)) .nil)))⟩)
  rw [if_neg hh16] at h
  refine WP.no rfl rfl (decide_eq_false hh16) rfl rfl ?_
  refine WP.no rfl rfl rfl rfl rfl ?_
  refine WP.sx tysOk rfl ⟨⟨⟩, ⟨⟩⟩ ?_
  refine WP.condF rfl rfl ?_
  refine WP.mx_ tysOk rfl ⟨⟩ (SegAt.blk' (.tail .head) rfl) ?_
  refine WP.sto' tysOk [.slice (some ⟨g8, 0, none⟩) ((2 : Int).toNat) ((2 : Int).toNat), .slice A12 m4 c13] rfl rfl rfl rfl rfl rfl rfl rfl rfl (.tail (.tail (.tail .head))) rfl rfl ?_
  cases h
  refine WP.retR tysOk rfl rfl ⟨_, _, _, _, rfl, ⟨_, rfl, .inr ⟨rfl, _, rfl, rfl, (SegAt.blk' (z := 2) .head rfl).1⟩⟩, rfl, rfl⟩ (fun w1 hw1 => ⟨_, _, rfl, ⟨(some ⟨g8, 0, none⟩), (2 : Int).toNat, (2 : Int).toNat, A12, m4, c13, rfl, hf12, hf20, rfl⟩, Ret.of_KH hw1 (.cons (.tail (.tail (.tail .head))) (.cons (.tail .head) (.cons (.tail (.tail .head)) .nil)))⟩)

abbrev law18_Sparse_S (r : Inst) : Value → Heap → Prop := fun v L => ∃ (A1 : Option Addr) (n1 c1 : Nat) (A2 : Option Addr) (n2 c2 : Nat), v = .agg #[.slice A1 n1 c1, .slice A2 n2 c2] ∧ OwF A1 n1 r.supply ∧ OwF A2 n2 r.arcs ∧ L = [Ow (fI .i64) 2 A1 n1 c1 r.supply, Ow fA 34 A2 n2 c2 r.arcs]
set_option maxRecDepth 20000 in
set_option maxHeartbeats 8000000 in
theorem law18_Sparse_w {w : World} {v0 : Value} {v1 : Value} {d1 : List Int} {i1 : List Int} {r : Inst} (h : law18_Sparse d1 i1 = some r) (p1 : SlF (fI .u8) (PH.of w) v0 d1) (p2 : SlF (fI .u8) (PH.of w) v1 i1) :
    Calls Tryz.prog 8 #[v0, v1] w fun e w' => ∃ v L, e = .returned v ∧ law18_Sparse_S r v L ∧ Ret w w' L := by
  obtain ⟨A1, c1, rfl, hs1⟩ := p1
  obtain ⟨A2, c2, rfl, hs2⟩ := p2
  unfold law18_Sparse at h
  refine enter_ Tryz.func8 rfl Tryz.ntmps8 rfl ?_
  refine WP.al tysOk rfl rfl rfl rfl rfl rfl ?_
  intro g1
  refine WP.sx tysOk rfl ⟨⟨⟩, ⟨⟩⟩ ?_
  obtain ⟨r1, hg1, h⟩ := bind_some h
  refine WP.callS (law07_Thin_S r1) rfl rfl rfl rfl rfl rfl rfl (by kernel_rfl) (fun w1 hw1 => (law07_Thin_w hg1 (hs1.le' ((Held.mem (List.Mem.tail _ (List.Mem.head _))) _ _ hw1)).of :)) ?_
  rintro _ _ ⟨A3, n1, c3, A4, n2, c4, rfl, hf1, hf2, rfl⟩
  refine WP.al tysOk rfl rfl rfl rfl rfl rfl ?_
  intro g2
  refine WP.sto' tysOk [.slice A3 n1 c3, .slice A4 n2 c4] rfl rfl rfl rfl rfl rfl rfl rfl rfl .head rfl rfl ?_
  refine WP.sx tysOk rfl ⟨⟨⟩, ⟨⟩⟩ ?_
  refine WP.loop (α := Nat × Int × (List Int) × (List Arc) × (Option Addr) × Nat × Nat × (Option Addr) × Nat × Nat) (fun x => lp (law18_Sparse_b1 i1) x.1 (x.2.1, x.2.2.1, x.2.2.2.1) = some r ∧ OwF x.2.2.2.2.1 x.2.2.2.2.2.1 x.2.2.1 ∧ OwF x.2.2.2.2.2.2.2.1 x.2.2.2.2.2.2.2.2.1 x.2.2.2.1) (fun x => [(1, .slice A2 i1.length c2), (4, .pointer (some ⟨g1, 0, none⟩)), (5, .pointer (some ⟨g2, 0, none⟩)), (6, iv x.2.1)]) (fun x => [.blk g2 25 [.slice x.2.2.2.2.1 x.2.2.2.2.2.1 x.2.2.2.2.2.2.1, .slice x.2.2.2.2.2.2.2.1 x.2.2.2.2.2.2.2.2.1 x.2.2.2.2.2.2.2.2.2], Ow (fI .i64) 2 x.2.2.2.2.1 x.2.2.2.2.2.1 x.2.2.2.2.2.2.1 x.2.2.1, Ow fA 34 x.2.2.2.2.2.2.2.1 x.2.2.2.2.2.2.2.2.1 x.2.2.2.2.2.2.2.2.2 x.2.2.2.1, .blk g1 25 [.slice none 0 0, .slice none 0 0], .fz (PH.of w)]) (fun x => x.1) rfl (big, 0, r1.supply, r1.arcs, A3, n1, c3, A4, n2, c4) ⟨h, hf1, hf2⟩ ?_ ?_ ?_
  ·repeat first | exact ⟨⟩ | refine ⟨rfl, ?_⟩
  ·exact (.cons .head (.cons .head (.cons .head (.cons .head (.cons .head .nil)))))
  rintro ⟨n3, s3, xs30, xs31, A7, m3, c7, A8, m4, c8⟩ ⟨h, hf32, hf33⟩
  dsimp only at h hf32 hf33 ⊢
  rcases n3 with _ | n3
  · exact (lp_no h).elim
  replace h := lp_succ h
  unfold law18_Sparse_b1 at h
  try dsimp only at h
  iterate 2 (refine WP.sx tysOk rfl ⟨⟨⟩, ⟨⟩⟩ ?_)
  refine WP.lx tysOk rfl ⟨⟩ (CellAt.blk .head rfl) ?_
  refine WP.lenO (xs := xs31) tysOk rfl ⟨⟩ rfl rfl rfl rfl rfl rfl hf33 ?_
  iterate 2 (refine WP.sx tysOk rfl ⟨⟨⟩, ⟨⟩⟩ ?_)
  by_cases hh10 : s3 < (xs31.length : Int)
  ·rw [if_pos hh10] at h
   refine WP.yes rfl rfl (decide_eq_true hh10) ?_
   iterate 3 (refine WP.sx tysOk rfl ⟨⟨⟩, ⟨⟩⟩ ?_; refine WP.yes rfl rfl rfl ?_)
   iterate 2 (refine WP.sx tysOk rfl ⟨⟨⟩, ⟨⟩⟩ ?_)
   refine WP.cond_d rfl rfl (fun hh11 => ?_) (fun hh11 => ?_)
   ·rw [if_pos hh11] at h
    iterate 2 (refine WP.sx tysOk rfl ⟨⟨⟩, ⟨⟩⟩ ?_)
    obtain ⟨hj37, h⟩ := ck_some h
    refine WP.ixA tysOk rfl ⟨⟩ rfl rfl rfl rfl rfl rfl rfl rfl hj37 (hs2.ex hj37) ?_
    intro b73 b73v hA73
    refine WP.lx tysOk rfl ⟨⟩ (hs2.at0 hA73 (Held.mem (List.Mem.tail _ (List.Mem.tail _ (List.Mem.tail _ (List.Mem.tail _ (List.Mem.head _)))))) hj37 rfl) ?_
    refine WP.sx tysOk rfl ⟨⟨⟩, (by decide)⟩ ?_
    iterate 2 (refine WP.sx tysOk rfl ⟨⟨⟩, ⟨⟩⟩ ?_)
    obtain ⟨hj38, h⟩ := ck_some h
    refine WP.drawL 12 [] rfl (by kernel_rfl) (by kernel_rfl) (by kernel_rfl) ?_
    refine WP.sx tysOk rfl ⟨⟨⟨rfl, rfl⟩, rfl⟩, ⟨⟩⟩ ?_
    refine WP.lx tysOk rfl ⟨⟨rfl, rfl⟩, rfl⟩ (CellAt.blk .head rfl) ?_
    iterate 3 (refine WP.sx tysOk rfl ⟨⟨⟨rfl, rfl⟩, rfl⟩, ⟨⟩⟩ ?_)
    refine WP.ixA tysOk rfl ⟨⟨rfl, rfl⟩, rfl⟩ rfl rfl rfl rfl rfl rfl rfl rfl hj37 (hs2.ex hj37) ?_
    intro b74 b74v hA74
    refine WP.lx tysOk rfl ⟨⟨rfl, rfl⟩, rfl⟩ (hs2.at0 hA74 (Held.mem (List.Mem.tail _ (List.Mem.tail _ (List.Mem.tail _ (List.Mem.tail _ (List.Mem.head _)))))) hj37 rfl) ?_
    iterate 2 (refine WP.sx tysOk rfl ⟨⟨⟨rfl, rfl⟩, rfl⟩, (by decide)⟩ ?_)
    refine WP.sx tysOk rfl ⟨⟨⟨rfl, rfl⟩, rfl⟩, ⟨⟩⟩ ?_
    refine WP.ixO tysOk rfl ⟨⟨rfl, rfl⟩, rfl⟩ rfl rfl rfl rfl rfl rfl rfl rfl hf33 hj38 ?_
    intro b75 hA75
    refine WP.sx tysOk rfl ⟨⟨⟨rfl, rfl⟩, rfl⟩, ⟨⟩⟩ ?_
    refine WP.lend rfl ⟨rfl, rfl⟩ ?_
    obtain ⟨xs32, hx28, h⟩ := lt_some h
    refine WP.stoO (f := fA) 2 (Arc.mk ((gt xs31 s3).src) ((gt xs31 s3).dst) (w64 ((IntKind.wrap .u8 ((gt i1 s3).tdiv 3)).tmod 2)) ((gt xs31 s3).cap) ((gt xs31 s3).cost)) tysOk rfl rfl rfl rfl rfl rfl rfl rfl rfl (.tail (.tail .head)) hA75 hf33 hj38 rfl rfl rfl hx28 ?_
    intro hf34
    obtain ⟨hj39, h⟩ := ck_some h
    refine WP.drawL 19 [] rfl (by kernel_rfl) (by kernel_rfl) (by kernel_rfl) ?_
    refine WP.sx tysOk rfl ⟨⟨⟨rfl, rfl⟩, rfl⟩, ⟨⟩⟩ ?_
    refine WP.lx tysOk rfl ⟨⟨rfl, rfl⟩, rfl⟩ (CellAt.blk (.tail .head) rfl) ?_
    iterate 2 (refine WP.sx tysOk rfl ⟨⟨⟨rfl, rfl⟩, rfl⟩, ⟨⟩⟩ ?_)
    refine WP.lx tysOk rfl ⟨⟨rfl, rfl⟩, rfl⟩ (CellAt.blk (.tail .head) rfl) ?_
    refine WP.sx tysOk rfl ⟨⟨⟨rfl, rfl⟩, rfl⟩, ⟨⟩⟩ ?_
    refine WP.ixO tysOk rfl ⟨⟨rfl, rfl⟩, rfl⟩ rfl rfl rfl rfl rfl rfl rfl rfl hf34 hj39 ?_
    intro b76 hA76
    refine WP.sx tysOk rfl ⟨⟨⟨rfl, rfl⟩, rfl⟩, ⟨⟩⟩ ?_
    refine WP.lx tysOk rfl ⟨⟨rfl, rfl⟩, rfl⟩ (OwS.at .head hA76 hj39 2 rfl) ?_
    iterate 2 (refine WP.sx tysOk rfl ⟨⟨⟨rfl, rfl⟩, rfl⟩, ⟨⟩⟩ ?_)
    refine WP.ixA tysOk rfl ⟨⟨rfl, rfl⟩, rfl⟩ rfl rfl rfl rfl rfl rfl rfl rfl hj37 (hs2.ex hj37) ?_
    intro b77 b77v hA77
    refine WP.lx tysOk rfl ⟨⟨rfl, rfl⟩, rfl⟩ (hs2.at0 hA77 (Held.mem (List.Mem.tail _ (List.Mem.tail _ (List.Mem.tail _ (List.Mem.tail _ (List.Mem.head _)))))) hj37 rfl) ?_
    iterate 2 (refine WP.sx tysOk rfl ⟨⟨⟨rfl, rfl⟩, rfl⟩, (by decide)⟩ ?_)
    iterate 2 (refine WP.sx tysOk rfl ⟨⟨⟨rfl, rfl⟩, rfl⟩, ⟨⟩⟩ ?_)
    refine WP.ixO tysOk rfl ⟨⟨rfl, rfl⟩, rfl⟩ rfl rfl rfl rfl rfl rfl rfl rfl hf34 hj39 ?_
    intro b78 hA78
    refine WP.sx tysOk rfl ⟨⟨⟨rfl, rfl⟩, rfl⟩, ⟨⟩⟩ ?_
    refine WP.lend rfl ⟨rfl, rfl⟩ ?_
    obtain ⟨xs33, hx29, h⟩ := lt_some h
    refine WP.stoO (f := fA) 3 (Arc.mk ((gt xs32 s3).src) ((gt xs32 s3).dst) ((gt xs32 s3).low) (w64 (((gt xs32 s3).low) + (w64 ((IntKind.wrap .u8 ((gt i1 s3).tdiv 6)).tmod 5)))) ((gt xs32 s3).cost)) tysOk rfl rfl rfl rfl rfl rfl rfl rfl rfl .head hA78 hf34 hj39 rfl rfl rfl hx29 ?_
    intro hf35
    iterate 2 (refine WP.sx tysOk rfl ⟨⟨⟩, ⟨⟩⟩ ?_)
    refine WP.ixA tysOk rfl ⟨⟩ rfl rfl rfl rfl rfl rfl rfl rfl hj37 (hs2.ex hj37) ?_
    intro b79 b79v hA79
    refine WP.lx tysOk rfl ⟨⟩ (hs2.at0 hA79 (Held.mem (List.Mem.tail _ (List.Mem.tail _ (List.Mem.tail _ (List.Mem.tail _ (List.Mem.head _)))))) hj37 rfl) ?_
    refine WP.sx tysOk rfl ⟨⟨⟩, (by decide)⟩ ?_
    refine WP.sx tysOk rfl ⟨⟨⟩, ⟨⟩⟩ ?_
    refine WP.cond_d rfl rfl (fun hh12 => ?_) (fun hh12 => ?_)
    ·rw [if_pos hh12] at h
     refine WP.sx tysOk rfl ⟨⟨⟩, ⟨⟩⟩ ?_
     refine WP.lx tysOk rfl ⟨⟩ (CellAt.blk (.tail .head) rfl) ?_
     refine WP.sx tysOk rfl ⟨⟨⟩, ⟨⟩⟩ ?_
     obtain ⟨hj40, h⟩ := ck_some h
     refine WP.ixO tysOk rfl ⟨⟩ rfl rfl rfl rfl rfl rfl rfl rfl hf35 hj40 ?_
     intro b80 hA80
     refine WP.sx tysOk rfl ⟨⟨⟩, ⟨⟩⟩ ?_
     obtain ⟨xs34, hx30, h⟩ := lt_some h
     refine WP.stoO (f := fA) 3 (Arc.mk ((gt xs33 s3).src) ((gt xs33 s3).dst) ((gt xs33 s3).low) 4611686018427387904 ((gt xs33 s3).cost)) tysOk rfl rfl rfl rfl rfl rfl rfl rfl rfl .head hA80 hf35 hj40 rfl rfl rfl hx30 ?_
     intro hf36
     obtain ⟨hj41, h⟩ := ck_some h
     refine WP.drawL 12 [] rfl (by kernel_rfl) (by kernel_rfl) (by kernel_rfl) ?_
     refine WP.sx tysOk rfl ⟨⟨⟨rfl, rfl⟩, rfl⟩, ⟨⟩⟩ ?_
     refine WP.lx tysOk rfl ⟨⟨rfl, rfl⟩, rfl⟩ (CellAt.blk (.tail .head) rfl) ?_
     iterate 3 (refine WP.sx tysOk rfl ⟨⟨⟨rfl, rfl⟩, rfl⟩, ⟨⟩⟩ ?_)
     refine WP.ixA tysOk rfl ⟨⟨rfl, rfl⟩, rfl⟩ rfl rfl rfl rfl rfl rfl rfl rfl hj37 (hs2.ex hj37) ?_
     intro b81 b81v hA81
     refine WP.lx tysOk rfl ⟨⟨rfl, rfl⟩, rfl⟩ (hs2.at0 hA81 (Held.mem (List.Mem.tail _ (List.Mem.tail _ (List.Mem.tail _ (List.Mem.tail _ (List.Mem.head _)))))) hj37 rfl) ?_
     refine WP.sx tysOk rfl ⟨⟨⟨rfl, rfl⟩, rfl⟩, (by decide)⟩ ?_
     iterate 2 (refine WP.sx tysOk rfl ⟨⟨⟨rfl, rfl⟩, rfl⟩, ⟨⟩⟩ ?_)
     refine WP.ixO tysOk rfl ⟨⟨rfl, rfl⟩, rfl⟩ rfl rfl rfl rfl rfl rfl rfl rfl hf36 hj41 ?_
     intro b82 hA82
     refine WP.sx tysOk rfl ⟨⟨⟨rfl, rfl⟩, rfl⟩, ⟨⟩⟩ ?_
     refine WP.lend rfl ⟨rfl, rfl⟩ ?_
     obtain ⟨xs35, hx31, h⟩ := lt_some h
     refine WP.stoO (f := fA) 4 (Arc.mk ((gt xs34 s3).src) ((gt xs34 s3).dst) ((gt xs34 s3).low) ((gt xs34 s3).cap) (w64 ((w64 ((gt i1 s3).tmod 17)) - 6))) tysOk rfl rfl rfl rfl rfl rfl rfl rfl rfl .head hA82 hf36 hj41 rfl rfl rfl hx31 ?_
     intro hf37
     obtain ⟨hj42, h⟩ := ck_some h
     obtain ⟨hj43, h⟩ := ck_some h
     refine WP.drawL 13 [] rfl (by kernel_rfl) (by kernel_rfl) (by kernel_rfl) ?_
     refine WP.sx tysOk rfl ⟨⟨⟨rfl, rfl⟩, rfl⟩, ⟨⟩⟩ ?_
     refine WP.lx tysOk rfl ⟨⟨rfl, rfl⟩, rfl⟩ (CellAt.blk (.tail .head) rfl) ?_
     refine WP.sx tysOk rfl ⟨⟨⟨rfl, rfl⟩, rfl⟩, ⟨⟩⟩ ?_
     refine WP.lx tysOk rfl ⟨⟨rfl, rfl⟩, rfl⟩ (CellAt.blk (.tail .head) rfl) ?_
     refine WP.sx tysOk rfl ⟨⟨⟨rfl, rfl⟩, rfl⟩, ⟨⟩⟩ ?_
     refine WP.ixO tysOk rfl ⟨⟨rfl, rfl⟩, rfl⟩ rfl rfl rfl rfl rfl rfl rfl rfl hf37 hj42 ?_
     intro b83 hA83
     refine WP.sx tysOk rfl ⟨⟨⟨rfl, rfl⟩, rfl⟩, ⟨⟩⟩ ?_
     refine WP.lx tysOk rfl ⟨⟨rfl, rfl⟩, rfl⟩ (OwS.at0 .head hA83 hj42 rfl) ?_
     refine WP.ixO tysOk rfl ⟨⟨rfl, rfl⟩, rfl⟩ rfl rfl rfl rfl rfl rfl rfl rfl hf32 hj43 ?_
     intro b84 hA84
     refine WP.lx tysOk rfl ⟨⟨rfl, rfl⟩, rfl⟩ (OwS.at0 (.tail (.tail .head)) hA84 hj43 rfl) ?_
     iterate 2 (refine WP.sx tysOk rfl ⟨⟨⟨rfl, rfl⟩, rfl⟩, ⟨⟩⟩ ?_)
     refine WP.ixO tysOk rfl ⟨⟨rfl, rfl⟩, rfl⟩ rfl rfl rfl rfl rfl rfl rfl rfl hf32 hj43 ?_
     intro b85 hA85
     refine WP.lend rfl ⟨rfl, rfl⟩ ?_
     obtain ⟨xs36, hx32, h⟩ := lt_some h
     refine WP.stoO (f := (fI .i64)) 0 (w64 ((gt xs30 ((gt xs35 s3).src)) + (w64 ((gt i1 s3).tmod 3)))) tysOk rfl rfl rfl rfl rfl rfl rfl rfl rfl (.tail (.tail .head)) hA85 hf32 hj43 rfl rfl rfl hx32 ?_
     intro hf38
     obtain ⟨hj44, h⟩ := ck_some h
     refine WP.drawL 13 [] rfl (by kernel_rfl) (by kernel_rfl) (by kernel_rfl) ?_
     refine WP.sx tysOk rfl ⟨⟨⟨rfl, rfl⟩, rfl⟩, ⟨⟩⟩ ?_
     refine WP.lx tysOk rfl ⟨⟨rfl, rfl⟩, rfl⟩ (CellAt.blk (.tail (.tail .head)) rfl) ?_
     refine WP.sx tysOk rfl ⟨⟨⟨rfl, rfl⟩, rfl⟩, ⟨⟩⟩ ?_
     refine WP.lx tysOk rfl ⟨⟨rfl, rfl⟩, rfl⟩ (CellAt.blk (.tail (.tail .head)) rfl) ?_
     refine WP.sx tysOk rfl ⟨⟨⟨rfl, rfl⟩, rfl⟩, ⟨⟩⟩ ?_
     refine WP.ixO tysOk rfl ⟨⟨rfl, rfl⟩, rfl⟩ rfl rfl rfl rfl rfl rfl rfl rfl hf37 hj42 ?_
     intro b86 hA86
     refine WP.sx tysOk rfl ⟨⟨⟨rfl, rfl⟩, rfl⟩, ⟨⟩⟩ ?_
     refine WP.lx tysOk rfl ⟨⟨rfl, rfl⟩, rfl⟩ (OwS.at (.tail .head) hA86 hj42 1 rfl) ?_
     refine WP.ixO tysOk rfl ⟨⟨rfl, rfl⟩, rfl⟩ rfl rfl rfl rfl rfl rfl rfl rfl hf38 hj44 ?_
     intro b87 hA87
     refine WP.lx tysOk rfl ⟨⟨rfl, rfl⟩, rfl⟩ (OwS.at0 .head hA87 hj44 rfl) ?_
     iterate 2 (refine WP.sx tysOk rfl ⟨⟨⟨rfl, rfl⟩, rfl⟩, ⟨⟩⟩ ?_)
     refine WP.ixO tysOk rfl ⟨⟨rfl, rfl⟩, rfl⟩ rfl rfl rfl rfl rfl rfl rfl rfl hf38 hj44 ?_
     intro b88 hA88
     refine WP.lend rfl ⟨rfl, rfl⟩ ?_
     obtain ⟨xs37, hx33, h⟩ := lt_some h
     refine WP.stoO (f := (fI .i64)) 0 (w64 ((gt xs36 ((gt xs35 s3).dst)) - (w64 ((gt i1 s3).tmod 3)))) tysOk rfl rfl rfl rfl rfl rfl rfl rfl rfl .head hA88 hf38 hj44 rfl rfl rfl hx33 ?_
     intro hf39
     iterate 3 (refine WP.sx tysOk rfl ⟨⟨⟩, ⟨⟩⟩ ?_)
     refine WP.stop rfl (n3, w64 (s3 + 1), xs37, xs35, A7, m3, c7, A8, m4, c8) ⟨⟨h, hf39, hf37⟩, Nat.lt_succ_self _⟩ ?_ ?_
     ·repeat first | exact ⟨⟩ | refine ⟨rfl, ?_⟩
     exact (.cons (.tail (.tail .head)) (.cons .head (.cons .head (.cons .head (.cons .head .nil)))))
    rw [if_neg hh12] at h
    obtain ⟨hj45, h⟩ := ck_some h
    refine WP.drawL 12 [] rfl (by kernel_rfl) (by kernel_rfl) (by kernel_rfl) ?_
    refine WP.sx tysOk rfl ⟨⟨⟨rfl, rfl⟩, rfl⟩, ⟨⟩⟩ ?_
    refine WP.lx tysOk rfl ⟨⟨rfl, rfl⟩, rfl⟩ (CellAt.blk (.tail .head) rfl) ?_
    iterate 3 (refine WP.sx tysOk rfl ⟨⟨⟨rfl, rfl⟩, rfl⟩, ⟨⟩⟩ ?_)
    refine WP.ixA tysOk rfl ⟨⟨rfl, rfl⟩, rfl⟩ rfl rfl rfl rfl rfl rfl rfl rfl hj37 (hs2.ex hj37) ?_
    intro b89 b89v hA89
    refine WP.lx tysOk rfl ⟨⟨rfl, rfl⟩, rfl⟩ (hs2.at0 hA89 (Held.mem (List.Mem.tail _ (List.Mem.tail _ (List.Mem.tail _ (List.Mem.tail _ (List.Mem.head _)))))) hj37 rfl) ?_
    refine WP.sx tysOk rfl ⟨⟨⟨rfl, rfl⟩, rfl⟩, (by decide)⟩ ?_
    iterate 2 (refine WP.sx tysOk rfl ⟨⟨⟨rfl, rfl⟩, rfl⟩, ⟨⟩⟩ ?_)
    refine WP.ixO tysOk rfl ⟨⟨rfl, rfl⟩, rfl⟩ rfl rfl rfl rfl rfl rfl rfl rfl hf35 hj45 ?_
    intro b90 hA90
    refine WP.sx tysOk rfl ⟨⟨⟨rfl, rfl⟩, rfl⟩, ⟨⟩⟩ ?_
    refine WP.lend rfl ⟨rfl, rfl⟩ ?_
    obtain ⟨xs38, hx34, h⟩ := lt_some h
    refine WP.stoO (f := fA) 4 (Arc.mk ((gt xs33 s3).src) ((gt xs33 s3).dst) ((gt xs33 s3).low) ((gt xs33 s3).cap) (w64 ((w64 ((gt i1 s3).tmod 17)) - 6))) tysOk rfl rfl rfl rfl rfl rfl rfl rfl rfl .head hA90 hf35 hj45 rfl rfl rfl hx34 ?_
    intro hf40
    obtain ⟨hj46, h⟩ := ck_some h
    obtain ⟨hj47, h⟩ := ck_some h
    refine WP.drawL 13 [] rfl (by kernel_rfl) (by kernel_rfl) (by kernel_rfl) ?_
    refine WP.sx tysOk rfl ⟨⟨⟨rfl, rfl⟩, rfl⟩, ⟨⟩⟩ ?_
    refine WP.lx tysOk rfl ⟨⟨rfl, rfl⟩, rfl⟩ (CellAt.blk (.tail .head) rfl) ?_
    refine WP.sx tysOk rfl ⟨⟨⟨rfl, rfl⟩, rfl⟩, ⟨⟩⟩ ?_
    refine WP.lx tysOk rfl ⟨⟨rfl, rfl⟩, rfl⟩ (CellAt.blk (.tail .head) rfl) ?_
    refine WP.sx tysOk rfl ⟨⟨⟨rfl, rfl⟩, rfl⟩, ⟨⟩⟩ ?_
    refine WP.ixO tysOk rfl ⟨⟨rfl, rfl⟩, rfl⟩ rfl rfl rfl rfl rfl rfl rfl rfl hf40 hj46 ?_
    intro b91 hA91
    refine WP.sx tysOk rfl ⟨⟨⟨rfl, rfl⟩, rfl⟩, ⟨⟩⟩ ?_
    refine WP.lx tysOk rfl ⟨⟨rfl, rfl⟩, rfl⟩ (OwS.at0 .head hA91 hj46 rfl) ?_
    refine WP.ixO tysOk rfl ⟨⟨rfl, rfl⟩, rfl⟩ rfl rfl rfl rfl rfl rfl rfl rfl hf32 hj47 ?_
    intro b92 hA92
    refine WP.lx tysOk rfl ⟨⟨rfl, rfl⟩, rfl⟩ (OwS.at0 (.tail (.tail .head)) hA92 hj47 rfl) ?_
    iterate 2 (refine WP.sx tysOk rfl ⟨⟨⟨rfl, rfl⟩, rfl⟩, ⟨⟩⟩ ?_)
    refine WP.ixO tysOk rfl ⟨⟨rfl, rfl⟩, rfl⟩ rfl rfl rfl rfl rfl rfl rfl rfl hf32 hj47 ?_
    intro b93 hA93
    refine WP.lend rfl ⟨rfl, rfl⟩ ?_
    obtain ⟨xs39, hx35, h⟩ := lt_some h
    refine WP.stoO (f := (fI .i64)) 0 (w64 ((gt xs30 ((gt xs38 s3).src)) + (w64 ((gt i1 s3).tmod 3)))) tysOk rfl rfl rfl rfl rfl rfl rfl rfl rfl (.tail (.tail .head)) hA93 hf32 hj47 rfl rfl rfl hx35 ?_
    intro hf41
    obtain ⟨hj48, h⟩ := ck_some h
    refine WP.drawL 13 [] rfl (by kernel_rfl) (by kernel_rfl) (by kernel_rfl) ?_
    refine WP.sx tysOk rfl ⟨⟨⟨rfl, rfl⟩, rfl⟩, ⟨⟩⟩ ?_
    refine WP.lx tysOk rfl ⟨⟨rfl, rfl⟩, rfl⟩ (CellAt.blk (.tail (.tail .head)) rfl) ?_
    refine WP.sx tysOk rfl ⟨⟨⟨rfl, rfl⟩, rfl⟩, ⟨⟩⟩ ?_
    refine WP.lx tysOk rfl ⟨⟨rfl, rfl⟩, rfl⟩ (CellAt.blk (.tail (.tail .head)) rfl) ?_
    refine WP.sx tysOk rfl ⟨⟨⟨rfl, rfl⟩, rfl⟩, ⟨⟩⟩ ?_
    refine WP.ixO tysOk rfl ⟨⟨rfl, rfl⟩, rfl⟩ rfl rfl rfl rfl rfl rfl rfl rfl hf40 hj46 ?_
    intro b94 hA94
    refine WP.sx tysOk rfl ⟨⟨⟨rfl, rfl⟩, rfl⟩, ⟨⟩⟩ ?_
    refine WP.lx tysOk rfl ⟨⟨rfl, rfl⟩, rfl⟩ (OwS.at (.tail .head) hA94 hj46 1 rfl) ?_
    refine WP.ixO tysOk rfl ⟨⟨rfl, rfl⟩, rfl⟩ rfl rfl rfl rfl rfl rfl rfl rfl hf41 hj48 ?_
    intro b95 hA95
    refine WP.lx tysOk rfl ⟨⟨rfl, rfl⟩, rfl⟩ (OwS.at0 .head hA95 hj48 rfl) ?_
    iterate 2 (refine WP.sx tysOk rfl ⟨⟨⟨rfl, rfl⟩, rfl⟩, ⟨⟩⟩ ?_)
    refine WP.ixO tysOk rfl ⟨⟨rfl, rfl⟩, rfl⟩ rfl rfl rfl rfl rfl rfl rfl rfl hf41 hj48 ?_
    intro b96 hA96
    refine WP.lend rfl ⟨rfl, rfl⟩ ?_
    obtain ⟨xs40, hx36, h⟩ := lt_some h
    refine WP.stoO (f := (fI .i64)) 0 (w64 ((gt xs39 ((gt xs38 s3).dst)) - (w64 ((gt i1 s3).tmod 3)))) tysOk rfl rfl rfl rfl rfl rfl rfl rfl rfl .head hA96 hf41 hj48 rfl rfl rfl hx36 ?_
    intro hf42
    iterate 3 (refine WP.sx tysOk rfl ⟨⟨⟩, ⟨⟩⟩ ?_)
    refine WP.stop rfl (n3, w64 (s3 + 1), xs40, xs38, A7, m3, c7, A8, m4, c8) ⟨⟨h, hf42, hf40⟩, Nat.lt_succ_self _⟩ ?_ ?_
    ·repeat first | exact ⟨⟩ | refine ⟨rfl, ?_⟩
    exact (.cons (.tail (.tail .head)) (.cons .head (.cons .head (.cons .head (.cons .head .nil)))))
   rw [if_neg hh11] at h
   refine WP.mx_ tysOk rfl ⟨⟩ (SegAt.blk' .head rfl) ?_
   refine WP.sto' tysOk [.slice A7 m3 c7, .slice A8 m4 c8] rfl rfl rfl rfl rfl rfl rfl rfl rfl (.tail (.tail (.tail .head))) rfl rfl ?_
   cases h
   refine WP.retR tysOk rfl rfl ⟨_, _, _, _, rfl, ⟨_, rfl, .inr ⟨rfl, _, rfl, rfl, (SegAt.blk' (z := 2) .head rfl).1⟩⟩, rfl, rfl⟩ (fun w1 hw1 => ⟨_, _, rfl, ⟨A7, m3, c7, A8, m4, c8, rfl, hf32, hf33, rfl⟩, Ret.of_KH hw1 (.cons (.tail (.tail .head)) (.cons (.tail (.tail .head)) (.cons (.tail (.tail .head)) .nil)))⟩)
  rw [if_neg hh10] at h
  refine WP.no rfl rfl (decide_eq_false hh10) rfl rfl ?_
  iterate 3 (refine WP.no rfl rfl rfl rfl rfl ?_)
  refine WP.sx tysOk rfl ⟨⟨⟩, ⟨⟩⟩ ?_
  refine WP.condF rfl rfl ?_
  refine WP.mx_ tysOk rfl ⟨⟩ (SegAt.blk' .head rfl) ?_
  refine WP.sto' tysOk [.slice A7 m3 c7, .slice A8 m4 c8] rfl rfl rfl rfl rfl rfl rfl rfl rfl (.tail (.tail (.tail .head))) rfl rfl ?_
  cases h
  refine WP.retR tysOk rfl rfl ⟨_, _, _, _, rfl, ⟨_, rfl, .inr ⟨rfl, _, rfl, rfl, (SegAt.blk' (z := 2) .head rfl).1⟩⟩, rfl, rfl⟩ (fun w1 hw1 => ⟨_, _, rfl, ⟨A7, m3, c7, A8, m4, c8, rfl, hf32, hf33, rfl⟩, Ret.of_KH hw1 (.cons (.tail (.tail .head)) (.cons (.tail (.tail .head)) (.cons (.tail (.tail .head)) .nil)))⟩)

abbrev law03_Arcs_S (r : (List Arc)) : Value → Heap → Prop := fun v L => ∃ (A1 : Option Addr) (n1 c1 : Nat), v = .slice A1 n1 c1 ∧ OwF A1 n1 r ∧ L = [Ow fA 34 A1 n1 c1 r]
set_option maxRecDepth 20000 in
set_option maxHeartbeats 8000000 in
theorem law03_Arcs_w {w : World} {v0 : Value} {d1 : List Int} {i1 : Int} {r : (List Arc)} (h : law03_Arcs d1 i1 = some r) (p1 : SlF (fI .u8) (PH.of w) v0 d1) :
    Calls Tryz.prog 24 #[v0, iv i1] w fun e w' => ∃ v L, e = .returned v ∧ law03_Arcs_S r v L ∧ Ret w w' L := by
  obtain ⟨A1, c1, rfl, hs1⟩ := p1
  unfold law03_Arcs at h
  refine enter_ Tryz.func24 rfl Tryz.ntmps24 rfl ?_
  iterate 3 (refine WP.sx tysOk rfl ⟨⟨⟩, ⟨⟩⟩ ?_)
  refine WP.own_nil 34 fA.z ?_
  refine WP.loop (α := Nat × Int × (List Arc) × (Option Addr) × Nat × Nat) (fun x => lp (law03_Arcs_b1 d1 i1) x.1 (x.2.1, x.2.2.1) = some r ∧ OwF x.2.2.2.1 x.2.2.2.2.1 x.2.2.1) (fun x => [(0, .slice A1 d1.length c1), (1, iv i1), (5, .slice x.2.2.2.1 x.2.2.2.2.1 x.2.2.2.2.2), (6, iv x.2.1)]) (fun x => [Ow fA 34 x.2.2.2.1 x.2.2.2.2.1 x.2.2.2.2.2 x.2.2.1, .fz (PH.of w)]) (fun x => x.1) rfl (big, 0, ([] : List Arc), none, 0, 0) ⟨h, OwF.nil_⟩ ?_ ?_ ?_
  ·repeat first | exact ⟨⟩ | refine ⟨rfl, ?_⟩
  ·exact (.cons .head (.cons .head .nil))
  rintro ⟨n1, s3, xs18, A19, m2, c19⟩ ⟨h, hf34⟩
  dsimp only at h hf34 ⊢
  rcases n1 with _ | n1
  · exact (lp_no h).elim
  replace h := lp_succ h
  unfold law03_Arcs_b1 at h
  try dsimp only at h
  iterate 6 (refine WP.sx tysOk rfl ⟨⟨⟩, ⟨⟩⟩ ?_)
  by_cases hh21 : (w64 (s3 + 3)) < (d1.length : Int)
  ·rw [if_pos hh21] at h
   refine WP.yes rfl rfl (decide_eq_true hh21) ?_
   refine WP.sx tysOk rfl ⟨⟨⟩, ⟨⟩⟩ ?_
   refine WP.yes rfl rfl rfl ?_
   iterate 2 (refine WP.sx tysOk rfl ⟨⟨⟩, ⟨⟩⟩ ?_)
   refine WP.cond_d rfl rfl (fun hh22 => ?_) (fun hh22 => ?_)
   ·rw [if_pos hh22] at h
    obtain ⟨hj17, h⟩ := ck_some h
    obtain ⟨hz25, h⟩ := ck_some h
    obtain ⟨hz26, h⟩ := ck_some h
    obtain ⟨hj18, h⟩ := ck_some h
    obtain ⟨hj19, h⟩ := ck_some h
    refine WP.drawL 32 [(31, [], fun _ => blkSpec 34 [iv 0, iv 0, iv 0, iv 0, iv 0])] rfl (by kernel_rfl) (by kernel_rfl) (by kernel_rfl) ?_
    iterate 2 (refine WP.sx tysOk rfl ⟨⟨⟨rfl, rfl⟩, rfl⟩, ⟨⟩⟩ ?_)
    refine WP.ixA tysOk rfl ⟨⟨rfl, rfl⟩, rfl⟩ rfl rfl rfl rfl rfl rfl rfl rfl hj17 (hs1.ex hj17) ?_
    intro b25 b25v hA25
    refine WP.lx tysOk rfl ⟨⟨rfl, rfl⟩, rfl⟩ (hs1.at0 hA25 (Held.mem (List.Mem.tail _ (List.Mem.head _))) hj17 rfl) ?_
    iterate 2 (refine WP.sx tysOk rfl ⟨⟨⟨rfl, rfl⟩, rfl⟩, ⟨⟩⟩ ?_)
    refine WP.sx tysOk rfl ⟨⟨⟨rfl, rfl⟩, rfl⟩, hz25⟩ ?_
    iterate 2 (refine WP.sx tysOk rfl ⟨⟨⟨rfl, rfl⟩, rfl⟩, ⟨⟩⟩ ?_)
    refine WP.ixA tysOk rfl ⟨⟨rfl, rfl⟩, rfl⟩ rfl rfl rfl rfl rfl rfl rfl rfl hj17 (hs1.ex hj17) ?_
    intro b26 b26v hA26
    refine WP.lx tysOk rfl ⟨⟨rfl, rfl⟩, rfl⟩ (hs1.at0 hA26 (Held.mem (List.Mem.tail _ (List.Mem.head _))) hj17 rfl) ?_
    refine WP.sx tysOk rfl ⟨⟨⟨rfl, rfl⟩, rfl⟩, (by decide)⟩ ?_
    iterate 2 (refine WP.sx tysOk rfl ⟨⟨⟨rfl, rfl⟩, rfl⟩, ⟨⟩⟩ ?_)
    refine WP.sx tysOk rfl ⟨⟨⟨rfl, rfl⟩, rfl⟩, hz26⟩ ?_
    iterate 3 (refine WP.sx tysOk rfl ⟨⟨⟨rfl, rfl⟩, rfl⟩, ⟨⟩⟩ ?_)
    refine WP.ixA tysOk rfl ⟨⟨rfl, rfl⟩, rfl⟩ rfl rfl rfl rfl rfl rfl rfl rfl hj18 (hs1.ex hj18) ?_
    intro b27 b27v hA27
    refine WP.lx tysOk rfl ⟨⟨rfl, rfl⟩, rfl⟩ (hs1.at0 hA27 (Held.mem (List.Mem.tail _ (List.Mem.head _))) hj18 rfl) ?_
    refine WP.sx tysOk rfl ⟨⟨⟨rfl, rfl⟩, rfl⟩, (by decide)⟩ ?_
    iterate 4 (refine WP.sx tysOk rfl ⟨⟨⟨rfl, rfl⟩, rfl⟩, ⟨⟩⟩ ?_)
    refine WP.ixA tysOk rfl ⟨⟨rfl, rfl⟩, rfl⟩ rfl rfl rfl rfl rfl rfl rfl rfl hj19 (hs1.ex hj19) ?_
    intro b28 b28v hA28
    refine WP.lx tysOk rfl ⟨⟨rfl, rfl⟩, rfl⟩ (hs1.at0 hA28 (Held.mem (List.Mem.tail _ (List.Mem.head _))) hj19 rfl) ?_
    refine WP.sx tysOk rfl ⟨⟨⟨rfl, rfl⟩, rfl⟩, (by decide)⟩ ?_
    iterate 2 (refine WP.sx tysOk rfl ⟨⟨⟨rfl, rfl⟩, rfl⟩, ⟨⟩⟩ ?_)
    refine WP.bld (cs := [iv ((w64 ((gt d1 s3))).tmod i1), iv ((w64 (IntKind.wrap .u8 ((gt d1 s3).tdiv 16))).tmod i1), iv (w64 ((gt d1 (w64 (s3 + 1))).tmod 3)), iv 0, iv (w64 ((w64 ((gt d1 (w64 (s3 + 2))).tmod 21)) - 8))]) tysOk rfl ⟨⟨rfl, rfl⟩, rfl⟩ rfl rfl rfl rfl rfl rfl rfl ?_
    refine WP.lal tysOk rfl ⟨rfl, rfl⟩ rfl rfl rfl rfl rfl rfl rfl ?_
    intro g21
    refine WP.lend rfl ⟨rfl, rfl⟩ ?_
    refine WP.sto' tysOk [iv ((w64 ((gt d1 s3))).tmod i1), iv ((w64 (IntKind.wrap .u8 ((gt d1 s3).tdiv 16))).tmod i1), iv (w64 ((gt d1 (w64 (s3 + 1))).tmod 3)), iv 0, iv (w64 ((w64 ((gt d1 (w64 (s3 + 2))).tmod 21)) - 8))] rfl rfl rfl rfl rfl rfl rfl rfl rfl .head rfl rfl ?_
    refine WP.drawL 12 [] rfl (by kernel_rfl) (by kernel_rfl) (by kernel_rfl) ?_
    refine WP.sx tysOk rfl ⟨⟨⟨rfl, rfl⟩, rfl⟩, ⟨⟩⟩ ?_
    refine WP.lx tysOk rfl ⟨⟨rfl, rfl⟩, rfl⟩ (CellAt.blk .head rfl) ?_
    iterate 3 (refine WP.sx tysOk rfl ⟨⟨⟨rfl, rfl⟩, rfl⟩, ⟨⟩⟩ ?_)
    refine WP.ixA tysOk rfl ⟨⟨rfl, rfl⟩, rfl⟩ rfl rfl rfl rfl rfl rfl rfl rfl hj18 (hs1.ex hj18) ?_
    intro b29 b29v hA29
    refine WP.lx tysOk rfl ⟨⟨rfl, rfl⟩, rfl⟩ (hs1.at0 hA29 (Held.mem (List.Mem.tail _ (List.Mem.tail _ (List.Mem.head _)))) hj18 rfl) ?_
    iterate 2 (refine WP.sx tysOk rfl ⟨⟨⟨rfl, rfl⟩, rfl⟩, (by decide)⟩ ?_)
    iterate 3 (refine WP.sx tysOk rfl ⟨⟨⟨rfl, rfl⟩, rfl⟩, ⟨⟩⟩ ?_)
    refine WP.lend rfl ⟨rfl, rfl⟩ ?_
    refine WP.sto' tysOk [iv ((w64 ((gt d1 s3))).tmod i1), iv ((w64 (IntKind.wrap .u8 ((gt d1 s3).tdiv 16))).tmod i1), iv (w64 ((gt d1 (w64 (s3 + 1))).tmod 3)), iv (w64 ((w64 ((gt d1 (w64 (s3 + 1))).tmod 3)) + (w64 ((IntKind.wrap .u8 ((gt d1 (w64 (s3 + 1))).tdiv 3)).tmod 6)))), iv (w64 ((w64 ((gt d1 (w64 (s3 + 2))).tmod 21)) - 8))] rfl rfl rfl rfl rfl rfl rfl rfl rfl .head rfl rfl ?_
    iterate 3 (refine WP.sx tysOk rfl ⟨⟨⟩, ⟨⟩⟩ ?_)
    obtain ⟨hj20, h⟩ := ck_some h
    refine WP.ixA tysOk rfl ⟨⟩ rfl rfl rfl rfl rfl rfl rfl rfl hj20 (hs1.ex hj20) ?_
    intro b30 b30v hA30
    refine WP.lx tysOk rfl ⟨⟩ (hs1.at0 hA30 (Held.mem (List.Mem.tail _ (List.Mem.tail _ (List.Mem.head _)))) hj20 rfl) ?_
    refine WP.sx tysOk rfl ⟨⟨⟩, (by decide)⟩ ?_
    iterate 2 (refine WP.sx tysOk rfl ⟨⟨⟩, ⟨⟩⟩ ?_)
    refine WP.cond_d rfl rfl (fun hh23 => ?_) (fun hh23 => ?_)
    ·rw [if_pos hh23] at h
     refine WP.sx tysOk rfl ⟨⟨⟩, ⟨⟩⟩ ?_
     refine WP.sto' tysOk [iv ((w64 ((gt d1 s3))).tmod i1), iv ((w64 (IntKind.wrap .u8 ((gt d1 s3).tdiv 16))).tmod i1), iv (w64 ((gt d1 (w64 (s3 + 1))).tmod 3)), iv 4611686018427387904, iv (w64 ((w64 ((gt d1 (w64 (s3 + 2))).tmod 21)) - 8))] rfl rfl rfl rfl rfl rfl rfl rfl rfl .head rfl rfl ?_
     refine WP.sx tysOk rfl ⟨⟨⟩, ⟨⟩⟩ ?_
     refine WP.mx_ tysOk rfl ⟨⟩ (SegAt.blk' .head rfl) ?_
     refine WP.bsO (f := fA) [(Arc.mk ((w64 ((gt d1 s3))).tmod i1) ((w64 (IntKind.wrap .u8 ((gt d1 s3).tdiv 16))).tmod i1) (w64 ((gt d1 (w64 (s3 + 1))).tmod 3)) 4611686018427387904 (w64 ((w64 ((gt d1 (w64 (s3 + 2))).tmod 21)) - 8)))] tysOk rfl rfl rfl rfl rfl rfl rfl rfl rfl rfl rfl rfl rfl rfl ?_
     intro g22 hf35
     obtain ⟨hl17, h⟩ := ck_some h
     obtain ⟨xs19, hz27, h⟩ := lt_some h
     refine WP.appO (f := fA) (xs := xs18) (ys := [(Arc.mk ((w64 ((gt d1 s3))).tmod i1) ((w64 (IntKind.wrap .u8 ((gt d1 s3).tdiv 16))).tmod i1) (w64 ((gt d1 (w64 (s3 + 1))).tmod 3)) 4611686018427387904 (w64 ((w64 ((gt d1 (w64 (s3 + 2))).tmod 21)) - 8)))]) tysOk rfl rfl rfl rfl rfl rfl rfl rfl rfl rfl rfl rfl (.tail (.tail .head)) hf34 hf35.len (OwS.app .head hf35) hl17 hz27 ?_
     intro A20 c20 hf36
     iterate 4 (refine WP.sx tysOk rfl ⟨⟨⟩, ⟨⟩⟩ ?_)
     refine WP.stop rfl (n1, w64 (s3 + 4), xs19, A20, xs19.length, c20) ⟨⟨h, hf36⟩, Nat.lt_succ_self _⟩ ?_ ?_
     ·repeat first | exact ⟨⟩ | refine ⟨rfl, ?_⟩
     exact (.cons .head (.cons (.tail (.tail .head)) .nil))
    rw [if_neg hh23] at h
    iterate 2 (refine WP.sx tysOk rfl ⟨⟨⟩, ⟨⟩⟩ ?_)
    refine WP.cond_d rfl rfl (fun hh24 => ?_) (fun hh24 => ?_)
    ·rw [if_pos hh24] at h
     refine WP.sx tysOk rfl ⟨⟨⟩, ⟨⟩⟩ ?_
     refine WP.sto' tysOk [iv ((w64 ((gt d1 s3))).tmod i1), iv ((w64 (IntKind.wrap .u8 ((gt d1 s3).tdiv 16))).tmod i1), iv 0, iv (w64 ((w64 ((gt d1 (w64 (s3 + 1))).tmod 3)) + (w64 ((IntKind.wrap .u8 ((gt d1 (w64 (s3 + 1))).tdiv 3)).tmod 6)))), iv (w64 ((w64 ((gt d1 (w64 (s3 + 2))).tmod 21)) - 8))] rfl rfl rfl rfl rfl rfl rfl rfl rfl .head rfl rfl ?_
     refine WP.sx tysOk rfl ⟨⟨⟩, ⟨⟩⟩ ?_
     refine WP.mx_ tysOk rfl ⟨⟩ (SegAt.blk' .head rfl) ?_
     refine WP.bsO (f := fA) [(Arc.mk ((w64 ((gt d1 s3))).tmod i1) ((w64 (IntKind.wrap .u8 ((gt d1 s3).tdiv 16))).tmod i1) 0 (w64 ((w64 ((gt d1 (w64 (s3 + 1))).tmod 3)) + (w64 ((IntKind.wrap .u8 ((gt d1 (w64 (s3 + 1))).tdiv 3)).tmod 6)))) (w64 ((w64 ((gt d1 (w64 (s3 + 2))).tmod 21)) - 8)))] tysOk rfl rfl rfl rfl rfl rfl rfl rfl rfl rfl rfl rfl rfl rfl ?_
     intro g23 hf37
     obtain ⟨hl18, h⟩ := ck_some h
     obtain ⟨xs20, hz28, h⟩ := lt_some h
     refine WP.appO (f := fA) (xs := xs18) (ys := [(Arc.mk ((w64 ((gt d1 s3))).tmod i1) ((w64 (IntKind.wrap .u8 ((gt d1 s3).tdiv 16))).tmod i1) 0 (w64 ((w64 ((gt d1 (w64 (s3 + 1))).tmod 3)) + (w64 ((IntKind.wrap .u8 ((gt d1 (w64 (s3 + 1))).tdiv 3)).tmod 6)))) (w64 ((w64 ((gt d1 (w64 (s3 + 2))).tmod 21)) - 8)))]) tysOk rfl rfl rfl rfl rfl rfl rfl rfl rfl rfl rfl rfl (.tail (.tail .head)) hf34 hf37.len (OwS.app .head hf37) hl18 hz28 ?_
     intro A21 c21 hf38
     iterate 4 (refine WP.sx tysOk rfl ⟨⟨⟩, ⟨⟩⟩ ?_)
     refine WP.stop rfl (n1, w64 (s3 + 4), xs20, A21, xs20.length, c21) ⟨⟨h, hf38⟩, Nat.lt_succ_self _⟩ ?_ ?_
     ·repeat first | exact ⟨⟩ | refine ⟨rfl, ?_⟩
     exact (.cons .head (.cons (.tail (.tail .head)) .nil))
    rw [if_neg hh24] at h
    iterate 2 (refine WP.sx tysOk rfl ⟨⟨⟩, ⟨⟩⟩ ?_)
    refine WP.cond_d rfl rfl (fun hh25 => ?_) (fun hh25 => ?_)
    ·rw [if_pos hh25] at h
     refine WP.sx tysOk rfl ⟨⟨⟩, ⟨⟩⟩ ?_
     refine WP.sto' tysOk [iv ((w64 ((gt d1 s3))).tmod i1), iv ((w64 (IntKind.wrap .u8 ((gt d1 s3).tdiv 16))).tmod i1), iv (w64 ((gt d1 (w64 (s3 + 1))).tmod 3)), iv (w64 ((w64 ((gt d1 (w64 (s3 + 1))).tmod 3)) + (w64 ((IntKind.wrap .u8 ((gt d1 (w64 (s3 + 1))).tdiv 3)).tmod 6)))), iv 0] rfl rfl rfl rfl rfl rfl rfl rfl rfl .head rfl rfl ?_
     refine WP.sx tysOk rfl ⟨⟨⟩, ⟨⟩⟩ ?_
     refine WP.mx_ tysOk rfl ⟨⟩ (SegAt.blk' .head rfl) ?_
     refine WP.bsO (f := fA) [(Arc.mk ((w64 ((gt d1 s3))).tmod i1) ((w64 (IntKind.wrap .u8 ((gt d1 s3).tdiv 16))).tmod i1) (w64 ((gt d1 (w64 (s3 + 1))).tmod 3)) (w64 ((w64 ((gt d1 (w64 (s3 + 1))).tmod 3)) + (w64 ((IntKind.wrap .u8 ((gt d1 (w64 (s3 + 1))).tdiv 3)).tmod 6)))) 0)] tysOk rfl rfl rfl rfl rfl rfl rfl rfl rfl rfl rfl rfl rfl rfl ?_
     intro g24 hf39
     obtain ⟨hl19, h⟩ := ck_some h
     obtain ⟨xs21, hz29, h⟩ := lt_some h
     refine WP.appO (f := fA) (xs := xs18) (ys := [(Arc.mk ((w64 ((gt d1 s3))).tmod i1) ((w64 (IntKind.wrap .u8 ((gt d1 s3).tdiv 16))).tmod i1) (w64 ((gt d1 (w64 (s3 + 1))).tmod 3)) (w64 ((w64 ((gt d1 (w64 (s3 + 1))).tmod 3)) + (w64 ((IntKind.wrap .u8 ((gt d1 (w64 (s3 + 1))).tdiv 3)).tmod 6)))) 0)]) tysOk rfl rfl rfl rfl rfl rfl rfl rfl rfl rfl rfl rfl (.tail (.tail .head)) hf34 hf39.len (OwS.app .head hf39) hl19 hz29 ?_
     intro A22 c22 hf40
     iterate 4 (refine WP.sx tysOk rfl ⟨⟨⟩, ⟨⟩⟩ ?_)
     refine WP.stop rfl (n1, w64 (s3 + 4), xs21, A22, xs21.length, c22) ⟨⟨h, hf40⟩, Nat.lt_succ_self _⟩ ?_ ?_
     ·repeat first | exact ⟨⟩ | refine ⟨rfl, ?_⟩
     exact (.cons .head (.cons (.tail (.tail .head)) .nil))
    rw [if_neg hh25] at h
    refine WP.sx tysOk rfl ⟨⟨⟩, ⟨⟩⟩ ?_
    refine WP.mx_ tysOk rfl ⟨⟩ (SegAt.blk' .head rfl) ?_
    refine WP.bsO (f := fA) [(Arc.mk ((w64 ((gt d1 s3))).tmod i1) ((w64 (IntKind.wrap .u8 ((gt d1 s3).tdiv 16))).tmod i1) (w64 ((gt d1 (w64 (s3 + 1))).tmod 3)) (w64 ((w64 ((gt d1 (w64 (s3 + 1))).tmod 3)) + (w64 ((IntKind.wrap .u8 ((gt d1 (w64 (s3 + 1))).tdiv 3)).tmod 6)))) (w64 ((w64 ((gt d1 (w64 (s3 + 2))).tmod 21)) - 8)))] tysOk rfl rfl rfl rfl rfl rfl rfl rfl rfl rfl rfl rfl rfl rfl ?_
    intro g25 hf41
    obtain ⟨hl20, h⟩ := ck_some h
    obtain ⟨xs22, hz30, h⟩ := lt_some h
    refine WP.appO (f := fA) (xs := xs18) (ys := [(Arc.mk ((w64 ((gt d1 s3))).tmod i1) ((w64 (IntKind.wrap .u8 ((gt d1 s3).tdiv 16))).tmod i1) (w64 ((gt d1 (w64 (s3 + 1))).tmod 3)) (w64 ((w64 ((gt d1 (w64 (s3 + 1))).tmod 3)) + (w64 ((IntKind.wrap .u8 ((gt d1 (w64 (s3 + 1))).tdiv 3)).tmod 6)))) (w64 ((w64 ((gt d1 (w64 (s3 + 2))).tmod 21)) - 8)))]) tysOk rfl rfl rfl rfl rfl rfl rfl rfl rfl rfl rfl rfl (.tail (.tail .head)) hf34 hf41.len (OwS.app .head hf41) hl20 hz30 ?_
    intro A23 c23 hf42
    iterate 4 (refine WP.sx tysOk rfl ⟨⟨⟩, ⟨⟩⟩ ?_)
    refine WP.stop rfl (n1, w64 (s3 + 4), xs22, A23, xs22.length, c23) ⟨⟨h, hf42⟩, Nat.lt_succ_self _⟩ ?_ ?_
    ·repeat first | exact ⟨⟩ | refine ⟨rfl, ?_⟩
    exact (.cons .head (.cons (.tail (.tail .head)) .nil))
   rw [if_neg hh22] at h
   iterate 2 (refine WP.sx tysOk rfl ⟨⟨⟩, ⟨⟩⟩ ?_)
   cases h
   refine WP.retR tysOk rfl rfl ⟨_, _, rfl, rfl, rfl⟩ (fun w1 hw1 => ⟨_, _, rfl, ⟨A19, m2, c19, rfl, hf34, rfl⟩, Ret.of_KH hw1 (.cons .head (.cons .head .nil))⟩)
  rw [if_neg hh21] at h
  refine WP.no rfl rfl (decide_eq_false hh21) rfl rfl ?_
  refine WP.no rfl rfl rfl rfl rfl ?_
  refine WP.sx tysOk rfl ⟨⟨⟩, ⟨⟩⟩ ?_
  refine WP.condF rfl rfl ?_
  iterate 2 (refine WP.sx tysOk rfl ⟨⟨⟩, ⟨⟩⟩ ?_)
  cases h
  refine WP.retR tysOk rfl rfl ⟨_, _, rfl, rfl, rfl⟩ (fun w1 hw1 => ⟨_, _, rfl, ⟨A19, m2, c19, rfl, hf34, rfl⟩, Ret.of_KH hw1 (.cons .head (.cons .head .nil))⟩)

abbrev law03_Inst_S (r : Inst) : Value → Heap → Prop := fun v L => ∃ (A1 : Option Addr) (n1 c1 : Nat) (A2 : Option Addr) (n2 c2 : Nat), v = .agg #[.slice A1 n1 c1, .slice A2 n2 c2] ∧ OwF A1 n1 r.supply ∧ OwF A2 n2 r.arcs ∧ L = [Ow (fI .i64) 2 A1 n1 c1 r.supply, Ow fA 34 A2 n2 c2 r.arcs]
set_option maxRecDepth 20000 in
set_option maxHeartbeats 8000000 in
theorem law03_Inst_w {w : World} {v0 : Value} {v1 : Value} {d1 : List Int} {i1 : List Int} {r : Inst} (h : law03_Inst d1 i1 = some r) (p1 : SlF (fI .u8) (PH.of w) v0 d1) (p2 : SlF (fI .u8) (PH.of w) v1 i1) :
    Calls Tryz.prog 9 #[v0, v1] w fun e w' => ∃ v L, e = .returned v ∧ law03_Inst_S r v L ∧ Ret w w' L := by
  obtain ⟨A1, c1, rfl, hs1⟩ := p1
  obtain ⟨A2, c2, rfl, hs2⟩ := p2
  unfold law03_Inst at h
  refine enter_ Tryz.func9 rfl Tryz.ntmps9 rfl ?_
  refine WP.al tysOk rfl rfl rfl rfl rfl rfl ?_
  intro g1
  iterate 4 (refine WP.sx tysOk rfl ⟨⟨⟩, ⟨⟩⟩ ?_)
  refine WP.cond_d rfl rfl (fun hh1 => ?_) (fun hh1 => ?_)
  ·rw [if_pos hh1] at h
   refine WP.sx tysOk rfl ⟨⟨⟩, ⟨⟩⟩ ?_
   obtain ⟨hj1, h⟩ := ck_some h
   refine WP.ixA tysOk rfl ⟨⟩ rfl rfl rfl rfl rfl rfl rfl rfl hj1 (hs2.ex hj1) ?_
   intro b1 b1v hA1
   refine WP.lx tysOk rfl ⟨⟩ (hs2.at0 hA1 (Held.mem (List.Mem.tail _ (List.Mem.head _))) hj1 rfl) ?_
   refine WP.sx tysOk rfl ⟨⟨⟩, (by decide)⟩ ?_
   iterate 3 (refine WP.sx tysOk rfl ⟨⟨⟩, ⟨⟩⟩ ?_)
   obtain ⟨hm1, h⟩ := ck_some h
   obtain ⟨r1, hg1, h⟩ := bind_some h
   refine WP.drawL 7 [(1, [], fun _ => mkSpec 2 (w64 (1 + (w64 ((gt i1 0).tmod 7)))).toNat (iv 0)), (4, [], fun _ => law03_Arcs_S r1), (6, [], fun _ => blkSpec 25 [.slice none 0 0, .slice none 0 0])] rfl (by kernel_rfl) (by kernel_rfl) (by kernel_rfl) ?_
   refine WP.sx tysOk rfl ⟨⟨⟨rfl, rfl⟩, rfl⟩, ⟨⟩⟩ ?_
   refine WP.lmO tysOk rfl ⟨rfl, rfl⟩ rfl rfl rfl rfl rfl rfl rfl rfl rfl rfl hm1 ?_
   intro g2
   iterate 2 (refine WP.sx tysOk rfl ⟨⟨⟨rfl, rfl⟩, rfl⟩, ⟨⟩⟩ ?_)
   refine WP.lcall rfl ⟨rfl, rfl⟩ rfl rfl rfl rfl rfl rfl rfl (by kernel_rfl) (fun w1 hw1 => (law03_Arcs_w hg1 (hs1.le' ((Held.mem (List.Mem.tail _ (List.Mem.head _))) _ _ hw1)).of :)) ?_
   rintro _ _ ⟨A3, n1, c3, rfl, hf2, rfl⟩
   refine WP.bld (cs := [.slice (some ⟨g2, 0, none⟩) ((w64 (1 + (w64 ((gt i1 0).tmod 7)))).toNat) ((w64 (1 + (w64 ((gt i1 0).tmod 7)))).toNat), .slice A3 n1 c3]) tysOk rfl ⟨⟨rfl, rfl⟩, rfl⟩ rfl rfl rfl rfl rfl rfl rfl ?_
   refine WP.lal tysOk rfl ⟨rfl, rfl⟩ rfl rfl rfl rfl rfl rfl rfl ?_
   intro g3
   refine WP.lend rfl ⟨rfl, rfl⟩ ?_
   refine WP.shutM (f := (fI .i64)) 0 (.tail (.tail .head)) rfl rfl hm1 ?_
   intro hf1
   refine WP.sto' tysOk [.slice (some ⟨g2, 0, none⟩) ((w64 (1 + (w64 ((gt i1 0).tmod 7)))).toNat) ((w64 (1 + (w64 ((gt i1 0).tmod 7)))).toNat), .slice A3 n1 c3] rfl rfl rfl rfl rfl rfl rfl rfl rfl (.tail .head) rfl rfl ?_
   refine WP.sx tysOk rfl ⟨⟨⟩, ⟨⟩⟩ ?_
   refine WP.loop (α := Nat × Int × (List Int) × (Option Addr) × Nat × Nat) (fun x => lp (law03_Inst_b1 i1 r1) x.1 (x.2.1, x.2.2.1) = some r ∧ OwF x.2.2.2.1 x.2.2.2.2.1 x.2.2.1) (fun x => [(1, .slice A2 i1.length c2), (4, .pointer (some ⟨g1, 0, none⟩)), (5, iv (w64 (1 + (w64 ((gt i1 0).tmod 7))))), (6, .pointer (some ⟨g3, 0, none⟩)), (7, iv x.2.1)]) (fun x => [.blk g3 25 [.slice x.2.2.2.1 x.2.2.2.2.1 x.2.2.2.2.2, .slice A3 n1 c3], Ow (fI .i64) 2 x.2.2.2.1 x.2.2.2.2.1 x.2.2.2.2.2 x.2.2.1, Ow fA 34 A3 n1 c3 r1, .blk g1 25 [.slice none 0 0, .slice none 0 0], .fz (PH.of w)]) (fun x => x.1) rfl (big, 0, (List.replicate (w64 (1 + (w64 ((gt i1 0).tmod 7)))).toNat 0), (some ⟨g2, 0, none⟩), (w64 (1 + (w64 ((gt i1 0).tmod 7)))).toNat, (w64 (1 + (w64 ((gt i1 0).tmod 7)))).toNat) ⟨h, hf1⟩ ?_ ?_ ?_
   ·repeat first | exact ⟨⟩ | refine ⟨rfl, ?_⟩
   ·exact (.cons .head (.cons .head (.cons .head (.cons .head (.cons .head .nil)))))
   rintro ⟨n2, s3, xs20, A5, m2, c5⟩ ⟨h, hf22⟩
   dsimp only at h hf22 ⊢
   rcases n2 with _ | n2
   · exact (lp_no h).elim
   replace h := lp_succ h
   unfold law03_Inst_b1 at h
   try dsimp only at h
   iterate 2 (refine WP.sx tysOk rfl ⟨⟨⟩, ⟨⟩⟩ ?_)
   refine WP.lx tysOk rfl ⟨⟩ (CellAt.blk .head rfl) ?_
   refine WP.lenO (xs := r1) tysOk rfl ⟨⟩ rfl rfl rfl rfl rfl rfl hf2 ?_
   refine WP.sx tysOk rfl ⟨⟨⟩, ⟨⟩⟩ ?_
   refine WP.cond_d rfl rfl (fun hh14 => ?_) (fun hh14 => ?_)
   ·rw [if_pos hh14] at h
    refine WP.sx tysOk rfl ⟨⟨⟩, ⟨⟩⟩ ?_
    refine WP.lx tysOk rfl ⟨⟩ (CellAt.blk .head rfl) ?_
    refine WP.sx tysOk rfl ⟨⟨⟩, ⟨⟩⟩ ?_
    obtain ⟨hj32, h⟩ := ck_some h
    refine WP.ixO tysOk rfl ⟨⟩ rfl rfl rfl rfl rfl rfl rfl rfl hf2 hj32 ?_
    intro b50 hA50
    refine WP.mx_ tysOk rfl ⟨⟩ (OwS.seg (.tail (.tail .head)) hA50 hj32) ?_
    refine WP.al tysOk rfl rfl rfl rfl rfl rfl ?_
    intro g7
    refine WP.sto' tysOk [iv ((gt r1 s3).src), iv ((gt r1 s3).dst), iv ((gt r1 s3).low), iv ((gt r1 s3).cap), iv ((gt r1 s3).cost)] rfl rfl rfl rfl rfl rfl rfl rfl rfl .head rfl rfl ?_
    refine WP.sx tysOk rfl ⟨⟨⟩, ⟨⟩⟩ ?_
    refine WP.lx tysOk rfl ⟨⟩ (CellAt.blk .head rfl) ?_
    iterate 6 (refine WP.sx tysOk rfl ⟨⟨⟩, ⟨⟩⟩ ?_)
    refine WP.cond_d rfl rfl (fun hh15 => ?_) (fun hh15 => ?_)
    ·rw [if_pos hh15] at h
     refine WP.draw rfl (by kernel_rfl) (by kernel_rfl) ?_
     refine WP.sx tysOk rfl ⟨rfl, ⟨⟩⟩ ?_
     refine WP.lx tysOk rfl rfl (CellAt.blk .head rfl) ?_
     iterate 3 (refine WP.sx tysOk rfl ⟨rfl, ⟨⟩⟩ ?_)
     obtain ⟨hj33, h⟩ := ck_some h
     refine WP.ixA tysOk rfl rfl rfl rfl rfl rfl rfl rfl rfl rfl hj33 (hs2.ex hj33) ?_
     intro b51 b51v hA51
     refine WP.lx tysOk rfl rfl (hs2.at0 hA51 (Held.mem (List.Mem.tail _ (List.Mem.tail _ (List.Mem.tail _ (List.Mem.tail _ (List.Mem.tail _ (List.Mem.head _))))))) hj33 rfl) ?_
     refine WP.sx tysOk rfl ⟨rfl, (by decide)⟩ ?_
     iterate 3 (refine WP.sx tysOk rfl ⟨rfl, ⟨⟩⟩ ?_)
     refine WP.lx tysOk rfl rfl (CellAt.blk .head rfl) ?_
     refine WP.mn rfl rfl rfl rfl rfl rfl rfl rfl ?_
     refine WP.sx tysOk rfl ⟨rfl, ⟨⟩⟩ ?_
     refine WP.qend rfl ?_
     refine WP.sx tysOk rfl ⟨⟨⟩, ⟨⟩⟩ ?_
     refine WP.lx tysOk rfl ⟨⟩ (CellAt.blk (.tail .head) rfl) ?_
     refine WP.sx tysOk rfl ⟨⟨⟩, ⟨⟩⟩ ?_
     refine WP.lx tysOk rfl ⟨⟩ (CellAt.blk .head rfl) ?_
     obtain ⟨hj34, h⟩ := ck_some h
     refine WP.ixO tysOk rfl ⟨⟩ rfl rfl rfl rfl rfl rfl rfl rfl hf22 hj34 ?_
     intro b52 hA52
     refine WP.lx tysOk rfl ⟨⟩ (OwS.at0 (.tail (.tail .head)) hA52 hj34 rfl) ?_
     iterate 2 (refine WP.sx tysOk rfl ⟨⟨⟩, ⟨⟩⟩ ?_)
     refine WP.ixO tysOk rfl ⟨⟩ rfl rfl rfl rfl rfl rfl rfl rfl hf22 hj34 ?_
     intro b53 hA53
     obtain ⟨xs21, hx19, h⟩ := lt_some h
     refine WP.stoO (f := (fI .i64)) 0 (w64 ((gt xs20 ((gt r1 s3).src)) + (if ((gt r1 s3).cap) < (w64 (((gt r1 s3).low) + (w64 ((gt i1 (w64 (s3 + 1))).tmod 4)))) then (gt r1 s3).cap else w64 (((gt r1 s3).low) + (w64 ((gt i1 (w64 (s3 + 1))).tmod 4)))))) tysOk rfl rfl rfl rfl rfl rfl rfl rfl rfl (.tail (.tail .head)) hA53 hf22 hj34 rfl rfl rfl hx19 ?_
     intro hf23
     refine WP.sx tysOk rfl ⟨⟨⟩, ⟨⟩⟩ ?_
     refine WP.lx tysOk rfl ⟨⟩ (CellAt.blk (.tail (.tail .head)) rfl) ?_
     refine WP.sx tysOk rfl ⟨⟨⟩, ⟨⟩⟩ ?_
     refine WP.lx tysOk rfl ⟨⟩ (CellAt.blk (.tail .head) rfl) ?_
     obtain ⟨hj35, h⟩ := ck_some h
     refine WP.ixO tysOk rfl ⟨⟩ rfl rfl rfl rfl rfl rfl rfl rfl hf23 hj35 ?_
     intro b54 hA54
     refine WP.lx tysOk rfl ⟨⟩ (OwS.at0 .head hA54 hj35 rfl) ?_
     iterate 2 (refine WP.sx tysOk rfl ⟨⟨⟩, ⟨⟩⟩ ?_)
     refine WP.ixO tysOk rfl ⟨⟩ rfl rfl rfl rfl rfl rfl rfl rfl hf23 hj35 ?_
     intro b55 hA55
     obtain ⟨xs22, hx20, h⟩ := lt_some h
     refine WP.stoO (f := (fI .i64)) 0 (w64 ((gt xs21 ((gt r1 s3).dst)) - (if ((gt r1 s3).cap) < (w64 (((gt r1 s3).low) + (w64 ((gt i1 (w64 (s3 + 1))).tmod 4)))) then (gt r1 s3).cap else w64 (((gt r1 s3).low) + (w64 ((gt i1 (w64 (s3 + 1))).tmod 4)))))) tysOk rfl rfl rfl rfl rfl rfl rfl rfl rfl .head hA55 hf23 hj35 rfl rfl rfl hx20 ?_
     intro hf24
     iterate 3 (refine WP.sx tysOk rfl ⟨⟨⟩, ⟨⟩⟩ ?_)
     refine WP.stop rfl (n2, w64 (s3 + 1), xs22, A5, m2, c5) ⟨⟨h, hf24⟩, Nat.lt_succ_self _⟩ ?_ ?_
     ·repeat first | exact ⟨⟩ | refine ⟨rfl, ?_⟩
     exact (.cons (.tail (.tail .head)) (.cons .head (.cons (.tail .head) (.cons (.tail .head) (.cons (.tail .head) .nil)))))
    rw [if_neg hh15] at h
    refine WP.sx tysOk rfl ⟨⟨⟩, ⟨⟩⟩ ?_
    refine WP.lx tysOk rfl ⟨⟩ (CellAt.blk (.tail .head) rfl) ?_
    refine WP.sx tysOk rfl ⟨⟨⟩, ⟨⟩⟩ ?_
    refine WP.lx tysOk rfl ⟨⟩ (CellAt.blk .head rfl) ?_
    obtain ⟨hj36, h⟩ := ck_some h
    refine WP.ixO tysOk rfl ⟨⟩ rfl rfl rfl rfl rfl rfl rfl rfl hf22 hj36 ?_
    intro b56 hA56
    refine WP.lx tysOk rfl ⟨⟩ (OwS.at0 (.tail (.tail .head)) hA56 hj36 rfl) ?_
    iterate 2 (refine WP.sx tysOk rfl ⟨⟨⟩, ⟨⟩⟩ ?_)
    refine WP.ixO tysOk rfl ⟨⟩ rfl rfl rfl rfl rfl rfl rfl rfl hf22 hj36 ?_
    intro b57 hA57
    obtain ⟨xs23, hx21, h⟩ := lt_some h
    refine WP.stoO (f := (fI .i64)) 0 (w64 ((gt xs20 ((gt r1 s3).src)) + ((gt r1 s3).low))) tysOk rfl rfl rfl rfl rfl rfl rfl rfl rfl (.tail (.tail .head)) hA57 hf22 hj36 rfl rfl rfl hx21 ?_
    intro hf25
    refine WP.sx tysOk rfl ⟨⟨⟩, ⟨⟩⟩ ?_
    refine WP.lx tysOk rfl ⟨⟩ (CellAt.blk (.tail (.tail .head)) rfl) ?_
    refine WP.sx tysOk rfl ⟨⟨⟩, ⟨⟩⟩ ?_
    refine WP.lx tysOk rfl ⟨⟩ (CellAt.blk (.tail .head) rfl) ?_
    obtain ⟨hj37, h⟩ := ck_some h
    refine WP.ixO tysOk rfl ⟨⟩ rfl rfl rfl rfl rfl rfl rfl rfl hf25 hj37 ?_
    intro b58 hA58
    refine WP.lx tysOk rfl ⟨⟩ (OwS.at0 .head hA58 hj37 rfl) ?_
    iterate 2 (refine WP.sx tysOk rfl ⟨⟨⟩, ⟨⟩⟩ ?_)
    refine WP.ixO tysOk rfl ⟨⟩ rfl rfl rfl rfl rfl rfl rfl rfl hf25 hj37 ?_
    intro b59 hA59
    obtain ⟨xs24, hx22, h⟩ := lt_some h
    refine WP.stoO (f := (fI .i64)) 0 (w64 ((gt xs23 ((gt r1 s3).dst)) - ((gt r1 s3).low))) tysOk rfl rfl rfl rfl rfl rfl rfl rfl rfl .head hA59 hf25 hj37 rfl rfl rfl hx22 ?_
    intro hf26
    iterate 3 (refine WP.sx tysOk rfl ⟨⟨⟩, ⟨⟩⟩ ?_)
    refine WP.stop rfl (n2, w64 (s3 + 1), xs24, A5, m2, c5) ⟨⟨h, hf26⟩, Nat.lt_succ_self _⟩ ?_ ?_
    ·repeat first | exact ⟨⟩ | refine ⟨rfl, ?_⟩
    exact (.cons (.tail (.tail .head)) (.cons .head (.cons (.tail .head) (.cons (.tail .head) (.cons (.tail .head) .nil)))))
   rw [if_neg hh14] at h
   iterate 4 (refine WP.sx tysOk rfl ⟨⟨⟩, ⟨⟩⟩ ?_)
   by_cases hh16 : 1 < (i1.length : Int)
   ·rw [if_pos hh16] at h
    refine WP.yes rfl rfl (decide_eq_true hh16) ?_
    iterate 4 (refine WP.sx tysOk rfl ⟨⟨⟩, ⟨⟩⟩ ?_; refine WP.yes rfl rfl rfl ?_)
    obtain ⟨hj38, h⟩ := ck_some h
    refine WP.ixA tysOk rfl ⟨⟩ rfl rfl rfl rfl rfl rfl rfl rfl hj38 (hs2.ex hj38) ?_
    intro b60 b60v hA60
    refine WP.yes rfl rfl rfl ?_
    refine WP.lx tysOk rfl ⟨⟩ (hs2.at0 hA60 (Held.mem (List.Mem.tail _ (List.Mem.tail _ (List.Mem.tail _ (List.Mem.tail _ (List.Mem.head _)))))) hj38 rfl) ?_
    refine WP.yes rfl rfl rfl ?_
    refine WP.sx tysOk rfl ⟨⟨⟩, (by decide)⟩ ?_
    refine WP.yes rfl rfl rfl ?_
    iterate 2 (refine WP.sx tysOk rfl ⟨⟨⟩, ⟨⟩⟩ ?_)
    refine WP.cond_d rfl rfl (fun hh17 => ?_) (fun hh17 => ?_)
    ·rw [if_pos hh17] at h
     refine WP.sx tysOk rfl ⟨⟨⟩, ⟨⟩⟩ ?_
     obtain ⟨hj39, h⟩ := ck_some h
     refine WP.ixA tysOk rfl ⟨⟩ rfl rfl rfl rfl rfl rfl rfl rfl hj39 (hs2.ex hj39) ?_
     intro b61 b61v hA61
     refine WP.lx tysOk rfl ⟨⟩ (hs2.at0 hA61 (Held.mem (List.Mem.tail _ (List.Mem.tail _ (List.Mem.tail _ (List.Mem.tail _ (List.Mem.head _)))))) hj39 rfl) ?_
     refine WP.sx tysOk rfl ⟨⟨⟩, (by decide)⟩ ?_
     iterate 3 (refine WP.sx tysOk rfl ⟨⟨⟩, ⟨⟩⟩ ?_)
     refine WP.lx tysOk rfl ⟨⟩ (CellAt.blk .head rfl) ?_
     obtain ⟨hj40, h⟩ := ck_some h
     refine WP.ixO tysOk rfl ⟨⟩ rfl rfl rfl rfl rfl rfl rfl rfl hf22 hj40 ?_
     intro b62 hA62
     refine WP.lx tysOk rfl ⟨⟩ (OwS.at0 (.tail .head) hA62 hj40 rfl) ?_
     iterate 2 (refine WP.sx tysOk rfl ⟨⟨⟩, ⟨⟩⟩ ?_)
     refine WP.ixO tysOk rfl ⟨⟩ rfl rfl rfl rfl rfl rfl rfl rfl hf22 hj40 ?_
     intro b63 hA63
     obtain ⟨xs25, hx23, h⟩ := lt_some h
     refine WP.stoO (f := (fI .i64)) 0 (w64 ((gt xs20 0) + (w64 ((gt i1 1).tmod 3)))) tysOk rfl rfl rfl rfl rfl rfl rfl rfl rfl (.tail .head) hA63 hf22 hj40 rfl rfl rfl hx23 ?_
     intro hf27
     refine WP.sx tysOk rfl ⟨⟨⟩, ⟨⟩⟩ ?_
     refine WP.lx tysOk rfl ⟨⟩ (CellAt.blk (.tail .head) rfl) ?_
     iterate 2 (refine WP.sx tysOk rfl ⟨⟨⟩, ⟨⟩⟩ ?_)
     obtain ⟨hj41, h⟩ := ck_some h
     refine WP.ixO tysOk rfl ⟨⟩ rfl rfl rfl rfl rfl rfl rfl rfl hf27 hj41 ?_
     intro b64 hA64
     refine WP.lx tysOk rfl ⟨⟩ (OwS.at0 .head hA64 hj41 rfl) ?_
     iterate 2 (refine WP.sx tysOk rfl ⟨⟨⟩, ⟨⟩⟩ ?_)
     refine WP.ixO tysOk rfl ⟨⟩ rfl rfl rfl rfl rfl rfl rfl rfl hf27 hj41 ?_
     intro b65 hA65
     obtain ⟨xs26, hx24, h⟩ := lt_some h
     refine WP.stoO (f := (fI .i64)) 0 (w64 ((gt xs25 (w64 ((w64 (1 + (w64 ((gt i1 0).tmod 7)))) - 1))) - (w64 ((gt i1 1).tmod 3)))) tysOk rfl rfl rfl rfl rfl rfl rfl rfl rfl .head hA65 hf27 hj41 rfl rfl rfl hx24 ?_
     intro hf28
     refine WP.mx_ tysOk rfl ⟨⟩ (SegAt.blk' (.tail .head) rfl) ?_
     refine WP.sto' tysOk [.slice A5 m2 c5, .slice A3 n1 c3] rfl rfl rfl rfl rfl rfl rfl rfl rfl (.tail (.tail (.tail .head))) rfl rfl ?_
     cases h
     refine WP.retR tysOk rfl rfl ⟨_, _, _, _, rfl, ⟨_, rfl, .inr ⟨rfl, _, rfl, rfl, (SegAt.blk' (z := 2) .head rfl).1⟩⟩, rfl, rfl⟩ (fun w1 hw1 => ⟨_, _, rfl, ⟨A5, m2, c5, A3, n1, c3, rfl, hf28, hf2, rfl⟩, Ret.of_KH hw1 (.cons (.tail .head) (.cons (.tail (.tail .head)) (.cons (.tail (.tail .head)) .nil)))⟩)
    rw [if_neg hh17] at h
    refine WP.mx_ tysOk rfl ⟨⟩ (SegAt.blk' .head rfl) ?_
    refine WP.sto' tysOk [.slice A5 m2 c5, .slice A3 n1 c3] rfl rfl rfl rfl rfl rfl rfl rfl rfl (.tail (.tail (.tail .head))) rfl rfl ?_
    cases h
    refine WP.retR tysOk rfl rfl ⟨_, _, _, _, rfl, ⟨_, rfl, .inr ⟨rfl, _, rfl, rfl, (SegAt.blk' (z := 2) .head rfl).1⟩⟩, rfl, rfl⟩ (fun w1 hw1 => ⟨_, _, rfl, ⟨A5, m2, c5, A3, n1, c3, rfl, hf22, hf2, rfl⟩, Ret.of_KH hw1 (.cons (.tail (.tail .head)) (.cons (.tail (.tail .head)) (.cons (.tail (.tail .head)) .nil)))⟩)
   rw [if_neg hh16] at h
   refine WP.no rfl rfl (decide_eq_false hh16) rfl rfl ?_
   iterate 7 (refine WP.no rfl rfl rfl rfl rfl ?_)
   refine WP.sx tysOk rfl ⟨⟨⟩, ⟨⟩⟩ ?_
   refine WP.condF rfl rfl ?_
   refine WP.mx_ tysOk rfl ⟨⟩ (SegAt.blk' .head rfl) ?_
   refine WP.sto' tysOk [.slice A5 m2 c5, .slice A3 n1 c3] rfl rfl rfl rfl rfl rfl rfl rfl rfl (.tail (.tail (.tail .head))) rfl rfl ?_
   cases h
   refine WP.retR tysOk rfl rfl ⟨_, _, _, _, rfl, ⟨_, rfl, .inr ⟨rfl, _, rfl, rfl, (SegAt.blk' (z := 2) .head rfl).1⟩⟩, rfl, rfl⟩ (fun w1 hw1 => ⟨_, _, rfl, ⟨A5, m2, c5, A3, n1, c3, rfl, hf22, hf2, rfl⟩, Ret.of_KH hw1 (.cons (.tail (.tail .head)) (.cons (.tail (.tail .head)) (.cons (.tail (.tail .head)) .nil)))⟩)
  rw [if_neg hh1] at h
  obtain ⟨hm2, h⟩ := ck_some h
  obtain ⟨r2, hg2, h⟩ := bind_some h
  refine WP.drawL 7 [(1, [], fun _ => mkSpec 2 (1 : Int).toNat (iv 0)), (4, [], fun _ => law03_Arcs_S r2), (6, [], fun _ => blkSpec 25 [.slice none 0 0, .slice none 0 0])] rfl (by kernel_rfl) (by kernel_rfl) (by kernel_rfl) ?_
  refine WP.sx tysOk rfl ⟨⟨⟨rfl, rfl⟩, rfl⟩, ⟨⟩⟩ ?_
  refine WP.lmO tysOk rfl ⟨rfl, rfl⟩ rfl rfl rfl rfl rfl rfl rfl rfl rfl rfl hm2 ?_
  intro g8
  iterate 2 (refine WP.sx tysOk rfl ⟨⟨⟨rfl, rfl⟩, rfl⟩, ⟨⟩⟩ ?_)
  refine WP.lcall rfl ⟨rfl, rfl⟩ rfl rfl rfl rfl rfl rfl rfl (by kernel_rfl) (fun w1 hw1 => (law03_Arcs_w hg2 (hs1.le' ((Held.mem (List.Mem.tail _ (List.Mem.head _))) _ _ hw1)).of :)) ?_
  rintro _ _ ⟨A6, n3, c6, rfl, hf30, rfl⟩
  refine WP.bld (cs := [.slice (some ⟨g8, 0, none⟩) ((1 : Int).toNat) ((1 : Int).toNat), .slice A6 n3 c6]) tysOk rfl ⟨⟨rfl, rfl⟩, rfl⟩ rfl rfl rfl rfl rfl rfl rfl ?_
  refine WP.lal tysOk rfl ⟨rfl, rfl⟩ rfl rfl rfl rfl rfl rfl rfl ?_
  intro g9
  refine WP.lend rfl ⟨rfl, rfl⟩ ?_
  refine WP.shutM (f := (fI .i64)) 0 (.tail (.tail .head)) rfl rfl hm2 ?_
  intro hf29
  refine WP.sto' tysOk [.slice (some ⟨g8, 0, none⟩) ((1 : Int).toNat) ((1 : Int).toNat), .slice A6 n3 c6] rfl rfl rfl rfl rfl rfl rfl rfl rfl (.tail .head) rfl rfl ?_
  refine WP.sx tysOk rfl ⟨⟨⟩, ⟨⟩⟩ ?_
  refine WP.loop (α := Nat × Int × (List Int) × (Option Addr) × Nat × Nat) (fun x => lp (law03_Inst_b2 i1 r2) x.1 (x.2.1, x.2.2.1) = some r ∧ OwF x.2.2.2.1 x.2.2.2.2.1 x.2.2.1) (fun x => [(1, .slice A2 i1.length c2), (4, .pointer (some ⟨g1, 0, none⟩)), (5, iv 1), (6, .pointer (some ⟨g9, 0, none⟩)), (7, iv x.2.1)]) (fun x => [.blk g9 25 [.slice x.2.2.2.1 x.2.2.2.2.1 x.2.2.2.2.2, .slice A6 n3 c6], Ow (fI .i64) 2 x.2.2.2.1 x.2.2.2.2.1 x.2.2.2.2.2 x.2.2.1, Ow fA 34 A6 n3 c6 r2, .blk g1 25 [.slice none 0 0, .slice none 0 0], .fz (PH.of w)]) (fun x => x.1) rfl (big, 0, (List.replicate (1 : Int).toNat 0), (some ⟨g8, 0, none⟩), (1 : Int).toNat, (1 : Int).toNat) ⟨h, hf29⟩ ?_ ?_ ?_
  ·repeat first | exact ⟨⟩ | refine ⟨rfl, ?_⟩
  ·exact (.cons .head (.cons .head (.cons .head (.cons .head (.cons .head .nil)))))
  rintro ⟨n4, s6, xs46, A8, m4, c8⟩ ⟨h, hf50⟩
  dsimp only at h hf50 ⊢
  rcases n4 with _ | n4
  · exact (lp_no h).elim
  replace h := lp_succ h
  unfold law03_Inst_b2 at h
  try dsimp only at h
  iterate 2 (refine WP.sx tysOk rfl ⟨⟨⟩, ⟨⟩⟩ ?_)
  refine WP.lx tysOk rfl ⟨⟩ (CellAt.blk .head rfl) ?_
  refine WP.lenO (xs := r2) tysOk rfl ⟨⟩ rfl rfl rfl rfl rfl rfl hf30 ?_
  refine WP.sx tysOk rfl ⟨⟨⟩, ⟨⟩⟩ ?_
  refine WP.cond_d rfl rfl (fun hh30 => ?_) (fun hh30 => ?_)
  ·rw [if_pos hh30] at h
   refine WP.sx tysOk rfl ⟨⟨⟩, ⟨⟩⟩ ?_
   refine WP.lx tysOk rfl ⟨⟩ (CellAt.blk .head rfl) ?_
   refine WP.sx tysOk rfl ⟨⟨⟩, ⟨⟩⟩ ?_
   obtain ⟨hj72, h⟩ := ck_some h
   refine WP.ixO tysOk rfl ⟨⟩ rfl rfl rfl rfl rfl rfl rfl rfl hf30 hj72 ?_
   intro b114 hA114
   refine WP.mx_ tysOk rfl ⟨⟩ (OwS.seg (.tail (.tail .head)) hA114 hj72) ?_
   refine WP.al tysOk rfl rfl rfl rfl rfl rfl ?_
   intro g13
   refine WP.sto' tysOk [iv ((gt r2 s6).src), iv ((gt r2 s6).dst), iv ((gt r2 s6).low), iv ((gt r2 s6).cap), iv ((gt r2 s6).cost)] rfl rfl rfl rfl rfl rfl rfl rfl rfl .head rfl rfl ?_
   refine WP.sx tysOk rfl ⟨⟨⟩, ⟨⟩⟩ ?_
   refine WP.lx tysOk rfl ⟨⟩ (CellAt.blk .head rfl) ?_
   iterate 6 (refine WP.sx tysOk rfl ⟨⟨⟩, ⟨⟩⟩ ?_)
   refine WP.cond_d rfl rfl (fun hh31 => ?_) (fun hh31 => ?_)
   ·rw [if_pos hh31] at h
    refine WP.draw rfl (by kernel_rfl) (by kernel_rfl) ?_
    refine WP.sx tysOk rfl ⟨rfl, ⟨⟩⟩ ?_
    refine WP.lx tysOk rfl rfl (CellAt.blk .head rfl) ?_
    iterate 3 (refine WP.sx tysOk rfl ⟨rfl, ⟨⟩⟩ ?_)
    obtain ⟨hj73, h⟩ := ck_some h
    refine WP.ixA tysOk rfl rfl rfl rfl rfl rfl rfl rfl rfl rfl hj73 (hs2.ex hj73) ?_
    intro b115 b115v hA115
    refine WP.lx tysOk rfl rfl (hs2.at0 hA115 (Held.mem (List.Mem.tail _ (List.Mem.tail _ (List.Mem.tail _ (List.Mem.tail _ (List.Mem.tail _ (List.Mem.head _))))))) hj73 rfl) ?_
    refine WP.sx tysOk rfl ⟨rfl, (by decide)⟩ ?_
    iterate 3 (refine WP.sx tysOk rfl ⟨rfl, ⟨⟩⟩ ?_)
    refine WP.lx tysOk rfl rfl (CellAt.blk .head rfl) ?_
    refine WP.mn rfl rfl rfl rfl rfl rfl rfl rfl ?_
    refine WP.sx tysOk rfl ⟨rfl, ⟨⟩⟩ ?_
    refine WP.qend rfl ?_
    refine WP.sx tysOk rfl ⟨⟨⟩, ⟨⟩⟩ ?_
    refine WP.lx tysOk rfl ⟨⟩ (CellAt.blk (.tail .head) rfl) ?_
    refine WP.sx tysOk rfl ⟨⟨⟩, ⟨⟩⟩ ?_
    refine WP.lx tysOk rfl ⟨⟩ (CellAt.blk .head rfl) ?_
    obtain ⟨hj74, h⟩ := ck_some h
    refine WP.ixO tysOk rfl ⟨⟩ rfl rfl rfl rfl rfl rfl rfl rfl hf50 hj74 ?_
    intro b116 hA116
    refine WP.lx tysOk rfl ⟨⟩ (OwS.at0 (.tail (.tail .head)) hA116 hj74 rfl) ?_
    iterate 2 (refine WP.sx tysOk rfl ⟨⟨⟩, ⟨⟩⟩ ?_)
    refine WP.ixO tysOk rfl ⟨⟩ rfl rfl rfl rfl rfl rfl rfl rfl hf50 hj74 ?_
    intro b117 hA117
    obtain ⟨xs47, hx43, h⟩ := lt_some h
    refine WP.stoO (f := (fI .i64)) 0 (w64 ((gt xs46 ((gt r2 s6).src)) + (if ((gt r2 s6).cap) < (w64 (((gt r2 s6).low) + (w64 ((gt i1 (w64 (s6 + 1))).tmod 4)))) then (gt r2 s6).cap else w64 (((gt r2 s6).low) + (w64 ((gt i1 (w64 (s6 + 1))).tmod 4)))))) tysOk rfl rfl rfl rfl rfl rfl rfl rfl rfl (.tail (.tail .head)) hA117 hf50 hj74 rfl rfl rfl hx43 ?_
    intro hf51
    refine WP.sx tysOk rfl ⟨⟨⟩, ⟨⟩⟩ ?_
    refine WP.lx tysOk rfl ⟨⟩ (CellAt.blk (.tail (.tail .head)) rfl) ?_
    refine WP.sx tysOk rfl ⟨⟨⟩, ⟨⟩⟩ ?_
    refine WP.lx tysOk rfl ⟨⟩ (CellAt.blk (.tail .head) rfl) ?_
    obtain ⟨hj75, h⟩ := ck_some h
    refine WP.ixO tysOk rfl ⟨⟩ rfl rfl rfl rfl rfl rfl rfl rfl hf51 hj75 ?_
    intro b118 hA118
    refine WP.lx tysOk rfl ⟨⟩ (OwS.at0 .head hA118 hj75 rfl) ?_
    iterate 2 (refine WP.sx tysOk rfl ⟨⟨⟩, ⟨⟩⟩ ?_)
    refine WP.ixO tysOk rfl ⟨⟩ rfl rfl rfl rfl rfl rfl rfl rfl hf51 hj75 ?_
    intro b119 hA119
    obtain ⟨xs48, hx44, h⟩ := lt_some h
    refine WP.stoO (f := (fI .i64)) 0 (w64 ((gt xs47 ((gt r2 s6).dst)) - (if ((gt r2 s6).cap) < (w64 (((gt r2 s6).low) + (w64 ((gt i1 (w64 (s6 + 1))).tmod 4)))) then (gt r2 s6).cap else w64 (((gt r2 s6).low) + (w64 ((gt i1 (w64 (s6 + 1))).tmod 4)))))) tysOk rfl rfl rfl rfl rfl rfl rfl rfl rfl .head hA119 hf51 hj75 rfl rfl rfl hx44 ?_
    intro hf52
    iterate 3 (refine WP.sx tysOk rfl ⟨⟨⟩, ⟨⟩⟩ ?_)
    refine WP.stop rfl (n4, w64 (s6 + 1), xs48, A8, m4, c8) ⟨⟨h, hf52⟩, Nat.lt_succ_self _⟩ ?_ ?_
    ·repeat first | exact ⟨⟩ | refine ⟨rfl, ?_⟩
    exact (.cons (.tail (.tail .head)) (.cons .head (.cons (.tail .head) (.cons (.tail .head) (.cons (.tail .head) .nil)))))
   rw [if_neg hh31] at h
   refine WP.sx tysOk rfl ⟨⟨⟩, ⟨⟩⟩ ?_
   refine WP.lx tysOk rfl ⟨⟩ (CellAt.blk (.tail .head) rfl) ?_
   refine WP.sx tysOk rfl ⟨⟨⟩, ⟨⟩⟩ ?_
   refine WP.lx tysOk rfl ⟨⟩ (CellAt.blk .head rfl) ?_
   obtain ⟨hj76, h⟩ := ck_some h
   refine WP.ixO tysOk rfl ⟨⟩ rfl rfl rfl rfl rfl rfl rfl rfl hf50 hj76 ?_
   intro b120 hA120
   refine WP.lx tysOk rfl ⟨⟩ (OwS.at0 (.tail (.tail .head)) hA120 hj76 rfl) ?_
   iterate 2 (refine WP.sx tysOk rfl ⟨⟨⟩, ⟨⟩⟩ ?_)
   refine WP.ixO tysOk rfl ⟨⟩ rfl rfl rfl rfl rfl rfl rfl rfl hf50 hj76 ?_
   intro b121 hA121
   obtain ⟨xs49, hx45, h⟩ := lt_some h
   refine WP.stoO (f := (fI .i64)) 0 (w64 ((gt xs46 ((gt r2 s6).src)) + ((gt r2 s6).low))) tysOk rfl rfl rfl rfl rfl rfl rfl rfl rfl (.tail (.tail .head)) hA121 hf50 hj76 rfl rfl rfl hx45 ?_
   intro hf53
   refine WP.sx tysOk rfl ⟨⟨⟩, ⟨⟩⟩ ?_
   refine WP.lx tysOk rfl ⟨⟩ (CellAt.blk (.tail (.tail .head)) rfl) ?_
   refine WP.sx tysOk rfl ⟨⟨⟩, ⟨⟩⟩ ?_
   refine WP.lx tysOk rfl ⟨⟩ (CellAt.blk (.tail .head) rfl) ?_
   obtain ⟨hj77, h⟩ := ck_some h
   refine WP.ixO tysOk rfl ⟨⟩ rfl rfl rfl rfl rfl rfl rfl rfl hf53 hj77 ?_
   intro b122 hA122
   refine WP.lx tysOk rfl ⟨⟩ (OwS.at0 .head hA122 hj77 rfl) ?_
   iterate 2 (refine WP.sx tysOk rfl ⟨⟨⟩, ⟨⟩⟩ ?_)
   refine WP.ixO tysOk rfl ⟨⟩ rfl rfl rfl rfl rfl rfl rfl rfl hf53 hj77 ?_
   intro b123 hA123
   obtain ⟨xs50, hx46, h⟩ := lt_some h
   refine WP.stoO (f := (fI .i64)) 0 (w64 ((gt xs49 ((gt r2 s6).dst)) - ((gt r2 s6).low))) tysOk rfl rfl rfl rfl rfl rfl rfl rfl rfl .head hA123 hf53 hj77 rfl rfl rfl hx46 ?_
   intro hf54
   iterate 3 (refine WP.sx tysOk rfl ⟨⟨⟩, ⟨⟩⟩ ?_)
   refine WP.stop rfl (n4, w64 (s6 + 1), xs50, A8, m4, c8) ⟨⟨h, hf54⟩, Nat.lt_succ_self _⟩ ?_ ?_
   ·repeat first | exact ⟨⟩ | refine ⟨rfl, ?_⟩
   exact (.cons (.tail (.tail .head)) (.cons .head (.cons (.tail .head) (.cons (.tail .head) (.cons (.tail .head) .nil)))))
  rw [if_neg hh30] at h
  iterate 4 (refine WP.sx tysOk rfl ⟨⟨⟩, ⟨⟩⟩ ?_)
  by_cases hh32 : 1 < (i1.length : Int)
  ·rw [if_pos hh32] at h
   refine WP.yes rfl rfl (decide_eq_true hh32) ?_
   iterate 4 (refine WP.sx tysOk rfl ⟨⟨⟩, ⟨⟩⟩ ?_; refine WP.yes rfl rfl rfl ?_)
   obtain ⟨hj78, h⟩ := ck_some h
   refine WP.ixA tysOk rfl ⟨⟩ rfl rfl rfl rfl rfl rfl rfl rfl hj78 (hs2.ex hj78) ?_
   intro b124 b124v hA124
   refine WP.yes rfl rfl rfl ?_
   refine WP.lx tysOk rfl ⟨⟩ (hs2.at0 hA124 (Held.mem (List.Mem.tail _ (List.Mem.tail _ (List.Mem.tail _ (List.Mem.tail _ (List.Mem.head _)))))) hj78 rfl) ?_
   refine WP.yes rfl rfl rfl ?_
   refine WP.sx tysOk rfl ⟨⟨⟩, (by decide)⟩ ?_
   refine WP.yes rfl rfl rfl ?_
   iterate 2 (refine WP.sx tysOk rfl ⟨⟨⟩, ⟨⟩⟩ ?_)
   refine WP.cond_d rfl rfl (fun hh33 => ?_) (fun hh33 => ?_)
   ·rw [if_pos hh33] at h
    refine WP.sx tysOk rfl ⟨⟨⟩, ⟨⟩⟩ ?_
    obtain ⟨hj79, h⟩ := ck_some h
    refine WP.ixA tysOk rfl ⟨⟩ rfl rfl rfl rfl rfl rfl rfl rfl hj79 (hs2.ex hj79) ?_
    intro b125 b125v hA125
    refine WP.lx tysOk rfl ⟨⟩ (hs2.at0 hA125 (Held.mem (List.Mem.tail _ (List.Mem.tail _ (List.Mem.tail _ (List.Mem.tail _ (List.Mem.head _)))))) hj79 rfl) ?_
    refine WP.sx tysOk rfl ⟨⟨⟩, (by decide)⟩ ?_
    iterate 3 (refine WP.sx tysOk rfl ⟨⟨⟩, ⟨⟩⟩ ?_)
    refine WP.lx tysOk rfl ⟨⟩ (CellAt.blk .head rfl) ?_
    obtain ⟨hj80, h⟩ := ck_some h
    refine WP.ixO tysOk rfl ⟨⟩ rfl rfl rfl rfl rfl rfl rfl rfl hf50 hj80 ?_
    intro b126 hA126
    refine WP.lx tysOk rfl ⟨⟩ (OwS.at0 (.tail .head) hA126 hj80 rfl) ?_
    iterate 2 (refine WP.sx tysOk rfl ⟨⟨⟩, ⟨⟩⟩ ?_)
    refine WP.ixO tysOk rfl ⟨⟩ rfl rfl rfl rfl rfl rfl rfl rfl hf50 hj80 ?_
    intro b127 hA127
    obtain ⟨xs51, hx47, h⟩ := lt_some h
    refine WP.stoO (f := (fI .i64)) 0 (w64 ((gt xs46 0) + (w64 ((gt i1 1).tmod 3)))) tysOk rfl rfl rfl rfl rfl rfl rfl rfl rfl (.tail .head) hA127 hf50 hj80 rfl rfl rfl hx47 ?_
    intro hf55
    refine WP.sx tysOk rfl ⟨⟨⟩, ⟨⟩⟩ ?_
    refine WP.lx tysOk rfl ⟨⟩ (CellAt.blk (.tail .head) rfl) ?_
    iterate 2 (refine WP.sx tysOk rfl ⟨⟨⟩, ⟨⟩⟩ ?_)
    obtain ⟨hj81, h⟩ := ck_some h
    refine WP.ixO tysOk rfl ⟨⟩ rfl rfl rfl rfl rfl rfl rfl rfl hf55 hj81 ?_
    intro b128 hA128
    refine WP.lx tysOk rfl ⟨⟩ (OwS.at0 .head hA128 hj81 rfl) ?_
    iterate 2 (refine WP.sx tysOk rfl ⟨⟨⟩, ⟨⟩⟩ ?_)
    refine WP.ixO tysOk rfl ⟨⟩ rfl rfl rfl rfl rfl rfl rfl rfl hf55 hj81 ?_
    intro b129 hA129
    obtain ⟨xs52, hx48, h⟩ := lt_some h
    refine WP.stoO (f := (fI .i64)) 0 (w64 ((gt xs51 (w64 (1 - 1))) - (w64 ((gt i1 1).tmod 3)))) tysOk rfl rfl rfl rfl rfl rfl rfl rfl rfl .head hA129 hf55 hj81 rfl rfl rfl hx48 ?_
    intro hf56
    refine WP.mx_ tysOk rfl ⟨⟩ (SegAt.blk' (.tail .head) rfl) ?_
    refine WP.sto' tysOk [.slice A8 m4 c8, .slice A6 n3 c6] rfl rfl rfl rfl rfl rfl rfl rfl rfl (.tail (.tail (.tail .head))) rfl rfl ?_
    cases h
    refine WP.retR tysOk rfl rfl ⟨_, _, _, _, rfl, ⟨_, rfl, .inr ⟨rfl, _, rfl, rfl, (SegAt.blk' (z := 2) .head rfl).1⟩⟩, rfl, rfl⟩ (fun w1 hw1 => ⟨_, _, rfl, ⟨A8, m4, c8, A6, n3, c6, rfl, hf56, hf30, rfl⟩, Ret.of_KH hw1 (.cons (.tail .head) (.cons (.tail (.tail .head)) (.cons (.tail (.tail .head)) .nil)))⟩)
   rw [if_neg hh33] at h
   refine WP.mx_ tysOk rfl ⟨⟩ (SegAt.blk' .head rfl) ?_
   refine WP.sto' tysOk [.slice A8 m4 c8, .slice A6 n3 c6] rfl rfl rfl rfl rfl rfl rfl rfl rfl (.tail (.tail (.tail .head))) rfl rfl ?_
   cases h
   refine WP.retR tysOk rfl rfl ⟨_, _, _, _, rfl, ⟨_, rfl, .inr ⟨rfl, _, rfl, rfl, (SegAt.blk' (z := 2) .head rfl).1⟩⟩, rfl, rfl⟩ (fun w1 hw1 => ⟨_, _, rfl, ⟨A8, m4, c8, A6, n3, c6, rfl, hf50, hf30, rfl⟩, Ret.of_KH hw1 (.cons (.tail (.tail .head)) (.cons (.tail (.tail .head)) (.cons (.tail (.tail .head)) .nil)))⟩)
  rw [if_neg hh32] at h
  refine WP.no rfl rfl (decide_eq_false hh32) rfl rfl ?_
  iterate 7 (refine WP.no rfl rfl rfl rfl rfl ?_)
  refine WP.sx tysOk rfl ⟨⟨⟩, ⟨⟩⟩ ?_
  refine WP.condF rfl rfl ?_
  refine WP.mx_ tysOk rfl ⟨⟩ (SegAt.blk' .head rfl) ?_
  refine WP.sto' tysOk [.slice A8 m4 c8, .slice A6 n3 c6] rfl rfl rfl rfl rfl rfl rfl rfl rfl (.tail (.tail (.tail .head))) rfl rfl ?_
  cases h
  refine WP.retR tysOk rfl rfl ⟨_, _, _, _, rfl, ⟨_, rfl, .inr ⟨rfl, _, rfl, rfl, (SegAt.blk' (z := 2) .head rfl).1⟩⟩, rfl, rfl⟩ (fun w1 hw1 => ⟨_, _, rfl, ⟨A8, m4, c8, A6, n3, c6, rfl, hf50, hf30, rfl⟩, Ret.of_KH hw1 (.cons (.tail (.tail .head)) (.cons (.tail (.tail .head)) (.cons (.tail (.tail .head)) .nil)))⟩)

set_option maxRecDepth 20000 in
set_option maxHeartbeats 8000000 in
theorem law18_TwoDoes_w {w : World} {v0 : Value} {v1 : Value} {v2 : Value} {i1 : Inst} {n1 : Int} {c3 : List Int} {d1 : List Int} {k1 : Int} {r : Bool} (h : law18_TwoDoes i1 n1 c3 d1 k1 = some r) (p1 : InsZ (PH.of w) v0 i1) (p2 : SlF (fI .u8) (PH.of w) v1 c3) (p3 : SlF (fI .u8) (PH.of w) v2 d1) :
    Calls Tryz.prog 3 #[v0, iv n1, v1, v2, .int .u8 (k1)] w fun e w' => e = .returned (.bool (r)) ∧ Below w.heap.size w w' := by
  obtain ⟨A1, c1, A2, c2, rfl, hs1, hs2⟩ := p1
  obtain ⟨A3, c4, rfl, hs3⟩ := p2
  obtain ⟨A4, c5, rfl, hs4⟩ := p3
  unfold law18_TwoDoes at h
  refine enter_ Tryz.func3 rfl Tryz.ntmps3 rfl ?_
  refine WP.box rfl rfl rfl rfl rfl rfl ?_
  intro g1
  refine WP.sx tysOk rfl ⟨⟨⟩, ⟨⟩⟩ ?_
  refine WP.mx_ tysOk rfl ⟨⟩ (SegAt.blk' .head rfl) ?_
  obtain ⟨r1, hg1, h⟩ := bind_some h
  refine WP.callV rfl rfl rfl rfl rfl rfl rfl (by kernel_rfl) (fun w1 hw1 => (law03_Size_w hg1 (InsZ.mk_ ((hs1.le' ((Held.mem (List.Mem.tail _ (List.Mem.head _))) _ _ hw1)).of) ((hs2.le' ((Held.mem (List.Mem.tail _ (List.Mem.head _))) _ _ hw1)).of)) :)) ⟨⟩ ?_
  iterate 2 (refine WP.sx tysOk rfl ⟨⟨⟩, ⟨⟩⟩ ?_)
  by_cases hh1 : 120 < r1
  ·rw [if_pos hh1] at h
   refine WP.no rfl rfl (decide_eq_true hh1) rfl rfl ?_
   refine WP.no rfl rfl rfl rfl rfl ?_
   refine WP.sx tysOk rfl ⟨⟨⟩, ⟨⟩⟩ ?_
   refine WP.condT rfl rfl ?_
   obtain ⟨r2, hg2, h⟩ := bind_some h
   refine WP.callV rfl rfl rfl rfl rfl rfl rfl (by kernel_rfl) (fun w1 hw1 => (law18_known_w hg2  :)) ⟨⟩ ?_
   refine WP.sx tysOk rfl ⟨⟨⟩, ⟨⟩⟩ ?_
   cases h
   refine WP.retR tysOk rfl rfl ⟨_, _, rfl, rfl, rfl⟩ (fun w1 hw1 => ⟨rfl, Ret.below_ hw1 (.cons (.tail .head) .nil)⟩)
  rw [if_neg hh1] at h
  refine WP.yes rfl rfl (decide_eq_false hh1) ?_
  obtain ⟨r3, hg3, h⟩ := bind_some h
  refine WP.callV rfl rfl rfl rfl rfl rfl rfl (by kernel_rfl) (fun w1 hw1 => (law18_known_w hg3  :)) ⟨⟩ ?_
  refine WP.yes rfl rfl rfl ?_
  iterate 2 (refine WP.sx tysOk rfl ⟨⟨⟩, ⟨⟩⟩ ?_)
  refine WP.cond_n rfl rfl (fun hh2 => ?_) (fun hh2 => ?_)
  ·rw [if_neg (bneg hh2)] at h
   obtain ⟨r4, hg4, h⟩ := bind_some h
   refine WP.callV rfl rfl rfl rfl rfl rfl rfl (by kernel_rfl) (fun w1 hw1 => (law18_known_w hg4  :)) ⟨⟩ ?_
   refine WP.sx tysOk rfl ⟨⟨⟩, ⟨⟩⟩ ?_
   cases h
   refine WP.retR tysOk rfl rfl ⟨_, _, rfl, rfl, rfl⟩ (fun w1 hw1 => ⟨rfl, Ret.below_ hw1 (.cons (.tail .head) .nil)⟩)
  rw [if_pos hh2] at h
  refine WP.mx_ tysOk rfl ⟨⟩ (SegAt.blk' .head rfl) ?_
  refine WP.sx tysOk rfl ⟨⟨⟩, ⟨⟩⟩ ?_
  obtain ⟨r5, hg5, h⟩ := bind_some h
  refine WP.callV rfl rfl rfl rfl rfl rfl rfl (by kernel_rfl) (fun w1 hw1 => (law18_does_w hg5 (InsZ.mk_ ((hs1.le' ((Held.mem (List.Mem.tail _ (List.Mem.head _))) _ _ hw1)).of) ((hs2.le' ((Held.mem (List.Mem.tail _ (List.Mem.head _))) _ _ hw1)).of)) :)) ⟨⟩ ?_
  refine WP.sx tysOk rfl ⟨⟨⟩, ⟨⟩⟩ ?_
  by_cases hh3 : r5 = true
  ·rw [if_pos hh3] at h
   refine WP.yes rfl rfl hh3 ?_
   iterate 2 (refine WP.sx tysOk rfl ⟨⟨⟩, ⟨⟩⟩ ?_; refine WP.yes rfl rfl rfl ?_)
   obtain ⟨r6, hg6, h⟩ := bind_some h
   refine WP.callS (law18_Sparse_S r6) rfl rfl rfl rfl rfl rfl rfl (by kernel_rfl) (fun w1 hw1 => (law18_Sparse_w hg6 (hs3.le' ((Held.mem (List.Mem.tail _ (List.Mem.head _))) _ _ hw1)).of (hs4.le' ((Held.mem (List.Mem.tail _ (List.Mem.head _))) _ _ hw1)).of :)) ?_
   rintro _ _ ⟨A5, n2, c6, A6, n3, c7, rfl, hf1, hf2, rfl⟩
   refine WP.yes rfl rfl rfl ?_
   refine WP.sx tysOk rfl ⟨⟨⟩, ⟨⟩⟩ ?_
   refine WP.yes rfl rfl rfl ?_
   refine WP.sx tysOk rfl ⟨⟨⟩, (by decide)⟩ ?_
   refine WP.yes rfl rfl rfl ?_
   refine WP.sx tysOk rfl ⟨⟨⟩, ⟨⟩⟩ ?_
   refine WP.yes rfl rfl rfl ?_
   obtain ⟨r7, hg7, h⟩ := bind_some h
   refine WP.callV rfl rfl rfl rfl rfl rfl rfl (by kernel_rfl) (fun w1 hw1 => (law18_does_w hg7 (InsZ.mk_ (hw1.ow .head hf1) (hw1.ow (.tail .head) hf2)) :)) ⟨⟩ ?_
   iterate 2 (refine WP.sx tysOk rfl ⟨⟨⟩, ⟨⟩⟩ ?_)
   by_cases hh4 : r7 = true
   ·rw [if_pos hh4] at h
    refine WP.yes rfl rfl hh4 ?_
    iterate 2 (refine WP.sx tysOk rfl ⟨⟨⟩, ⟨⟩⟩ ?_; refine WP.yes rfl rfl rfl ?_)
    obtain ⟨r8, hg8, h⟩ := bind_some h
    refine WP.callS (law03_Inst_S r8) rfl rfl rfl rfl rfl rfl rfl (by kernel_rfl) (fun w1 hw1 => (law03_Inst_w hg8 (hs3.le' ((Held.mem (List.Mem.tail _ (List.Mem.tail _ (List.Mem.tail _ (List.Mem.head _))))) _ _ hw1)).of (hs4.le' ((Held.mem (List.Mem.tail _ (List.Mem.tail _ (List.Mem.tail _ (List.Mem.head _))))) _ _ hw1)).of :)) ?_
    rintro _ _ ⟨A7, n4, c8, A8, n5, c9, rfl, hf3, hf4, rfl⟩
    refine WP.yes rfl rfl rfl ?_
    refine WP.sx tysOk rfl ⟨⟨⟩, ⟨⟩⟩ ?_
    refine WP.yes rfl rfl rfl ?_
    refine WP.sx tysOk rfl ⟨⟨⟩, (by decide)⟩ ?_
    refine WP.yes rfl rfl rfl ?_
    refine WP.sx tysOk rfl ⟨⟨⟩, ⟨⟩⟩ ?_
    refine WP.yes rfl rfl rfl ?_
    obtain ⟨r9, hg9, h⟩ := bind_some h
    refine WP.callV rfl rfl rfl rfl rfl rfl rfl (by kernel_rfl) (fun w1 hw1 => (law18_does_w hg9 (InsZ.mk_ (hw1.ow .head hf3) (hw1.ow (.tail .head) hf4)) :)) ⟨⟩ ?_
    iterate 2 (refine WP.sx tysOk rfl ⟨⟨⟩, ⟨⟩⟩ ?_)
    by_cases hh5 : r9 = true
    ·rw [if_pos hh5] at h
     refine WP.yes rfl rfl hh5 ?_
     refine WP.sx tysOk rfl ⟨⟨⟩, ⟨⟩⟩ ?_
     refine WP.yes rfl rfl rfl ?_
     obtain ⟨r10, hg10, h⟩ := bind_some h
     refine WP.callS (law07_Thin_S r10) rfl rfl rfl rfl rfl rfl rfl (by kernel_rfl) (fun w1 hw1 => (law07_Thin_w hg10 (hs3.le' ((Held.mem (List.Mem.tail _ (List.Mem.tail _ (List.Mem.tail _ (List.Mem.tail _ (List.Mem.tail _ (List.Mem.head _))))))) _ _ hw1)).of :)) ?_
     rintro _ _ ⟨A9, n6, c10, A10, n7, c11, rfl, hf5, hf6, rfl⟩
     refine WP.yes rfl rfl rfl ?_
     refine WP.sx tysOk rfl ⟨⟨⟩, ⟨⟩⟩ ?_
     refine WP.yes rfl rfl rfl ?_
     refine WP.sx tysOk rfl ⟨⟨⟩, (by decide)⟩ ?_
     refine WP.yes rfl rfl rfl ?_
     refine WP.sx tysOk rfl ⟨⟨⟩, ⟨⟩⟩ ?_
     refine WP.yes rfl rfl rfl ?_
     obtain ⟨r11, hg11, h⟩ := bind_some h
     refine WP.callV rfl rfl rfl rfl rfl rfl rfl (by kernel_rfl) (fun w1 hw1 => (law18_does_w hg11 (InsZ.mk_ (hw1.ow .head hf5) (hw1.ow (.tail .head) hf6)) :)) ⟨⟩ ?_
     iterate 2 (refine WP.sx tysOk rfl ⟨⟨⟩, ⟨⟩⟩ ?_)
     cases h
     refine WP.retR tysOk rfl rfl ⟨_, _, rfl, rfl, rfl⟩ (fun w1 hw1 => ⟨rfl, Ret.below_ hw1 (.cons (.tail (.tail (.tail (.tail (.tail (.tail (.tail .head))))))) .nil)⟩)
    rw [if_neg hh5] at h
    refine WP.no rfl rfl (bfalse hh5) rfl rfl ?_
    iterate 5 (refine WP.no rfl rfl rfl rfl rfl ?_)
    iterate 2 (refine WP.sx tysOk rfl ⟨⟨⟩, ⟨⟩⟩ ?_)
    cases h
    refine WP.retR tysOk rfl rfl ⟨_, _, rfl, rfl, rfl⟩ (fun w1 hw1 => ⟨rfl, Ret.below_ hw1 (.cons (.tail (.tail (.tail (.tail (.tail .head))))) .nil)⟩)
   rw [if_neg hh4] at h
   refine WP.no rfl rfl (bfalse hh4) rfl rfl ?_
   iterate 6 (refine WP.no rfl rfl rfl rfl rfl ?_)
   iterate 2 (refine WP.sx tysOk rfl ⟨⟨⟩, ⟨⟩⟩ ?_)
   iterate 6 (refine WP.no rfl rfl rfl rfl rfl ?_)
   iterate 2 (refine WP.sx tysOk rfl ⟨⟨⟩, ⟨⟩⟩ ?_)
   cases h
   refine WP.retR tysOk rfl rfl ⟨_, _, rfl, rfl, rfl⟩ (fun w1 hw1 => ⟨rfl, Ret.below_ hw1 (.cons (.tail (.tail (.tail .head))) .nil)⟩)
  rw [if_neg hh3] at h
  refine WP.no rfl rfl (bfalse hh3) rfl rfl ?_
  iterate 6 (refine WP.no rfl rfl rfl rfl rfl ?_)
  iterate 2 (refine WP.sx tysOk rfl ⟨⟨⟩, ⟨⟩⟩ ?_)
  iterate 7 (refine WP.no rfl rfl rfl rfl rfl ?_)
  iterate 2 (refine WP.sx tysOk rfl ⟨⟨⟩, ⟨⟩⟩ ?_)
  iterate 6 (refine WP.no rfl rfl rfl rfl rfl ?_)
  iterate 2 (refine WP.sx tysOk rfl ⟨⟨⟩, ⟨⟩⟩ ?_)
  cases h
  refine WP.retR tysOk rfl rfl ⟨_, _, rfl, rfl, rfl⟩ (fun w1 hw1 => ⟨rfl, Ret.below_ hw1 (.cons (.tail .head) .nil)⟩)
end Go.Proofs.YtpnohbdfgmjdbaaGreat
