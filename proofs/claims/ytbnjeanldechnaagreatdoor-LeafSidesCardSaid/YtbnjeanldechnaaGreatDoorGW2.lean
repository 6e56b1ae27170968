/- The walks: the code computes that. -/
import Derived.Test.YtbnjeanldechnaaGreatDoorGW1
import Derived.Test.YtbnjeanldechnaaGreatDoorTys
import Derived.Test.YtbnjeanldechnaaGreatDoorEngG
import Derived.KernelRfl
namespace Go.Proofs.YtbnjeanldechnaaGreatDoor
open Go.RowKit Go.Qe
abbrev leaf_leaf_S (Z : PH) (r : Step × (Option Int)) : Value → Heap → Prop := fun v L => ∃ (Zn : PH) (A1 : Option Addr) (n1 c1 : Nat) (A2 : Option Addr) (n2 c2 : Nat) (A3 : Option Addr) (n3 c3 : Nat) (A4 : Option Addr) (n4 c4 : Nat), v = .tuple #[.agg #[.slice A1 n1 c1, .slice A2 n2 c2, iv r.1.rcd.pass, .slice A3 n3 c3, .slice A4 n4 c4, iv r.1.off.hi, .int .u64 (r.1.off.lo), .bool (r.1.did)], errV r.2] ∧ n1 = r.1.inst.supply.length ∧ n2 = r.1.inst.arcs.length ∧ n3 = r.1.rcd.was.supply.length ∧ n4 = r.1.rcd.was.arcs.length ∧ FzS (fI .i64) (Z.or Zn) A1 c1 r.1.inst.supply ∧ FzS fA (Z.or Zn) A2 c2 r.1.inst.arcs ∧ FzS (fI .i64) (Z.or Zn) A3 c3 r.1.rcd.was.supply ∧ FzS fA (Z.or Zn) A4 c4 r.1.rcd.was.arcs ∧ L = [.fz Zn]
set_option maxRecDepth 20000 in
set_option maxHeartbeats 8000000 in
theorem leaf_leaf_w {w : World} {Z : PH} (hZ : Z.le (PH.of w)) {v0 : Value} {d1 : Inst} {r : Step × (Option Int)} (h : leaf_leaf d1 = some r) (p1 : InsZ Z v0 d1) :
    Calls Tryz.prog 39 #[v0] w fun e w' => ∃ v L, e = .returned v ∧ leaf_leaf_S Z r v L ∧ Ret w w' L := by
  obtain ⟨A1, c1, A2, c2, rfl, hs1, hs2⟩ := p1
  unfold leaf_leaf at h
  refine enter_ Tryz.func39 rfl Tryz.ntmps39 rfl ?_
  refine WP.box rfl rfl rfl rfl rfl rfl ?_
  intro g1
  refine WP.al tysOk rfl rfl rfl rfl rfl rfl ?_
  intro g2
  refine WP.sx tysOk rfl ⟨⟨⟩, ⟨⟩⟩ ?_
  refine WP.mx_ tysOk rfl ⟨⟩ (SegAt.blk' (.tail .head) rfl) ?_
  obtain ⟨r1, hg1, h⟩ := bind_some h
  refine WP.callS (adj_New_S r1) rfl rfl rfl rfl rfl rfl rfl (by kernel_rfl) (fun w1 hw1 => (adj_New_w hg1 (InsZ.mk_ ((hs1.le' ((Held.sub (Held.mem (List.Mem.tail _ (List.Mem.tail _ (List.Mem.head _)))) hZ) _ _ hw1)).of) ((hs2.le' ((Held.sub (Held.mem (List.Mem.tail _ (List.Mem.tail _ (List.Mem.head _)))) hZ) _ _ hw1)).of)) :)) ?_
  rintro vg1 _ ⟨Zn1, hgr1, rfl⟩
  obtain ⟨gg1, rfl⟩ := hgr1.ptr'
  refine WP.al tysOk rfl rfl rfl rfl rfl rfl ?_
  intro g3
  refine WP.sto' tysOk [.pointer (some ⟨gg1, 0, none⟩)] rfl rfl rfl rfl rfl rfl rfl rfl rfl .head rfl rfl ?_
  refine WP.sx tysOk rfl ⟨⟨⟩, ⟨⟩⟩ ?_
  refine WP.lx tysOk rfl ⟨⟩ (CellAt.blk (.tail (.tail (.tail .head))) rfl) ?_
  iterate 2 (refine WP.sx tysOk rfl ⟨⟨⟩, ⟨⟩⟩ ?_)
  obtain ⟨r2, hg2, h⟩ := bind_some h
  refine WP.callV rfl rfl rfl rfl rfl rfl rfl (by kernel_rfl) (fun w1 hw1 => (leaf_first_leaf_tip_1_w hg2 (hgr1.le ((Held.mem (List.Mem.tail _ (List.Mem.head _))) _ _ hw1)) (KH.zcb hw1 .head rfl) (hs1.le' ((Held.sub (Held.mem (List.Mem.tail _ (List.Mem.tail _ (List.Mem.tail _ (List.Mem.tail _ (List.Mem.head _)))))) hZ) _ _ hw1)) (hs2.le' ((Held.sub (Held.mem (List.Mem.tail _ (List.Mem.tail _ (List.Mem.tail _ (List.Mem.tail _ (List.Mem.head _)))))) hZ) _ _ hw1)) (KH.zcb hw1 (.tail (.tail (.tail .head))) rfl) (KH.zcb hw1 (.tail (.tail (.tail .head))) rfl) :)) ⟨⟩ ?_
  iterate 4 (refine WP.sx tysOk rfl ⟨⟨⟩, ⟨⟩⟩ ?_)
  refine WP.al tysOk rfl rfl rfl rfl rfl rfl ?_
  intro g4
  refine WP.sx tysOk rfl ⟨⟨⟩, ⟨⟩⟩ ?_
  refine WP.sto' tysOk [iv r2.2.1.a, iv r2.2.1.n] rfl rfl rfl rfl rfl rfl rfl rfl rfl .head rfl rfl ?_
  iterate 3 (refine WP.sx tysOk rfl ⟨⟨⟩, ⟨⟩⟩ ?_)
  refine WP.cond_n rfl rfl (fun hh1 => ?_) (fun hh1 => ?_)
  ·rw [if_neg (bneg hh1)] at h
   refine WP.mx_ tysOk rfl ⟨⟩ (SegAt.blk' (.tail (.tail (.tail (.tail .head)))) rfl) ?_
   obtain ⟨r3, hg3, h⟩ := bind_some h
   refine WP.callS (inst_Copy_S r3) rfl rfl rfl rfl rfl rfl rfl (by kernel_rfl) (fun w1 hw1 => (inst_Copy_w hg3 (InsZ.mk_ ((hs1.le' ((Held.sub (Held.mem (List.Mem.tail _ (List.Mem.tail _ (List.Mem.tail _ (List.Mem.tail _ (List.Mem.tail _ (List.Mem.head _))))))) hZ) _ _ hw1)).of) ((hs2.le' ((Held.sub (Held.mem (List.Mem.tail _ (List.Mem.tail _ (List.Mem.tail _ (List.Mem.tail _ (List.Mem.tail _ (List.Mem.head _))))))) hZ) _ _ hw1)).of)) :)) ?_
   rintro _ _ ⟨A3, n1, c3, A4, n2, c4, rfl, hf1, hf2, rfl⟩
   refine WP.bld (cs := [.slice A3 n1 c3, .slice A4 n2 c4, iv 0, sn, sn, iv 0, .int .u64 (0), .bool (false)]) tysOk rfl ⟨⟩ rfl rfl rfl rfl rfl rfl rfl ?_
   refine WP.sto' tysOk [.slice A3 n1 c3, .slice A4 n2 c4, iv 0, sn, sn, iv 0, .int .u64 (0), .bool (false)] rfl rfl rfl rfl rfl rfl rfl rfl rfl (.tail (.tail (.tail (.tail (.tail .head))))) rfl rfl ?_
   refine WP.sx tysOk rfl ⟨⟨⟩, ⟨⟩⟩ ?_
   cases h
   refine WP.retR tysOk rfl rfl ⟨_, _, _, _, rfl, ⟨_, rfl, .inr ⟨rfl, _, rfl, rfl, (SegAt.blk' (z := 8) .head rfl).1⟩⟩, ⟨_, _, rfl, rfl, rfl⟩, rfl⟩ (fun w1 hw1 => ⟨_, _, rfl, ⟨PH.new _ w1, A3, n1, c3, A4, n2, c4, none, 0, 0, none, 0, 0, rfl, hf1.len.symm, hf2.len.symm, rfl, rfl, hw1.owFz (.cons (.tail .head) (.cons (.tail (.tail (.tail (.tail (.tail (.tail .head)))))) .nil)) hZ hf1, hw1.owFz (.cons (.tail (.tail .head)) (.cons (.tail (.tail (.tail (.tail (.tail (.tail .head)))))) .nil)) hZ hf2, FzS.nil_, FzS.nil_, rfl⟩, Ret.freeze hw1 (.cons (.tail (.tail (.tail (.tail (.tail (.tail (.tail .head))))))) .nil)⟩)
  rw [if_pos hh1] at h
  refine WP.mx_ tysOk rfl ⟨⟩ (SegAt.blk' (.tail (.tail (.tail (.tail .head)))) rfl) ?_
  obtain ⟨r4, hg4, h⟩ := bind_some h
  refine WP.callS (inst_Copy_S r4) rfl rfl rfl rfl rfl rfl rfl (by kernel_rfl) (fun w1 hw1 => (inst_Copy_w hg4 (InsZ.mk_ ((hs1.le' ((Held.sub (Held.mem (List.Mem.tail _ (List.Mem.tail _ (List.Mem.tail _ (List.Mem.tail _ (List.Mem.tail _ (List.Mem.head _))))))) hZ) _ _ hw1)).of) ((hs2.le' ((Held.sub (Held.mem (List.Mem.tail _ (List.Mem.tail _ (List.Mem.tail _ (List.Mem.tail _ (List.Mem.tail _ (List.Mem.head _))))))) hZ) _ _ hw1)).of)) :)) ?_
  rintro _ _ ⟨A5, n3, c5, A6, n4, c6, rfl, hf3, hf4, rfl⟩
  refine WP.al tysOk rfl rfl rfl rfl rfl rfl ?_
  intro g5
  refine WP.sto' tysOk [.slice A5 n3 c5, .slice A6 n4 c6] rfl rfl rfl rfl rfl rfl rfl rfl rfl .head rfl rfl ?_
  refine WP.sx tysOk rfl ⟨⟨⟩, ⟨⟩⟩ ?_
  refine WP.lx tysOk rfl ⟨⟩ (CellAt.blk (.tail (.tail (.tail (.tail (.tail (.tail (.tail .head))))))) rfl) ?_
  refine WP.sx tysOk rfl ⟨⟨⟩, ⟨⟩⟩ ?_
  refine WP.lx tysOk rfl ⟨⟩ (CellAt.blk (.tail (.tail (.tail .head))) rfl) ?_
  obtain ⟨hj1, h⟩ := ck_some h
  refine WP.ixA tysOk rfl ⟨⟩ rfl rfl rfl rfl rfl rfl rfl rfl hj1 (hs2.ex hj1) ?_
  intro b1 b1v hA1
  refine WP.mx_ tysOk rfl ⟨⟩ (hs2.seg hA1 (Held.sub (Held.mem (List.Mem.tail _ (List.Mem.tail _ (List.Mem.tail _ (List.Mem.tail _ (List.Mem.tail _ (List.Mem.tail _ (List.Mem.tail _ (List.Mem.tail _ (List.Mem.head _)))))))))) hZ) hj1) ?_
  refine WP.al tysOk rfl rfl rfl rfl rfl rfl ?_
  intro g6
  refine WP.sto' tysOk [iv ((gt d1.arcs r2.2.1.a).src), iv ((gt d1.arcs r2.2.1.a).dst), iv ((gt d1.arcs r2.2.1.a).low), iv ((gt d1.arcs r2.2.1.a).cap), iv ((gt d1.arcs r2.2.1.a).cost)] rfl rfl rfl rfl rfl rfl rfl rfl rfl .head rfl rfl ?_
  obtain ⟨hj2, h⟩ := ck_some h
  refine WP.drawL 10 [] rfl (by kernel_rfl) (by kernel_rfl) (by kernel_rfl) ?_
  refine WP.sx tysOk rfl ⟨⟨⟨rfl, rfl⟩, rfl⟩, ⟨⟩⟩ ?_
  refine WP.lx tysOk rfl ⟨⟨rfl, rfl⟩, rfl⟩ (CellAt.blk (.tail .head) rfl) ?_
  refine WP.sx tysOk rfl ⟨⟨⟨rfl, rfl⟩, rfl⟩, ⟨⟩⟩ ?_
  refine WP.lx tysOk rfl ⟨⟨rfl, rfl⟩, rfl⟩ (CellAt.blk .head rfl) ?_
  refine WP.ixO tysOk rfl ⟨⟨rfl, rfl⟩, rfl⟩ rfl rfl rfl rfl rfl rfl rfl rfl hf3 hj2 ?_
  intro b2 hA2
  refine WP.lx tysOk rfl ⟨⟨rfl, rfl⟩, rfl⟩ (OwS.at0 (.tail (.tail .head)) hA2 hj2 rfl) ?_
  refine WP.sx tysOk rfl ⟨⟨⟨rfl, rfl⟩, rfl⟩, ⟨⟩⟩ ?_
  refine WP.lx tysOk rfl ⟨⟨rfl, rfl⟩, rfl⟩ (CellAt.blk (.tail (.tail (.tail (.tail .head)))) rfl) ?_
  refine WP.sx tysOk rfl ⟨⟨⟨rfl, rfl⟩, rfl⟩, ⟨⟩⟩ ?_
  refine WP.ixO tysOk rfl ⟨⟨rfl, rfl⟩, rfl⟩ rfl rfl rfl rfl rfl rfl rfl rfl hf3 hj2 ?_
  intro b3 hA3
  refine WP.lend rfl ⟨rfl, rfl⟩ ?_
  obtain ⟨xs1, hx1, h⟩ := lt_some h
  refine WP.stoO (f := (fI .i64)) 0 (w64 ((gt r4.supply ((gt d1.arcs r2.2.1.a).src)) - r2.2.1.n)) tysOk rfl rfl rfl rfl rfl rfl rfl rfl rfl (.tail (.tail .head)) hA3 hf3 hj2 rfl rfl rfl hx1 ?_
  intro hf5
  obtain ⟨hj3, h⟩ := ck_some h
  refine WP.drawL 10 [] rfl (by kernel_rfl) (by kernel_rfl) (by kernel_rfl) ?_
  refine WP.sx tysOk rfl ⟨⟨⟨rfl, rfl⟩, rfl⟩, ⟨⟩⟩ ?_
  refine WP.lx tysOk rfl ⟨⟨rfl, rfl⟩, rfl⟩ (CellAt.blk (.tail (.tail .head)) rfl) ?_
  refine WP.sx tysOk rfl ⟨⟨⟨rfl, rfl⟩, rfl⟩, ⟨⟩⟩ ?_
  refine WP.lx tysOk rfl ⟨⟨rfl, rfl⟩, rfl⟩ (CellAt.blk (.tail .head) rfl) ?_
  refine WP.ixO tysOk rfl ⟨⟨rfl, rfl⟩, rfl⟩ rfl rfl rfl rfl rfl rfl rfl rfl hf5 hj3 ?_
  intro b4 hA4
  refine WP.lx tysOk rfl ⟨⟨rfl, rfl⟩, rfl⟩ (OwS.at0 .head hA4 hj3 rfl) ?_
  refine WP.sx tysOk rfl ⟨⟨⟨rfl, rfl⟩, rfl⟩, ⟨⟩⟩ ?_
  refine WP.lx tysOk rfl ⟨⟨rfl, rfl⟩, rfl⟩ (CellAt.blk (.tail (.tail (.tail (.tail .head)))) rfl) ?_
  refine WP.sx tysOk rfl ⟨⟨⟨rfl, rfl⟩, rfl⟩, ⟨⟩⟩ ?_
  refine WP.ixO tysOk rfl ⟨⟨rfl, rfl⟩, rfl⟩ rfl rfl rfl rfl rfl rfl rfl rfl hf5 hj3 ?_
  intro b5 hA5
  refine WP.lend rfl ⟨rfl, rfl⟩ ?_
  obtain ⟨xs2, hx2, h⟩ := lt_some h
  refine WP.stoO (f := (fI .i64)) 0 (w64 ((gt xs1 ((gt d1.arcs r2.2.1.a).dst)) + r2.2.1.n)) tysOk rfl rfl rfl rfl rfl rfl rfl rfl rfl .head hA5 hf5 hj3 rfl rfl rfl hx2 ?_
  intro hf6
  obtain ⟨r_o5_1_1, hg_o5_1_1, h⟩ := bind_some h
  obtain ⟨r_o5_8_1, hg_o5_8_1, h⟩ := bind_some h
  obtain ⟨r_o5_9_1, hg_o5_9_1, h⟩ := bind_some h
  refine WP.join (α := (Option Addr) × Nat × Nat × (Option Addr) × Nat × Nat × PH × PH × PH × PH × PH × (Option Addr) × Nat × (Option Addr) × Nat × (Option Addr) × Nat × (Option Addr) × Nat) (fun x => OwF x.1 x.2.1 r_o5_1_1.supply ∧ OwF x.2.2.2.1 x.2.2.2.2.1 r_o5_1_1.arcs ∧ FzS (fI .i64) x.2.2.2.2.2.2.1 x.1 x.2.2.1 r_o5_1_1.supply ∧ FzS fA x.2.2.2.2.2.2.2.1 x.2.2.2.1 x.2.2.2.2.2.1 r_o5_1_1.arcs ∧ FzS (fI .i64) x.2.2.2.2.2.2.2.2.1 A5 c5 xs2 ∧ FzS fA x.2.2.2.2.2.2.2.2.2.1 A6 c6 r4.arcs ∧ FzS (fI .i64) (PH.or (PH.or (PH.or (PH.or x.2.2.2.2.2.2.1 x.2.2.2.2.2.2.2.1) x.2.2.2.2.2.2.2.2.1) x.2.2.2.2.2.2.2.2.2.1) x.2.2.2.2.2.2.2.2.2.2.1) x.2.2.2.2.2.2.2.2.2.2.2.1 x.2.2.2.2.2.2.2.2.2.2.2.2.1 r_o5_9_1.1.inst.supply ∧ FzS fA (PH.or (PH.or (PH.or (PH.or x.2.2.2.2.2.2.1 x.2.2.2.2.2.2.2.1) x.2.2.2.2.2.2.2.2.1) x.2.2.2.2.2.2.2.2.2.1) x.2.2.2.2.2.2.2.2.2.2.1) x.2.2.2.2.2.2.2.2.2.2.2.2.2.1 x.2.2.2.2.2.2.2.2.2.2.2.2.2.2.1 r_o5_9_1.1.inst.arcs ∧ FzS (fI .i64) (PH.or (PH.or (PH.or (PH.or x.2.2.2.2.2.2.1 x.2.2.2.2.2.2.2.1) x.2.2.2.2.2.2.2.2.1) x.2.2.2.2.2.2.2.2.2.1) x.2.2.2.2.2.2.2.2.2.2.1) x.2.2.2.2.2.2.2.2.2.2.2.2.2.2.2.1 x.2.2.2.2.2.2.2.2.2.2.2.2.2.2.2.2.1 r_o5_9_1.1.rcd.was.supply ∧ FzS fA (PH.or (PH.or (PH.or (PH.or x.2.2.2.2.2.2.1 x.2.2.2.2.2.2.2.1) x.2.2.2.2.2.2.2.2.1) x.2.2.2.2.2.2.2.2.2.1) x.2.2.2.2.2.2.2.2.2.2.1) x.2.2.2.2.2.2.2.2.2.2.2.2.2.2.2.2.2.1 x.2.2.2.2.2.2.2.2.2.2.2.2.2.2.2.2.2.2 r_o5_9_1.1.rcd.was.arcs) (fun x => [(2, pt g2), (3, errV r_o5_9_1.2)]) (fun x => [.blk g2 40 [.slice x.2.2.2.2.2.2.2.2.2.2.2.1 r_o5_9_1.1.inst.supply.length x.2.2.2.2.2.2.2.2.2.2.2.2.1, .slice x.2.2.2.2.2.2.2.2.2.2.2.2.2.1 r_o5_9_1.1.inst.arcs.length x.2.2.2.2.2.2.2.2.2.2.2.2.2.2.1, iv r_o5_9_1.1.rcd.pass, .slice x.2.2.2.2.2.2.2.2.2.2.2.2.2.2.2.1 r_o5_9_1.1.rcd.was.supply.length x.2.2.2.2.2.2.2.2.2.2.2.2.2.2.2.2.1, .slice x.2.2.2.2.2.2.2.2.2.2.2.2.2.2.2.2.2.1 r_o5_9_1.1.rcd.was.arcs.length x.2.2.2.2.2.2.2.2.2.2.2.2.2.2.2.2.2.2, iv r_o5_9_1.1.off.hi, .int .u64 (r_o5_9_1.1.off.lo), .bool (r_o5_9_1.1.did)], .fz x.2.2.2.2.2.2.2.2.2.2.1, .fz x.2.2.2.2.2.2.2.2.2.1, .fz x.2.2.2.2.2.2.2.2.1, .fz x.2.2.2.2.2.2.2.1, .fz x.2.2.2.2.2.2.1, .blk g6 31 [iv ((gt d1.arcs r2.2.1.a).src), iv ((gt d1.arcs r2.2.1.a).dst), iv ((gt d1.arcs r2.2.1.a).low), iv ((gt d1.arcs r2.2.1.a).cap), iv ((gt d1.arcs r2.2.1.a).cost)], .blk g5 25 [.slice A5 xs2.length c5, .slice A6 r4.arcs.length c6], .blk g4 70 [iv r2.2.1.a, iv r2.2.1.n], .blk g3 73 [.pointer (some ⟨gg1, 0, none⟩)], .fz Zn1, .blk g1 25 [.slice A1 d1.supply.length c1, .slice A2 d1.arcs.length c2], .fz (PH.of w)]) rfl ?_ ?_
  ·refine WP.drawA rfl (by kernel_rfl) ?_
   refine WP.cutF (α := (Option Addr) × Nat × Nat × (Option Addr) × Nat × Nat) (fun x => OwF x.1 x.2.1 r_o5_1_1.supply ∧ OwF x.2.2.2.1 x.2.2.2.2.1 r_o5_1_1.arcs) #[true, true, true, true, true, true, true, true, false, false, false, false, false, false] 6 (fun x => [(2, pt g2), (3, errV none), (55, .agg #[.slice x.1 x.2.1 x.2.2.1, .slice x.2.2.2.1 x.2.2.2.2.1 x.2.2.2.2.2]), (56, .agg #[.slice A5 n3 c5, .slice A6 n4 c6]), (57, iv r2.1), (59, iv r2.2.1.n), (61, iv ((gt d1.arcs r2.2.1.a).cost))]) (fun x => [Ow (fI .i64) 2 x.1 x.2.1 x.2.2.1 r_o5_1_1.supply, Ow fA 31 x.2.2.2.1 x.2.2.2.2.1 x.2.2.2.2.2 r_o5_1_1.arcs, Ow (fI .i64) 2 A5 n3 c5 xs2, .blk g6 31 [iv ((gt d1.arcs r2.2.1.a).src), iv ((gt d1.arcs r2.2.1.a).dst), iv ((gt d1.arcs r2.2.1.a).low), iv ((gt d1.arcs r2.2.1.a).cap), iv ((gt d1.arcs r2.2.1.a).cost)], .blk g5 25 [.slice A5 n3 c5, .slice A6 n4 c6], Ow fA 31 A6 n4 c6 r4.arcs, .blk g4 70 [iv r2.2.1.a, iv r2.2.1.n], .blk g3 73 [.pointer (some ⟨gg1, 0, none⟩)], .fz Zn1, .blk g2 40 [sn, sn, iv 0, sn, sn, iv 0, .int .u64 (0), .bool (false)], .blk g1 25 [.slice A1 d1.supply.length c1, .slice A2 d1.arcs.length c2], .fz (PH.of w)]) rfl ?_ ?_
   ·rintro ⟨A_o5_1_1, n_o5_1_1, c_o5_1_1, A_o5_1_2, n_o5_1_2, c_o5_1_2⟩ ⟨hf_o5_1_1, hf_o5_1_2⟩
    dsimp only at hf_o5_1_1 hf_o5_1_2 ⊢
    refine WP.any1 8 rfl (by kernel_rfl) rfl ?_
    refine WP.callV rfl rfl rfl rfl rfl rfl rfl (by kernel_rfl) (fun w1 hw1 => (num_Times_w hg_o5_8_1  :)) ⟨⟩ ?_
    refine WP.any1 9 rfl (by kernel_rfl) rfl ?_
    refine WP.freezeO .head hf_o5_1_1 ?_
    intro Zp_o5_9_1 hz_o5_9_1
    have hl_o5_9_1 := hf_o5_1_1.len
    subst hl_o5_9_1
    refine WP.freezeO (.tail .head) hf_o5_1_2 ?_
    intro Zp_o5_9_2 hz_o5_9_2
    have hl_o5_9_2 := hf_o5_1_2.len
    subst hl_o5_9_2
    refine WP.freezeO (.tail (.tail .head)) hf6 ?_
    intro Zp_o5_9_3 hz_o5_9_3
    have hl_o5_9_3 := hf6.len
    subst hl_o5_9_3
    refine WP.freezeO (.tail (.tail (.tail (.tail (.tail .head))))) hf4 ?_
    intro Zp_o5_9_4 hz_o5_9_4
    have hl_o5_9_4 := hf4.len
    subst hl_o5_9_4
    refine WP.callS (leaf_without_S (PH.or (PH.or (PH.or Zp_o5_9_1 Zp_o5_9_2) Zp_o5_9_3) Zp_o5_9_4) r_o5_9_1) rfl rfl rfl rfl rfl rfl rfl (by kernel_rfl) (fun w1 hw1 => (leaf_without_w (Z := (PH.or (PH.or (PH.or Zp_o5_9_1 Zp_o5_9_2) Zp_o5_9_3) Zp_o5_9_4)) ((Held.or (Held.or (Held.or (Held.mem (List.Mem.tail _ (List.Mem.tail _ (List.Mem.tail _ (List.Mem.head _))))) (Held.mem (List.Mem.tail _ (List.Mem.tail _ (List.Mem.head _))))) (Held.mem (List.Mem.tail _ (List.Mem.head _)))) (Held.mem (List.Mem.head _))) _ _ hw1) hg_o5_9_1 (InsZ.mk_ ((hz_o5_9_1.le' (PH.le.trans (PH.le.trans (PH.le.trans PH.le.rfl_ (PH.le_or _ _)) (PH.le_or _ _)) (PH.le_or _ _))).of) ((hz_o5_9_2.le' (PH.le.trans (PH.le.trans (PH.ri_or ((Held.mem (List.Mem.tail _ (List.Mem.tail _ (List.Mem.tail _ (List.Mem.head _))))) _ _ hw1) ((Held.mem (List.Mem.tail _ (List.Mem.tail _ (List.Mem.head _)))) _ _ hw1)) (PH.le_or _ _)) (PH.le_or _ _))).of)) (InsZ.mk_ ((hz_o5_9_3.le' (PH.le.trans (PH.ri_or ((Held.or (Held.mem (List.Mem.tail _ (List.Mem.tail _ (List.Mem.tail _ (List.Mem.head _))))) (Held.mem (List.Mem.tail _ (List.Mem.tail _ (List.Mem.head _))))) _ _ hw1) ((Held.mem (List.Mem.tail _ (List.Mem.head _))) _ _ hw1)) (PH.le_or _ _))).of) ((hz_o5_9_4.le' (PH.ri_or ((Held.or (Held.or (Held.mem (List.Mem.tail _ (List.Mem.tail _ (List.Mem.tail _ (List.Mem.head _))))) (Held.mem (List.Mem.tail _ (List.Mem.tail _ (List.Mem.head _))))) (Held.mem (List.Mem.tail _ (List.Mem.head _)))) _ _ hw1) ((Held.mem (List.Mem.head _)) _ _ hw1))).of)) :)) ?_
    rintro _ _ ⟨Zn_o5_9_1, A_o5_9_1, _, c_o5_9_1, A_o5_9_2, _, c_o5_9_2, A_o5_9_3, _, c_o5_9_3, A_o5_9_4, _, c_o5_9_4, rfl, rfl, rfl, rfl, rfl, hs_o5_9_1, hs_o5_9_2, hs_o5_9_3, hs_o5_9_4, rfl⟩
    refine WP.anyP 10 tysOk putInv_body rfl rfl rfl (by kernel_rfl) (by kernel_rfl) rfl rfl rfl rfl rfl True.intro ?_
    refine WP.anyP 11 tysOk putInv_body rfl rfl rfl (by kernel_rfl) (by kernel_rfl) rfl rfl rfl rfl rfl True.intro ?_
    refine WP.any1 12 rfl (by kernel_rfl) rfl ?_
    refine WP.sto' tysOk [.slice A_o5_9_1 r_o5_9_1.1.inst.supply.length c_o5_9_1, .slice A_o5_9_2 r_o5_9_1.1.inst.arcs.length c_o5_9_2, iv r_o5_9_1.1.rcd.pass, .slice A_o5_9_3 r_o5_9_1.1.rcd.was.supply.length c_o5_9_3, .slice A_o5_9_4 r_o5_9_1.1.rcd.was.arcs.length c_o5_9_4, iv r_o5_9_1.1.off.hi, .int .u64 (r_o5_9_1.1.off.lo), .bool (r_o5_9_1.1.did)] rfl rfl rfl rfl rfl rfl rfl rfl rfl (.tail (.tail (.tail (.tail (.tail (.tail (.tail (.tail (.tail (.tail .head)))))))))) rfl rfl ?_
    refine WP.anyP 13 tysOk putInv_body rfl rfl rfl (by kernel_rfl) (by kernel_rfl) rfl rfl rfl rfl rfl True.intro ?_
    refine WP.any0 rfl (by kernel_rfl) ?_
    refine WP.stop rfl (A_o5_1_1, (r_o5_1_1.supply.length), c_o5_1_1, A_o5_1_2, (r_o5_1_1.arcs.length), c_o5_1_2, Zp_o5_9_1, Zp_o5_9_2, Zp_o5_9_3, Zp_o5_9_4, Zn_o5_9_1, A_o5_9_1, c_o5_9_1, A_o5_9_2, c_o5_9_2, A_o5_9_3, c_o5_9_3, A_o5_9_4, c_o5_9_4) ⟨hf_o5_1_1, hf_o5_1_2, hz_o5_9_1, hz_o5_9_2, hz_o5_9_3, hz_o5_9_4, hs_o5_9_1, hs_o5_9_2, hs_o5_9_3, hs_o5_9_4⟩ ?_ ?_
    ·repeat first|exact ⟨⟩|refine ⟨rfl,?_⟩
    exact Pick.all
   intro mm1
   refine WP.cutF (α := (Option Addr) × Nat × Nat × (Option Addr) × Nat × Nat) (fun x => OwF x.1 x.2.1 r_o5_1_1.supply ∧ OwF x.2.2.2.1 x.2.2.2.2.1 r_o5_1_1.arcs) #[true, true, false, true, true, true, true, true, false, false, false, false, false, false] 7 (fun x => [(2, pt g2), (3, errV none), (8, pt g5), (55, .agg #[.slice x.1 x.2.1 x.2.2.1, .slice x.2.2.2.1 x.2.2.2.2.1 x.2.2.2.2.2]), (57, iv r2.1), (59, iv r2.2.1.n), (61, iv ((gt d1.arcs r2.2.1.a).cost))]) (fun x => [Ow (fI .i64) 2 x.1 x.2.1 x.2.2.1 r_o5_1_1.supply, Ow fA 31 x.2.2.2.1 x.2.2.2.2.1 x.2.2.2.2.2 r_o5_1_1.arcs, Ow (fI .i64) 2 A5 n3 c5 xs2, .blk g6 31 [iv ((gt d1.arcs r2.2.1.a).src), iv ((gt d1.arcs r2.2.1.a).dst), iv ((gt d1.arcs r2.2.1.a).low), iv ((gt d1.arcs r2.2.1.a).cap), iv ((gt d1.arcs r2.2.1.a).cost)], .blk g5 25 [.slice A5 n3 c5, .slice A6 n4 c6], Ow fA 31 A6 n4 c6 r4.arcs, .blk g4 70 [iv r2.2.1.a, iv r2.2.1.n], .blk g3 73 [.pointer (some ⟨gg1, 0, none⟩)], .fz Zn1, .blk g2 40 [sn, sn, iv 0, sn, sn, iv 0, .int .u64 (0), .bool (false)], .blk g1 25 [.slice A1 d1.supply.length c1, .slice A2 d1.arcs.length c2], .fz (PH.of w)]) rfl ?_ ?_
   ·rintro ⟨A_o5_1_1, n_o5_1_1, c_o5_1_1, A_o5_1_2, n_o5_1_2, c_o5_1_2⟩ ⟨hf_o5_1_1, hf_o5_1_2⟩
    dsimp only at hf_o5_1_1 hf_o5_1_2 ⊢
    refine WP.any2 2 8 rfl (by kernel_rfl) rfl rfl ?_ ?_
    ·refine WP.mx_ tysOk rfl ⟨⟩ (SegAt.blk' (.tail (.tail (.tail (.tail .head)))) rfl) ?_
     refine WP.useF mm1 (A_o5_1_1, n_o5_1_1, c_o5_1_1, A_o5_1_2, n_o5_1_2, c_o5_1_2) ⟨hf_o5_1_1, hf_o5_1_2⟩ rfl (by kernel_rfl) ?_ ?_
     ·repeat first|exact ⟨⟩|refine ⟨rfl,?_⟩
     exact Pick.all
    refine WP.callV rfl rfl rfl rfl rfl rfl rfl (by kernel_rfl) (fun w1 hw1 => (num_Times_w hg_o5_8_1  :)) ⟨⟩ ?_
    refine WP.any1 2 rfl (by kernel_rfl) rfl ?_
    refine WP.mx_ tysOk rfl ⟨⟩ (SegAt.blk' (.tail (.tail (.tail (.tail .head)))) rfl) ?_
    refine WP.any1 9 rfl (by kernel_rfl) rfl ?_
    refine WP.freezeO .head hf_o5_1_1 ?_
    intro Zp_o5_9_1 hz_o5_9_1
    have hl_o5_9_1 := hf_o5_1_1.len
    subst hl_o5_9_1
    refine WP.freezeO (.tail .head) hf_o5_1_2 ?_
    intro Zp_o5_9_2 hz_o5_9_2
    have hl_o5_9_2 := hf_o5_1_2.len
    subst hl_o5_9_2
    refine WP.freezeO (.tail (.tail .head)) hf6 ?_
    intro Zp_o5_9_3 hz_o5_9_3
    have hl_o5_9_3 := hf6.len
    subst hl_o5_9_3
    refine WP.freezeO (.tail (.tail (.tail (.tail (.tail .head))))) hf4 ?_
    intro Zp_o5_9_4 hz_o5_9_4
    have hl_o5_9_4 := hf4.len
    subst hl_o5_9_4
    refine WP.callS (leaf_without_S (PH.or (PH.or (PH.or Zp_o5_9_1 Zp_o5_9_2) Zp_o5_9_3) Zp_o5_9_4) r_o5_9_1) rfl rfl rfl rfl rfl rfl rfl (by kernel_rfl) (fun w1 hw1 => (leaf_without_w (Z := (PH.or (PH.or (PH.or Zp_o5_9_1 Zp_o5_9_2) Zp_o5_9_3) Zp_o5_9_4)) ((Held.or (Held.or (Held.or (Held.mem (List.Mem.tail _ (List.Mem.tail _ (List.Mem.tail _ (List.Mem.head _))))) (Held.mem (List.Mem.tail _ (List.Mem.tail _ (List.Mem.head _))))) (Held.mem (List.Mem.tail _ (List.Mem.head _)))) (Held.mem (List.Mem.head _))) _ _ hw1) hg_o5_9_1 (InsZ.mk_ ((hz_o5_9_1.le' (PH.le.trans (PH.le.trans (PH.le.trans PH.le.rfl_ (PH.le_or _ _)) (PH.le_or _ _)) (PH.le_or _ _))).of) ((hz_o5_9_2.le' (PH.le.trans (PH.le.trans (PH.ri_or ((Held.mem (List.Mem.tail _ (List.Mem.tail _ (List.Mem.tail _ (List.Mem.head _))))) _ _ hw1) ((Held.mem (List.Mem.tail _ (List.Mem.tail _ (List.Mem.head _)))) _ _ hw1)) (PH.le_or _ _)) (PH.le_or _ _))).of)) (InsZ.mk_ ((hz_o5_9_3.le' (PH.le.trans (PH.ri_or ((Held.or (Held.mem (List.Mem.tail _ (List.Mem.tail _ (List.Mem.tail _ (List.Mem.head _))))) (Held.mem (List.Mem.tail _ (List.Mem.tail _ (List.Mem.head _))))) _ _ hw1) ((Held.mem (List.Mem.tail _ (List.Mem.head _))) _ _ hw1)) (PH.le_or _ _))).of) ((hz_o5_9_4.le' (PH.ri_or ((Held.or (Held.or (Held.mem (List.Mem.tail _ (List.Mem.tail _ (List.Mem.tail _ (List.Mem.head _))))) (Held.mem (List.Mem.tail _ (List.Mem.tail _ (List.Mem.head _))))) (Held.mem (List.Mem.tail _ (List.Mem.head _)))) _ _ hw1) ((Held.mem (List.Mem.head _)) _ _ hw1))).of)) :)) ?_
    rintro _ _ ⟨Zn_o5_9_1, A_o5_9_1, _, c_o5_9_1, A_o5_9_2, _, c_o5_9_2, A_o5_9_3, _, c_o5_9_3, A_o5_9_4, _, c_o5_9_4, rfl, rfl, rfl, rfl, rfl, hs_o5_9_1, hs_o5_9_2, hs_o5_9_3, hs_o5_9_4, rfl⟩
    refine WP.anyP 10 tysOk putInv_body rfl rfl rfl (by kernel_rfl) (by kernel_rfl) rfl rfl rfl rfl rfl True.intro ?_
    refine WP.anyP 11 tysOk putInv_body rfl rfl rfl (by kernel_rfl) (by kernel_rfl) rfl rfl rfl rfl rfl True.intro ?_
    refine WP.any1 12 rfl (by kernel_rfl) rfl ?_
    refine WP.sto' tysOk [.slice A_o5_9_1 r_o5_9_1.1.inst.supply.length c_o5_9_1, .slice A_o5_9_2 r_o5_9_1.1.inst.arcs.length c_o5_9_2, iv r_o5_9_1.1.rcd.pass, .slice A_o5_9_3 r_o5_9_1.1.rcd.was.supply.length c_o5_9_3, .slice A_o5_9_4 r_o5_9_1.1.rcd.was.arcs.length c_o5_9_4, iv r_o5_9_1.1.off.hi, .int .u64 (r_o5_9_1.1.off.lo), .bool (r_o5_9_1.1.did)] rfl rfl rfl rfl rfl rfl rfl rfl rfl (.tail (.tail (.tail (.tail (.tail (.tail (.tail (.tail (.tail (.tail .head)))))))))) rfl rfl ?_
    refine WP.anyP 13 tysOk putInv_body rfl rfl rfl (by kernel_rfl) (by kernel_rfl) rfl rfl rfl rfl rfl True.intro ?_
    refine WP.any0 rfl (by kernel_rfl) ?_
    refine WP.stop rfl (A_o5_1_1, (r_o5_1_1.supply.length), c_o5_1_1, A_o5_1_2, (r_o5_1_1.arcs.length), c_o5_1_2, Zp_o5_9_1, Zp_o5_9_2, Zp_o5_9_3, Zp_o5_9_4, Zn_o5_9_1, A_o5_9_1, c_o5_9_1, A_o5_9_2, c_o5_9_2, A_o5_9_3, c_o5_9_3, A_o5_9_4, c_o5_9_4) ⟨hf_o5_1_1, hf_o5_1_2, hz_o5_9_1, hz_o5_9_2, hz_o5_9_3, hz_o5_9_4, hs_o5_9_1, hs_o5_9_2, hs_o5_9_3, hs_o5_9_4⟩ ?_ ?_
    ·repeat first|exact ⟨⟩|refine ⟨rfl,?_⟩
    exact Pick.all
   intro mm2
   refine WP.cutF (α := Unit) (fun x => True) #[true, false, true, true, true, true, true, true, false, false, false, false, false, false] 7 (fun x => [(2, pt g2), (3, errV none), (54, .agg #[.slice A1 d1.supply.length c1, .slice A2 d1.arcs.length c2]), (56, .agg #[.slice A5 n3 c5, .slice A6 n4 c6]), (57, iv r2.1), (59, iv r2.2.1.n), (61, iv ((gt d1.arcs r2.2.1.a).cost))]) (fun x => [Ow (fI .i64) 2 A5 n3 c5 xs2, .blk g6 31 [iv ((gt d1.arcs r2.2.1.a).src), iv ((gt d1.arcs r2.2.1.a).dst), iv ((gt d1.arcs r2.2.1.a).low), iv ((gt d1.arcs r2.2.1.a).cap), iv ((gt d1.arcs r2.2.1.a).cost)], .blk g5 25 [.slice A5 n3 c5, .slice A6 n4 c6], Ow fA 31 A6 n4 c6 r4.arcs, .blk g4 70 [iv r2.2.1.a, iv r2.2.1.n], .blk g3 73 [.pointer (some ⟨gg1, 0, none⟩)], .fz Zn1, .blk g2 40 [sn, sn, iv 0, sn, sn, iv 0, .int .u64 (0), .bool (false)], .blk g1 25 [.slice A1 d1.supply.length c1, .slice A2 d1.arcs.length c2], .fz (PH.of w)]) rfl ?_ ?_
   ·rintro _ _
    refine WP.any1 1 rfl (by kernel_rfl) rfl ?_
    refine WP.callS (inst_Copy_S r_o5_1_1) rfl rfl rfl rfl rfl rfl rfl (by kernel_rfl) (fun w1 hw1 => (inst_Copy_w hg_o5_1_1 (InsZ.mk_ ((hs1.le' ((Held.sub (Held.mem (List.Mem.tail _ (List.Mem.tail _ (List.Mem.tail _ (List.Mem.tail _ (List.Mem.tail _ (List.Mem.tail _ (List.Mem.tail _ (List.Mem.tail _ (List.Mem.tail _ (List.Mem.head _))))))))))) hZ) _ _ hw1)).of) ((hs2.le' ((Held.sub (Held.mem (List.Mem.tail _ (List.Mem.tail _ (List.Mem.tail _ (List.Mem.tail _ (List.Mem.tail _ (List.Mem.tail _ (List.Mem.tail _ (List.Mem.tail _ (List.Mem.tail _ (List.Mem.head _))))))))))) hZ) _ _ hw1)).of)) :)) ?_
    rintro _ _ ⟨A_o5_1_1, n_o5_1_1, c_o5_1_1, A_o5_1_2, n_o5_1_2, c_o5_1_2, rfl, hf_o5_1_1, hf_o5_1_2, rfl⟩
    refine WP.useF mm1 (A_o5_1_1, n_o5_1_1, c_o5_1_1, A_o5_1_2, n_o5_1_2, c_o5_1_2) ⟨hf_o5_1_1, hf_o5_1_2⟩ rfl (by kernel_rfl) ?_ ?_
    ·repeat first|exact ⟨⟩|refine ⟨rfl,?_⟩
    exact Pick.all
   intro mm3
   refine WP.cutF (α := (Option Addr) × Nat × Nat × (Option Addr) × Nat × Nat) (fun x => OwF x.1 x.2.1 r_o5_1_1.supply ∧ OwF x.2.2.2.1 x.2.2.2.2.1 r_o5_1_1.arcs) #[true, true, true, true, true, false, true, false, false, false, false, false, false, false] 8 (fun x => [(2, pt g2), (3, errV none), (55, .agg #[.slice x.1 x.2.1 x.2.2.1, .slice x.2.2.2.1 x.2.2.2.2.1 x.2.2.2.2.2]), (56, .agg #[.slice A5 n3 c5, .slice A6 n4 c6]), (57, iv r2.1), (58, .pointer (some ⟨g4, 1, none⟩)), (60, .pointer (some ⟨g6, 4, none⟩))]) (fun x => [Ow (fI .i64) 2 x.1 x.2.1 x.2.2.1 r_o5_1_1.supply, Ow fA 31 x.2.2.2.1 x.2.2.2.2.1 x.2.2.2.2.2 r_o5_1_1.arcs, Ow (fI .i64) 2 A5 n3 c5 xs2, .blk g6 31 [iv ((gt d1.arcs r2.2.1.a).src), iv ((gt d1.arcs r2.2.1.a).dst), iv ((gt d1.arcs r2.2.1.a).low), iv ((gt d1.arcs r2.2.1.a).cap), iv ((gt d1.arcs r2.2.1.a).cost)], .blk g5 25 [.slice A5 n3 c5, .slice A6 n4 c6], Ow fA 31 A6 n4 c6 r4.arcs, .blk g4 70 [iv r2.2.1.a, iv r2.2.1.n], .blk g3 73 [.pointer (some ⟨gg1, 0, none⟩)], .fz Zn1, .blk g2 40 [sn, sn, iv 0, sn, sn, iv 0, .int .u64 (0), .bool (false)], .blk g1 25 [.slice A1 d1.supply.length c1, .slice A2 d1.arcs.length c2], .fz (PH.of w)]) rfl ?_ ?_
   ·rintro ⟨A_o5_1_1, n_o5_1_1, c_o5_1_1, A_o5_1_2, n_o5_1_2, c_o5_1_2⟩ ⟨hf_o5_1_1, hf_o5_1_2⟩
    dsimp only at hf_o5_1_1 hf_o5_1_2 ⊢
    refine WP.any2 5 7 rfl (by kernel_rfl) rfl rfl ?_ ?_
    ·refine WP.lx tysOk rfl ⟨⟩ (CellAt.blk (.tail (.tail (.tail (.tail (.tail (.tail .head)))))) rfl) ?_
     refine WP.any1 7 rfl (by kernel_rfl) rfl ?_
     refine WP.lx tysOk rfl ⟨⟩ (CellAt.blk (.tail (.tail (.tail .head))) rfl) ?_
     refine WP.useF mm1 (A_o5_1_1, n_o5_1_1, c_o5_1_1, A_o5_1_2, n_o5_1_2, c_o5_1_2) ⟨hf_o5_1_1, hf_o5_1_2⟩ rfl (by kernel_rfl) ?_ ?_
     ·repeat first|exact ⟨⟩|refine ⟨rfl,?_⟩
     exact Pick.all
    refine WP.lx tysOk rfl ⟨⟩ (CellAt.blk (.tail (.tail (.tail .head))) rfl) ?_
    refine WP.any1 5 rfl (by kernel_rfl) rfl ?_
    refine WP.lx tysOk rfl ⟨⟩ (CellAt.blk (.tail (.tail (.tail (.tail (.tail (.tail .head)))))) rfl) ?_
    refine WP.useF mm1 (A_o5_1_1, n_o5_1_1, c_o5_1_1, A_o5_1_2, n_o5_1_2, c_o5_1_2) ⟨hf_o5_1_1, hf_o5_1_2⟩ rfl (by kernel_rfl) ?_ ?_
    ·repeat first|exact ⟨⟩|refine ⟨rfl,?_⟩
    exact Pick.all
   intro mm4
   refine WP.cutF (α := Unit) (fun x => True) #[true, false, true, true, true, true, true, false, false, false, false, false, false, false] 8 (fun x => [(2, pt g2), (3, errV none), (54, .agg #[.slice A1 d1.supply.length c1, .slice A2 d1.arcs.length c2]), (56, .agg #[.slice A5 n3 c5, .slice A6 n4 c6]), (57, iv r2.1), (59, iv r2.2.1.n), (60, .pointer (some ⟨g6, 4, none⟩))]) (fun x => [Ow (fI .i64) 2 A5 n3 c5 xs2, .blk g6 31 [iv ((gt d1.arcs r2.2.1.a).src), iv ((gt d1.arcs r2.2.1.a).dst), iv ((gt d1.arcs r2.2.1.a).low), iv ((gt d1.arcs r2.2.1.a).cap), iv ((gt d1.arcs r2.2.1.a).cost)], .blk g5 25 [.slice A5 n3 c5, .slice A6 n4 c6], Ow fA 31 A6 n4 c6 r4.arcs, .blk g4 70 [iv r2.2.1.a, iv r2.2.1.n], .blk g3 73 [.pointer (some ⟨gg1, 0, none⟩)], .fz Zn1, .blk g2 40 [sn, sn, iv 0, sn, sn, iv 0, .int .u64 (0), .bool (false)], .blk g1 25 [.slice A1 d1.supply.length c1, .slice A2 d1.arcs.length c2], .fz (PH.of w)]) rfl ?_ ?_
   ·rintro _ _
    refine WP.any2 1 7 rfl (by kernel_rfl) rfl rfl ?_ ?_
    ·refine WP.callS (inst_Copy_S r_o5_1_1) rfl rfl rfl rfl rfl rfl rfl (by kernel_rfl) (fun w1 hw1 => (inst_Copy_w hg_o5_1_1 (InsZ.mk_ ((hs1.le' ((Held.sub (Held.mem (List.Mem.tail _ (List.Mem.tail _ (List.Mem.tail _ (List.Mem.tail _ (List.Mem.tail _ (List.Mem.tail _ (List.Mem.tail _ (List.Mem.tail _ (List.Mem.tail _ (List.Mem.head _))))))))))) hZ) _ _ hw1)).of) ((hs2.le' ((Held.sub (Held.mem (List.Mem.tail _ (List.Mem.tail _ (List.Mem.tail _ (List.Mem.tail _ (List.Mem.tail _ (List.Mem.tail _ (List.Mem.tail _ (List.Mem.tail _ (List.Mem.tail _ (List.Mem.head _))))))))))) hZ) _ _ hw1)).of)) :)) ?_
     rintro _ _ ⟨A_o5_1_1, n_o5_1_1, c_o5_1_1, A_o5_1_2, n_o5_1_2, c_o5_1_2, rfl, hf_o5_1_1, hf_o5_1_2, rfl⟩
     refine WP.any1 7 rfl (by kernel_rfl) rfl ?_
     refine WP.lx tysOk rfl ⟨⟩ (CellAt.blk (.tail (.tail (.tail .head))) rfl) ?_
     refine WP.useF mm1 (A_o5_1_1, n_o5_1_1, c_o5_1_1, A_o5_1_2, n_o5_1_2, c_o5_1_2) ⟨hf_o5_1_1, hf_o5_1_2⟩ rfl (by kernel_rfl) ?_ ?_
     ·repeat first|exact ⟨⟩|refine ⟨rfl,?_⟩
     exact Pick.all
    refine WP.lx tysOk rfl ⟨⟩ (CellAt.blk (.tail .head) rfl) ?_
    refine WP.useF mm3 () True.intro rfl (by kernel_rfl) ?_ ?_
    ·repeat first|exact ⟨⟩|refine ⟨rfl,?_⟩
    exact Pick.all
   intro mm5
   refine WP.cutF (α := Unit) (fun x => True) #[true, false, true, true, true, false, true, true, false, false, false, false, false, false] 8 (fun x => [(2, pt g2), (3, errV none), (54, .agg #[.slice A1 d1.supply.length c1, .slice A2 d1.arcs.length c2]), (56, .agg #[.slice A5 n3 c5, .slice A6 n4 c6]), (57, iv r2.1), (58, .pointer (some ⟨g4, 1, none⟩)), (61, iv ((gt d1.arcs r2.2.1.a).cost))]) (fun x => [Ow (fI .i64) 2 A5 n3 c5 xs2, .blk g6 31 [iv ((gt d1.arcs r2.2.1.a).src), iv ((gt d1.arcs r2.2.1.a).dst), iv ((gt d1.arcs r2.2.1.a).low), iv ((gt d1.arcs r2.2.1.a).cap), iv ((gt d1.arcs r2.2.1.a).cost)], .blk g5 25 [.slice A5 n3 c5, .slice A6 n4 c6], Ow fA 31 A6 n4 c6 r4.arcs, .blk g4 70 [iv r2.2.1.a, iv r2.2.1.n], .blk g3 73 [.pointer (some ⟨gg1, 0, none⟩)], .fz Zn1, .blk g2 40 [sn, sn, iv 0, sn, sn, iv 0, .int .u64 (0), .bool (false)], .blk g1 25 [.slice A1 d1.supply.length c1, .slice A2 d1.arcs.length c2], .fz (PH.of w)]) rfl ?_ ?_
   ·rintro _ _
    refine WP.any2 1 5 rfl (by kernel_rfl) rfl rfl ?_ ?_
    ·refine WP.callS (inst_Copy_S r_o5_1_1) rfl rfl rfl rfl rfl rfl rfl (by kernel_rfl) (fun w1 hw1 => (inst_Copy_w hg_o5_1_1 (InsZ.mk_ ((hs1.le' ((Held.sub (Held.mem (List.Mem.tail _ (List.Mem.tail _ (List.Mem.tail _ (List.Mem.tail _ (List.Mem.tail _ (List.Mem.tail _ (List.Mem.tail _ (List.Mem.tail _ (List.Mem.tail _ (List.Mem.head _))))))))))) hZ) _ _ hw1)).of) ((hs2.le' ((Held.sub (Held.mem (List.Mem.tail _ (List.Mem.tail _ (List.Mem.tail _ (List.Mem.tail _ (List.Mem.tail _ (List.Mem.tail _ (List.Mem.tail _ (List.Mem.tail _ (List.Mem.tail _ (List.Mem.head _))))))))))) hZ) _ _ hw1)).of)) :)) ?_
     rintro _ _ ⟨A_o5_1_1, n_o5_1_1, c_o5_1_1, A_o5_1_2, n_o5_1_2, c_o5_1_2, rfl, hf_o5_1_1, hf_o5_1_2, rfl⟩
     refine WP.any1 5 rfl (by kernel_rfl) rfl ?_
     refine WP.lx tysOk rfl ⟨⟩ (CellAt.blk (.tail (.tail (.tail (.tail (.tail (.tail .head)))))) rfl) ?_
     refine WP.useF mm1 (A_o5_1_1, n_o5_1_1, c_o5_1_1, A_o5_1_2, n_o5_1_2, c_o5_1_2) ⟨hf_o5_1_1, hf_o5_1_2⟩ rfl (by kernel_rfl) ?_ ?_
     ·repeat first|exact ⟨⟩|refine ⟨rfl,?_⟩
     exact Pick.all
    refine WP.lx tysOk rfl ⟨⟩ (CellAt.blk (.tail (.tail (.tail (.tail .head)))) rfl) ?_
    refine WP.useF mm3 () True.intro rfl (by kernel_rfl) ?_ ?_
    ·repeat first|exact ⟨⟩|refine ⟨rfl,?_⟩
    exact Pick.all
   intro mm6
   refine WP.cutF (α := Unit) (fun x => True) #[true, false, false, true, true, true, true, true, false, false, false, false, false, false] 8 (fun x => [(2, pt g2), (3, errV none), (8, pt g5), (54, .agg #[.slice A1 d1.supply.length c1, .slice A2 d1.arcs.length c2]), (57, iv r2.1), (59, iv r2.2.1.n), (61, iv ((gt d1.arcs r2.2.1.a).cost))]) (fun x => [Ow (fI .i64) 2 A5 n3 c5 xs2, .blk g6 31 [iv ((gt d1.arcs r2.2.1.a).src), iv ((gt d1.arcs r2.2.1.a).dst), iv ((gt d1.arcs r2.2.1.a).low), iv ((gt d1.arcs r2.2.1.a).cap), iv ((gt d1.arcs r2.2.1.a).cost)], .blk g5 25 [.slice A5 n3 c5, .slice A6 n4 c6], Ow fA 31 A6 n4 c6 r4.arcs, .blk g4 70 [iv r2.2.1.a, iv r2.2.1.n], .blk g3 73 [.pointer (some ⟨gg1, 0, none⟩)], .fz Zn1, .blk g2 40 [sn, sn, iv 0, sn, sn, iv 0, .int .u64 (0), .bool (false)], .blk g1 25 [.slice A1 d1.supply.length c1, .slice A2 d1.arcs.length c2], .fz (PH.of w)]) rfl ?_ ?_
   ·rintro _ _
    refine WP.any2 1 2 rfl (by kernel_rfl) rfl rfl ?_ ?_
    ·refine WP.callS (inst_Copy_S r_o5_1_1) rfl rfl rfl rfl rfl rfl rfl (by kernel_rfl) (fun w1 hw1 => (inst_Copy_w hg_o5_1_1 (InsZ.mk_ ((hs1.le' ((Held.sub (Held.mem (List.Mem.tail _ (List.Mem.tail _ (List.Mem.tail _ (List.Mem.tail _ (List.Mem.tail _ (List.Mem.tail _ (List.Mem.tail _ (List.Mem.tail _ (List.Mem.tail _ (List.Mem.head _))))))))))) hZ) _ _ hw1)).of) ((hs2.le' ((Held.sub (Held.mem (List.Mem.tail _ (List.Mem.tail _ (List.Mem.tail _ (List.Mem.tail _ (List.Mem.tail _ (List.Mem.tail _ (List.Mem.tail _ (List.Mem.tail _ (List.Mem.tail _ (List.Mem.head _))))))))))) hZ) _ _ hw1)).of)) :)) ?_
     rintro _ _ ⟨A_o5_1_1, n_o5_1_1, c_o5_1_1, A_o5_1_2, n_o5_1_2, c_o5_1_2, rfl, hf_o5_1_1, hf_o5_1_2, rfl⟩
     refine WP.useF mm2 (A_o5_1_1, n_o5_1_1, c_o5_1_1, A_o5_1_2, n_o5_1_2, c_o5_1_2) ⟨hf_o5_1_1, hf_o5_1_2⟩ rfl (by kernel_rfl) ?_ ?_
     ·repeat first|exact ⟨⟩|refine ⟨rfl,?_⟩
     exact Pick.all
    refine WP.mx_ tysOk rfl ⟨⟩ (SegAt.blk' (.tail (.tail .head)) rfl) ?_
    refine WP.useF mm3 () True.intro rfl (by kernel_rfl) ?_ ?_
    ·repeat first|exact ⟨⟩|refine ⟨rfl,?_⟩
    exact Pick.all
   intro mm7
   refine WP.cutF (α := Unit) (fun x => True) #[true, false, true, true, true, false, true, false, false, false, false, false, false, false] 9 (fun x => [(2, pt g2), (3, errV none), (54, .agg #[.slice A1 d1.supply.length c1, .slice A2 d1.arcs.length c2]), (56, .agg #[.slice A5 n3 c5, .slice A6 n4 c6]), (57, iv r2.1), (58, .pointer (some ⟨g4, 1, none⟩)), (60, .pointer (some ⟨g6, 4, none⟩))]) (fun x => [Ow (fI .i64) 2 A5 n3 c5 xs2, .blk g6 31 [iv ((gt d1.arcs r2.2.1.a).src), iv ((gt d1.arcs r2.2.1.a).dst), iv ((gt d1.arcs r2.2.1.a).low), iv ((gt d1.arcs r2.2.1.a).cap), iv ((gt d1.arcs r2.2.1.a).cost)], .blk g5 25 [.slice A5 n3 c5, .slice A6 n4 c6], Ow fA 31 A6 n4 c6 r4.arcs, .blk g4 70 [iv r2.2.1.a, iv r2.2.1.n], .blk g3 73 [.pointer (some ⟨gg1, 0, none⟩)], .fz Zn1, .blk g2 40 [sn, sn, iv 0, sn, sn, iv 0, .int .u64 (0), .bool (false)], .blk g1 25 [.slice A1 d1.supply.length c1, .slice A2 d1.arcs.length c2], .fz (PH.of w)]) rfl ?_ ?_
   ·rintro _ _
    refine WP.any3 1 5 7 rfl (by kernel_rfl) rfl rfl rfl ?_ ?_ ?_
    ·refine WP.callS (inst_Copy_S r_o5_1_1) rfl rfl rfl rfl rfl rfl rfl (by kernel_rfl) (fun w1 hw1 => (inst_Copy_w hg_o5_1_1 (InsZ.mk_ ((hs1.le' ((Held.sub (Held.mem (List.Mem.tail _ (List.Mem.tail _ (List.Mem.tail _ (List.Mem.tail _ (List.Mem.tail _ (List.Mem.tail _ (List.Mem.tail _ (List.Mem.tail _ (List.Mem.tail _ (List.Mem.head _))))))))))) hZ) _ _ hw1)).of) ((hs2.le' ((Held.sub (Held.mem (List.Mem.tail _ (List.Mem.tail _ (List.Mem.tail _ (List.Mem.tail _ (List.Mem.tail _ (List.Mem.tail _ (List.Mem.tail _ (List.Mem.tail _ (List.Mem.tail _ (List.Mem.head _))))))))))) hZ) _ _ hw1)).of)) :)) ?_
     rintro _ _ ⟨A_o5_1_1, n_o5_1_1, c_o5_1_1, A_o5_1_2, n_o5_1_2, c_o5_1_2, rfl, hf_o5_1_1, hf_o5_1_2, rfl⟩
     refine WP.useF mm4 (A_o5_1_1, n_o5_1_1, c_o5_1_1, A_o5_1_2, n_o5_1_2, c_o5_1_2) ⟨hf_o5_1_1, hf_o5_1_2⟩ rfl (by kernel_rfl) ?_ ?_
     ·repeat first|exact ⟨⟩|refine ⟨rfl,?_⟩
     exact Pick.all
    ·refine WP.lx tysOk rfl ⟨⟩ (CellAt.blk (.tail (.tail (.tail (.tail .head)))) rfl) ?_
     refine WP.useF mm5 () True.intro rfl (by kernel_rfl) ?_ ?_
     ·repeat first|exact ⟨⟩|refine ⟨rfl,?_⟩
     exact Pick.all
    refine WP.lx tysOk rfl ⟨⟩ (CellAt.blk (.tail .head) rfl) ?_
    refine WP.useF mm6 () True.intro rfl (by kernel_rfl) ?_ ?_
    ·repeat first|exact ⟨⟩|refine ⟨rfl,?_⟩
    exact Pick.all
   intro mm8
   refine WP.cutF (α := Unit) (fun x => True) #[true, false, false, true, true, true, true, false, false, false, false, false, false, false] 9 (fun x => [(2, pt g2), (3, errV none), (8, pt g5), (54, .agg #[.slice A1 d1.supply.length c1, .slice A2 d1.arcs.length c2]), (57, iv r2.1), (59, iv r2.2.1.n), (60, .pointer (some ⟨g6, 4, none⟩))]) (fun x => [Ow (fI .i64) 2 A5 n3 c5 xs2, .blk g6 31 [iv ((gt d1.arcs r2.2.1.a).src), iv ((gt d1.arcs r2.2.1.a).dst), iv ((gt d1.arcs r2.2.1.a).low), iv ((gt d1.arcs r2.2.1.a).cap), iv ((gt d1.arcs r2.2.1.a).cost)], .blk g5 25 [.slice A5 n3 c5, .slice A6 n4 c6], Ow fA 31 A6 n4 c6 r4.arcs, .blk g4 70 [iv r2.2.1.a, iv r2.2.1.n], .blk g3 73 [.pointer (some ⟨gg1, 0, none⟩)], .fz Zn1, .blk g2 40 [sn, sn, iv 0, sn, sn, iv 0, .int .u64 (0), .bool (false)], .blk g1 25 [.slice A1 d1.supply.length c1, .slice A2 d1.arcs.length c2], .fz (PH.of w)]) rfl ?_ ?_
   ·rintro _ _
    refine WP.any3 1 2 7 rfl (by kernel_rfl) rfl rfl rfl ?_ ?_ ?_
    ·refine WP.callS (inst_Copy_S r_o5_1_1) rfl rfl rfl rfl rfl rfl rfl (by kernel_rfl) (fun w1 hw1 => (inst_Copy_w hg_o5_1_1 (InsZ.mk_ ((hs1.le' ((Held.sub (Held.mem (List.Mem.tail _ (List.Mem.tail _ (List.Mem.tail _ (List.Mem.tail _ (List.Mem.tail _ (List.Mem.tail _ (List.Mem.tail _ (List.Mem.tail _ (List.Mem.tail _ (List.Mem.head _))))))))))) hZ) _ _ hw1)).of) ((hs2.le' ((Held.sub (Held.mem (List.Mem.tail _ (List.Mem.tail _ (List.Mem.tail _ (List.Mem.tail _ (List.Mem.tail _ (List.Mem.tail _ (List.Mem.tail _ (List.Mem.tail _ (List.Mem.tail _ (List.Mem.head _))))))))))) hZ) _ _ hw1)).of)) :)) ?_
     rintro _ _ ⟨A_o5_1_1, n_o5_1_1, c_o5_1_1, A_o5_1_2, n_o5_1_2, c_o5_1_2, rfl, hf_o5_1_1, hf_o5_1_2, rfl⟩
     refine WP.any2 2 7 rfl (by kernel_rfl) rfl rfl ?_ ?_
     ·refine WP.mx_ tysOk rfl ⟨⟩ (SegAt.blk' (.tail (.tail (.tail (.tail .head)))) rfl) ?_
      refine WP.any1 7 rfl (by kernel_rfl) rfl ?_
      refine WP.lx tysOk rfl ⟨⟩ (CellAt.blk (.tail (.tail (.tail .head))) rfl) ?_
      refine WP.useF mm1 (A_o5_1_1, n_o5_1_1, c_o5_1_1, A_o5_1_2, n_o5_1_2, c_o5_1_2) ⟨hf_o5_1_1, hf_o5_1_2⟩ rfl (by kernel_rfl) ?_ ?_
      ·repeat first|exact ⟨⟩|refine ⟨rfl,?_⟩
      exact Pick.all
     refine WP.lx tysOk rfl ⟨⟩ (CellAt.blk (.tail (.tail (.tail .head))) rfl) ?_
     refine WP.useF mm2 (A_o5_1_1, n_o5_1_1, c_o5_1_1, A_o5_1_2, n_o5_1_2, c_o5_1_2) ⟨hf_o5_1_1, hf_o5_1_2⟩ rfl (by kernel_rfl) ?_ ?_
     ·repeat first|exact ⟨⟩|refine ⟨rfl,?_⟩
     exact Pick.all
    ·refine WP.mx_ tysOk rfl ⟨⟩ (SegAt.blk' (.tail (.tail .head)) rfl) ?_
     refine WP.useF mm5 () True.intro rfl (by kernel_rfl) ?_ ?_
     ·repeat first|exact ⟨⟩|refine ⟨rfl,?_⟩
     exact Pick.all
    refine WP.lx tysOk rfl ⟨⟩ (CellAt.blk (.tail .head) rfl) ?_
    refine WP.useF mm7 () True.intro rfl (by kernel_rfl) ?_ ?_
    ·repeat first|exact ⟨⟩|refine ⟨rfl,?_⟩
    exact Pick.all
   intro mm9
   refine WP.cutF (α := Unit) (fun x => True) #[true, false, false, true, true, false, true, true, false, false, false, false, false, false] 9 (fun x => [(2, pt g2), (3, errV none), (8, pt g5), (54, .agg #[.slice A1 d1.supply.length c1, .slice A2 d1.arcs.length c2]), (57, iv r2.1), (58, .pointer (some ⟨g4, 1, none⟩)), (61, iv ((gt d1.arcs r2.2.1.a).cost))]) (fun x => [Ow (fI .i64) 2 A5 n3 c5 xs2, .blk g6 31 [iv ((gt d1.arcs r2.2.1.a).src), iv ((gt d1.arcs r2.2.1.a).dst), iv ((gt d1.arcs r2.2.1.a).low), iv ((gt d1.arcs r2.2.1.a).cap), iv ((gt d1.arcs r2.2.1.a).cost)], .blk g5 25 [.slice A5 n3 c5, .slice A6 n4 c6], Ow fA 31 A6 n4 c6 r4.arcs, .blk g4 70 [iv r2.2.1.a, iv r2.2.1.n], .blk g3 73 [.pointer (some ⟨gg1, 0, none⟩)], .fz Zn1, .blk g2 40 [sn, sn, iv 0, sn, sn, iv 0, .int .u64 (0), .bool (false)], .blk g1 25 [.slice A1 d1.supply.length c1, .slice A2 d1.arcs.length c2], .fz (PH.of w)]) rfl ?_ ?_
   ·rintro _ _
    refine WP.any3 1 2 5 rfl (by kernel_rfl) rfl rfl rfl ?_ ?_ ?_
    ·refine WP.callS (inst_Copy_S r_o5_1_1) rfl rfl rfl rfl rfl rfl rfl (by kernel_rfl) (fun w1 hw1 => (inst_Copy_w hg_o5_1_1 (InsZ.mk_ ((hs1.le' ((Held.sub (Held.mem (List.Mem.tail _ (List.Mem.tail _ (List.Mem.tail _ (List.Mem.tail _ (List.Mem.tail _ (List.Mem.tail _ (List.Mem.tail _ (List.Mem.tail _ (List.Mem.tail _ (List.Mem.head _))))))))))) hZ) _ _ hw1)).of) ((hs2.le' ((Held.sub (Held.mem (List.Mem.tail _ (List.Mem.tail _ (List.Mem.tail _ (List.Mem.tail _ (List.Mem.tail _ (List.Mem.tail _ (List.Mem.tail _ (List.Mem.tail _ (List.Mem.tail _ (List.Mem.head _))))))))))) hZ) _ _ hw1)).of)) :)) ?_
     rintro _ _ ⟨A_o5_1_1, n_o5_1_1, c_o5_1_1, A_o5_1_2, n_o5_1_2, c_o5_1_2, rfl, hf_o5_1_1, hf_o5_1_2, rfl⟩
     refine WP.any2 2 5 rfl (by kernel_rfl) rfl rfl ?_ ?_
     ·refine WP.mx_ tysOk rfl ⟨⟩ (SegAt.blk' (.tail (.tail (.tail (.tail .head)))) rfl) ?_
      refine WP.any1 5 rfl (by kernel_rfl) rfl ?_
      refine WP.lx tysOk rfl ⟨⟩ (CellAt.blk (.tail (.tail (.tail (.tail (.tail (.tail .head)))))) rfl) ?_
      refine WP.useF mm1 (A_o5_1_1, n_o5_1_1, c_o5_1_1, A_o5_1_2, n_o5_1_2, c_o5_1_2) ⟨hf_o5_1_1, hf_o5_1_2⟩ rfl (by kernel_rfl) ?_ ?_
      ·repeat first|exact ⟨⟩|refine ⟨rfl,?_⟩
      exact Pick.all
     refine WP.lx tysOk rfl ⟨⟩ (CellAt.blk (.tail (.tail (.tail (.tail (.tail (.tail .head)))))) rfl) ?_
     refine WP.useF mm2 (A_o5_1_1, n_o5_1_1, c_o5_1_1, A_o5_1_2, n_o5_1_2, c_o5_1_2) ⟨hf_o5_1_1, hf_o5_1_2⟩ rfl (by kernel_rfl) ?_ ?_
     ·repeat first|exact ⟨⟩|refine ⟨rfl,?_⟩
     exact Pick.all
    ·refine WP.mx_ tysOk rfl ⟨⟩ (SegAt.blk' (.tail (.tail .head)) rfl) ?_
     refine WP.useF mm6 () True.intro rfl (by kernel_rfl) ?_ ?_
     ·repeat first|exact ⟨⟩|refine ⟨rfl,?_⟩
     exact Pick.all
    refine WP.lx tysOk rfl ⟨⟩ (CellAt.blk (.tail (.tail (.tail (.tail .head)))) rfl) ?_
    refine WP.useF mm7 () True.intro rfl (by kernel_rfl) ?_ ?_
    ·repeat first|exact ⟨⟩|refine ⟨rfl,?_⟩
    exact Pick.all
   intro mm10
   refine WP.cutF (α := Unit) (fun x => True) #[false, false, true, true, true, true, true, false, false, false, false, false, false, false] 9 (fun x => [(1, pt g1), (2, pt g2), (3, errV none), (56, .agg #[.slice A5 n3 c5, .slice A6 n4 c6]), (57, iv r2.1), (59, iv r2.2.1.n), (60, .pointer (some ⟨g6, 4, none⟩))]) (fun x => [Ow (fI .i64) 2 A5 n3 c5 xs2, .blk g6 31 [iv ((gt d1.arcs r2.2.1.a).src), iv ((gt d1.arcs r2.2.1.a).dst), iv ((gt d1.arcs r2.2.1.a).low), iv ((gt d1.arcs r2.2.1.a).cap), iv ((gt d1.arcs r2.2.1.a).cost)], .blk g5 25 [.slice A5 n3 c5, .slice A6 n4 c6], Ow fA 31 A6 n4 c6 r4.arcs, .blk g4 70 [iv r2.2.1.a, iv r2.2.1.n], .blk g3 73 [.pointer (some ⟨gg1, 0, none⟩)], .fz Zn1, .blk g2 40 [sn, sn, iv 0, sn, sn, iv 0, .int .u64 (0), .bool (false)], .blk g1 25 [.slice A1 d1.supply.length c1, .slice A2 d1.arcs.length c2], .fz (PH.of w)]) rfl ?_ ?_
   ·rintro _ _
    refine WP.any2 0 7 rfl (by kernel_rfl) rfl rfl ?_ ?_
    ·refine WP.mx_ tysOk rfl ⟨⟩ (SegAt.blk' (.tail (.tail (.tail (.tail (.tail (.tail (.tail (.tail .head)))))))) rfl) ?_
     refine WP.useF mm5 () True.intro rfl (by kernel_rfl) ?_ ?_
     ·repeat first|exact ⟨⟩|refine ⟨rfl,?_⟩
     exact Pick.all
    refine WP.lx tysOk rfl ⟨⟩ (CellAt.blk (.tail .head) rfl) ?_
    refine WP.any1 0 rfl (by kernel_rfl) rfl ?_
    refine WP.mx_ tysOk rfl ⟨⟩ (SegAt.blk' (.tail (.tail (.tail (.tail (.tail (.tail (.tail (.tail .head)))))))) rfl) ?_
    refine WP.useF mm3 () True.intro rfl (by kernel_rfl) ?_ ?_
    ·repeat first|exact ⟨⟩|refine ⟨rfl,?_⟩
    exact Pick.all
   intro mm11
   refine WP.cutF (α := Unit) (fun x => True) #[false, false, true, true, true, false, true, true, false, false, false, false, false, false] 9 (fun x => [(1, pt g1), (2, pt g2), (3, errV none), (56, .agg #[.slice A5 n3 c5, .slice A6 n4 c6]), (57, iv r2.1), (58, .pointer (some ⟨g4, 1, none⟩)), (61, iv ((gt d1.arcs r2.2.1.a).cost))]) (fun x => [Ow (fI .i64) 2 A5 n3 c5 xs2, .blk g6 31 [iv ((gt d1.arcs r2.2.1.a).src), iv ((gt d1.arcs r2.2.1.a).dst), iv ((gt d1.arcs r2.2.1.a).low), iv ((gt d1.arcs r2.2.1.a).cap), iv ((gt d1.arcs r2.2.1.a).cost)], .blk g5 25 [.slice A5 n3 c5, .slice A6 n4 c6], Ow fA 31 A6 n4 c6 r4.arcs, .blk g4 70 [iv r2.2.1.a, iv r2.2.1.n], .blk g3 73 [.pointer (some ⟨gg1, 0, none⟩)], .fz Zn1, .blk g2 40 [sn, sn, iv 0, sn, sn, iv 0, .int .u64 (0), .bool (false)], .blk g1 25 [.slice A1 d1.supply.length c1, .slice A2 d1.arcs.length c2], .fz (PH.of w)]) rfl ?_ ?_
   ·rintro _ _
    refine WP.any2 0 5 rfl (by kernel_rfl) rfl rfl ?_ ?_
    ·refine WP.mx_ tysOk rfl ⟨⟩ (SegAt.blk' (.tail (.tail (.tail (.tail (.tail (.tail (.tail (.tail .head)))))))) rfl) ?_
     refine WP.useF mm6 () True.intro rfl (by kernel_rfl) ?_ ?_
     ·repeat first|exact ⟨⟩|refine ⟨rfl,?_⟩
     exact Pick.all
    refine WP.lx tysOk rfl ⟨⟩ (CellAt.blk (.tail (.tail (.tail (.tail .head)))) rfl) ?_
    refine WP.any1 0 rfl (by kernel_rfl) rfl ?_
    refine WP.mx_ tysOk rfl ⟨⟩ (SegAt.blk' (.tail (.tail (.tail (.tail (.tail (.tail (.tail (.tail .head)))))))) rfl) ?_
    refine WP.useF mm3 () True.intro rfl (by kernel_rfl) ?_ ?_
    ·repeat first|exact ⟨⟩|refine ⟨rfl,?_⟩
    exact Pick.all
   intro mm12
   refine WP.cutF (α := Unit) (fun x => True) #[false, false, false, true, true, true, true, true, false, false, false, false, false, false] 9 (fun x => [(1, pt g1), (2, pt g2), (3, errV none), (8, pt g5), (57, iv r2.1), (59, iv r2.2.1.n), (61, iv ((gt d1.arcs r2.2.1.a).cost))]) (fun x => [Ow (fI .i64) 2 A5 n3 c5 xs2, .blk g6 31 [iv ((gt d1.arcs r2.2.1.a).src), iv ((gt d1.arcs r2.2.1.a).dst), iv ((gt d1.arcs r2.2.1.a).low), iv ((gt d1.arcs r2.2.1.a).cap), iv ((gt d1.arcs r2.2.1.a).cost)], .blk g5 25 [.slice A5 n3 c5, .slice A6 n4 c6], Ow fA 31 A6 n4 c6 r4.arcs, .blk g4 70 [iv r2.2.1.a, iv r2.2.1.n], .blk g3 73 [.pointer (some ⟨gg1, 0, none⟩)], .fz Zn1, .blk g2 40 [sn, sn, iv 0, sn, sn, iv 0, .int .u64 (0), .bool (false)], .blk g1 25 [.slice A1 d1.supply.length c1, .slice A2 d1.arcs.length c2], .fz (PH.of w)]) rfl ?_ ?_
   ·rintro _ _
    refine WP.any2 0 2 rfl (by kernel_rfl) rfl rfl ?_ ?_
    ·refine WP.mx_ tysOk rfl ⟨⟩ (SegAt.blk' (.tail (.tail (.tail (.tail (.tail (.tail (.tail (.tail .head)))))))) rfl) ?_
     refine WP.useF mm7 () True.intro rfl (by kernel_rfl) ?_ ?_
     ·repeat first|exact ⟨⟩|refine ⟨rfl,?_⟩
     exact Pick.all
    refine WP.mx_ tysOk rfl ⟨⟩ (SegAt.blk' (.tail (.tail .head)) rfl) ?_
    refine WP.any1 0 rfl (by kernel_rfl) rfl ?_
    refine WP.mx_ tysOk rfl ⟨⟩ (SegAt.blk' (.tail (.tail (.tail (.tail (.tail (.tail (.tail (.tail .head)))))))) rfl) ?_
    refine WP.useF mm3 () True.intro rfl (by kernel_rfl) ?_ ?_
    ·repeat first|exact ⟨⟩|refine ⟨rfl,?_⟩
    exact Pick.all
   intro mm13
   refine WP.anyP 3 tysOk putInv_body rfl rfl rfl (by kernel_rfl) (by kernel_rfl) rfl rfl rfl rfl rfl True.intro ?_
   refine WP.anyP 4 tysOk putInv_body rfl rfl rfl (by kernel_rfl) (by kernel_rfl) rfl rfl rfl rfl rfl True.intro ?_
   refine WP.anyP 6 tysOk putInv_body rfl rfl rfl (by kernel_rfl) (by kernel_rfl) rfl rfl rfl rfl rfl True.intro ?_
   refine WP.any4 0 2 5 7 rfl (by kernel_rfl) rfl rfl rfl rfl ?_ ?_ ?_ ?_
   ·refine WP.mx_ tysOk rfl ⟨⟩ (SegAt.blk' (.tail (.tail (.tail (.tail (.tail (.tail (.tail (.tail .head)))))))) rfl) ?_
    refine WP.any4 1 2 5 7 rfl (by kernel_rfl) rfl rfl rfl rfl ?_ ?_ ?_ ?_
    ·refine WP.callS (inst_Copy_S r_o5_1_1) rfl rfl rfl rfl rfl rfl rfl (by kernel_rfl) (fun w1 hw1 => (inst_Copy_w hg_o5_1_1 (InsZ.mk_ ((hs1.le' ((Held.sub (Held.mem (List.Mem.tail _ (List.Mem.tail _ (List.Mem.tail _ (List.Mem.tail _ (List.Mem.tail _ (List.Mem.tail _ (List.Mem.tail _ (List.Mem.tail _ (List.Mem.tail _ (List.Mem.head _))))))))))) hZ) _ _ hw1)).of) ((hs2.le' ((Held.sub (Held.mem (List.Mem.tail _ (List.Mem.tail _ (List.Mem.tail _ (List.Mem.tail _ (List.Mem.tail _ (List.Mem.tail _ (List.Mem.tail _ (List.Mem.tail _ (List.Mem.tail _ (List.Mem.head _))))))))))) hZ) _ _ hw1)).of)) :)) ?_
     rintro _ _ ⟨A_o5_1_1, n_o5_1_1, c_o5_1_1, A_o5_1_2, n_o5_1_2, c_o5_1_2, rfl, hf_o5_1_1, hf_o5_1_2, rfl⟩
     refine WP.any3 2 5 7 rfl (by kernel_rfl) rfl rfl rfl ?_ ?_ ?_
     ·refine WP.mx_ tysOk rfl ⟨⟩ (SegAt.blk' (.tail (.tail (.tail (.tail .head)))) rfl) ?_
      refine WP.useF mm4 (A_o5_1_1, n_o5_1_1, c_o5_1_1, A_o5_1_2, n_o5_1_2, c_o5_1_2) ⟨hf_o5_1_1, hf_o5_1_2⟩ rfl (by kernel_rfl) ?_ ?_
      ·repeat first|exact ⟨⟩|refine ⟨rfl,?_⟩
      exact Pick.all
     ·refine WP.lx tysOk rfl ⟨⟩ (CellAt.blk (.tail (.tail (.tail (.tail (.tail (.tail .head)))))) rfl) ?_
      refine WP.any2 2 7 rfl (by kernel_rfl) rfl rfl ?_ ?_
      ·refine WP.mx_ tysOk rfl ⟨⟩ (SegAt.blk' (.tail (.tail (.tail (.tail .head)))) rfl) ?_
       refine WP.any1 7 rfl (by kernel_rfl) rfl ?_
       refine WP.lx tysOk rfl ⟨⟩ (CellAt.blk (.tail (.tail (.tail .head))) rfl) ?_
       refine WP.useF mm1 (A_o5_1_1, n_o5_1_1, c_o5_1_1, A_o5_1_2, n_o5_1_2, c_o5_1_2) ⟨hf_o5_1_1, hf_o5_1_2⟩ rfl (by kernel_rfl) ?_ ?_
       ·repeat first|exact ⟨⟩|refine ⟨rfl,?_⟩
       exact Pick.all
      refine WP.lx tysOk rfl ⟨⟩ (CellAt.blk (.tail (.tail (.tail .head))) rfl) ?_
      refine WP.useF mm2 (A_o5_1_1, n_o5_1_1, c_o5_1_1, A_o5_1_2, n_o5_1_2, c_o5_1_2) ⟨hf_o5_1_1, hf_o5_1_2⟩ rfl (by kernel_rfl) ?_ ?_
      ·repeat first|exact ⟨⟩|refine ⟨rfl,?_⟩
      exact Pick.all
     refine WP.lx tysOk rfl ⟨⟩ (CellAt.blk (.tail (.tail (.tail .head))) rfl) ?_
     refine WP.any2 2 5 rfl (by kernel_rfl) rfl rfl ?_ ?_
     ·refine WP.mx_ tysOk rfl ⟨⟩ (SegAt.blk' (.tail (.tail (.tail (.tail .head)))) rfl) ?_
      refine WP.any1 5 rfl (by kernel_rfl) rfl ?_
      refine WP.lx tysOk rfl ⟨⟩ (CellAt.blk (.tail (.tail (.tail (.tail (.tail (.tail .head)))))) rfl) ?_
      refine WP.useF mm1 (A_o5_1_1, n_o5_1_1, c_o5_1_1, A_o5_1_2, n_o5_1_2, c_o5_1_2) ⟨hf_o5_1_1, hf_o5_1_2⟩ rfl (by kernel_rfl) ?_ ?_
      ·repeat first|exact ⟨⟩|refine ⟨rfl,?_⟩
      exact Pick.all
     refine WP.lx tysOk rfl ⟨⟩ (CellAt.blk (.tail (.tail (.tail (.tail (.tail (.tail .head)))))) rfl) ?_
     refine WP.useF mm2 (A_o5_1_1, n_o5_1_1, c_o5_1_1, A_o5_1_2, n_o5_1_2, c_o5_1_2) ⟨hf_o5_1_1, hf_o5_1_2⟩ rfl (by kernel_rfl) ?_ ?_
     ·repeat first|exact ⟨⟩|refine ⟨rfl,?_⟩
     exact Pick.all
    ·refine WP.mx_ tysOk rfl ⟨⟩ (SegAt.blk' (.tail (.tail .head)) rfl) ?_
     refine WP.useF mm8 () True.intro rfl (by kernel_rfl) ?_ ?_
     ·repeat first|exact ⟨⟩|refine ⟨rfl,?_⟩
     exact Pick.all
    ·refine WP.lx tysOk rfl ⟨⟩ (CellAt.blk (.tail (.tail (.tail (.tail .head)))) rfl) ?_
     refine WP.useF mm9 () True.intro rfl (by kernel_rfl) ?_ ?_
     ·repeat first|exact ⟨⟩|refine ⟨rfl,?_⟩
     exact Pick.all
    refine WP.lx tysOk rfl ⟨⟩ (CellAt.blk (.tail .head) rfl) ?_
    refine WP.useF mm10 () True.intro rfl (by kernel_rfl) ?_ ?_
    ·repeat first|exact ⟨⟩|refine ⟨rfl,?_⟩
    exact Pick.all
   ·refine WP.mx_ tysOk rfl ⟨⟩ (SegAt.blk' (.tail (.tail .head)) rfl) ?_
    refine WP.any3 0 5 7 rfl (by kernel_rfl) rfl rfl rfl ?_ ?_ ?_
    ·refine WP.mx_ tysOk rfl ⟨⟩ (SegAt.blk' (.tail (.tail (.tail (.tail (.tail (.tail (.tail (.tail .head)))))))) rfl) ?_
     refine WP.useF mm8 () True.intro rfl (by kernel_rfl) ?_ ?_
     ·repeat first|exact ⟨⟩|refine ⟨rfl,?_⟩
     exact Pick.all
    ·refine WP.lx tysOk rfl ⟨⟩ (CellAt.blk (.tail (.tail (.tail (.tail .head)))) rfl) ?_
     refine WP.useF mm11 () True.intro rfl (by kernel_rfl) ?_ ?_
     ·repeat first|exact ⟨⟩|refine ⟨rfl,?_⟩
     exact Pick.all
    refine WP.lx tysOk rfl ⟨⟩ (CellAt.blk (.tail .head) rfl) ?_
    refine WP.useF mm12 () True.intro rfl (by kernel_rfl) ?_ ?_
    ·repeat first|exact ⟨⟩|refine ⟨rfl,?_⟩
    exact Pick.all
   ·refine WP.lx tysOk rfl ⟨⟩ (CellAt.blk (.tail (.tail (.tail (.tail .head)))) rfl) ?_
    refine WP.any3 0 2 7 rfl (by kernel_rfl) rfl rfl rfl ?_ ?_ ?_
    ·refine WP.mx_ tysOk rfl ⟨⟩ (SegAt.blk' (.tail (.tail (.tail (.tail (.tail (.tail (.tail (.tail .head)))))))) rfl) ?_
     refine WP.useF mm9 () True.intro rfl (by kernel_rfl) ?_ ?_
     ·repeat first|exact ⟨⟩|refine ⟨rfl,?_⟩
     exact Pick.all
    ·refine WP.mx_ tysOk rfl ⟨⟩ (SegAt.blk' (.tail (.tail .head)) rfl) ?_
     refine WP.useF mm11 () True.intro rfl (by kernel_rfl) ?_ ?_
     ·repeat first|exact ⟨⟩|refine ⟨rfl,?_⟩
     exact Pick.all
    refine WP.lx tysOk rfl ⟨⟩ (CellAt.blk (.tail .head) rfl) ?_
    refine WP.useF mm13 () True.intro rfl (by kernel_rfl) ?_ ?_
    ·repeat first|exact ⟨⟩|refine ⟨rfl,?_⟩
    exact Pick.all
   refine WP.lx tysOk rfl ⟨⟩ (CellAt.blk (.tail .head) rfl) ?_
   refine WP.any3 0 2 5 rfl (by kernel_rfl) rfl rfl rfl ?_ ?_ ?_
   ·refine WP.mx_ tysOk rfl ⟨⟩ (SegAt.blk' (.tail (.tail (.tail (.tail (.tail (.tail (.tail (.tail .head)))))))) rfl) ?_
    refine WP.useF mm10 () True.intro rfl (by kernel_rfl) ?_ ?_
    ·repeat first|exact ⟨⟩|refine ⟨rfl,?_⟩
    exact Pick.all
   ·refine WP.mx_ tysOk rfl ⟨⟩ (SegAt.blk' (.tail (.tail .head)) rfl) ?_
    refine WP.useF mm12 () True.intro rfl (by kernel_rfl) ?_ ?_
    ·repeat first|exact ⟨⟩|refine ⟨rfl,?_⟩
    exact Pick.all
   refine WP.lx tysOk rfl ⟨⟩ (CellAt.blk (.tail (.tail (.tail (.tail .head)))) rfl) ?_
   refine WP.useF mm13 () True.intro rfl (by kernel_rfl) ?_ ?_
   ·repeat first|exact ⟨⟩|refine ⟨rfl,?_⟩
   exact Pick.all
  rintro ⟨A_o5_1_1, n_o5_1_1, c_o5_1_1, A_o5_1_2, n_o5_1_2, c_o5_1_2, Zp_o5_9_1, Zp_o5_9_2, Zp_o5_9_3, Zp_o5_9_4, Zn_o5_9_1, A_o5_9_1, c_o5_9_1, A_o5_9_2, c_o5_9_2, A_o5_9_3, c_o5_9_3, A_o5_9_4, c_o5_9_4⟩ ⟨hf_o5_1_1, hf_o5_1_2, hz_o5_9_1, hz_o5_9_2, hz_o5_9_3, hz_o5_9_4, hs_o5_9_1, hs_o5_9_2, hs_o5_9_3, hs_o5_9_4⟩
  dsimp only at hf_o5_1_1 hf_o5_1_2 hz_o5_9_1 hz_o5_9_2 hz_o5_9_3 hz_o5_9_4 hs_o5_9_1 hs_o5_9_2 hs_o5_9_3 hs_o5_9_4 ⊢
  cases h
  refine WP.retR tysOk rfl rfl ⟨_, _, _, _, rfl, ⟨_, rfl, .inr ⟨rfl, _, rfl, rfl, (SegAt.blk' (z := 8) .head rfl).1⟩⟩, ⟨_, _, rfl, rfl, rfl⟩, rfl⟩ (fun w1 hw1 => ⟨_, _, rfl, ⟨PH.new _ w1, A_o5_9_1, r_o5_9_1.1.inst.supply.length, c_o5_9_1, A_o5_9_2, r_o5_9_1.1.inst.arcs.length, c_o5_9_2, A_o5_9_3, r_o5_9_1.1.rcd.was.supply.length, c_o5_9_3, A_o5_9_4, r_o5_9_1.1.rcd.was.arcs.length, c_o5_9_4, rfl, rfl, rfl, rfl, rfl, hs_o5_9_1.le' (PH.or_le (PH.or_le (PH.or_le (PH.or_le ((hw1.fzNew (.cons (.tail (.tail (.tail (.tail (.tail .head))))) (.cons (.tail (.tail (.tail (.tail (.tail (.tail (.tail (.tail (.tail (.tail (.tail .head))))))))))) .nil))).trans (PH.new_le_or hZ)) ((hw1.fzNew (.cons (.tail (.tail (.tail (.tail .head)))) (.cons (.tail (.tail (.tail (.tail (.tail (.tail (.tail (.tail (.tail (.tail (.tail .head))))))))))) .nil))).trans (PH.new_le_or hZ))) ((hw1.fzNew (.cons (.tail (.tail (.tail .head))) (.cons (.tail (.tail (.tail (.tail (.tail (.tail (.tail (.tail (.tail (.tail (.tail .head))))))))))) .nil))).trans (PH.new_le_or hZ))) ((hw1.fzNew (.cons (.tail (.tail .head)) (.cons (.tail (.tail (.tail (.tail (.tail (.tail (.tail (.tail (.tail (.tail (.tail .head))))))))))) .nil))).trans (PH.new_le_or hZ))) ((hw1.fzNew (.cons (.tail .head) (.cons (.tail (.tail (.tail (.tail (.tail (.tail (.tail (.tail (.tail (.tail (.tail .head))))))))))) .nil))).trans (PH.new_le_or hZ))), hs_o5_9_2.le' (PH.or_le (PH.or_le (PH.or_le (PH.or_le ((hw1.fzNew (.cons (.tail (.tail (.tail (.tail (.tail .head))))) (.cons (.tail (.tail (.tail (.tail (.tail (.tail (.tail (.tail (.tail (.tail (.tail .head))))))))))) .nil))).trans (PH.new_le_or hZ)) ((hw1.fzNew (.cons (.tail (.tail (.tail (.tail .head)))) (.cons (.tail (.tail (.tail (.tail (.tail (.tail (.tail (.tail (.tail (.tail (.tail .head))))))))))) .nil))).trans (PH.new_le_or hZ))) ((hw1.fzNew (.cons (.tail (.tail (.tail .head))) (.cons (.tail (.tail (.tail (.tail (.tail (.tail (.tail (.tail (.tail (.tail (.tail .head))))))))))) .nil))).trans (PH.new_le_or hZ))) ((hw1.fzNew (.cons (.tail (.tail .head)) (.cons (.tail (.tail (.tail (.tail (.tail (.tail (.tail (.tail (.tail (.tail (.tail .head))))))))))) .nil))).trans (PH.new_le_or hZ))) ((hw1.fzNew (.cons (.tail .head) (.cons (.tail (.tail (.tail (.tail (.tail (.tail (.tail (.tail (.tail (.tail (.tail .head))))))))))) .nil))).trans (PH.new_le_or hZ))), hs_o5_9_3.le' (PH.or_le (PH.or_le (PH.or_le (PH.or_le ((hw1.fzNew (.cons (.tail (.tail (.tail (.tail (.tail .head))))) (.cons (.tail (.tail (.tail (.tail (.tail (.tail (.tail (.tail (.tail (.tail (.tail .head))))))))))) .nil))).trans (PH.new_le_or hZ)) ((hw1.fzNew (.cons (.tail (.tail (.tail (.tail .head)))) (.cons (.tail (.tail (.tail (.tail (.tail (.tail (.tail (.tail (.tail (.tail (.tail .head))))))))))) .nil))).trans (PH.new_le_or hZ))) ((hw1.fzNew (.cons (.tail (.tail (.tail .head))) (.cons (.tail (.tail (.tail (.tail (.tail (.tail (.tail (.tail (.tail (.tail (.tail .head))))))))))) .nil))).trans (PH.new_le_or hZ))) ((hw1.fzNew (.cons (.tail (.tail .head)) (.cons (.tail (.tail (.tail (.tail (.tail (.tail (.tail (.tail (.tail (.tail (.tail .head))))))))))) .nil))).trans (PH.new_le_or hZ))) ((hw1.fzNew (.cons (.tail .head) (.cons (.tail (.tail (.tail (.tail (.tail (.tail (.tail (.tail (.tail (.tail (.tail .head))))))))))) .nil))).trans (PH.new_le_or hZ))), hs_o5_9_4.le' (PH.or_le (PH.or_le (PH.or_le (PH.or_le ((hw1.fzNew (.cons (.tail (.tail (.tail (.tail (.tail .head))))) (.cons (.tail (.tail (.tail (.tail (.tail (.tail (.tail (.tail (.tail (.tail (.tail .head))))))))))) .nil))).trans (PH.new_le_or hZ)) ((hw1.fzNew (.cons (.tail (.tail (.tail (.tail .head)))) (.cons (.tail (.tail (.tail (.tail (.tail (.tail (.tail (.tail (.tail (.tail (.tail .head))))))))))) .nil))).trans (PH.new_le_or hZ))) ((hw1.fzNew (.cons (.tail (.tail (.tail .head))) (.cons (.tail (.tail (.tail (.tail (.tail (.tail (.tail (.tail (.tail (.tail (.tail .head))))))))))) .nil))).trans (PH.new_le_or hZ))) ((hw1.fzNew (.cons (.tail (.tail .head)) (.cons (.tail (.tail (.tail (.tail (.tail (.tail (.tail (.tail (.tail (.tail (.tail .head))))))))))) .nil))).trans (PH.new_le_or hZ))) ((hw1.fzNew (.cons (.tail .head) (.cons (.tail (.tail (.tail (.tail (.tail (.tail (.tail (.tail (.tail (.tail (.tail .head))))))))))) .nil))).trans (PH.new_le_or hZ))), rfl⟩, Ret.freeze hw1 (.cons (.tail (.tail (.tail (.tail (.tail (.tail (.tail (.tail (.tail (.tail (.tail (.tail .head)))))))))))) .nil)⟩)

abbrev leaf_run_1_S (Z : PH) (r : Step × Int) : Value → Heap → Prop := fun v L => ∃ (Zn : PH) (A1 : Option Addr) (n1 c1 : Nat) (A2 : Option Addr) (n2 c2 : Nat) (A3 : Option Addr) (n3 c3 : Nat) (A4 : Option Addr) (n4 c4 : Nat), v = .tuple #[.agg #[.slice A1 n1 c1, .slice A2 n2 c2, iv r.1.rcd.pass, .slice A3 n3 c3, .slice A4 n4 c4, iv r.1.off.hi, .int .u64 (r.1.off.lo), .bool (r.1.did)], .int .u16 (r.2)] ∧ n1 = r.1.inst.supply.length ∧ n2 = r.1.inst.arcs.length ∧ n3 = r.1.rcd.was.supply.length ∧ n4 = r.1.rcd.was.arcs.length ∧ FzS (fI .i64) (Z.or Zn) A1 c1 r.1.inst.supply ∧ FzS fA (Z.or Zn) A2 c2 r.1.inst.arcs ∧ FzS (fI .i64) (Z.or Zn) A3 c3 r.1.rcd.was.supply ∧ FzS fA (Z.or Zn) A4 c4 r.1.rcd.was.arcs ∧ L = [.fz Zn]
set_option maxRecDepth 20000 in
set_option maxHeartbeats 8000000 in
theorem leaf_run_1_w {w : World} {Z : PH} (hZ : Z.le (PH.of w)) {v0 : Value} {i1 : Inst} {r : Step × Int} (h : leaf_run_1 i1 = some r) (p1 : InsZ Z v0 i1) (pg : GlobE (PH.of w)) :
    Calls Tryz.prog 38 #[v0, .func (.func 39) #[] #[]] w fun e w' => ∃ v L, e = .returned v ∧ leaf_run_1_S Z r v L ∧ Ret w w' L := by
  obtain ⟨A1, c1, A2, c2, rfl, hs1, hs2⟩ := p1
  unfold leaf_run_1 at h
  refine enter_ Tryz.func38 rfl Tryz.ntmps38 rfl ?_
  refine WP.box rfl rfl rfl rfl rfl rfl ?_
  intro g1
  refine WP.al tysOk rfl rfl rfl rfl rfl rfl ?_
  intro g2
  refine WP.sx tysOk rfl ⟨⟨⟩, ⟨⟩⟩ ?_
  refine WP.mx_ tysOk rfl ⟨⟩ (SegAt.blk' (.tail .head) rfl) ?_
  obtain ⟨r1, hg1, h⟩ := bind_some h
  refine WP.callV rfl rfl rfl rfl rfl rfl rfl (by kernel_rfl) (fun w1 hw1 => (inst_Right_w hg1 (InsZ.mk_ ((hs1.le' ((Held.sub (Held.mem (List.Mem.tail _ (List.Mem.tail _ (List.Mem.head _)))) hZ) _ _ hw1)).of) ((hs2.le' ((Held.sub (Held.mem (List.Mem.tail _ (List.Mem.tail _ (List.Mem.head _)))) hZ) _ _ hw1)).of)) :)) ⟨⟩ ?_
  iterate 3 (refine WP.sx tysOk rfl ⟨⟨⟩, ⟨⟩⟩ ?_)
  refine WP.cond_d rfl rfl (fun hh1 => ?_) (fun hh1 => ?_)
  ·rw [if_pos hh1] at h
   refine WP.bld (cs := [sn, sn, iv 0, sn, sn, iv 0, .int .u64 (0), .bool (false)]) tysOk rfl ⟨⟩ rfl rfl rfl rfl rfl rfl rfl ?_
   refine WP.sx tysOk rfl ⟨⟨⟩, ⟨⟩⟩ ?_
   refine WP.sto' tysOk [sn, sn, iv 0, sn, sn, iv 0, .int .u64 (0), .bool (false)] rfl rfl rfl rfl rfl rfl rfl rfl rfl .head rfl rfl ?_
   refine WP.sx tysOk rfl ⟨⟨⟩, ⟨⟩⟩ ?_
   cases h
   refine WP.retR tysOk rfl rfl ⟨_, _, _, _, rfl, ⟨_, rfl, .inr ⟨rfl, _, rfl, rfl, (SegAt.blk' (z := 8) .head rfl).1⟩⟩, ⟨_, _, rfl, rfl, rfl⟩, rfl⟩ (fun w1 hw1 => ⟨_, _, rfl, ⟨PH.new _ w1, none, 0, 0, none, 0, 0, none, 0, 0, none, 0, 0, rfl, rfl, rfl, rfl, rfl, FzS.nil_, FzS.nil_, FzS.nil_, FzS.nil_, rfl⟩, Ret.freeze hw1 (.cons (.tail (.tail .head)) .nil)⟩)
  rw [if_neg hh1] at h
  refine WP.sx tysOk rfl ⟨⟨⟩, ⟨⟩⟩ ?_
  refine WP.mx_ tysOk rfl ⟨⟩ (SegAt.blk' (.tail .head) rfl) ?_
  obtain ⟨r2, hg2, h⟩ := bind_some h
  refine WP.callS (leaf_leaf_S Z r2) rfl rfl rfl rfl rfl rfl rfl (by kernel_rfl) (fun w1 hw1 => (leaf_leaf_w (Z := Z) ((Held.sub (Held.mem (List.Mem.tail _ (List.Mem.tail _ (List.Mem.head _)))) hZ) _ _ hw1) hg2 (InsZ.mk_ ((hs1.le' PH.le.rfl_).of) ((hs2.le' PH.le.rfl_).of)) :)) ?_
  rintro _ _ ⟨Zn1, A3, _, c3, A4, _, c4, A5, _, c5, A6, _, c6, rfl, rfl, rfl, rfl, rfl, hs3, hs4, hs5, hs6, rfl⟩
  iterate 3 (refine WP.sx tysOk rfl ⟨⟨⟩, ⟨⟩⟩ ?_)
  refine WP.al tysOk rfl rfl rfl rfl rfl rfl ?_
  intro g3
  refine WP.sto' tysOk [.slice A3 r2.1.inst.supply.length c3, .slice A4 r2.1.inst.arcs.length c4, iv r2.1.rcd.pass, .slice A5 r2.1.rcd.was.supply.length c5, .slice A6 r2.1.rcd.was.arcs.length c6, iv r2.1.off.hi, .int .u64 (r2.1.off.lo), .bool (r2.1.did)] rfl rfl rfl rfl rfl rfl rfl rfl rfl .head rfl rfl ?_
  refine WP.sx tysOk rfl ⟨⟨⟩, ⟨⟩⟩ ?_
  refine WP.al tysOk rfl rfl rfl rfl rfl rfl ?_
  intro g4
  refine WP.sx tysOk rfl ⟨⟨⟩, ⟨⟩⟩ ?_
  refine WP.mki rfl ⟨⟩ rfl rfl rfl rfl rfl (fun _ => by kernel_rfl) ?_
  refine WP.callT [.blk g3 40 [.slice A3 r2.1.inst.supply.length c3, .slice A4 r2.1.inst.arcs.length c4, iv r2.1.rcd.pass, .slice A5 r2.1.rcd.was.supply.length c5, .slice A6 r2.1.rcd.was.arcs.length c6, iv r2.1.off.hi, .int .u64 (r2.1.off.lo), .bool (r2.1.did)], .fz Zn1, .blk g2 40 [sn, sn, iv 0, sn, sn, iv 0, .int .u64 (0), .bool (false)], .blk g1 25 [.slice A1 i1.supply.length c1, .slice A2 i1.arcs.length c2], .fz (PH.of w)] (fun v L => v = .bool r2.2.isSome ∧ L = [.blk g4 106 [.int .u16 (r2.2.getD 0)]]) rfl rfl rfl rfl rfl rfl rfl (by kernel_rfl) (fun w1 hw1 => as_w r2.2 (pg.le ((Held.mem (List.Mem.tail _ (List.Mem.tail _ (List.Mem.tail _ (List.Mem.tail _ (List.Mem.tail _ (List.Mem.head _))))))) _ _ hw1)) (hw1.pick Pick.all)) ?_
  rintro _ _ ⟨rfl, rfl⟩
  refine WP.cond rfl rfl (fun hh2 => ?_) (fun hh2 => ?_)
  ·rw [if_pos hh2] at h
   refine WP.join (α := Unit) (fun x => True) (fun x => [(4, pt g2), (5, .int .u16 (r2.2.getD 0))]) (fun x => [.blk g2 40 [sn, sn, iv 0, sn, sn, iv 0, .int .u64 (0), .bool (false)], .blk g4 106 [.int .u16 (r2.2.getD 0)], .blk g3 40 [.slice A3 r2.1.inst.supply.length c3, .slice A4 r2.1.inst.arcs.length c4, iv r2.1.rcd.pass, .slice A5 r2.1.rcd.was.supply.length c5, .slice A6 r2.1.rcd.was.arcs.length c6, iv r2.1.off.hi, .int .u64 (r2.1.off.lo), .bool (r2.1.did)], .fz Zn1, .blk g1 25 [.slice A1 i1.supply.length c1, .slice A2 i1.arcs.length c2], .fz (PH.of w)]) rfl ?_ ?_
   ·refine WP.drawA rfl (by kernel_rfl) ?_
    refine WP.anyP 1 tysOk putInv_body rfl rfl rfl (by kernel_rfl) (by kernel_rfl) rfl rfl rfl rfl rfl True.intro ?_
    refine WP.any2 0 2 rfl (by kernel_rfl) rfl rfl ?_ ?_
    ·refine WP.bld (cs := [sn, sn, iv 0, sn, sn, iv 0, .int .u64 (0), .bool (false)]) tysOk rfl ⟨⟩ rfl rfl rfl rfl rfl rfl rfl ?_
     refine WP.any2 2 3 rfl (by kernel_rfl) rfl rfl ?_ ?_
     ·refine WP.lx tysOk rfl ⟨⟩ (CellAt.blk .head rfl) ?_
      refine WP.any1 3 rfl (by kernel_rfl) rfl ?_
      refine WP.sto' tysOk [sn, sn, iv 0, sn, sn, iv 0, .int .u64 (0), .bool (false)] rfl rfl rfl rfl rfl rfl rfl rfl rfl (.tail (.tail (.tail .head))) rfl rfl ?_
      refine WP.anyP 4 tysOk putInv_body rfl rfl rfl (by kernel_rfl) (by kernel_rfl) rfl rfl rfl rfl rfl True.intro ?_
      refine WP.any0 rfl (by kernel_rfl) ?_
      refine WP.stop rfl () True.intro ?_ ?_
      ·repeat first|exact ⟨⟩|refine ⟨rfl,?_⟩
      exact Pick.all
     refine WP.sto' tysOk [sn, sn, iv 0, sn, sn, iv 0, .int .u64 (0), .bool (false)] rfl rfl rfl rfl rfl rfl rfl rfl rfl (.tail (.tail (.tail .head))) rfl rfl ?_
     refine WP.any1 2 rfl (by kernel_rfl) rfl ?_
     refine WP.lx tysOk rfl ⟨⟩ (CellAt.blk (.tail .head) rfl) ?_
     refine WP.anyP 4 tysOk putInv_body rfl rfl rfl (by kernel_rfl) (by kernel_rfl) rfl rfl rfl rfl rfl True.intro ?_
     refine WP.any0 rfl (by kernel_rfl) ?_
     refine WP.stop rfl () True.intro ?_ ?_
     ·repeat first|exact ⟨⟩|refine ⟨rfl,?_⟩
     exact Pick.all
    refine WP.lx tysOk rfl ⟨⟩ (CellAt.blk .head rfl) ?_
    refine WP.any1 0 rfl (by kernel_rfl) rfl ?_
    refine WP.bld (cs := [sn, sn, iv 0, sn, sn, iv 0, .int .u64 (0), .bool (false)]) tysOk rfl ⟨⟩ rfl rfl rfl rfl rfl rfl rfl ?_
    refine WP.any1 3 rfl (by kernel_rfl) rfl ?_
    refine WP.sto' tysOk [sn, sn, iv 0, sn, sn, iv 0, .int .u64 (0), .bool (false)] rfl rfl rfl rfl rfl rfl rfl rfl rfl (.tail (.tail (.tail .head))) rfl rfl ?_
    refine WP.anyP 4 tysOk putInv_body rfl rfl rfl (by kernel_rfl) (by kernel_rfl) rfl rfl rfl rfl rfl True.intro ?_
    refine WP.any0 rfl (by kernel_rfl) ?_
    refine WP.stop rfl () True.intro ?_ ?_
    ·repeat first|exact ⟨⟩|refine ⟨rfl,?_⟩
    exact Pick.all
   rintro _ _
   cases h
   refine WP.retR tysOk rfl rfl ⟨_, _, _, _, rfl, ⟨_, rfl, .inr ⟨rfl, _, rfl, rfl, (SegAt.blk' (z := 8) .head rfl).1⟩⟩, ⟨_, _, rfl, rfl, rfl⟩, rfl⟩ (fun w1 hw1 => ⟨_, _, rfl, ⟨PH.new _ w1, none, 0, 0, none, 0, 0, none, 0, 0, none, 0, 0, rfl, rfl, rfl, rfl, rfl, FzS.nil_, FzS.nil_, FzS.nil_, FzS.nil_, rfl⟩, Ret.freeze hw1 (.cons (.tail (.tail (.tail (.tail (.tail .head))))) .nil)⟩)
  rw [if_neg (bneg hh2)] at h
  refine WP.mx_ tysOk rfl ⟨⟩ (SegAt.blk' (.tail .head) rfl) ?_
  refine WP.sto' tysOk [.slice A3 r2.1.inst.supply.length c3, .slice A4 r2.1.inst.arcs.length c4, iv r2.1.rcd.pass, .slice A5 r2.1.rcd.was.supply.length c5, .slice A6 r2.1.rcd.was.arcs.length c6, iv r2.1.off.hi, .int .u64 (r2.1.off.lo), .bool (r2.1.did)] rfl rfl rfl rfl rfl rfl rfl rfl rfl (.tail (.tail (.tail .head))) rfl rfl ?_
  refine WP.sx tysOk rfl ⟨⟨⟩, ⟨⟩⟩ ?_
  cases h
  refine WP.retR tysOk rfl rfl ⟨_, _, _, _, rfl, ⟨_, rfl, .inr ⟨rfl, _, rfl, rfl, (SegAt.blk' (z := 8) .head rfl).1⟩⟩, ⟨_, _, rfl, rfl, rfl⟩, rfl⟩ (fun w1 hw1 => ⟨_, _, rfl, ⟨PH.new _ w1, A3, r2.1.inst.supply.length, c3, A4, r2.1.inst.arcs.length, c4, A5, r2.1.rcd.was.supply.length, c5, A6, r2.1.rcd.was.arcs.length, c6, rfl, rfl, rfl, rfl, rfl, hs3.le' (PH.or_le (PH.le_or _ _) ((hw1.fzNew (.cons (.tail (.tail (.tail .head))) (.cons (.tail (.tail (.tail (.tail .head)))) .nil))).trans (PH.new_le_or hZ))), hs4.le' (PH.or_le (PH.le_or _ _) ((hw1.fzNew (.cons (.tail (.tail (.tail .head))) (.cons (.tail (.tail (.tail (.tail .head)))) .nil))).trans (PH.new_le_or hZ))), hs5.le' (PH.or_le (PH.le_or _ _) ((hw1.fzNew (.cons (.tail (.tail (.tail .head))) (.cons (.tail (.tail (.tail (.tail .head)))) .nil))).trans (PH.new_le_or hZ))), hs6.le' (PH.or_le (PH.le_or _ _) ((hw1.fzNew (.cons (.tail (.tail (.tail .head))) (.cons (.tail (.tail (.tail (.tail .head)))) .nil))).trans (PH.new_le_or hZ))), rfl⟩, Ret.freeze hw1 (.cons (.tail (.tail (.tail (.tail (.tail .head))))) .nil)⟩)

abbrev leaf_Leaf_S (Z : PH) (r : Step × Int) : Value → Heap → Prop := fun v L => ∃ (Zn : PH) (A1 : Option Addr) (n1 c1 : Nat) (A2 : Option Addr) (n2 c2 : Nat) (A3 : Option Addr) (n3 c3 : Nat) (A4 : Option Addr) (n4 c4 : Nat), v = .tuple #[.agg #[.slice A1 n1 c1, .slice A2 n2 c2, iv r.1.rcd.pass, .slice A3 n3 c3, .slice A4 n4 c4, iv r.1.off.hi, .int .u64 (r.1.off.lo), .bool (r.1.did)], .int .u16 (r.2)] ∧ n1 = r.1.inst.supply.length ∧ n2 = r.1.inst.arcs.length ∧ n3 = r.1.rcd.was.supply.length ∧ n4 = r.1.rcd.was.arcs.length ∧ FzS (fI .i64) (Z.or Zn) A1 c1 r.1.inst.supply ∧ FzS fA (Z.or Zn) A2 c2 r.1.inst.arcs ∧ FzS (fI .i64) (Z.or Zn) A3 c3 r.1.rcd.was.supply ∧ FzS fA (Z.or Zn) A4 c4 r.1.rcd.was.arcs ∧ L = [.fz Zn]
set_option maxRecDepth 20000 in
set_option maxHeartbeats 8000000 in
theorem leaf_Leaf_w {w : World} {Z : PH} (hZ : Z.le (PH.of w)) {v0 : Value} {i1 : Inst} {r : Step × Int} (h : leaf_Leaf i1 = some r) (p1 : InsZ Z v0 i1) (pg : GlobE (PH.of w)) :
    Calls Tryz.prog 14 #[v0] w fun e w' => ∃ v L, e = .returned v ∧ leaf_Leaf_S Z r v L ∧ Ret w w' L := by
  obtain ⟨A1, c1, A2, c2, rfl, hs1, hs2⟩ := p1
  unfold leaf_Leaf at h
  refine enter_ Tryz.func14 rfl Tryz.ntmps14 rfl ?_
  refine WP.box rfl rfl rfl rfl rfl rfl ?_
  intro g1
  refine WP.al tysOk rfl rfl rfl rfl rfl rfl ?_
  intro g2
  refine WP.sx tysOk rfl ⟨⟨⟩, ⟨⟩⟩ ?_
  refine WP.mx_ tysOk rfl ⟨⟩ (SegAt.blk' (.tail .head) rfl) ?_
  obtain ⟨r1, hg1, h⟩ := bind_some h
  refine WP.callS (leaf_run_1_S Z r1) rfl rfl rfl rfl rfl rfl rfl (by kernel_rfl) (fun w1 hw1 => (leaf_run_1_w (Z := Z) ((Held.sub (Held.mem (List.Mem.tail _ (List.Mem.tail _ (List.Mem.head _)))) hZ) _ _ hw1) hg1 (InsZ.mk_ ((hs1.le' PH.le.rfl_).of) ((hs2.le' PH.le.rfl_).of)) (pg.le ((Held.mem (List.Mem.tail _ (List.Mem.tail _ (List.Mem.head _)))) _ _ hw1)) :)) ?_
  rintro _ _ ⟨Zn1, A3, _, c3, A4, _, c4, A5, _, c5, A6, _, c6, rfl, rfl, rfl, rfl, rfl, hs3, hs4, hs5, hs6, rfl⟩
  iterate 2 (refine WP.sx tysOk rfl ⟨⟨⟩, ⟨⟩⟩ ?_)
  refine WP.sto' tysOk [.slice A3 r1.1.inst.supply.length c3, .slice A4 r1.1.inst.arcs.length c4, iv r1.1.rcd.pass, .slice A5 r1.1.rcd.was.supply.length c5, .slice A6 r1.1.rcd.was.arcs.length c6, iv r1.1.off.hi, .int .u64 (r1.1.off.lo), .bool (r1.1.did)] rfl rfl rfl rfl rfl rfl rfl rfl rfl (.tail .head) rfl rfl ?_
  refine WP.sx tysOk rfl ⟨⟨⟩, ⟨⟩⟩ ?_
  cases h
  refine WP.retR tysOk rfl rfl ⟨_, _, _, _, rfl, ⟨_, rfl, .inr ⟨rfl, _, rfl, rfl, (SegAt.blk' (z := 8) .head rfl).1⟩⟩, ⟨_, _, rfl, rfl, rfl⟩, rfl⟩ (fun w1 hw1 => ⟨_, _, rfl, ⟨PH.new _ w1, A3, r1.1.inst.supply.length, c3, A4, r1.1.inst.arcs.length, c4, A5, r1.1.rcd.was.supply.length, c5, A6, r1.1.rcd.was.arcs.length, c6, rfl, rfl, rfl, rfl, rfl, hs3.le' (PH.or_le (PH.le_or _ _) ((hw1.fzNew (.cons (.tail .head) (.cons (.tail (.tail .head)) .nil))).trans (PH.new_le_or hZ))), hs4.le' (PH.or_le (PH.le_or _ _) ((hw1.fzNew (.cons (.tail .head) (.cons (.tail (.tail .head)) .nil))).trans (PH.new_le_or hZ))), hs5.le' (PH.or_le (PH.le_or _ _) ((hw1.fzNew (.cons (.tail .head) (.cons (.tail (.tail .head)) .nil))).trans (PH.new_le_or hZ))), hs6.le' (PH.or_le (PH.le_or _ _) ((hw1.fzNew (.cons (.tail .head) (.cons (.tail (.tail .head)) .nil))).trans (PH.new_le_or hZ))), rfl⟩, Ret.freeze hw1 (.cons (.tail (.tail (.tail .head))) .nil)⟩)

set_option maxRecDepth 20000 in
set_option maxHeartbeats 8000000 in
theorem leaf_Tip_w {w : World} {v0 : Value} {i1 : Inst} {n1 : Int} {r : Int × Int × Bool} (h : leaf_Tip i1 n1 = some r) (p1 : InsZ (PH.of w) v0 i1) :
    Calls Tryz.prog 15 #[v0, iv n1] w fun e w' => e = .returned (.tuple #[iv r.1, iv r.2.1, .bool (r.2.2)]) ∧ Below w.heap.size w w' := by
  obtain ⟨A1, c1, A2, c2, rfl, hs1, hs2⟩ := p1
  unfold leaf_Tip at h
  refine enter_ Tryz.func15 rfl Tryz.ntmps15 rfl ?_
  refine WP.box rfl rfl rfl rfl rfl rfl ?_
  intro g1
  iterate 3 (refine WP.sx tysOk rfl ⟨⟨⟩, ⟨⟩⟩ ?_)
  obtain ⟨r1, hg1, h⟩ := bind_some h
  obtain ⟨r2, hg2, h⟩ := bind_some h
  refine WP.edges [(9, 7)] putInv_body rfl rfl (by kernel_rfl) (by kernel_rfl) ?_
  refine WP.heads [0, 1, 2, 3, 4, 5, 6, 7, 8] [9, 10] [(1, [], fun _ => adj_New_S r1), (4, [1], fun _ => constSpec (.tuple #[.agg #[iv r2.1.a, iv r2.1.n], .bool (r2.2)])), (8, [], fun _ => blkSpec 70 [iv 0, iv 0])] rfl (by kernel_rfl) (by decide) rfl (by kernel_rfl) (by kernel_rfl) ?_
  refine WP.mx_ tysOk rfl ⟨⟨rfl, rfl⟩, rfl⟩ (SegAt.blk' .head rfl) ?_
  refine WP.lcall rfl ⟨rfl, rfl⟩ rfl rfl rfl rfl rfl rfl rfl (by kernel_rfl) (fun w1 hw1 => (adj_New_w hg1 (InsZ.mk_ ((hs1.le' ((Held.mem (List.Mem.tail _ (List.Mem.head _))) _ _ hw1)).of) ((hs2.le' ((Held.mem (List.Mem.tail _ (List.Mem.head _))) _ _ hw1)).of)) :)) ?_
  rintro vg1 _ ⟨Zn1, hgr1, rfl⟩
  obtain ⟨gg1, rfl⟩ := hgr1.ptr'
  refine WP.mx_ tysOk rfl ⟨⟨rfl, rfl⟩, rfl⟩ (SegAt.blk' .head rfl) ?_
  refine WP.sx tysOk rfl ⟨⟨⟨rfl, rfl⟩, rfl⟩, ⟨⟩⟩ ?_
  refine WP.lcall rfl ⟨rfl, rfl⟩ rfl rfl rfl rfl rfl rfl rfl (by kernel_rfl) (fun w1 hw1 => ((leaf_tipOf_w hg2 (hgr1.le ((Held.mem (List.Mem.head _)) _ _ hw1)) (InsZ.mk_ ((hs1.le' ((Held.mem (List.Mem.tail _ (List.Mem.tail _ (List.Mem.head _)))) _ _ hw1)).of) ((hs2.le' ((Held.mem (List.Mem.tail _ (List.Mem.tail _ (List.Mem.head _)))) _ _ hw1)).of)) :)).mono fun e w' h => ⟨_, [], h.1, ⟨rfl, rfl⟩, Ret.nil h.2⟩) ?_
  rintro _ _ ⟨rfl, rfl⟩
  iterate 3 (refine WP.sx tysOk rfl ⟨⟨⟨rfl, rfl⟩, rfl⟩, ⟨⟩⟩ ?_)
  refine WP.lal tysOk rfl ⟨rfl, rfl⟩ rfl rfl rfl rfl rfl rfl rfl ?_
  intro g2
  refine WP.lend rfl ⟨rfl, rfl⟩ ?_
  refine WP.joinA (α := Unit) (fun x => True) (fun x => [(7, pt g2), (8, .bool (r2.2))]) (fun x => [.blk g2 70 [iv r2.1.a, iv r2.1.n], .fz Zn1, .blk g1 25 [.slice A1 i1.supply.length c1, .slice A2 i1.arcs.length c2], .fz (PH.of w)]) rfl ?_ ?_
  ·refine WP.any1 9 rfl (by kernel_rfl) rfl ?_
   refine WP.sto' tysOk [iv r2.1.a, iv r2.1.n] rfl rfl rfl rfl rfl rfl rfl rfl rfl .head rfl rfl ?_
   refine WP.anyP 10 tysOk putInv_body rfl rfl rfl (by kernel_rfl) (by kernel_rfl) rfl rfl rfl rfl rfl True.intro ?_
   refine WP.any0 rfl (by kernel_rfl) ?_
   refine WP.stop rfl () True.intro ?_ ?_
   ·repeat first|exact ⟨⟩|refine ⟨rfl,?_⟩
   exact Pick.all
  rintro _ _
  refine WP.draw rfl (by kernel_rfl) (by kernel_rfl) ?_
  refine WP.sx tysOk rfl ⟨rfl, ⟨⟩⟩ ?_
  refine WP.lx tysOk rfl rfl (CellAt.blk .head rfl) ?_
  refine WP.sx tysOk rfl ⟨rfl, ⟨⟩⟩ ?_
  refine WP.lx tysOk rfl rfl (CellAt.blk .head rfl) ?_
  iterate 4 (refine WP.sx tysOk rfl ⟨rfl, ⟨⟩⟩ ?_)
  refine WP.qend rfl ?_
  cases h
  refine WP.retR tysOk rfl rfl ⟨_, _, rfl, ⟨_, _, rfl, ⟨_, _, rfl, rfl, rfl⟩, rfl⟩, rfl⟩ (fun w1 hw1 => ⟨rfl, Ret.below_ hw1 (.cons (.tail (.tail (.tail .head))) .nil)⟩)

set_option maxRecDepth 20000 in
set_option maxHeartbeats 8000000 in
theorem num_Of_w {w : World} {a1 : Int} {r : Wide} (h : num_Of a1 = some r) :
    Calls Tryz.prog 28 #[iv a1] w fun e w' => e = .returned (.agg #[iv r.hi, .int .u64 (r.lo)]) ∧ Below w.heap.size w w' := by
  unfold num_Of at h
  refine enter_ Tryz.func28 rfl Tryz.ntmps28 rfl ?_
  refine WP.al tysOk rfl rfl rfl rfl rfl rfl ?_
  intro g1
  refine WP.sx tysOk rfl ⟨⟨⟩, ⟨⟩⟩ ?_
  refine WP.sx tysOk rfl ⟨⟨⟩, (by decide)⟩ ?_
  iterate 2 (refine WP.sx tysOk rfl ⟨⟨⟩, ⟨⟩⟩ ?_)
  refine WP.bld (cs := [iv (a1.fdiv (2 ^ (min (63 : Int).toNat (IntKind.bits .i64)))), .int .u64 (IntKind.wrap .u64 (a1))]) tysOk rfl ⟨⟩ rfl rfl rfl rfl rfl rfl rfl ?_
  refine WP.sto' tysOk [iv (a1.fdiv (2 ^ (min (63 : Int).toNat (IntKind.bits .i64)))), .int .u64 (IntKind.wrap .u64 (a1))] rfl rfl rfl rfl rfl rfl rfl rfl rfl .head rfl rfl ?_
  cases h
  refine WP.retR tysOk rfl rfl ⟨_, _, _, _, rfl, ⟨_, rfl, .inr ⟨rfl, _, rfl, rfl, (SegAt.blk' (z := 2) .head rfl).1⟩⟩, rfl, rfl⟩ (fun w1 hw1 => ⟨rfl, Ret.below_ hw1 (.cons (.tail .head) .nil)⟩)

set_option maxRecDepth 20000 in
set_option maxHeartbeats 8000000 in
theorem ref03_Nums_w {w : World} {v0 : Value} {v1 : Value} {a1 : List Int} {b1 : List Int} {r : Bool} (h : ref03_Nums a1 b1 = some r) (p1 : SlF (fI .i64) (PH.of w) v0 a1) (p2 : SlF (fI .i64) (PH.of w) v1 b1) :
    Calls Tryz.prog 56 #[v0, v1] w fun e w' => e = .returned (.bool (r)) ∧ Below w.heap.size w w' := by
  obtain ⟨A1, c1, rfl, hs1⟩ := p1
  obtain ⟨A2, c2, rfl, hs2⟩ := p2
  unfold ref03_Nums at h
  refine enter_ Tryz.func56 rfl Tryz.ntmps56 rfl ?_
  iterate 6 (refine WP.sx tysOk rfl ⟨⟨⟩, ⟨⟩⟩ ?_)
  refine WP.cond_d rfl rfl (fun hh1 => ?_) (fun hh1 => ?_)
  ·rw [if_pos hh1] at h
   refine WP.sx tysOk rfl ⟨⟨⟩, ⟨⟩⟩ ?_
   cases h
   refine WP.retR tysOk rfl rfl ⟨_, _, rfl, rfl, rfl⟩ (fun w1 hw1 => ⟨rfl, Ret.below_ hw1 (.cons .head .nil)⟩)
  rw [if_neg hh1] at h
  refine WP.sx tysOk rfl ⟨⟨⟩, ⟨⟩⟩ ?_
  refine WP.loop (α := Nat × Int) (fun x => lp (ref03_Nums_b1 a1 b1) x.1 x.2 = some r) (fun x => [(0, .slice A1 a1.length c1), (1, .slice A2 b1.length c2), (5, iv x.2)]) (fun x => [.fz (PH.of w)]) (fun x => x.1) rfl (big, 0) h ?_ ?_ ?_
  ·repeat first|exact ⟨⟩|refine ⟨rfl,?_⟩
  ·exact (.cons .head .nil)
  rintro ⟨n1, k2⟩ h
  dsimp only at h ⊢
  rcases n1 with _ | n1
  · exact (lp_no h).elim
  replace h := lp_succ h
  unfold ref03_Nums_b1 at h
  try dsimp only at h
  iterate 4 (refine WP.sx tysOk rfl ⟨⟨⟩, ⟨⟩⟩ ?_)
  refine WP.cond_d rfl rfl (fun hh6 => ?_) (fun hh6 => ?_)
  ·rw [if_pos hh6] at h
   refine WP.draw rfl (by kernel_rfl) (by kernel_rfl) ?_
   iterate 2 (refine WP.sx tysOk rfl ⟨rfl, ⟨⟩⟩ ?_)
   obtain ⟨hj5, h⟩ := ck_some h
   refine WP.ixA tysOk rfl rfl rfl rfl rfl rfl rfl rfl rfl rfl hj5 (hs1.ex hj5) ?_
   intro b6 b6v hA5
   refine WP.lx tysOk rfl rfl (hs1.at0 hA5 (Held.mem (List.Mem.head _)) hj5 rfl) ?_
   iterate 2 (refine WP.sx tysOk rfl ⟨rfl, ⟨⟩⟩ ?_)
   obtain ⟨hj6, h⟩ := ck_some h
   refine WP.ixA tysOk rfl rfl rfl rfl rfl rfl rfl rfl rfl rfl hj6 (hs2.ex hj6) ?_
   intro b7 b7v hA6
   refine WP.lx tysOk rfl rfl (hs2.at0 hA6 (Held.mem (List.Mem.head _)) hj6 rfl) ?_
   refine WP.sx tysOk rfl ⟨rfl, ⟨⟩⟩ ?_
   refine WP.qend rfl ?_
   refine WP.cond_d rfl rfl (fun hh7 => ?_) (fun hh7 => ?_)
   ·rw [if_pos hh7] at h
    refine WP.sx tysOk rfl ⟨⟨⟩, ⟨⟩⟩ ?_
    cases h
    refine WP.retR tysOk rfl rfl ⟨_, _, rfl, rfl, rfl⟩ (fun w1 hw1 => ⟨rfl, Ret.below_ hw1 (.cons .head .nil)⟩)
   rw [if_neg hh7] at h
   iterate 3 (refine WP.sx tysOk rfl ⟨⟨⟩, ⟨⟩⟩ ?_)
   refine WP.stop rfl (n1, w64 (k2 + 1)) ⟨h, Nat.lt_succ_self _⟩ ?_ ?_
   ·repeat first|exact ⟨⟩|refine ⟨rfl,?_⟩
   exact (.cons .head .nil)
  rw [if_neg hh6] at h
  refine WP.sx tysOk rfl ⟨⟨⟩, ⟨⟩⟩ ?_
  cases h
  refine WP.retR tysOk rfl rfl ⟨_, _, rfl, rfl, rfl⟩ (fun w1 hw1 => ⟨rfl, Ret.below_ hw1 (.cons .head .nil)⟩)

set_option maxRecDepth 20000 in
set_option maxHeartbeats 8000000 in
theorem ref03_Same_w {w : World} {v0 : Value} {v1 : Value} {a1 : Inst} {b1 : Inst} {r : Bool} (h : ref03_Same a1 b1 = some r) (p1 : InsZ (PH.of w) v0 a1) (p2 : InsZ (PH.of w) v1 b1) :
    Calls Tryz.prog 29 #[v0, v1] w fun e w' => e = .returned (.bool (r)) ∧ Below w.heap.size w w' := by
  obtain ⟨A1, c1, A2, c2, rfl, hs1, hs2⟩ := p1
  obtain ⟨A3, c3, A4, c4, rfl, hs3, hs4⟩ := p2
  unfold ref03_Same at h
  refine enter_ Tryz.func29 rfl Tryz.ntmps29 rfl ?_
  refine WP.box rfl rfl rfl rfl rfl rfl ?_
  intro g1
  refine WP.box rfl rfl rfl rfl rfl rfl ?_
  intro g2
  iterate 2 (refine WP.sx tysOk rfl ⟨⟨⟩, ⟨⟩⟩ ?_)
  refine WP.lx tysOk rfl ⟨⟩ (CellAt.blk (.tail .head) rfl) ?_
  refine WP.sx tysOk rfl ⟨⟨⟩, ⟨⟩⟩ ?_
  refine WP.lx tysOk rfl ⟨⟩ (CellAt.blk .head rfl) ?_
  obtain ⟨r1, hg1, h⟩ := bind_some h
  refine WP.callV rfl rfl rfl rfl rfl rfl rfl (by kernel_rfl) (fun w1 hw1 => (ref03_Nums_w hg1 (hs1.le' ((Held.mem (List.Mem.tail _ (List.Mem.tail _ (List.Mem.head _)))) _ _ hw1)).of (hs3.le' ((Held.mem (List.Mem.tail _ (List.Mem.tail _ (List.Mem.head _)))) _ _ hw1)).of :)) ⟨⟩ ?_
  iterate 2 (refine WP.sx tysOk rfl ⟨⟨⟩, ⟨⟩⟩ ?_)
  by_cases hh1 : r1 = true
  ·rw [if_pos hh1] at h
   refine WP.yes rfl rfl (by simp [hh1]) ?_
   refine WP.sx tysOk rfl ⟨⟨⟩, ⟨⟩⟩ ?_
   refine WP.yes rfl rfl rfl ?_
   refine WP.lx tysOk rfl ⟨⟩ (CellAt.blk (.tail .head) rfl) ?_
   iterate 2 (refine WP.yes rfl rfl rfl ?_; refine WP.sx tysOk rfl ⟨⟨⟩, ⟨⟩⟩ ?_)
   refine WP.yes rfl rfl rfl ?_
   refine WP.lx tysOk rfl ⟨⟩ (CellAt.blk .head rfl) ?_
   refine WP.yes rfl rfl rfl ?_
   refine WP.sx tysOk rfl ⟨⟨⟩, ⟨⟩⟩ ?_
   refine WP.yes rfl rfl rfl ?_
   iterate 2 (refine WP.sx tysOk rfl ⟨⟨⟩, ⟨⟩⟩ ?_)
   refine WP.cond_d rfl rfl (fun hh2 => ?_) (fun hh2 => ?_)
   ·rw [if_pos hh2] at h
    refine WP.sx tysOk rfl ⟨⟨⟩, ⟨⟩⟩ ?_
    cases h
    refine WP.retR tysOk rfl rfl ⟨_, _, rfl, rfl, rfl⟩ (fun w1 hw1 => ⟨rfl, Ret.below_ hw1 (.cons (.tail (.tail .head)) .nil)⟩)
   rw [if_neg hh2] at h
   refine WP.sx tysOk rfl ⟨⟨⟩, ⟨⟩⟩ ?_
   refine WP.loop (α := Nat × Int) (fun x => lp (ref03_Same_b1 a1 b1) x.1 x.2 = some r) (fun x => [(2, pt g1), (3, pt g2), (5, iv x.2)]) (fun x => [.blk g2 25 [.slice A3 b1.supply.length c3, .slice A4 b1.arcs.length c4], .blk g1 25 [.slice A1 a1.supply.length c1, .slice A2 a1.arcs.length c2], .fz (PH.of w)]) (fun x => x.1) rfl (big, 0) h ?_ ?_ ?_
   ·repeat first|exact ⟨⟩|refine ⟨rfl,?_⟩
   ·exact Pick.all
   rintro ⟨n1, k2⟩ h
   dsimp only at h ⊢
   rcases n1 with _ | n1
   · exact (lp_no h).elim
   replace h := lp_succ h
   unfold ref03_Same_b1 at h
   try dsimp only at h
   iterate 2 (refine WP.sx tysOk rfl ⟨⟨⟩, ⟨⟩⟩ ?_)
   refine WP.lx tysOk rfl ⟨⟩ (CellAt.blk (.tail .head) rfl) ?_
   iterate 2 (refine WP.sx tysOk rfl ⟨⟨⟩, ⟨⟩⟩ ?_)
   refine WP.cond_d rfl rfl (fun hh7 => ?_) (fun hh7 => ?_)
   ·rw [if_pos hh7] at h
    refine WP.draw rfl (by kernel_rfl) (by kernel_rfl) ?_
    refine WP.sx tysOk rfl ⟨rfl, ⟨⟩⟩ ?_
    refine WP.lx tysOk rfl rfl (CellAt.blk (.tail .head) rfl) ?_
    refine WP.sx tysOk rfl ⟨rfl, ⟨⟩⟩ ?_
    obtain ⟨hj5, h⟩ := ck_some h
    refine WP.ixA tysOk rfl rfl rfl rfl rfl rfl rfl rfl rfl rfl hj5 (hs2.ex hj5) ?_
    intro b6 b6v hA5
    refine WP.mx_ tysOk rfl rfl (hs2.seg hA5 (Held.mem (List.Mem.tail _ (List.Mem.tail _ (List.Mem.head _)))) hj5) ?_
    refine WP.sx tysOk rfl ⟨rfl, ⟨⟩⟩ ?_
    refine WP.lx tysOk rfl rfl (CellAt.blk .head rfl) ?_
    refine WP.sx tysOk rfl ⟨rfl, ⟨⟩⟩ ?_
    obtain ⟨hj6, h⟩ := ck_some h
    refine WP.ixA tysOk rfl rfl rfl rfl rfl rfl rfl rfl rfl rfl hj6 (hs4.ex hj6) ?_
    intro b7 b7v hA6
    refine WP.mx_ tysOk rfl rfl (hs4.seg hA6 (Held.mem (List.Mem.tail _ (List.Mem.tail _ (List.Mem.head _)))) hj6) ?_
    refine WP.neS rfl rfl rfl rfl rfl rfl rfl rfl (by kernel_rfl) (eq31 (gt a1.arcs k2) (gt b1.arcs k2)) ?_
    refine WP.qend rfl ?_
    refine WP.cond_nd rfl rfl (fun hh8 => ?_) (fun hh8 => ?_)
    ·rw [if_neg hh8] at h
     refine WP.sx tysOk rfl ⟨⟨⟩, ⟨⟩⟩ ?_
     cases h
     refine WP.retR tysOk rfl rfl ⟨_, _, rfl, rfl, rfl⟩ (fun w1 hw1 => ⟨rfl, Ret.below_ hw1 (.cons (.tail (.tail .head)) .nil)⟩)
    rw [if_pos hh8] at h
    iterate 3 (refine WP.sx tysOk rfl ⟨⟨⟩, ⟨⟩⟩ ?_)
    refine WP.stop rfl (n1, w64 (k2 + 1)) ⟨h, Nat.lt_succ_self _⟩ ?_ ?_
    ·repeat first|exact ⟨⟩|refine ⟨rfl,?_⟩
    exact Pick.all
   rw [if_neg hh7] at h
   refine WP.sx tysOk rfl ⟨⟨⟩, ⟨⟩⟩ ?_
   cases h
   refine WP.retR tysOk rfl rfl ⟨_, _, rfl, rfl, rfl⟩ (fun w1 hw1 => ⟨rfl, Ret.below_ hw1 (.cons (.tail (.tail .head)) .nil)⟩)
  rw [if_neg hh1] at h
  refine WP.no rfl rfl (by simp [hh1]) rfl rfl ?_
  iterate 6 (refine WP.no rfl rfl rfl rfl rfl ?_)
  refine WP.sx tysOk rfl ⟨⟨⟩, ⟨⟩⟩ ?_
  refine WP.condT rfl rfl ?_
  refine WP.sx tysOk rfl ⟨⟨⟩, ⟨⟩⟩ ?_
  cases h
  refine WP.retR tysOk rfl rfl ⟨_, _, rfl, rfl, rfl⟩ (fun w1 hw1 => ⟨rfl, Ret.below_ hw1 (.cons (.tail (.tail .head)) .nil)⟩)

set_option maxRecDepth 20000 in
set_option maxHeartbeats 8000000 in
theorem leaf_shut_w {w : World} {v0 : Value} {v1 : Value} {g1 : Inst} {i1 : Inst} {n1 : Int} {r : Bool} (h : leaf_shut g1 i1 n1 = some r) (p1 : GraphZ (PH.of w) v0 g1) (p2 : InsZ (PH.of w) v1 i1) :
    Calls Tryz.prog 55 #[v0, v1, iv n1] w fun e w' => e = .returned (.bool (r)) ∧ Below w.heap.size w w' := by
  obtain ⟨gg1, rfl⟩ := p1.ptr'
  obtain ⟨A1, c1, A2, c2, rfl, hs1, hs2⟩ := p2
  unfold leaf_shut at h
  refine enter_ Tryz.func55 rfl Tryz.ntmps55 rfl ?_
  refine WP.box rfl rfl rfl rfl rfl rfl ?_
  intro g2
  iterate 3 (refine WP.sx tysOk rfl ⟨⟨⟩, ⟨⟩⟩ ?_)
  obtain ⟨r1, hg1, h⟩ := bind_some h
  refine WP.callS (adj_Graph_At_S r1) rfl rfl rfl rfl rfl rfl rfl (by kernel_rfl) (fun w1 hw1 => (adj_Graph_At_w hg1 (p1.le ((Held.mem (List.Mem.tail _ (List.Mem.head _))) _ _ hw1)) :)) ?_
  rintro _ _ ⟨A3, n2, c3, rfl, hf1, rfl⟩
  iterate 2 (refine WP.sx tysOk rfl ⟨⟨⟩, ⟨⟩⟩ ?_)
  refine WP.lenO (xs := r1) tysOk rfl ⟨⟩ rfl rfl rfl rfl rfl rfl hf1 ?_
  iterate 2 (refine WP.sx tysOk rfl ⟨⟨⟩, ⟨⟩⟩ ?_)
  by_cases hh1 : (r1.length : Int) = 0
  ·rw [if_pos hh1] at h
   refine WP.no rfl rfl (decide_eq_true hh1) rfl rfl ?_
   iterate 3 (refine WP.no rfl rfl rfl rfl rfl ?_)
   iterate 2 (refine WP.sx tysOk rfl ⟨⟨⟩, ⟨⟩⟩ ?_)
   iterate 6 (refine WP.no rfl rfl rfl rfl rfl ?_)
   refine WP.sx tysOk rfl ⟨⟨⟩, ⟨⟩⟩ ?_
   refine WP.condT rfl rfl ?_
   refine WP.sx tysOk rfl ⟨⟨⟩, ⟨⟩⟩ ?_
   cases h
   refine WP.retR tysOk rfl rfl ⟨_, _, rfl, rfl, rfl⟩ (fun w1 hw1 => ⟨rfl, Ret.below_ hw1 (.cons (.tail (.tail .head)) .nil)⟩)
  rw [if_neg hh1] at h
  refine WP.yes rfl rfl (decide_eq_false hh1) ?_
  iterate 2 (refine WP.sx tysOk rfl ⟨⟨⟩, ⟨⟩⟩ ?_; refine WP.yes rfl rfl rfl ?_)
  obtain ⟨r2, hg2, h⟩ := bind_some h
  refine WP.callV rfl rfl rfl rfl rfl rfl rfl (by kernel_rfl) (fun w1 hw1 => (adj_Graph_Loops_w hg2 (p1.le ((Held.mem (List.Mem.tail _ (List.Mem.tail _ (List.Mem.head _)))) _ _ hw1)) :)) ⟨⟩ ?_
  refine WP.yes rfl rfl rfl ?_
  iterate 3 (refine WP.sx tysOk rfl ⟨⟨⟩, ⟨⟩⟩ ?_)
  by_cases hh2 : 0 < r2
  ·rw [if_pos hh2] at h
   refine WP.no rfl rfl (decide_eq_true hh2) rfl rfl ?_
   iterate 5 (refine WP.no rfl rfl rfl rfl rfl ?_)
   refine WP.sx tysOk rfl ⟨⟨⟩, ⟨⟩⟩ ?_
   refine WP.condT rfl rfl ?_
   refine WP.sx tysOk rfl ⟨⟨⟩, ⟨⟩⟩ ?_
   cases h
   refine WP.retR tysOk rfl rfl ⟨_, _, rfl, rfl, rfl⟩ (fun w1 hw1 => ⟨rfl, Ret.below_ hw1 (.cons (.tail (.tail .head)) .nil)⟩)
  rw [if_neg hh2] at h
  refine WP.yes rfl rfl (decide_eq_false hh2) ?_
  refine WP.sx tysOk rfl ⟨⟨⟩, ⟨⟩⟩ ?_
  refine WP.yes rfl rfl rfl ?_
  refine WP.lx tysOk rfl ⟨⟩ (CellAt.blk (.tail .head) rfl) ?_
  refine WP.yes rfl rfl rfl ?_
  refine WP.sx tysOk rfl ⟨⟨⟩, ⟨⟩⟩ ?_
  refine WP.yes rfl rfl rfl ?_
  obtain ⟨hj1, h⟩ := ck_some h
  refine WP.ixA tysOk rfl ⟨⟩ rfl rfl rfl rfl rfl rfl rfl rfl hj1 (hs1.ex hj1) ?_
  intro b1 b1v hA1
  refine WP.yes rfl rfl rfl ?_
  refine WP.lx tysOk rfl ⟨⟩ (hs1.at0 hA1 (Held.mem (List.Mem.tail _ (List.Mem.tail _ (List.Mem.head _)))) hj1 rfl) ?_
  refine WP.yes rfl rfl rfl ?_
  iterate 2 (refine WP.sx tysOk rfl ⟨⟨⟩, ⟨⟩⟩ ?_)
  refine WP.cond_d rfl rfl (fun hh3 => ?_) (fun hh3 => ?_)
  ·rw [if_pos hh3] at h
   refine WP.sx tysOk rfl ⟨⟨⟩, ⟨⟩⟩ ?_
   cases h
   refine WP.retR tysOk rfl rfl ⟨_, _, rfl, rfl, rfl⟩ (fun w1 hw1 => ⟨rfl, Ret.below_ hw1 (.cons (.tail (.tail .head)) .nil)⟩)
  rw [if_neg hh3] at h
  refine WP.sx tysOk rfl ⟨⟨⟩, ⟨⟩⟩ ?_
  refine WP.lenO (xs := r1) tysOk rfl ⟨⟩ rfl rfl rfl rfl rfl rfl hf1 ?_
  refine WP.sx tysOk rfl ⟨⟨⟩, ⟨⟩⟩ ?_
  refine WP.loop (α := Nat × Int) (fun x => lp (leaf_shut_b1 g1 i1 n1 r1) x.1 x.2 = some r) (fun x => [(0, .pointer (some ⟨gg1, 0, none⟩)), (2, iv n1), (4, pt g2), (30, .slice A3 n2 c3), (31, iv (r1.length : Int)), (32, iv x.2)]) (fun x => [Ow (fI .i64) 3 A3 n2 c3 r1, .blk g2 25 [.slice A1 i1.supply.length c1, .slice A2 i1.arcs.length c2], .fz (PH.of w)]) (fun x => x.1) rfl (big, 0) h ?_ ?_ ?_
  ·repeat first|exact ⟨⟩|refine ⟨rfl,?_⟩
  ·exact Pick.all
  rintro ⟨n7, s2⟩ h
  dsimp only at h ⊢
  rcases n7 with _ | n7
  · exact (lp_no h).elim
  replace h := lp_succ h
  unfold leaf_shut_b1 at h
  try dsimp only at h
  refine WP.sx tysOk rfl ⟨⟨⟩, ⟨⟩⟩ ?_
  refine WP.cond_d rfl rfl (fun hh10 => ?_) (fun hh10 => ?_)
  ·rw [if_pos hh10] at h
   obtain ⟨hj6, h⟩ := ck_some h
   refine WP.ixO tysOk rfl ⟨⟩ rfl rfl rfl rfl rfl rfl rfl rfl hf1 hj6 ?_
   intro b6 hA6
   refine WP.lx tysOk rfl ⟨⟩ (OwS.at0 .head hA6 hj6 rfl) ?_
   iterate 2 (refine WP.sx tysOk rfl ⟨⟨⟩, ⟨⟩⟩ ?_)
   refine WP.lx tysOk rfl ⟨⟩ (CellAt.blk (.tail .head) rfl) ?_
   refine WP.sx tysOk rfl ⟨⟨⟩, ⟨⟩⟩ ?_
   obtain ⟨hj7, h⟩ := ck_some h
   refine WP.ixA tysOk rfl ⟨⟩ rfl rfl rfl rfl rfl rfl rfl rfl hj7 (hs2.ex hj7) ?_
   intro b7 b7v hA7
   refine WP.sx tysOk rfl ⟨⟨⟩, ⟨⟩⟩ ?_
   refine WP.lx tysOk rfl ⟨⟩ (hs2.at hA7 (Held.mem (List.Mem.tail _ (List.Mem.tail _ (List.Mem.head _)))) hj7 2 rfl) ?_
   refine WP.sx tysOk rfl ⟨⟨⟩, ⟨⟩⟩ ?_
   refine WP.cond_d rfl rfl (fun hh11 => ?_) (fun hh11 => ?_)
   ·rw [if_pos hh11] at h
    refine WP.sx tysOk rfl ⟨⟨⟩, ⟨⟩⟩ ?_
    cases h
    refine WP.retR tysOk rfl rfl ⟨_, _, rfl, rfl, rfl⟩ (fun w1 hw1 => ⟨rfl, Ret.below_ hw1 (.cons (.tail (.tail .head)) .nil)⟩)
   rw [if_neg hh11] at h
   iterate 2 (refine WP.sx tysOk rfl ⟨⟨⟩, ⟨⟩⟩ ?_)
   refine WP.stop rfl (n7, w64 (s2 + 1)) ⟨h, Nat.lt_succ_self _⟩ ?_ ?_
   ·repeat first|exact ⟨⟩|refine ⟨rfl,?_⟩
   exact Pick.all
  rw [if_neg hh10] at h
  iterate 2 (refine WP.sx tysOk rfl ⟨⟨⟩, ⟨⟩⟩ ?_)
  obtain ⟨r7, hg7, h⟩ := bind_some h
  refine WP.callS (adj_Graph_Out_S r7) rfl rfl rfl rfl rfl rfl rfl (by kernel_rfl) (fun w1 hw1 => (adj_Graph_Out_w hg7 (p1.le ((Held.mem (List.Mem.tail _ (List.Mem.tail _ (List.Mem.head _)))) _ _ hw1)) :)) ?_
  rintro _ _ ⟨A8, n8, c8, rfl, hf6, rfl⟩
  refine WP.lenO (xs := r7) tysOk rfl ⟨⟩ rfl rfl rfl rfl rfl rfl hf6 ?_
  iterate 2 (refine WP.sx tysOk rfl ⟨⟨⟩, ⟨⟩⟩ ?_)
  by_cases hh12 : (r7.length : Int) = 0
  ·rw [if_pos hh12] at h
   refine WP.no rfl rfl (decide_eq_true hh12) rfl rfl ?_
   iterate 4 (refine WP.no rfl rfl rfl rfl rfl ?_)
   iterate 2 (refine WP.sx tysOk rfl ⟨⟨⟩, ⟨⟩⟩ ?_)
   cases h
   refine WP.retR tysOk rfl rfl ⟨_, _, rfl, rfl, rfl⟩ (fun w1 hw1 => ⟨rfl, Ret.below_ hw1 (.cons (.tail (.tail (.tail .head))) .nil)⟩)
  rw [if_neg hh12] at h
  refine WP.yes rfl rfl (decide_eq_false hh12) ?_
  iterate 2 (refine WP.sx tysOk rfl ⟨⟨⟩, ⟨⟩⟩ ?_; refine WP.yes rfl rfl rfl ?_)
  obtain ⟨r8, hg8, h⟩ := bind_some h
  refine WP.callS (adj_Graph_In_S r8) rfl rfl rfl rfl rfl rfl rfl (by kernel_rfl) (fun w1 hw1 => (adj_Graph_In_w hg8 (p1.le ((Held.mem (List.Mem.tail _ (List.Mem.tail _ (List.Mem.tail _ (List.Mem.head _))))) _ _ hw1)) :)) ?_
  rintro _ _ ⟨A9, n9, c9, rfl, hf7, rfl⟩
  refine WP.yes rfl rfl rfl ?_
  refine WP.lenO (xs := r8) tysOk rfl ⟨⟩ rfl rfl rfl rfl rfl rfl hf7 ?_
  refine WP.yes rfl rfl rfl ?_
  iterate 3 (refine WP.sx tysOk rfl ⟨⟨⟩, ⟨⟩⟩ ?_)
  cases h
  refine WP.retR tysOk rfl rfl ⟨_, _, rfl, rfl, rfl⟩ (fun w1 hw1 => ⟨rfl, Ret.below_ hw1 (.cons (.tail (.tail (.tail (.tail .head)))) .nil)⟩)

set_option maxRecDepth 20000 in
set_option maxHeartbeats 8000000 in
theorem leaf_Shut_w {w : World} {v0 : Value} {i1 : Inst} {n1 : Int} {r : Bool} (h : leaf_Shut i1 n1 = some r) (p1 : InsZ (PH.of w) v0 i1) :
    Calls Tryz.prog 27 #[v0, iv n1] w fun e w' => e = .returned (.bool (r)) ∧ Below w.heap.size w w' := by
  obtain ⟨A1, c1, A2, c2, rfl, hs1, hs2⟩ := p1
  unfold leaf_Shut at h
  refine enter_ Tryz.func27 rfl Tryz.ntmps27 rfl ?_
  refine WP.box rfl rfl rfl rfl rfl rfl ?_
  intro g1
  refine WP.sx tysOk rfl ⟨⟨⟩, ⟨⟩⟩ ?_
  obtain ⟨r1, hg1, h⟩ := bind_some h
  obtain ⟨r2, hg2, h⟩ := bind_some h
  refine WP.drawL 5 [(1, [], fun _ => adj_New_S r1), (4, [1], fun _ => constSpec (.bool (r2)))] rfl (by kernel_rfl) (by kernel_rfl) (by kernel_rfl) ?_
  refine WP.mx_ tysOk rfl ⟨⟨rfl, rfl⟩, rfl⟩ (SegAt.blk' .head rfl) ?_
  refine WP.lcall rfl ⟨rfl, rfl⟩ rfl rfl rfl rfl rfl rfl rfl (by kernel_rfl) (fun w1 hw1 => (adj_New_w hg1 (InsZ.mk_ ((hs1.le' ((Held.mem (List.Mem.tail _ (List.Mem.head _))) _ _ hw1)).of) ((hs2.le' ((Held.mem (List.Mem.tail _ (List.Mem.head _))) _ _ hw1)).of)) :)) ?_
  rintro vg1 _ ⟨Zn1, hgr1, rfl⟩
  obtain ⟨gg1, rfl⟩ := hgr1.ptr'
  refine WP.mx_ tysOk rfl ⟨⟨rfl, rfl⟩, rfl⟩ (SegAt.blk' .head rfl) ?_
  refine WP.sx tysOk rfl ⟨⟨⟨rfl, rfl⟩, rfl⟩, ⟨⟩⟩ ?_
  refine WP.lcall rfl ⟨rfl, rfl⟩ rfl rfl rfl rfl rfl rfl rfl (by kernel_rfl) (fun w1 hw1 => ((leaf_shut_w hg2 (hgr1.le ((Held.mem (List.Mem.head _)) _ _ hw1)) (InsZ.mk_ ((hs1.le' ((Held.mem (List.Mem.tail _ (List.Mem.tail _ (List.Mem.head _)))) _ _ hw1)).of) ((hs2.le' ((Held.mem (List.Mem.tail _ (List.Mem.tail _ (List.Mem.head _)))) _ _ hw1)).of)) :)).mono fun e w' h => ⟨_, [], h.1, ⟨rfl, rfl⟩, Ret.nil h.2⟩) ?_
  rintro _ _ ⟨rfl, rfl⟩
  refine WP.lend rfl ⟨rfl, rfl⟩ ?_
  refine WP.sx tysOk rfl ⟨⟨⟩, ⟨⟩⟩ ?_
  cases h
  refine WP.retR tysOk rfl rfl ⟨_, _, rfl, rfl, rfl⟩ (fun w1 hw1 => ⟨rfl, Ret.below_ hw1 (.cons (.tail (.tail .head)) .nil)⟩)

set_option maxRecDepth 20000 in
set_option maxHeartbeats 8000000 in
theorem law17_known_w {w : World} {r : Bool} (h : law17_known  = some r) (pg : GlobE (PH.of w)) :
    Calls Tryz.prog 9 #[] w fun e w' => e = .returned (.bool (r)) ∧ Below w.heap.size w w' := by
  unfold law17_known at h
  refine enter_ Tryz.func9 rfl Tryz.ntmps9 rfl ?_
  refine WP.sx tysOk rfl ⟨⟨⟩, ⟨⟩⟩ ?_
  refine WP.bsO (f := (fI .i64)) [3, -3] tysOk rfl rfl rfl rfl rfl rfl rfl rfl rfl rfl rfl rfl rfl rfl ?_
  intro g1 hf1
  refine WP.bld (cs := [iv 0, iv 1, iv 0, iv 5, iv 4]) tysOk rfl ⟨⟩ rfl rfl rfl rfl rfl rfl rfl ?_
  refine WP.bsO (f := fA) [(Arc.mk 0 1 0 5 4)] tysOk rfl rfl rfl rfl rfl rfl rfl rfl rfl rfl rfl rfl rfl rfl ?_
  intro g2 hf2
  refine WP.bld (cs := [.slice (some ⟨g1, 0, none⟩) 2 2, .slice (some ⟨g2, 0, none⟩) 1 1]) tysOk rfl ⟨⟩ rfl rfl rfl rfl rfl rfl rfl ?_
  refine WP.al tysOk rfl rfl rfl rfl rfl rfl ?_
  intro g3
  refine WP.sto' tysOk [.slice (some ⟨g1, 0, none⟩) 2 2, .slice (some ⟨g2, 0, none⟩) 1 1] rfl rfl rfl rfl rfl rfl rfl rfl rfl .head rfl rfl ?_
  refine WP.mx_ tysOk rfl ⟨⟩ (SegAt.blk' .head rfl) ?_
  obtain ⟨r1, hg1, h⟩ := bind_some h
  refine WP.freezeO (.tail (.tail .head)) hf1 ?_
  intro Zp1 hz1
  refine WP.freezeO (.tail (.tail .head)) hf2 ?_
  intro Zp2 hz2
  refine WP.callS (leaf_Leaf_S (PH.or Zp1 Zp2) r1) rfl rfl rfl rfl rfl rfl rfl (by kernel_rfl) (fun w1 hw1 => (leaf_Leaf_w (Z := (PH.or Zp1 Zp2)) ((Held.or (Held.mem (List.Mem.tail _ (List.Mem.head _))) (Held.mem (List.Mem.head _))) _ _ hw1) hg1 (InsZ.mk_ (SlF.of_n (hz1.le' (PH.le.trans PH.le.rfl_ (PH.le_or _ _))) hf1) (SlF.of_n (hz2.le' (PH.ri_or ((Held.mem (List.Mem.tail _ (List.Mem.head _))) _ _ hw1) ((Held.mem (List.Mem.head _)) _ _ hw1))) hf2)) (pg.le ((Held.mem (List.Mem.tail _ (List.Mem.tail _ (List.Mem.tail _ (List.Mem.head _))))) _ _ hw1)) :)) ?_
  rintro _ _ ⟨Zn1, A1, _, c1, A2, _, c2, A3, _, c3, A4, _, c4, rfl, rfl, rfl, rfl, rfl, hs1, hs2, hs3, hs4, rfl⟩
  iterate 3 (refine WP.sx tysOk rfl ⟨⟨⟩, ⟨⟩⟩ ?_)
  refine WP.al tysOk rfl rfl rfl rfl rfl rfl ?_
  intro g4
  refine WP.sto' tysOk [.slice A1 r1.1.inst.supply.length c1, .slice A2 r1.1.inst.arcs.length c2, iv r1.1.rcd.pass, .slice A3 r1.1.rcd.was.supply.length c3, .slice A4 r1.1.rcd.was.arcs.length c4, iv r1.1.off.hi, .int .u64 (r1.1.off.lo), .bool (r1.1.did)] rfl rfl rfl rfl rfl rfl rfl rfl rfl .head rfl rfl ?_
  refine WP.sx tysOk rfl ⟨⟨⟩, ⟨⟩⟩ ?_
  refine WP.mx_ tysOk rfl ⟨⟩ (SegAt.blk' (.tail (.tail (.tail (.tail .head)))) rfl) ?_
  obtain ⟨r2, hg2, h⟩ := bind_some h
  refine WP.callV rfl rfl rfl rfl rfl rfl rfl (by kernel_rfl) (fun w1 hw1 => (leaf_Tip_w hg2 (InsZ.mk_ (SlF.of_n (hz1.le' ((Held.mem (List.Mem.tail _ (List.Mem.tail _ (List.Mem.tail _ (List.Mem.head _))))) _ _ hw1)) hf1) (SlF.of_n (hz2.le' ((Held.mem (List.Mem.tail _ (List.Mem.tail _ (List.Mem.head _)))) _ _ hw1)) hf2)) :)) ⟨⟩ ?_
  iterate 7 (refine WP.sx tysOk rfl ⟨⟨⟩, ⟨⟩⟩ ?_)
  by_cases hh1 : r1.2 = 0
  ·rw [if_pos hh1] at h
   by_cases hh2 : r1.1.did = true
   ·rw [if_pos hh2] at h
    obtain ⟨r3, hg3, h⟩ := bind_some h
    by_cases hh3 : r1.1.off = r3
    ·rw [if_pos hh3] at h
     obtain ⟨r4, hg4, h⟩ := bind_some h
     by_cases hh4 : r4 = true
     ·rw [if_pos hh4] at h
      by_cases hh5 : r2.1 = 0
      ·rw [if_pos hh5] at h
       by_cases hh6 : r2.2.1 = 3
       ·rw [if_pos hh6] at h
        by_cases hh7 : r2.2.2 = true
        ·rw [if_pos hh7] at h
         obtain ⟨r5, hg5, h⟩ := bind_some h
         refine WP.drawL 35 [(9, [], fun _ => constSpec (.agg #[iv r3.hi, .int .u64 (r3.lo)])), (15, [], litSpec 2 1), (17, [15], fun _ => constSpec (.bool (r4))), (32, [], fun _ => constSpec (.bool (r5)))] rfl (by kernel_rfl) (by kernel_rfl) (by kernel_rfl) ?_
         iterate 3 (refine WP.sx tysOk rfl ⟨⟨⟨rfl, rfl⟩, rfl⟩, ⟨⟩⟩ ?_)
         refine WP.yes rfl rfl (decide_eq_true hh1) ?_
         refine WP.sx tysOk rfl ⟨⟨⟨rfl, rfl⟩, rfl⟩, ⟨⟩⟩ ?_
         refine WP.yes rfl rfl rfl ?_
         refine WP.lx tysOk rfl ⟨⟨rfl, rfl⟩, rfl⟩ (CellAt.blk .head rfl) ?_
         iterate 2 (refine WP.sx tysOk rfl ⟨⟨⟨rfl, rfl⟩, rfl⟩, ⟨⟩⟩ ?_)
         refine WP.yes rfl rfl hh2 ?_
         refine WP.sx tysOk rfl ⟨⟨⟨rfl, rfl⟩, rfl⟩, ⟨⟩⟩ ?_
         refine WP.yes rfl rfl rfl ?_
         refine WP.mx_ tysOk rfl ⟨⟨rfl, rfl⟩, rfl⟩ (SegAt.blk' .head rfl) ?_
         refine WP.yes rfl rfl rfl ?_
         refine WP.callV rfl rfl rfl rfl rfl rfl rfl (by kernel_rfl) (fun w1 hw1 => (num_Of_w hg3  :)) ⟨⟨rfl, rfl⟩, rfl⟩ ?_
         refine WP.yes rfl rfl rfl ?_
         refine WP.eqS rfl ⟨⟨rfl, rfl⟩, rfl⟩ rfl rfl rfl rfl rfl rfl (by kernel_rfl) (eq38 r1.1.off r3) ?_
         iterate 2 (refine WP.sx tysOk rfl ⟨⟨⟨rfl, rfl⟩, rfl⟩, ⟨⟩⟩ ?_)
         refine WP.yes rfl rfl (decide_eq_true hh3) ?_
         refine WP.sx tysOk rfl ⟨⟨⟨rfl, rfl⟩, rfl⟩, ⟨⟩⟩ ?_
         refine WP.yes rfl rfl rfl ?_
         refine WP.mx_ tysOk rfl ⟨⟨rfl, rfl⟩, rfl⟩ (SegAt.blk' .head rfl) ?_
         refine WP.yes rfl rfl rfl ?_
         refine WP.lbs tysOk rfl ⟨rfl, rfl⟩ rfl rfl rfl rfl rfl rfl rfl rfl rfl rfl rfl rfl ?_
         intro g5
         refine WP.yes rfl rfl rfl ?_
         refine WP.bld (cs := [.slice (some ⟨g5, 0, none⟩) 1 1, sn]) tysOk rfl ⟨⟨rfl, rfl⟩, rfl⟩ rfl rfl rfl rfl rfl rfl rfl ?_
         refine WP.yes rfl rfl rfl ?_
         refine WP.lcall rfl ⟨rfl, rfl⟩ rfl rfl rfl rfl rfl rfl rfl (by kernel_rfl) (fun w1 hw1 => ((ref03_Same_w hg4 (InsZ.mk_ ((hs1.le' ((Held.or (Held.or (Held.mem (List.Mem.tail _ (List.Mem.tail _ (List.Mem.tail _ (List.Mem.tail _ (List.Mem.head _)))))) (Held.mem (List.Mem.tail _ (List.Mem.tail _ (List.Mem.tail _ (List.Mem.head _)))))) (Held.mem (List.Mem.tail _ (List.Mem.tail _ (List.Mem.head _))))) _ _ hw1)).of) ((hs2.le' ((Held.or (Held.or (Held.mem (List.Mem.tail _ (List.Mem.tail _ (List.Mem.tail _ (List.Mem.tail _ (List.Mem.head _)))))) (Held.mem (List.Mem.tail _ (List.Mem.tail _ (List.Mem.tail _ (List.Mem.head _)))))) (Held.mem (List.Mem.tail _ (List.Mem.tail _ (List.Mem.head _))))) _ _ hw1)).of)) (InsZ.mk_ (hw1.blL [0] .head rfl rfl rfl) SlF.nil_) :)).mono fun e w' h => ⟨_, [], h.1, ⟨rfl, rfl⟩, Ret.nil h.2⟩) ?_
         rintro _ _ ⟨rfl, rfl⟩
         iterate 2 (refine WP.sx tysOk rfl ⟨⟨⟨rfl, rfl⟩, rfl⟩, ⟨⟩⟩ ?_)
         refine WP.yes rfl rfl hh4 ?_
         refine WP.sx tysOk rfl ⟨⟨⟨rfl, rfl⟩, rfl⟩, ⟨⟩⟩ ?_
         refine WP.yes rfl rfl rfl ?_
         iterate 3 (refine WP.sx tysOk rfl ⟨⟨⟨rfl, rfl⟩, rfl⟩, ⟨⟩⟩ ?_)
         refine WP.yes rfl rfl (decide_eq_true hh5) ?_
         refine WP.sx tysOk rfl ⟨⟨⟨rfl, rfl⟩, rfl⟩, ⟨⟩⟩ ?_
         refine WP.yes rfl rfl rfl ?_
         iterate 3 (refine WP.sx tysOk rfl ⟨⟨⟨rfl, rfl⟩, rfl⟩, ⟨⟩⟩ ?_)
         refine WP.yes rfl rfl (decide_eq_true hh6) ?_
         iterate 3 (refine WP.sx tysOk rfl ⟨⟨⟨rfl, rfl⟩, rfl⟩, ⟨⟩⟩ ?_)
         refine WP.yes rfl rfl hh7 ?_
         refine WP.mx_ tysOk rfl ⟨⟨rfl, rfl⟩, rfl⟩ (SegAt.blk' (.tail (.tail (.tail (.tail .head)))) rfl) ?_
         refine WP.yes rfl rfl rfl ?_
         refine WP.callV rfl rfl rfl rfl rfl rfl rfl (by kernel_rfl) (fun w1 hw1 => (leaf_Shut_w hg5 (InsZ.mk_ (SlF.of_n (hz1.le' ((Held.mem (List.Mem.tail _ (List.Mem.tail _ (List.Mem.tail _ (List.Mem.head _))))) _ _ hw1)) hf1) (SlF.of_n (hz2.le' ((Held.mem (List.Mem.tail _ (List.Mem.tail _ (List.Mem.head _)))) _ _ hw1)) hf2)) :)) ⟨⟨rfl, rfl⟩, rfl⟩ ?_
         refine WP.yes rfl rfl rfl ?_
         iterate 2 (refine WP.sx tysOk rfl ⟨⟨⟨rfl, rfl⟩, rfl⟩, ⟨⟩⟩ ?_)
         refine WP.lend rfl ⟨rfl, rfl⟩ ?_
         refine WP.repiece (p' := .blk g5 2 (cl (fI .i64) [0])) .head rfl ?_
         refine WP.shut0 (n := 1) (z := (fI .i64).z) .head (by decide) rfl ?_
         have hf3 : OwF (some ⟨g5, 0, none⟩) 1 [0] := ⟨rfl, fun _ => ⟨g5, rfl⟩⟩
         refine WP.sx tysOk rfl ⟨⟨⟩, ⟨⟩⟩ ?_
         cases h
         refine WP.retR tysOk rfl rfl ⟨_, _, rfl, rfl, rfl⟩ (fun w1 hw1 => ⟨rfl, Ret.below_ hw1 (.cons (.tail (.tail (.tail (.tail (.tail (.tail .head)))))) .nil)⟩)
        rw [if_neg hh7] at h
        refine WP.drawL 35 [(9, [], fun _ => constSpec (.agg #[iv r3.hi, .int .u64 (r3.lo)])), (15, [], litSpec 2 1), (17, [15], fun _ => constSpec (.bool (r4)))] rfl (by kernel_rfl) (by kernel_rfl) (by kernel_rfl) ?_
        iterate 3 (refine WP.sx tysOk rfl ⟨⟨⟨rfl, rfl⟩, rfl⟩, ⟨⟩⟩ ?_)
        refine WP.yes rfl rfl (decide_eq_true hh1) ?_
        refine WP.sx tysOk rfl ⟨⟨⟨rfl, rfl⟩, rfl⟩, ⟨⟩⟩ ?_
        refine WP.yes rfl rfl rfl ?_
        refine WP.lx tysOk rfl ⟨⟨rfl, rfl⟩, rfl⟩ (CellAt.blk .head rfl) ?_
        iterate 2 (refine WP.sx tysOk rfl ⟨⟨⟨rfl, rfl⟩, rfl⟩, ⟨⟩⟩ ?_)
        refine WP.yes rfl rfl hh2 ?_
        refine WP.sx tysOk rfl ⟨⟨⟨rfl, rfl⟩, rfl⟩, ⟨⟩⟩ ?_
        refine WP.yes rfl rfl rfl ?_
        refine WP.mx_ tysOk rfl ⟨⟨rfl, rfl⟩, rfl⟩ (SegAt.blk' .head rfl) ?_
        refine WP.yes rfl rfl rfl ?_
        refine WP.callV rfl rfl rfl rfl rfl rfl rfl (by kernel_rfl) (fun w1 hw1 => (num_Of_w hg3  :)) ⟨⟨rfl, rfl⟩, rfl⟩ ?_
        refine WP.yes rfl rfl rfl ?_
        refine WP.eqS rfl ⟨⟨rfl, rfl⟩, rfl⟩ rfl rfl rfl rfl rfl rfl (by kernel_rfl) (eq38 r1.1.off r3) ?_
        iterate 2 (refine WP.sx tysOk rfl ⟨⟨⟨rfl, rfl⟩, rfl⟩, ⟨⟩⟩ ?_)
        refine WP.yes rfl rfl (decide_eq_true hh3) ?_
        refine WP.sx tysOk rfl ⟨⟨⟨rfl, rfl⟩, rfl⟩, ⟨⟩⟩ ?_
        refine WP.yes rfl rfl rfl ?_
        refine WP.mx_ tysOk rfl ⟨⟨rfl, rfl⟩, rfl⟩ (SegAt.blk' .head rfl) ?_
        refine WP.yes rfl rfl rfl ?_
        refine WP.lbs tysOk rfl ⟨rfl, rfl⟩ rfl rfl rfl rfl rfl rfl rfl rfl rfl rfl rfl rfl ?_
        intro g5
        refine WP.yes rfl rfl rfl ?_
        refine WP.bld (cs := [.slice (some ⟨g5, 0, none⟩) 1 1, sn]) tysOk rfl ⟨⟨rfl, rfl⟩, rfl⟩ rfl rfl rfl rfl rfl rfl rfl ?_
        refine WP.yes rfl rfl rfl ?_
        refine WP.lcall rfl ⟨rfl, rfl⟩ rfl rfl rfl rfl rfl rfl rfl (by kernel_rfl) (fun w1 hw1 => ((ref03_Same_w hg4 (InsZ.mk_ ((hs1.le' ((Held.or (Held.or (Held.mem (List.Mem.tail _ (List.Mem.tail _ (List.Mem.tail _ (List.Mem.tail _ (List.Mem.head _)))))) (Held.mem (List.Mem.tail _ (List.Mem.tail _ (List.Mem.tail _ (List.Mem.head _)))))) (Held.mem (List.Mem.tail _ (List.Mem.tail _ (List.Mem.head _))))) _ _ hw1)).of) ((hs2.le' ((Held.or (Held.or (Held.mem (List.Mem.tail _ (List.Mem.tail _ (List.Mem.tail _ (List.Mem.tail _ (List.Mem.head _)))))) (Held.mem (List.Mem.tail _ (List.Mem.tail _ (List.Mem.tail _ (List.Mem.head _)))))) (Held.mem (List.Mem.tail _ (List.Mem.tail _ (List.Mem.head _))))) _ _ hw1)).of)) (InsZ.mk_ (hw1.blL [0] .head rfl rfl rfl) SlF.nil_) :)).mono fun e w' h => ⟨_, [], h.1, ⟨rfl, rfl⟩, Ret.nil h.2⟩) ?_
        rintro _ _ ⟨rfl, rfl⟩
        iterate 2 (refine WP.sx tysOk rfl ⟨⟨⟨rfl, rfl⟩, rfl⟩, ⟨⟩⟩ ?_)
        refine WP.yes rfl rfl hh4 ?_
        refine WP.sx tysOk rfl ⟨⟨⟨rfl, rfl⟩, rfl⟩, ⟨⟩⟩ ?_
        refine WP.yes rfl rfl rfl ?_
        iterate 3 (refine WP.sx tysOk rfl ⟨⟨⟨rfl, rfl⟩, rfl⟩, ⟨⟩⟩ ?_)
        refine WP.yes rfl rfl (decide_eq_true hh5) ?_
        refine WP.sx tysOk rfl ⟨⟨⟨rfl, rfl⟩, rfl⟩, ⟨⟩⟩ ?_
        refine WP.yes rfl rfl rfl ?_
        iterate 3 (refine WP.sx tysOk rfl ⟨⟨⟨rfl, rfl⟩, rfl⟩, ⟨⟩⟩ ?_)
        refine WP.yes rfl rfl (decide_eq_true hh6) ?_
        iterate 3 (refine WP.sx tysOk rfl ⟨⟨⟨rfl, rfl⟩, rfl⟩, ⟨⟩⟩ ?_)
        refine WP.no rfl rfl (bfalse hh7) rfl rfl ?_
        iterate 2 (refine WP.no rfl rfl rfl rfl rfl ?_)
        refine WP.sx tysOk rfl ⟨⟨⟨rfl, rfl⟩, rfl⟩, ⟨⟩⟩ ?_
        refine WP.lend rfl ⟨rfl, rfl⟩ ?_
        refine WP.repiece (p' := .blk g5 2 (cl (fI .i64) [0])) .head rfl ?_
        refine WP.shut0 (n := 1) (z := (fI .i64).z) .head (by decide) rfl ?_
        have hf3 : OwF (some ⟨g5, 0, none⟩) 1 [0] := ⟨rfl, fun _ => ⟨g5, rfl⟩⟩
        refine WP.sx tysOk rfl ⟨⟨⟩, ⟨⟩⟩ ?_
        cases h
        refine WP.retR tysOk rfl rfl ⟨_, _, rfl, rfl, rfl⟩ (fun w1 hw1 => ⟨rfl, Ret.below_ hw1 (.cons (.tail (.tail (.tail (.tail (.tail (.tail .head)))))) .nil)⟩)
       rw [if_neg hh6] at h
       refine WP.drawL 35 [(9, [], fun _ => constSpec (.agg #[iv r3.hi, .int .u64 (r3.lo)])), (15, [], litSpec 2 1), (17, [15], fun _ => constSpec (.bool (r4)))] rfl (by kernel_rfl) (by kernel_rfl) (by kernel_rfl) ?_
       iterate 3 (refine WP.sx tysOk rfl ⟨⟨⟨rfl, rfl⟩, rfl⟩, ⟨⟩⟩ ?_)
       refine WP.yes rfl rfl (decide_eq_true hh1) ?_
       refine WP.sx tysOk rfl ⟨⟨⟨rfl, rfl⟩, rfl⟩, ⟨⟩⟩ ?_
       refine WP.yes rfl rfl rfl ?_
       refine WP.lx tysOk rfl ⟨⟨rfl, rfl⟩, rfl⟩ (CellAt.blk .head rfl) ?_
       iterate 2 (refine WP.sx tysOk rfl ⟨⟨⟨rfl, rfl⟩, rfl⟩, ⟨⟩⟩ ?_)
       refine WP.yes rfl rfl hh2 ?_
       refine WP.sx tysOk rfl ⟨⟨⟨rfl, rfl⟩, rfl⟩, ⟨⟩⟩ ?_
       refine WP.yes rfl rfl rfl ?_
       refine WP.mx_ tysOk rfl ⟨⟨rfl, rfl⟩, rfl⟩ (SegAt.blk' .head rfl) ?_
       refine WP.yes rfl rfl rfl ?_
       refine WP.callV rfl rfl rfl rfl rfl rfl rfl (by kernel_rfl) (fun w1 hw1 => (num_Of_w hg3  :)) ⟨⟨rfl, rfl⟩, rfl⟩ ?_
       refine WP.yes rfl rfl rfl ?_
       refine WP.eqS rfl ⟨⟨rfl, rfl⟩, rfl⟩ rfl rfl rfl rfl rfl rfl (by kernel_rfl) (eq38 r1.1.off r3) ?_
       iterate 2 (refine WP.sx tysOk rfl ⟨⟨⟨rfl, rfl⟩, rfl⟩, ⟨⟩⟩ ?_)
       refine WP.yes rfl rfl (decide_eq_true hh3) ?_
       refine WP.sx tysOk rfl ⟨⟨⟨rfl, rfl⟩, rfl⟩, ⟨⟩⟩ ?_
       refine WP.yes rfl rfl rfl ?_
       refine WP.mx_ tysOk rfl ⟨⟨rfl, rfl⟩, rfl⟩ (SegAt.blk' .head rfl) ?_
       refine WP.yes rfl rfl rfl ?_
       refine WP.lbs tysOk rfl ⟨rfl, rfl⟩ rfl rfl rfl rfl rfl rfl rfl rfl rfl rfl rfl rfl ?_
       intro g5
       refine WP.yes rfl rfl rfl ?_
       refine WP.bld (cs := [.slice (some ⟨g5, 0, none⟩) 1 1, sn]) tysOk rfl ⟨⟨rfl, rfl⟩, rfl⟩ rfl rfl rfl rfl rfl rfl rfl ?_
       refine WP.yes rfl rfl rfl ?_
       refine WP.lcall rfl ⟨rfl, rfl⟩ rfl rfl rfl rfl rfl rfl rfl (by kernel_rfl) (fun w1 hw1 => ((ref03_Same_w hg4 (InsZ.mk_ ((hs1.le' ((Held.or (Held.or (Held.mem (List.Mem.tail _ (List.Mem.tail _ (List.Mem.tail _ (List.Mem.tail _ (List.Mem.head _)))))) (Held.mem (List.Mem.tail _ (List.Mem.tail _ (List.Mem.tail _ (List.Mem.head _)))))) (Held.mem (List.Mem.tail _ (List.Mem.tail _ (List.Mem.head _))))) _ _ hw1)).of) ((hs2.le' ((Held.or (Held.or (Held.mem (List.Mem.tail _ (List.Mem.tail _ (List.Mem.tail _ (List.Mem.tail _ (List.Mem.head _)))))) (Held.mem (List.Mem.tail _ (List.Mem.tail _ (List.Mem.tail _ (List.Mem.head _)))))) (Held.mem (List.Mem.tail _ (List.Mem.tail _ (List.Mem.head _))))) _ _ hw1)).of)) (InsZ.mk_ (hw1.blL [0] .head rfl rfl rfl) SlF.nil_) :)).mono fun e w' h => ⟨_, [], h.1, ⟨rfl, rfl⟩, Ret.nil h.2⟩) ?_
       rintro _ _ ⟨rfl, rfl⟩
       iterate 2 (refine WP.sx tysOk rfl ⟨⟨⟨rfl, rfl⟩, rfl⟩, ⟨⟩⟩ ?_)
       refine WP.yes rfl rfl hh4 ?_
       refine WP.sx tysOk rfl ⟨⟨⟨rfl, rfl⟩, rfl⟩, ⟨⟩⟩ ?_
       refine WP.yes rfl rfl rfl ?_
       iterate 3 (refine WP.sx tysOk rfl ⟨⟨⟨rfl, rfl⟩, rfl⟩, ⟨⟩⟩ ?_)
       refine WP.yes rfl rfl (decide_eq_true hh5) ?_
       refine WP.sx tysOk rfl ⟨⟨⟨rfl, rfl⟩, rfl⟩, ⟨⟩⟩ ?_
       refine WP.yes rfl rfl rfl ?_
       iterate 3 (refine WP.sx tysOk rfl ⟨⟨⟨rfl, rfl⟩, rfl⟩, ⟨⟩⟩ ?_)
       refine WP.no rfl rfl (decide_eq_false hh6) rfl rfl ?_
       iterate 2 (refine WP.sx tysOk rfl ⟨⟨⟨rfl, rfl⟩, rfl⟩, ⟨⟩⟩ ?_)
       iterate 3 (refine WP.no rfl rfl rfl rfl rfl ?_)
       refine WP.sx tysOk rfl ⟨⟨⟨rfl, rfl⟩, rfl⟩, ⟨⟩⟩ ?_
       refine WP.lend rfl ⟨rfl, rfl⟩ ?_
       refine WP.repiece (p' := .blk g5 2 (cl (fI .i64) [0])) .head rfl ?_
       refine WP.shut0 (n := 1) (z := (fI .i64).z) .head (by decide) rfl ?_
       have hf3 : OwF (some ⟨g5, 0, none⟩) 1 [0] := ⟨rfl, fun _ => ⟨g5, rfl⟩⟩
       refine WP.sx tysOk rfl ⟨⟨⟩, ⟨⟩⟩ ?_
       cases h
       refine WP.retR tysOk rfl rfl ⟨_, _, rfl, rfl, rfl⟩ (fun w1 hw1 => ⟨rfl, Ret.below_ hw1 (.cons (.tail (.tail (.tail (.tail (.tail (.tail .head)))))) .nil)⟩)
      rw [if_neg hh5] at h
      refine WP.drawL 35 [(9, [], fun _ => constSpec (.agg #[iv r3.hi, .int .u64 (r3.lo)])), (15, [], litSpec 2 1), (17, [15], fun _ => constSpec (.bool (r4)))] rfl (by kernel_rfl) (by kernel_rfl) (by kernel_rfl) ?_
      iterate 3 (refine WP.sx tysOk rfl ⟨⟨⟨rfl, rfl⟩, rfl⟩, ⟨⟩⟩ ?_)
      refine WP.yes rfl rfl (decide_eq_true hh1) ?_
      refine WP.sx tysOk rfl ⟨⟨⟨rfl, rfl⟩, rfl⟩, ⟨⟩⟩ ?_
      refine WP.yes rfl rfl rfl ?_
      refine WP.lx tysOk rfl ⟨⟨rfl, rfl⟩, rfl⟩ (CellAt.blk .head rfl) ?_
      iterate 2 (refine WP.sx tysOk rfl ⟨⟨⟨rfl, rfl⟩, rfl⟩, ⟨⟩⟩ ?_)
      refine WP.yes rfl rfl hh2 ?_
      refine WP.sx tysOk rfl ⟨⟨⟨rfl, rfl⟩, rfl⟩, ⟨⟩⟩ ?_
      refine WP.yes rfl rfl rfl ?_
      refine WP.mx_ tysOk rfl ⟨⟨rfl, rfl⟩, rfl⟩ (SegAt.blk' .head rfl) ?_
      refine WP.yes rfl rfl rfl ?_
      refine WP.callV rfl rfl rfl rfl rfl rfl rfl (by kernel_rfl) (fun w1 hw1 => (num_Of_w hg3  :)) ⟨⟨rfl, rfl⟩, rfl⟩ ?_
      refine WP.yes rfl rfl rfl ?_
      refine WP.eqS rfl ⟨⟨rfl, rfl⟩, rfl⟩ rfl rfl rfl rfl rfl rfl (by kernel_rfl) (eq38 r1.1.off r3) ?_
      iterate 2 (refine WP.sx tysOk rfl ⟨⟨⟨rfl, rfl⟩, rfl⟩, ⟨⟩⟩ ?_)
      refine WP.yes rfl rfl (decide_eq_true hh3) ?_
      refine WP.sx tysOk rfl ⟨⟨⟨rfl, rfl⟩, rfl⟩, ⟨⟩⟩ ?_
      refine WP.yes rfl rfl rfl ?_
      refine WP.mx_ tysOk rfl ⟨⟨rfl, rfl⟩, rfl⟩ (SegAt.blk' .head rfl) ?_
      refine WP.yes rfl rfl rfl ?_
      refine WP.lbs tysOk rfl ⟨rfl, rfl⟩ rfl rfl rfl rfl rfl rfl rfl rfl rfl rfl rfl rfl ?_
      intro g5
      refine WP.yes rfl rfl rfl ?_
      refine WP.bld (cs := [.slice (some ⟨g5, 0, none⟩) 1 1, sn]) tysOk rfl ⟨⟨rfl, rfl⟩, rfl⟩ rfl rfl rfl rfl rfl rfl rfl ?_
      refine WP.yes rfl rfl rfl ?_
      refine WP.lcall rfl ⟨rfl, rfl⟩ rfl rfl rfl rfl rfl rfl rfl (by kernel_rfl) (fun w1 hw1 => ((ref03_Same_w hg4 (InsZ.mk_ ((hs1.le' ((Held.or (Held.or (Held.mem (List.Mem.tail _ (List.Mem.tail _ (List.Mem.tail _ (List.Mem.tail _ (List.Mem.head _)))))) (Held.mem (List.Mem.tail _ (List.Mem.tail _ (List.Mem.tail _ (List.Mem.head _)))))) (Held.mem (List.Mem.tail _ (List.Mem.tail _ (List.Mem.head _))))) _ _ hw1)).of) ((hs2.le' ((Held.or (Held.or (Held.mem (List.Mem.tail _ (List.Mem.tail _ (List.Mem.tail _ (List.Mem.tail _ (List.Mem.head _)))))) (Held.mem (List.Mem.tail _ (List.Mem.tail _ (List.Mem.tail _ (List.Mem.head _)))))) (Held.mem (List.Mem.tail _ (List.Mem.tail _ (List.Mem.head _))))) _ _ hw1)).of)) (InsZ.mk_ (hw1.blL [0] .head rfl rfl rfl) SlF.nil_) :)).mono fun e w' h => ⟨_, [], h.1, ⟨rfl, rfl⟩, Ret.nil h.2⟩) ?_
      rintro _ _ ⟨rfl, rfl⟩
      iterate 2 (refine WP.sx tysOk rfl ⟨⟨⟨rfl, rfl⟩, rfl⟩, ⟨⟩⟩ ?_)
      refine WP.yes rfl rfl hh4 ?_
      refine WP.sx tysOk rfl ⟨⟨⟨rfl, rfl⟩, rfl⟩, ⟨⟩⟩ ?_
      refine WP.yes rfl rfl rfl ?_
      iterate 3 (refine WP.sx tysOk rfl ⟨⟨⟨rfl, rfl⟩, rfl⟩, ⟨⟩⟩ ?_)
      refine WP.no rfl rfl (decide_eq_false hh5) rfl rfl ?_
      iterate 2 (refine WP.no rfl rfl rfl rfl rfl ?_; refine WP.sx tysOk rfl ⟨⟨⟨rfl, rfl⟩, rfl⟩, ⟨⟩⟩ ?_; refine WP.sx tysOk rfl ⟨⟨⟨rfl, rfl⟩, rfl⟩, ⟨⟩⟩ ?_)
      iterate 3 (refine WP.no rfl rfl rfl rfl rfl ?_)
      refine WP.sx tysOk rfl ⟨⟨⟨rfl, rfl⟩, rfl⟩, ⟨⟩⟩ ?_
      refine WP.lend rfl ⟨rfl, rfl⟩ ?_
      refine WP.repiece (p' := .blk g5 2 (cl (fI .i64) [0])) .head rfl ?_
      refine WP.shut0 (n := 1) (z := (fI .i64).z) .head (by decide) rfl ?_
      have hf3 : OwF (some ⟨g5, 0, none⟩) 1 [0] := ⟨rfl, fun _ => ⟨g5, rfl⟩⟩
      refine WP.sx tysOk rfl ⟨⟨⟩, ⟨⟩⟩ ?_
      cases h
      refine WP.retR tysOk rfl rfl ⟨_, _, rfl, rfl, rfl⟩ (fun w1 hw1 => ⟨rfl, Ret.below_ hw1 (.cons (.tail (.tail (.tail (.tail (.tail (.tail .head)))))) .nil)⟩)
     rw [if_neg hh4] at h
     refine WP.drawL 35 [(9, [], fun _ => constSpec (.agg #[iv r3.hi, .int .u64 (r3.lo)])), (15, [], litSpec 2 1), (17, [15], fun _ => constSpec (.bool (r4)))] rfl (by kernel_rfl) (by kernel_rfl) (by kernel_rfl) ?_
     iterate 3 (refine WP.sx tysOk rfl ⟨⟨⟨rfl, rfl⟩, rfl⟩, ⟨⟩⟩ ?_)
     refine WP.yes rfl rfl (decide_eq_true hh1) ?_
     refine WP.sx tysOk rfl ⟨⟨⟨rfl, rfl⟩, rfl⟩, ⟨⟩⟩ ?_
     refine WP.yes rfl rfl rfl ?_
     refine WP.lx tysOk rfl ⟨⟨rfl, rfl⟩, rfl⟩ (CellAt.blk .head rfl) ?_
     iterate 2 (refine WP.sx tysOk rfl ⟨⟨⟨rfl, rfl⟩, rfl⟩, ⟨⟩⟩ ?_)
     refine WP.yes rfl rfl hh2 ?_
     refine WP.sx tysOk rfl ⟨⟨⟨rfl, rfl⟩, rfl⟩, ⟨⟩⟩ ?_
     refine WP.yes rfl rfl rfl ?_
     refine WP.mx_ tysOk rfl ⟨⟨rfl, rfl⟩, rfl⟩ (SegAt.blk' .head rfl) ?_
     refine WP.yes rfl rfl rfl ?_
     refine WP.callV rfl rfl rfl rfl rfl rfl rfl (by kernel_rfl) (fun w1 hw1 => (num_Of_w hg3  :)) ⟨⟨rfl, rfl⟩, rfl⟩ ?_
     refine WP.yes rfl rfl rfl ?_
     refine WP.eqS rfl ⟨⟨rfl, rfl⟩, rfl⟩ rfl rfl rfl rfl rfl rfl (by kernel_rfl) (eq38 r1.1.off r3) ?_
     iterate 2 (refine WP.sx tysOk rfl ⟨⟨⟨rfl, rfl⟩, rfl⟩, ⟨⟩⟩ ?_)
     refine WP.yes rfl rfl (decide_eq_true hh3) ?_
     refine WP.sx tysOk rfl ⟨⟨⟨rfl, rfl⟩, rfl⟩, ⟨⟩⟩ ?_
     refine WP.yes rfl rfl rfl ?_
     refine WP.mx_ tysOk rfl ⟨⟨rfl, rfl⟩, rfl⟩ (SegAt.blk' .head rfl) ?_
     refine WP.yes rfl rfl rfl ?_
     refine WP.lbs tysOk rfl ⟨rfl, rfl⟩ rfl rfl rfl rfl rfl rfl rfl rfl rfl rfl rfl rfl ?_
     intro g5
     refine WP.yes rfl rfl rfl ?_
     refine WP.bld (cs := [.slice (some ⟨g5, 0, none⟩) 1 1, sn]) tysOk rfl ⟨⟨rfl, rfl⟩, rfl⟩ rfl rfl rfl rfl rfl rfl rfl ?_
     refine WP.yes rfl rfl rfl ?_
     refine WP.lcall rfl ⟨rfl, rfl⟩ rfl rfl rfl rfl rfl rfl rfl (by kernel_rfl) (fun w1 hw1 => ((ref03_Same_w hg4 (InsZ.mk_ ((hs1.le' ((Held.or (Held.or (Held.mem (List.Mem.tail _ (List.Mem.tail _ (List.Mem.tail _ (List.Mem.tail _ (List.Mem.head _)))))) (Held.mem (List.Mem.tail _ (List.Mem.tail _ (List.Mem.tail _ (List.Mem.head _)))))) (Held.mem (List.Mem.tail _ (List.Mem.tail _ (List.Mem.head _))))) _ _ hw1)).of) ((hs2.le' ((Held.or (Held.or (Held.mem (List.Mem.tail _ (List.Mem.tail _ (List.Mem.tail _ (List.Mem.tail _ (List.Mem.head _)))))) (Held.mem (List.Mem.tail _ (List.Mem.tail _ (List.Mem.tail _ (List.Mem.head _)))))) (Held.mem (List.Mem.tail _ (List.Mem.tail _ (List.Mem.head _))))) _ _ hw1)).of)) (InsZ.mk_ (hw1.blL [0] .head rfl rfl rfl) SlF.nil_) :)).mono fun e w' h => ⟨_, [], h.1, ⟨rfl, rfl⟩, Ret.nil h.2⟩) ?_
     rintro _ _ ⟨rfl, rfl⟩
     iterate 2 (refine WP.sx tysOk rfl ⟨⟨⟨rfl, rfl⟩, rfl⟩, ⟨⟩⟩ ?_)
     refine WP.no rfl rfl (bfalse hh4) rfl rfl ?_
     iterate 2 (refine WP.no rfl rfl rfl rfl rfl ?_; refine WP.sx tysOk rfl ⟨⟨⟨rfl, rfl⟩, rfl⟩, ⟨⟩⟩ ?_; refine WP.sx tysOk rfl ⟨⟨⟨rfl, rfl⟩, rfl⟩, ⟨⟩⟩ ?_; refine WP.no rfl rfl rfl rfl rfl ?_)
     iterate 2 (refine WP.sx tysOk rfl ⟨⟨⟨rfl, rfl⟩, rfl⟩, ⟨⟩⟩ ?_)
     iterate 3 (refine WP.no rfl rfl rfl rfl rfl ?_)
     refine WP.sx tysOk rfl ⟨⟨⟨rfl, rfl⟩, rfl⟩, ⟨⟩⟩ ?_
     refine WP.lend rfl ⟨rfl, rfl⟩ ?_
     refine WP.repiece (p' := .blk g5 2 (cl (fI .i64) [0])) .head rfl ?_
     refine WP.shut0 (n := 1) (z := (fI .i64).z) .head (by decide) rfl ?_
     have hf3 : OwF (some ⟨g5, 0, none⟩) 1 [0] := ⟨rfl, fun _ => ⟨g5, rfl⟩⟩
     refine WP.sx tysOk rfl ⟨⟨⟩, ⟨⟩⟩ ?_
     cases h
     refine WP.retR tysOk rfl rfl ⟨_, _, rfl, rfl, rfl⟩ (fun w1 hw1 => ⟨rfl, Ret.below_ hw1 (.cons (.tail (.tail (.tail (.tail (.tail (.tail .head)))))) .nil)⟩)
    rw [if_neg hh3] at h
    refine WP.drawL 35 [(9, [], fun _ => constSpec (.agg #[iv r3.hi, .int .u64 (r3.lo)]))] rfl (by kernel_rfl) (by kernel_rfl) (by kernel_rfl) ?_
    iterate 3 (refine WP.sx tysOk rfl ⟨⟨⟨rfl, rfl⟩, rfl⟩, ⟨⟩⟩ ?_)
    refine WP.yes rfl rfl (decide_eq_true hh1) ?_
    refine WP.sx tysOk rfl ⟨⟨⟨rfl, rfl⟩, rfl⟩, ⟨⟩⟩ ?_
    refine WP.yes rfl rfl rfl ?_
    refine WP.lx tysOk rfl ⟨⟨rfl, rfl⟩, rfl⟩ (CellAt.blk .head rfl) ?_
    iterate 2 (refine WP.sx tysOk rfl ⟨⟨⟨rfl, rfl⟩, rfl⟩, ⟨⟩⟩ ?_)
    refine WP.yes rfl rfl hh2 ?_
    refine WP.sx tysOk rfl ⟨⟨⟨rfl, rfl⟩, rfl⟩, ⟨⟩⟩ ?_
    refine WP.yes rfl rfl rfl ?_
    refine WP.mx_ tysOk rfl ⟨⟨rfl, rfl⟩, rfl⟩ (SegAt.blk' .head rfl) ?_
    refine WP.yes rfl rfl rfl ?_
    refine WP.callV rfl rfl rfl rfl rfl rfl rfl (by kernel_rfl) (fun w1 hw1 => (num_Of_w hg3  :)) ⟨⟨rfl, rfl⟩, rfl⟩ ?_
    refine WP.yes rfl rfl rfl ?_
    refine WP.eqS rfl ⟨⟨rfl, rfl⟩, rfl⟩ rfl rfl rfl rfl rfl rfl (by kernel_rfl) (eq38 r1.1.off r3) ?_
    iterate 2 (refine WP.sx tysOk rfl ⟨⟨⟨rfl, rfl⟩, rfl⟩, ⟨⟩⟩ ?_)
    refine WP.no rfl rfl (decide_eq_false hh3) rfl rfl ?_
    iterate 4 (refine WP.no rfl rfl rfl rfl rfl ?_)
    iterate 2 (refine WP.sx tysOk rfl ⟨⟨⟨rfl, rfl⟩, rfl⟩, ⟨⟩⟩ ?_; refine WP.sx tysOk rfl ⟨⟨⟨rfl, rfl⟩, rfl⟩, ⟨⟩⟩ ?_; refine WP.no rfl rfl rfl rfl rfl ?_; refine WP.no rfl rfl rfl rfl rfl ?_)
    iterate 2 (refine WP.sx tysOk rfl ⟨⟨⟨rfl, rfl⟩, rfl⟩, ⟨⟩⟩ ?_; refine WP.sx tysOk rfl ⟨⟨⟨rfl, rfl⟩, rfl⟩, ⟨⟩⟩ ?_; refine WP.no rfl rfl rfl rfl rfl ?_)
    iterate 2 (refine WP.no rfl rfl rfl rfl rfl ?_)
    refine WP.sx tysOk rfl ⟨⟨⟨rfl, rfl⟩, rfl⟩, ⟨⟩⟩ ?_
    refine WP.lend rfl ⟨rfl, rfl⟩ ?_
    refine WP.sx tysOk rfl ⟨⟨⟩, ⟨⟩⟩ ?_
    cases h
    refine WP.retR tysOk rfl rfl ⟨_, _, rfl, rfl, rfl⟩ (fun w1 hw1 => ⟨rfl, Ret.below_ hw1 (.cons (.tail (.tail (.tail (.tail (.tail .head))))) .nil)⟩)
   rw [if_neg hh2] at h
   refine WP.drawL 35 [] rfl (by kernel_rfl) (by kernel_rfl) (by kernel_rfl) ?_
   iterate 3 (refine WP.sx tysOk rfl ⟨⟨⟨rfl, rfl⟩, rfl⟩, ⟨⟩⟩ ?_)
   refine WP.yes rfl rfl (decide_eq_true hh1) ?_
   refine WP.sx tysOk rfl ⟨⟨⟨rfl, rfl⟩, rfl⟩, ⟨⟩⟩ ?_
   refine WP.yes rfl rfl rfl ?_
   refine WP.lx tysOk rfl ⟨⟨rfl, rfl⟩, rfl⟩ (CellAt.blk .head rfl) ?_
   iterate 2 (refine WP.sx tysOk rfl ⟨⟨⟨rfl, rfl⟩, rfl⟩, ⟨⟩⟩ ?_)
   refine WP.no rfl rfl (bfalse hh2) rfl rfl ?_
   iterate 3 (refine WP.no rfl rfl rfl rfl rfl ?_)
   iterate 2 (refine WP.sx tysOk rfl ⟨⟨⟨rfl, rfl⟩, rfl⟩, ⟨⟩⟩ ?_)
   iterate 5 (refine WP.no rfl rfl rfl rfl rfl ?_)
   iterate 2 (refine WP.sx tysOk rfl ⟨⟨⟨rfl, rfl⟩, rfl⟩, ⟨⟩⟩ ?_; refine WP.sx tysOk rfl ⟨⟨⟨rfl, rfl⟩, rfl⟩, ⟨⟩⟩ ?_; refine WP.no rfl rfl rfl rfl rfl ?_; refine WP.no rfl rfl rfl rfl rfl ?_)
   iterate 2 (refine WP.sx tysOk rfl ⟨⟨⟨rfl, rfl⟩, rfl⟩, ⟨⟩⟩ ?_; refine WP.sx tysOk rfl ⟨⟨⟨rfl, rfl⟩, rfl⟩, ⟨⟩⟩ ?_; refine WP.no rfl rfl rfl rfl rfl ?_)
   iterate 2 (refine WP.no rfl rfl rfl rfl rfl ?_)
   refine WP.sx tysOk rfl ⟨⟨⟨rfl, rfl⟩, rfl⟩, ⟨⟩⟩ ?_
   refine WP.lend rfl ⟨rfl, rfl⟩ ?_
   refine WP.sx tysOk rfl ⟨⟨⟩, ⟨⟩⟩ ?_
   cases h
   refine WP.retR tysOk rfl rfl ⟨_, _, rfl, rfl, rfl⟩ (fun w1 hw1 => ⟨rfl, Ret.below_ hw1 (.cons (.tail (.tail (.tail (.tail (.tail .head))))) .nil)⟩)
  rw [if_neg hh1] at h
  refine WP.drawL 35 [] rfl (by kernel_rfl) (by kernel_rfl) (by kernel_rfl) ?_
  iterate 3 (refine WP.sx tysOk rfl ⟨⟨⟨rfl, rfl⟩, rfl⟩, ⟨⟩⟩ ?_)
  refine WP.no rfl rfl (decide_eq_false hh1) rfl rfl ?_
  refine WP.no rfl rfl rfl rfl rfl ?_
  iterate 2 (refine WP.sx tysOk rfl ⟨⟨⟨rfl, rfl⟩, rfl⟩, ⟨⟩⟩ ?_)
  iterate 4 (refine WP.no rfl rfl rfl rfl rfl ?_)
  iterate 2 (refine WP.sx tysOk rfl ⟨⟨⟨rfl, rfl⟩, rfl⟩, ⟨⟩⟩ ?_)
  iterate 5 (refine WP.no rfl rfl rfl rfl rfl ?_)
  iterate 2 (refine WP.sx tysOk rfl ⟨⟨⟨rfl, rfl⟩, rfl⟩, ⟨⟩⟩ ?_; refine WP.sx tysOk rfl ⟨⟨⟨rfl, rfl⟩, rfl⟩, ⟨⟩⟩ ?_; refine WP.no rfl rfl rfl rfl rfl ?_; refine WP.no rfl rfl rfl rfl rfl ?_)
  iterate 2 (refine WP.sx tysOk rfl ⟨⟨⟨rfl, rfl⟩, rfl⟩, ⟨⟩⟩ ?_; refine WP.sx tysOk rfl ⟨⟨⟨rfl, rfl⟩, rfl⟩, ⟨⟩⟩ ?_; refine WP.no rfl rfl rfl rfl rfl ?_)
  iterate 2 (refine WP.no rfl rfl rfl rfl rfl ?_)
  refine WP.sx tysOk rfl ⟨⟨⟨rfl, rfl⟩, rfl⟩, ⟨⟩⟩ ?_
  refine WP.lend rfl ⟨rfl, rfl⟩ ?_
  refine WP.sx tysOk rfl ⟨⟨⟩, ⟨⟩⟩ ?_
  cases h
  refine WP.retR tysOk rfl rfl ⟨_, _, rfl, rfl, rfl⟩ (fun w1 hw1 => ⟨rfl, Ret.below_ hw1 (.cons (.tail (.tail (.tail (.tail (.tail .head))))) .nil)⟩)

abbrev law03_Marks_S (r : (List Bool)) : Value → Heap → Prop := fun v L => ∃ (A1 : Option Addr) (n1 c1 : Nat), v = .slice A1 n1 c1 ∧ OwF A1 n1 r ∧ L = [Ow fB 4 A1 n1 c1 r]
set_option maxRecDepth 20000 in
set_option maxHeartbeats 8000000 in
theorem law03_Marks_w {w : World} {v0 : Value} {c1 : List Int} {many1 : Int} {r : (List Bool)} (h : law03_Marks c1 many1 = some r) (p1 : SlF (fI .u8) (PH.of w) v0 c1) :
    Calls Tryz.prog 16 #[v0, iv many1] w fun e w' => ∃ v L, e = .returned v ∧ law03_Marks_S r v L ∧ Ret w w' L := by
  obtain ⟨A1, c2, rfl, hs1⟩ := p1
  unfold law03_Marks at h
  refine enter_ Tryz.func16 rfl Tryz.ntmps16 rfl ?_
  iterate 3 (refine WP.sx tysOk rfl ⟨⟨⟩, ⟨⟩⟩ ?_)
  refine WP.own_nil 4 fB.z ?_
  refine WP.loop (α := Nat × Int × (List Bool) × (Option Addr) × Nat × Nat) (fun x => lp (law03_Marks_b1 c1 many1) x.1 (x.2.1, x.2.2.1) = some r ∧ OwF x.2.2.2.1 x.2.2.2.2.1 x.2.2.1) (fun x => [(0, .slice A1 c1.length c2), (1, iv many1), (5, .slice x.2.2.2.1 x.2.2.2.2.1 x.2.2.2.2.2), (6, iv x.2.1)]) (fun x => [Ow fB 4 x.2.2.2.1 x.2.2.2.2.1 x.2.2.2.2.2 x.2.2.1, .fz (PH.of w)]) (fun x => x.1) rfl (big, 0, ([] : List Bool), none, 0, 0) ⟨h, OwF.nil_⟩ ?_ ?_ ?_
  ·repeat first|exact ⟨⟩|refine ⟨rfl,?_⟩
  ·exact Pick.all
  rintro ⟨n1, k3, xs6, A7, m2, c8⟩ ⟨h, hf10⟩
  dsimp only at h hf10 ⊢
  rcases n1 with _ | n1
  · exact (lp_no h).elim
  replace h := lp_succ h
  unfold law03_Marks_b1 at h
  try dsimp only at h
  iterate 4 (refine WP.sx tysOk rfl ⟨⟨⟩, ⟨⟩⟩ ?_)
  by_cases hh9 : k3 < many1
  ·rw [if_pos hh9] at h
   refine WP.yes rfl rfl (decide_eq_true hh9) ?_
   iterate 3 (refine WP.sx tysOk rfl ⟨⟨⟩, ⟨⟩⟩ ?_; refine WP.yes rfl rfl rfl ?_)
   iterate 2 (refine WP.sx tysOk rfl ⟨⟨⟩, ⟨⟩⟩ ?_)
   refine WP.cond_d rfl rfl (fun hh10 => ?_) (fun hh10 => ?_)
   ·rw [if_pos hh10] at h
    iterate 3 (refine WP.sx tysOk rfl ⟨⟨⟩, ⟨⟩⟩ ?_)
    obtain ⟨hj5, h⟩ := ck_some h
    refine WP.ixA tysOk rfl ⟨⟩ rfl rfl rfl rfl rfl rfl rfl rfl hj5 (hs1.ex hj5) ?_
    intro b5 b5v hA5
    refine WP.lx tysOk rfl ⟨⟩ (hs1.at0 hA5 (Held.mem (List.Mem.tail _ (List.Mem.head _))) hj5 rfl) ?_
    refine WP.sx tysOk rfl ⟨⟨⟩, (by decide)⟩ ?_
    refine WP.sx tysOk rfl ⟨⟨⟩, ⟨⟩⟩ ?_
    refine WP.bsO (f := fB) [decide (((gt c1 k3).tmod 3) = 0)] tysOk rfl rfl rfl rfl rfl rfl rfl rfl rfl rfl rfl rfl rfl rfl ?_
    intro g5 hf11
    obtain ⟨hl5, h⟩ := ck_some h
    obtain ⟨xs7, hz5, h⟩ := lt_some h
    refine WP.appO (f := fB) (xs := xs6) (ys := [decide (((gt c1 k3).tmod 3) = 0)]) tysOk rfl rfl rfl rfl rfl rfl rfl rfl rfl rfl rfl rfl (.tail .head) hf10 hf11.len (OwS.app .head hf11) hl5 hz5 ?_
    intro A8 c9 hf12
    iterate 4 (refine WP.sx tysOk rfl ⟨⟨⟩, ⟨⟩⟩ ?_)
    refine WP.stop rfl (n1, w64 (k3 + 1), xs7, A8, xs7.length, c9) ⟨⟨h, hf12⟩, Nat.lt_succ_self _⟩ ?_ ?_
    ·repeat first|exact ⟨⟩|refine ⟨rfl,?_⟩
    exact (.cons .head (.cons (.tail .head) .nil))
   rw [if_neg hh10] at h
   iterate 2 (refine WP.sx tysOk rfl ⟨⟨⟩, ⟨⟩⟩ ?_)
   cases h
   refine WP.retR tysOk rfl rfl ⟨_, _, rfl, rfl, rfl⟩ (fun w1 hw1 => ⟨_, _, rfl, ⟨A7, m2, c8, rfl, hf10, rfl⟩, Ret.of_KH hw1 (.cons .head (.cons .head .nil))⟩)
  rw [if_neg hh9] at h
  refine WP.no rfl rfl (decide_eq_false hh9) rfl rfl ?_
  iterate 3 (refine WP.no rfl rfl rfl rfl rfl ?_)
  refine WP.sx tysOk rfl ⟨⟨⟩, ⟨⟩⟩ ?_
  refine WP.condF rfl rfl ?_
  iterate 2 (refine WP.sx tysOk rfl ⟨⟨⟩, ⟨⟩⟩ ?_)
  cases h
  refine WP.retR tysOk rfl rfl ⟨_, _, rfl, rfl, rfl⟩ (fun w1 hw1 => ⟨_, _, rfl, ⟨A7, m2, c8, rfl, hf10, rfl⟩, Ret.of_KH hw1 (.cons .head (.cons .head .nil))⟩)

abbrev cut_over_S (o0_0a : Option Addr) (o0_0n : Nat) (o0_0c : Nat) (o0_1a : Option Addr) (o0_1n : Nat) (o0_1c : Nat) (o1_0a : Option Addr) (o1_0n : Nat) (o1_0c : Nat) : Value → Heap → Prop := fun v L => ∃ g1 g2 : Nat, v = .func (.func 77) #[] #[pt g1, pt g2] ∧ L = [.blk g1 25 [.slice o0_0a o0_0n o0_0c, .slice o0_1a o0_1n o0_1c], .blk g2 47 [.slice o1_0a o1_0n o1_0c]]
set_option maxRecDepth 20000 in
set_option maxHeartbeats 8000000 in
theorem cut_over_w {w : World} {o0_0a : Option Addr} {o0_0n : Nat} {o0_0c : Nat} {o0_1a : Option Addr} {o0_1n : Nat} {o0_1c : Nat} {o1_0a : Option Addr} {o1_0n : Nat} {o1_0c : Nat} :
    Calls Tryz.prog 42 #[.agg #[.slice o0_0a o0_0n o0_0c, .slice o0_1a o0_1n o0_1c], .slice o1_0a o1_0n o1_0c] w fun e w' => ∃ v L, e = .returned v ∧ cut_over_S o0_0a o0_0n o0_0c o0_1a o0_1n o0_1c o1_0a o1_0n o1_0c v L ∧ Ret w w' L := by
  refine enter_ Tryz.func42 rfl Tryz.ntmps42 rfl ?_
  refine WP.box rfl rfl rfl rfl rfl rfl ?_
  intro g1
  refine WP.box rfl rfl rfl rfl rfl rfl ?_
  intro g2
  iterate 3 (refine WP.sx tysOk rfl ⟨⟨⟩, ⟨⟩⟩ ?_)
  refine WP.retR tysOk rfl rfl ⟨_, _, rfl, rfl, rfl⟩ (fun w1 hw1 => ⟨_, _, rfl, ⟨g1, g2, rfl, rfl⟩, Ret.of_KH hw1 (.cons (.tail .head) (.cons .head (.cons .head .nil)))⟩)

set_option maxRecDepth 20000 in
set_option maxHeartbeats 8000000 in
theorem cut_over_1_1_1_w {w : World} {gg1 : Nat} {A1 : Option Addr} {c1 : Nat} {A2 : Option Addr} {c2 : Nat} {n1 : Int} {x1 : Inst} {r : Bool} (h : cut_over_1_1_1 n1 x1 = some r) (hs1 : FzS (fI .i64) (PH.of w) A1 c1 x1.supply) (hs2 : FzS fA (PH.of w) A2 c2 x1.arcs) (hb1 : Zc (PH.of w) gg1 0 = some (.slice A1 x1.supply.length c1)) (hb2 : Zc (PH.of w) gg1 1 = some (.slice A2 x1.arcs.length c2)) :
    Calls Tryz.prog 78 #[iv n1, .pointer (some ⟨gg1, 0, none⟩)] w fun e w' => e = .returned (.bool (r)) ∧ Below w.heap.size w w' := by
  unfold cut_over_1_1_1 at h
  refine enter_ Tryz.func78 rfl Tryz.ntmps78 rfl ?_
  iterate 4 (refine WP.sx tysOk rfl ⟨⟨⟩, ⟨⟩⟩ ?_)
  by_cases hh1 : 0 ≤ n1
  ·rw [if_pos hh1] at h
   refine WP.yes rfl rfl (decide_eq_true hh1) ?_
   iterate 2 (refine WP.sx tysOk rfl ⟨⟨⟩, ⟨⟩⟩ ?_; refine WP.yes rfl rfl rfl ?_)
   refine WP.lx tysOk rfl ⟨⟩ (Held.cell (Held.mem (List.Mem.head _)) hb1) ?_
   refine WP.yes rfl rfl rfl ?_
   refine WP.sx tysOk rfl ⟨⟨⟩, ⟨⟩⟩ ?_
   refine WP.yes rfl rfl rfl ?_
   iterate 3 (refine WP.sx tysOk rfl ⟨⟨⟩, ⟨⟩⟩ ?_)
   cases h
   refine WP.retR tysOk rfl rfl ⟨_, _, rfl, rfl, rfl⟩ (fun w1 hw1 => ⟨rfl, Ret.below_ hw1 (.cons .head .nil)⟩)
  rw [if_neg hh1] at h
  refine WP.no rfl rfl (decide_eq_false hh1) rfl rfl ?_
  iterate 4 (refine WP.no rfl rfl rfl rfl rfl ?_)
  iterate 2 (refine WP.sx tysOk rfl ⟨⟨⟩, ⟨⟩⟩ ?_)
  cases h
  refine WP.retR tysOk rfl rfl ⟨_, _, rfl, rfl, rfl⟩ (fun w1 hw1 => ⟨rfl, Ret.below_ hw1 (.cons .head .nil)⟩)

set_option maxRecDepth 20000 in
set_option maxHeartbeats 8000000 in
theorem cut_on_w {w : World} {v0 : Value} {side1 : List Bool} {n1 : Int} {r : Bool} (h : cut_on side1 n1 = some r) (p1 : SlF fB (PH.of w) v0 side1) :
    Calls Tryz.prog 44 #[v0, iv n1] w fun e w' => e = .returned (.bool (r)) ∧ Below w.heap.size w w' := by
  obtain ⟨A1, c1, rfl, hs1⟩ := p1
  unfold cut_on at h
  refine enter_ Tryz.func44 rfl Tryz.ntmps44 rfl ?_
  iterate 6 (refine WP.sx tysOk rfl ⟨⟨⟩, ⟨⟩⟩ ?_)
  by_cases hh1 : n1 < (side1.length : Int)
  ·rw [if_pos hh1] at h
   refine WP.yes rfl rfl (decide_eq_true hh1) ?_
   iterate 2 (refine WP.sx tysOk rfl ⟨⟨⟩, ⟨⟩⟩ ?_; refine WP.yes rfl rfl rfl ?_)
   obtain ⟨hj1, h⟩ := ck_some h
   refine WP.ixA tysOk rfl ⟨⟩ rfl rfl rfl rfl rfl rfl rfl rfl hj1 (hs1.ex hj1) ?_
   intro b1 b1v hA1
   refine WP.yes rfl rfl rfl ?_
   refine WP.lx tysOk rfl ⟨⟩ (hs1.at0 hA1 (Held.mem (List.Mem.head _)) hj1 rfl) ?_
   iterate 2 (refine WP.sx tysOk rfl ⟨⟨⟩, ⟨⟩⟩ ?_)
   cases h
   refine WP.retR tysOk rfl rfl ⟨_, _, rfl, rfl, rfl⟩ (fun w1 hw1 => ⟨rfl, Ret.below_ hw1 (.cons .head .nil)⟩)
  rw [if_neg hh1] at h
  refine WP.no rfl rfl (decide_eq_false hh1) rfl rfl ?_
  iterate 3 (refine WP.no rfl rfl rfl rfl rfl ?_)
  iterate 2 (refine WP.sx tysOk rfl ⟨⟨⟩, ⟨⟩⟩ ?_)
  cases h
  refine WP.retR tysOk rfl rfl ⟨_, _, rfl, rfl, rfl⟩ (fun w1 hw1 => ⟨rfl, Ret.below_ hw1 (.cons .head .nil)⟩)

set_option maxRecDepth 20000 in
set_option maxHeartbeats 8000000 in
theorem cut_over_1_it {Zg : PH} {gg1 : Nat} {A1 : Option Addr} {c1 : Nat} {A2 : Option Addr} {c2 : Nat} {gg2 : Nat} {A3 : Option Addr} {c3 : Nat} {x1 : Inst} {x2 : List Bool} {xs : List (Arc × Bool)} (h : cut_over_1 x1 x2 = some xs) (hs1 : FzS (fI .i64) Zg A1 c1 x1.supply) (hs2 : FzS fA Zg A2 c2 x1.arcs) (hs3 : FzS fB Zg A3 c3 x2) :
    Iter Tryz.prog 77 #[pt gg1, pt gg2] cut_over_1_enc xs [.blk gg1 25 [.slice A1 x1.supply.length c1, .slice A2 x1.arcs.length c2], .blk gg2 47 [.slice A3 x2.length c3], .fz Zg] := by
  intro l C Cx Z w hy hC hK
  have hb1 : Zc (PH.but w Z) gg1 0 = some (.slice A1 x1.supply.length c1) := hK.butCell .head rfl
  have hb2 : Zc (PH.but w Z) gg1 1 = some (.slice A2 x1.arcs.length c2) := hK.butCell .head rfl
  replace hs1 := hs1.le' (hK.butFz (.tail (.tail .head)))
  replace hs2 := hs2.le' (hK.butFz (.tail (.tail .head)))
  have hb3 : Zc (PH.but w Z) gg2 0 = some (.slice A3 x2.length c3) := hK.butCell (.tail .head) rfl
  replace hs3 := hs3.le' (hK.butFz (.tail (.tail .head)))
  obtain ⟨r, h, hx⟩ : ∃ r, cut_over_1 x1 x2 = some r ∧ xs = [] ++ r := ⟨xs, h, rfl⟩
  unfold cut_over_1 at h
  refine enterH Tryz.func77 rfl Tryz.ntmps77 rfl hK.split (args := [.func (.yield l) #[] #[], pt gg1, pt gg2]) ?_
  iterate 3 (refine WP.sx tysOk rfl ⟨⟨⟩, ⟨⟩⟩ ?_)
  refine WP.lx tysOk rfl ⟨⟩ (Held.cell (Held.mem (List.Mem.tail _ (List.Mem.head _))) hb2) ?_
  iterate 2 (refine WP.sx tysOk rfl ⟨⟨⟩, ⟨⟩⟩ ?_)
  refine WP.loop (α := Nat × Int × (List (Arc × Bool)) × (List (Arc × Bool)) × PH) (fun x => lp (cut_over_1_b1 x1 x2) x.1 x.2.1 = some x.2.2.2.1 ∧ xs = x.2.2.1 ++ x.2.2.2.1 ∧ C x.2.2.1 x.2.2.2.2) (fun x => [(0, .func (.yield l) #[] #[]), (2, pt gg2), (4, .func (.func 78) #[] #[pt gg1]), (9, .slice A2 x1.arcs.length c2), (10, iv (x1.arcs.length : Int)), (11, iv x.2.1)]) (fun x => [.fz x.2.2.2.2, .fz (PH.but w Z)]) (fun x => x.1) rfl (big, 0, [], r, Z) ⟨h, hx, hC⟩ ?_ ?_ ?_
  ·repeat first|exact ⟨⟩|refine ⟨rfl,?_⟩
  ·exact Pick.all
  rintro ⟨n1, s2, pre3, r13, Zy7⟩ ⟨h, hx5, hC7⟩
  dsimp only at h hx5 hC7 ⊢
  rcases n1 with _ | n1
  · exact (lp_no h).elim
  replace h := lp_succ h
  unfold cut_over_1_b1 at h
  try dsimp only at h
  refine WP.sx tysOk rfl ⟨⟨⟩, ⟨⟩⟩ ?_
  refine WP.cond_d rfl rfl (fun hh9 => ?_) (fun hh9 => ?_)
  ·rw [if_pos hh9] at h
   obtain ⟨hj3, h⟩ := ck_some h
   refine WP.ixA tysOk rfl ⟨⟩ rfl rfl rfl rfl rfl rfl rfl rfl hj3 (hs2.ex hj3) ?_
   intro b3 b3v hA3
   refine WP.mx_ tysOk rfl ⟨⟩ (hs2.seg hA3 (Held.mem (List.Mem.tail _ (List.Mem.head _))) hj3) ?_
   refine WP.al tysOk rfl rfl rfl rfl rfl rfl ?_
   intro g3
   refine WP.sto' tysOk [iv ((gt x1.arcs s2).src), iv ((gt x1.arcs s2).dst), iv ((gt x1.arcs s2).low), iv ((gt x1.arcs s2).cap), iv ((gt x1.arcs s2).cost)] rfl rfl rfl rfl rfl rfl rfl rfl rfl .head rfl rfl ?_
   obtain ⟨r14, hg11, h⟩ := bind_some h
   by_cases hh10 : r14 = true
   ·rw [if_pos hh10] at h
    obtain ⟨r15, hg12, h⟩ := bind_some h
    by_cases hh11 : r15 = true
    ·rw [if_pos hh11] at h
     obtain ⟨r16, hg13, h⟩ := bind_some h
     obtain ⟨r17, hg14, h⟩ := bind_some h
     refine WP.drawL 23 [(3, [], fun _ => constSpec (.bool (r14))), (9, [], fun _ => constSpec (.bool (r15))), (16, [], fun _ => constSpec (.bool (r16))), (20, [], fun _ => constSpec (.bool (r17)))] rfl (by kernel_rfl) (by kernel_rfl) (by kernel_rfl) ?_
     iterate 2 (refine WP.sx tysOk rfl ⟨⟨⟨rfl, rfl⟩, rfl⟩, ⟨⟩⟩ ?_)
     refine WP.lx tysOk rfl ⟨⟨rfl, rfl⟩, rfl⟩ (CellAt.blk .head rfl) ?_
     refine WP.callV rfl rfl rfl rfl rfl rfl rfl (by kernel_rfl) (fun w1 hw1 => (cut_over_1_1_1_w hg11 (hs1.le' ((Held.mem (List.Mem.tail _ (List.Mem.tail _ (List.Mem.head _)))) _ _ hw1)) (hs2.le' ((Held.mem (List.Mem.tail _ (List.Mem.tail _ (List.Mem.head _)))) _ _ hw1)) (PH.le.cell ((Held.mem (List.Mem.tail _ (List.Mem.tail _ (List.Mem.head _)))) _ _ hw1) hb1) (PH.le.cell ((Held.mem (List.Mem.tail _ (List.Mem.tail _ (List.Mem.head _)))) _ _ hw1) hb2) :)) ⟨⟨rfl, rfl⟩, rfl⟩ ?_
     iterate 2 (refine WP.sx tysOk rfl ⟨⟨⟨rfl, rfl⟩, rfl⟩, ⟨⟩⟩ ?_)
     refine WP.yes rfl rfl (by simp [hh10]) ?_
     iterate 2 (refine WP.sx tysOk rfl ⟨⟨⟨rfl, rfl⟩, rfl⟩, ⟨⟩⟩ ?_; refine WP.yes rfl rfl rfl ?_)
     refine WP.lx tysOk rfl ⟨⟨rfl, rfl⟩, rfl⟩ (CellAt.blk .head rfl) ?_
     refine WP.yes rfl rfl rfl ?_
     refine WP.callV rfl rfl rfl rfl rfl rfl rfl (by kernel_rfl) (fun w1 hw1 => (cut_over_1_1_1_w hg12 (hs1.le' ((Held.mem (List.Mem.tail _ (List.Mem.tail _ (List.Mem.head _)))) _ _ hw1)) (hs2.le' ((Held.mem (List.Mem.tail _ (List.Mem.tail _ (List.Mem.head _)))) _ _ hw1)) (PH.le.cell ((Held.mem (List.Mem.tail _ (List.Mem.tail _ (List.Mem.head _)))) _ _ hw1) hb1) (PH.le.cell ((Held.mem (List.Mem.tail _ (List.Mem.tail _ (List.Mem.head _)))) _ _ hw1) hb2) :)) ⟨⟨rfl, rfl⟩, rfl⟩ ?_
     refine WP.yes rfl rfl rfl ?_
     iterate 3 (refine WP.sx tysOk rfl ⟨⟨⟨rfl, rfl⟩, rfl⟩, ⟨⟩⟩ ?_)
     refine WP.yes rfl rfl (by simp [hh11]) ?_
     refine WP.lx tysOk rfl ⟨⟨rfl, rfl⟩, rfl⟩ (Held.cell (Held.mem (List.Mem.tail _ (List.Mem.tail _ (List.Mem.head _)))) hb3) ?_
     refine WP.yes rfl rfl rfl ?_
     refine WP.sx tysOk rfl ⟨⟨⟨rfl, rfl⟩, rfl⟩, ⟨⟩⟩ ?_
     refine WP.yes rfl rfl rfl ?_
     refine WP.lx tysOk rfl ⟨⟨rfl, rfl⟩, rfl⟩ (CellAt.blk .head rfl) ?_
     refine WP.yes rfl rfl rfl ?_
     refine WP.callV rfl rfl rfl rfl rfl rfl rfl (by kernel_rfl) (fun w1 hw1 => (cut_on_w hg13 (hs3.le' ((Held.mem (List.Mem.tail _ (List.Mem.tail _ (List.Mem.head _)))) _ _ hw1)).of :)) ⟨⟨rfl, rfl⟩, rfl⟩ ?_
     refine WP.yes rfl rfl rfl ?_
     refine WP.lx tysOk rfl ⟨⟨rfl, rfl⟩, rfl⟩ (Held.cell (Held.mem (List.Mem.tail _ (List.Mem.tail _ (List.Mem.head _)))) hb3) ?_
     refine WP.yes rfl rfl rfl ?_
     refine WP.sx tysOk rfl ⟨⟨⟨rfl, rfl⟩, rfl⟩, ⟨⟩⟩ ?_
     refine WP.yes rfl rfl rfl ?_
     refine WP.lx tysOk rfl ⟨⟨rfl, rfl⟩, rfl⟩ (CellAt.blk .head rfl) ?_
     refine WP.yes rfl rfl rfl ?_
     refine WP.callV rfl rfl rfl rfl rfl rfl rfl (by kernel_rfl) (fun w1 hw1 => (cut_on_w hg14 (hs3.le' ((Held.mem (List.Mem.tail _ (List.Mem.tail _ (List.Mem.head _)))) _ _ hw1)).of :)) ⟨⟨rfl, rfl⟩, rfl⟩ ?_
     refine WP.yes rfl rfl rfl ?_
     iterate 2 (refine WP.sx tysOk rfl ⟨⟨⟨rfl, rfl⟩, rfl⟩, ⟨⟩⟩ ?_)
     refine WP.lend rfl ⟨rfl, rfl⟩ ?_
     refine WP.cond rfl rfl (fun hh12 => ?_) (fun hh12 => ?_)
     ·rw [if_pos hh12] at h
      iterate 2 (refine WP.sx tysOk rfl ⟨⟨⟩, ⟨⟩⟩ ?_)
      refine WP.stop rfl (n1, w64 (s2 + 1), pre3, r13, Zy7) ⟨⟨h, hx5, hC7⟩, Nat.lt_succ_self _⟩ ?_ ?_
      ·repeat first|exact ⟨⟩|refine ⟨rfl,?_⟩
      exact (.cons (.tail .head) (.cons (.tail .head) .nil))
     rw [if_neg (bneg hh12)] at h
     obtain ⟨r18, hg15, h⟩ := bind_some h
     refine WP.drawL 6 [(5, [], fun _ => constSpec (.bool (r18)))] rfl (by kernel_rfl) (by kernel_rfl) (by kernel_rfl) ?_
     refine WP.sx tysOk rfl ⟨⟨⟨rfl, rfl⟩, rfl⟩, ⟨⟩⟩ ?_
     refine WP.mx_ tysOk rfl ⟨⟨rfl, rfl⟩, rfl⟩ (SegAt.blk' .head rfl) ?_
     refine WP.lx tysOk rfl ⟨⟨rfl, rfl⟩, rfl⟩ (Held.cell (Held.mem (List.Mem.tail _ (List.Mem.tail _ (List.Mem.head _)))) hb3) ?_
     refine WP.sx tysOk rfl ⟨⟨⟨rfl, rfl⟩, rfl⟩, ⟨⟩⟩ ?_
     refine WP.lx tysOk rfl ⟨⟨rfl, rfl⟩, rfl⟩ (CellAt.blk .head rfl) ?_
     refine WP.callV rfl rfl rfl rfl rfl rfl rfl (by kernel_rfl) (fun w1 hw1 => (cut_on_w hg15 (hs3.le' ((Held.mem (List.Mem.tail _ (List.Mem.tail _ (List.Mem.head _)))) _ _ hw1)).of :)) ⟨⟨rfl, rfl⟩, rfl⟩ ?_
     refine WP.lend rfl ⟨rfl, rfl⟩ ?_
     obtain ⟨post3, hq, e3⟩ := bind_some h
     clear h
     replace e3 := Option.some.inj e3
     subst e3
     have h := hq
     clear hq
     have hx6 := snoc_post hx5
     refine WP.yield hy (x := ((gt x1.arcs s2), r18)) (pre := pre3) rfl rfl rfl rfl rfl rfl rfl rfl ⟨post3, hx5⟩ hC7 (.tail .head) (fun Zy8 hC8 => ?_) (fun Zy9 hC9 => ?_)
     ·refine WP.sx tysOk rfl ⟨⟨⟩, ⟨⟩⟩ ?_
      refine WP.condF rfl rfl ?_
      iterate 2 (refine WP.sx tysOk rfl ⟨⟨⟩, ⟨⟩⟩ ?_)
      refine WP.stop rfl (n1, w64 (s2 + 1), (pre3 ++ [((gt x1.arcs s2), r18)]), post3, Zy8) ⟨⟨h, hx6, hC8⟩, Nat.lt_succ_self _⟩ ?_ ?_
      ·repeat first|exact ⟨⟩|refine ⟨rfl,?_⟩
      exact (.cons .head (.cons (.tail .head) .nil))
     refine WP.sx tysOk rfl ⟨⟨⟩, ⟨⟩⟩ ?_
     refine WP.condT rfl rfl ?_
     refine WP.ret0 rfl rfl (fun w1 hw1 => ⟨⟨_, rfl⟩, .inr ⟨_, Zy9, hC9, hw1.toTurn (.cons .head (.cons (.tail .head) .nil))⟩⟩)
    rw [if_neg hh11] at h
    refine WP.drawL 23 [(3, [], fun _ => constSpec (.bool (r14))), (9, [], fun _ => constSpec (.bool (r15)))] rfl (by kernel_rfl) (by kernel_rfl) (by kernel_rfl) ?_
    iterate 2 (refine WP.sx tysOk rfl ⟨⟨⟨rfl, rfl⟩, rfl⟩, ⟨⟩⟩ ?_)
    refine WP.lx tysOk rfl ⟨⟨rfl, rfl⟩, rfl⟩ (CellAt.blk .head rfl) ?_
    refine WP.callV rfl rfl rfl rfl rfl rfl rfl (by kernel_rfl) (fun w1 hw1 => (cut_over_1_1_1_w hg11 (hs1.le' ((Held.mem (List.Mem.tail _ (List.Mem.tail _ (List.Mem.head _)))) _ _ hw1)) (hs2.le' ((Held.mem (List.Mem.tail _ (List.Mem.tail _ (List.Mem.head _)))) _ _ hw1)) (PH.le.cell ((Held.mem (List.Mem.tail _ (List.Mem.tail _ (List.Mem.head _)))) _ _ hw1) hb1) (PH.le.cell ((Held.mem (List.Mem.tail _ (List.Mem.tail _ (List.Mem.head _)))) _ _ hw1) hb2) :)) ⟨⟨rfl, rfl⟩, rfl⟩ ?_
    iterate 2 (refine WP.sx tysOk rfl ⟨⟨⟨rfl, rfl⟩, rfl⟩, ⟨⟩⟩ ?_)
    refine WP.yes rfl rfl (by simp [hh10]) ?_
    iterate 2 (refine WP.sx tysOk rfl ⟨⟨⟨rfl, rfl⟩, rfl⟩, ⟨⟩⟩ ?_; refine WP.yes rfl rfl rfl ?_)
    refine WP.lx tysOk rfl ⟨⟨rfl, rfl⟩, rfl⟩ (CellAt.blk .head rfl) ?_
    refine WP.yes rfl rfl rfl ?_
    refine WP.callV rfl rfl rfl rfl rfl rfl rfl (by kernel_rfl) (fun w1 hw1 => (cut_over_1_1_1_w hg12 (hs1.le' ((Held.mem (List.Mem.tail _ (List.Mem.tail _ (List.Mem.head _)))) _ _ hw1)) (hs2.le' ((Held.mem (List.Mem.tail _ (List.Mem.tail _ (List.Mem.head _)))) _ _ hw1)) (PH.le.cell ((Held.mem (List.Mem.tail _ (List.Mem.tail _ (List.Mem.head _)))) _ _ hw1) hb1) (PH.le.cell ((Held.mem (List.Mem.tail _ (List.Mem.tail _ (List.Mem.head _)))) _ _ hw1) hb2) :)) ⟨⟨rfl, rfl⟩, rfl⟩ ?_
    refine WP.yes rfl rfl rfl ?_
    iterate 3 (refine WP.sx tysOk rfl ⟨⟨⟨rfl, rfl⟩, rfl⟩, ⟨⟩⟩ ?_)
    refine WP.no rfl rfl (by simp [hh11]) rfl rfl ?_
    iterate 8 (refine WP.no rfl rfl rfl rfl rfl ?_)
    refine WP.sx tysOk rfl ⟨⟨⟨rfl, rfl⟩, rfl⟩, ⟨⟩⟩ ?_
    refine WP.lend rfl ⟨rfl, rfl⟩ ?_
    refine WP.condT rfl rfl ?_
    iterate 2 (refine WP.sx tysOk rfl ⟨⟨⟩, ⟨⟩⟩ ?_)
    refine WP.stop rfl (n1, w64 (s2 + 1), pre3, r13, Zy7) ⟨⟨h, hx5, hC7⟩, Nat.lt_succ_self _⟩ ?_ ?_
    ·repeat first|exact ⟨⟩|refine ⟨rfl,?_⟩
    exact (.cons (.tail .head) (.cons (.tail .head) .nil))
   rw [if_neg hh10] at h
   refine WP.drawL 23 [(3, [], fun _ => constSpec (.bool (r14)))] rfl (by kernel_rfl) (by kernel_rfl) (by kernel_rfl) ?_
   iterate 2 (refine WP.sx tysOk rfl ⟨⟨⟨rfl, rfl⟩, rfl⟩, ⟨⟩⟩ ?_)
   refine WP.lx tysOk rfl ⟨⟨rfl, rfl⟩, rfl⟩ (CellAt.blk .head rfl) ?_
   refine WP.callV rfl rfl rfl rfl rfl rfl rfl (by kernel_rfl) (fun w1 hw1 => (cut_over_1_1_1_w hg11 (hs1.le' ((Held.mem (List.Mem.tail _ (List.Mem.tail _ (List.Mem.head _)))) _ _ hw1)) (hs2.le' ((Held.mem (List.Mem.tail _ (List.Mem.tail _ (List.Mem.head _)))) _ _ hw1)) (PH.le.cell ((Held.mem (List.Mem.tail _ (List.Mem.tail _ (List.Mem.head _)))) _ _ hw1) hb1) (PH.le.cell ((Held.mem (List.Mem.tail _ (List.Mem.tail _ (List.Mem.head _)))) _ _ hw1) hb2) :)) ⟨⟨rfl, rfl⟩, rfl⟩ ?_
   iterate 2 (refine WP.sx tysOk rfl ⟨⟨⟨rfl, rfl⟩, rfl⟩, ⟨⟩⟩ ?_)
   refine WP.no rfl rfl (by simp [hh10]) rfl rfl ?_
   iterate 4 (refine WP.no rfl rfl rfl rfl rfl ?_)
   iterate 2 (refine WP.sx tysOk rfl ⟨⟨⟨rfl, rfl⟩, rfl⟩, ⟨⟩⟩ ?_)
   iterate 9 (refine WP.no rfl rfl rfl rfl rfl ?_)
   refine WP.sx tysOk rfl ⟨⟨⟨rfl, rfl⟩, rfl⟩, ⟨⟩⟩ ?_
   refine WP.lend rfl ⟨rfl, rfl⟩ ?_
   refine WP.condT rfl rfl ?_
   iterate 2 (refine WP.sx tysOk rfl ⟨⟨⟩, ⟨⟩⟩ ?_)
   refine WP.stop rfl (n1, w64 (s2 + 1), pre3, r13, Zy7) ⟨⟨h, hx5, hC7⟩, Nat.lt_succ_self _⟩ ?_ ?_
   ·repeat first|exact ⟨⟩|refine ⟨rfl,?_⟩
   exact (.cons (.tail .head) (.cons (.tail .head) .nil))
  rw [if_neg hh9] at h
  replace h := Option.some.inj h
  subst h
  refine WP.end0 rfl rfl (fun w1 hw1 => ⟨⟨_, rfl⟩, .inl ⟨Zy7, by rw [hx5, List.append_nil]; exact hC7, hw1.toTurn Pick.all⟩⟩)

set_option maxRecDepth 20000 in
set_option maxHeartbeats 8000000 in
theorem num_Minus_w {w : World} {a1 : Wide} {b1 : Wide} {r : Wide} (h : num_Minus a1 b1 = some r) :
    Calls Tryz.prog 18 #[.agg #[iv a1.hi, .int .u64 (a1.lo)], .agg #[iv b1.hi, .int .u64 (b1.lo)]] w fun e w' => e = .returned (.agg #[iv r.hi, .int .u64 (r.lo)]) ∧ Below w.heap.size w w' := by
  unfold num_Minus at h
  refine enter_ Tryz.func18 rfl Tryz.ntmps18 rfl ?_
  refine WP.box rfl rfl rfl rfl rfl rfl ?_
  intro g1
  refine WP.box rfl rfl rfl rfl rfl rfl ?_
  intro g2
  refine WP.al tysOk rfl rfl rfl rfl rfl rfl ?_
  intro g3
  refine WP.sx tysOk rfl ⟨⟨⟩, ⟨⟩⟩ ?_
  refine WP.lx tysOk rfl ⟨⟩ (CellAt.blk (.tail (.tail .head)) rfl) ?_
  refine WP.sx tysOk rfl ⟨⟨⟩, ⟨⟩⟩ ?_
  refine WP.lx tysOk rfl ⟨⟩ (CellAt.blk (.tail .head) rfl) ?_
  refine WP.ext rfl ⟨⟩ rfl rfl rfl rfl rfl rfl (fun w => sub64_w _ _ _ (by decide) w) ?_
  iterate 6 (refine WP.sx tysOk rfl ⟨⟨⟩, ⟨⟩⟩ ?_)
  refine WP.lx tysOk rfl ⟨⟩ (CellAt.blk (.tail (.tail .head)) rfl) ?_
  iterate 2 (refine WP.sx tysOk rfl ⟨⟨⟩, ⟨⟩⟩ ?_)
  refine WP.lx tysOk rfl ⟨⟩ (CellAt.blk (.tail .head) rfl) ?_
  iterate 2 (refine WP.sx tysOk rfl ⟨⟨⟩, ⟨⟩⟩ ?_)
  obtain ⟨hc1, h⟩ := ck_some h
  refine WP.ext rfl ⟨⟩ rfl rfl rfl rfl rfl rfl (fun w => sub64_w _ _ _ hc1 w) ?_
  iterate 3 (refine WP.sx tysOk rfl ⟨⟨⟩, ⟨⟩⟩ ?_)
  obtain ⟨hi1, hx1, h⟩ := lt_some h
  refine WP.sx tysOk rfl ⟨⟨⟩, ⟨⟩⟩ ?_
  refine WP.retell (s := 7) (.int .u64 hi1) rfl (congrArg (Value.int .u64) hx1.symm) ?_
  obtain ⟨_1, hx2, h⟩ := lt_some h
  refine WP.sx tysOk rfl ⟨⟨⟩, ⟨⟩⟩ ?_
  refine WP.retell (s := 8) (.int .u64 _1) rfl (congrArg (Value.int .u64) hx2.symm) ?_
  iterate 3 (refine WP.sx tysOk rfl ⟨⟨⟩, ⟨⟩⟩ ?_)
  refine WP.bld (cs := [iv (w64 (hi1)), .int .u64 ((sub64 a1.lo b1.lo 0).1)]) tysOk rfl ⟨⟩ rfl rfl rfl rfl rfl rfl rfl ?_
  refine WP.sto' tysOk [iv (w64 (hi1)), .int .u64 ((sub64 a1.lo b1.lo 0).1)] rfl rfl rfl rfl rfl rfl rfl rfl rfl .head rfl rfl ?_
  cases h
  refine WP.retR tysOk rfl rfl ⟨_, _, _, _, rfl, ⟨_, rfl, .inr ⟨rfl, _, rfl, rfl, (SegAt.blk' (z := 2) .head rfl).1⟩⟩, rfl, rfl⟩ (fun w1 hw1 => ⟨rfl, Ret.below_ hw1 (.cons (.tail (.tail (.tail .head))) .nil)⟩)

set_option maxRecDepth 20000 in
set_option maxHeartbeats 8000000 in
theorem num_Plus_w {w : World} {a1 : Wide} {b1 : Wide} {r : Wide} (h : num_Plus a1 b1 = some r) :
    Calls Tryz.prog 24 #[.agg #[iv a1.hi, .int .u64 (a1.lo)], .agg #[iv b1.hi, .int .u64 (b1.lo)]] w fun e w' => e = .returned (.agg #[iv r.hi, .int .u64 (r.lo)]) ∧ Below w.heap.size w w' := by
  unfold num_Plus at h
  refine enter_ Tryz.func24 rfl Tryz.ntmps24 rfl ?_
  refine WP.box rfl rfl rfl rfl rfl rfl ?_
  intro g1
  refine WP.box rfl rfl rfl rfl rfl rfl ?_
  intro g2
  refine WP.al tysOk rfl rfl rfl rfl rfl rfl ?_
  intro g3
  refine WP.sx tysOk rfl ⟨⟨⟩, ⟨⟩⟩ ?_
  refine WP.lx tysOk rfl ⟨⟩ (CellAt.blk (.tail (.tail .head)) rfl) ?_
  refine WP.sx tysOk rfl ⟨⟨⟩, ⟨⟩⟩ ?_
  refine WP.lx tysOk rfl ⟨⟩ (CellAt.blk (.tail .head) rfl) ?_
  refine WP.ext rfl ⟨⟩ rfl rfl rfl rfl rfl rfl (fun w => add64_w _ _ _ (by decide) w) ?_
  iterate 6 (refine WP.sx tysOk rfl ⟨⟨⟩, ⟨⟩⟩ ?_)
  refine WP.lx tysOk rfl ⟨⟩ (CellAt.blk (.tail (.tail .head)) rfl) ?_
  iterate 2 (refine WP.sx tysOk rfl ⟨⟨⟩, ⟨⟩⟩ ?_)
  refine WP.lx tysOk rfl ⟨⟩ (CellAt.blk (.tail .head) rfl) ?_
  iterate 2 (refine WP.sx tysOk rfl ⟨⟨⟩, ⟨⟩⟩ ?_)
  obtain ⟨hc1, h⟩ := ck_some h
  refine WP.ext rfl ⟨⟩ rfl rfl rfl rfl rfl rfl (fun w => add64_w _ _ _ hc1 w) ?_
  iterate 3 (refine WP.sx tysOk rfl ⟨⟨⟩, ⟨⟩⟩ ?_)
  obtain ⟨hi1, hx1, h⟩ := lt_some h
  refine WP.sx tysOk rfl ⟨⟨⟩, ⟨⟩⟩ ?_
  refine WP.retell (s := 7) (.int .u64 hi1) rfl (congrArg (Value.int .u64) hx1.symm) ?_
  obtain ⟨_1, hx2, h⟩ := lt_some h
  refine WP.sx tysOk rfl ⟨⟨⟩, ⟨⟩⟩ ?_
  refine WP.retell (s := 8) (.int .u64 _1) rfl (congrArg (Value.int .u64) hx2.symm) ?_
  iterate 3 (refine WP.sx tysOk rfl ⟨⟨⟩, ⟨⟩⟩ ?_)
  refine WP.bld (cs := [iv (w64 (hi1)), .int .u64 ((add64 a1.lo b1.lo 0).1)]) tysOk rfl ⟨⟩ rfl rfl rfl rfl rfl rfl rfl ?_
  refine WP.sto' tysOk [iv (w64 (hi1)), .int .u64 ((add64 a1.lo b1.lo 0).1)] rfl rfl rfl rfl rfl rfl rfl rfl rfl .head rfl rfl ?_
  cases h
  refine WP.retR tysOk rfl rfl ⟨_, _, _, _, rfl, ⟨_, rfl, .inr ⟨rfl, _, rfl, rfl, (SegAt.blk' (z := 2) .head rfl).1⟩⟩, rfl, rfl⟩ (fun w1 hw1 => ⟨rfl, Ret.below_ hw1 (.cons (.tail (.tail (.tail .head))) .nil)⟩)
end Go.Proofs.YtbnjeanldechnaaGreatDoor
