/- The walks: the code computes that. -/
import Derived.Test.YtbnjeanldechnaaGreatDoorGW2
import Derived.Test.YtbnjeanldechnaaGreatDoorTys
import Derived.Test.YtbnjeanldechnaaGreatDoorEngG
import Derived.KernelRfl
namespace Go.Proofs.YtbnjeanldechnaaGreatDoor
open Go.RowKit Go.Qe
abbrev flow_Net_S (r : (List Wide)) : Value → Heap → Prop := fun v L => ∃ (A1 : Option Addr) (n1 c1 : Nat), v = .slice A1 n1 c1 ∧ OwF A1 n1 r ∧ L = [Ow fW 38 A1 n1 c1 r]
set_option maxRecDepth 20000 in
set_option maxHeartbeats 8000000 in
theorem flow_Net_w {w : World} {v0 : Value} {v1 : Value} {i1 : Inst} {x1 : List Int} {r : (List Wide)} (h : flow_Net i1 x1 = some r) (p1 : InsZ (PH.of w) v0 i1) (p2 : SlF (fI .i64) (PH.of w) v1 x1) :
    Calls Tryz.prog 53 #[v0, v1] w fun e w' => ∃ v L, e = .returned v ∧ flow_Net_S r v L ∧ Ret w w' L := by
  obtain ⟨A1, c1, A2, c2, rfl, hs1, hs2⟩ := p1
  obtain ⟨A3, c3, rfl, hs3⟩ := p2
  unfold flow_Net at h
  refine enter_ Tryz.func53 rfl Tryz.ntmps53 rfl ?_
  refine WP.box rfl rfl rfl rfl rfl rfl ?_
  intro g1
  refine WP.sx tysOk rfl ⟨⟨⟩, ⟨⟩⟩ ?_
  obtain ⟨hm1, h⟩ := ck_some h
  obtain ⟨r1, hg1, h⟩ := bind_some h
  refine WP.drawL 8 [(3, [], fun _ => mkSpecZ 38 (i1.supply.length : Int).toNat [iv 0, .int .u64 (0)]), (5, [], fun _ => adj_New_S r1), (7, [], fun _ => blkSpec 127 [.slice none 0 0, .pointer none])] rfl (by kernel_rfl) (by kernel_rfl) (by kernel_rfl) ?_
  refine WP.sx tysOk rfl ⟨⟨⟨rfl, rfl⟩, rfl⟩, ⟨⟩⟩ ?_
  refine WP.lx tysOk rfl ⟨⟨rfl, rfl⟩, rfl⟩ (CellAt.blk .head rfl) ?_
  refine WP.sx tysOk rfl ⟨⟨⟨rfl, rfl⟩, rfl⟩, ⟨⟩⟩ ?_
  refine WP.lmZ [iv 0, .int .u64 (0)] tysOk rfl ⟨rfl, rfl⟩ rfl rfl rfl rfl rfl rfl rfl rfl rfl rfl rfl rfl hm1 ?_
  intro g2
  refine WP.mx_ tysOk rfl ⟨⟨rfl, rfl⟩, rfl⟩ (SegAt.blk' .head rfl) ?_
  refine WP.lcall rfl ⟨rfl, rfl⟩ rfl rfl rfl rfl rfl rfl rfl (by kernel_rfl) (fun w1 hw1 => (adj_New_w hg1 (InsZ.mk_ ((hs1.le' ((Held.mem (List.Mem.tail _ (List.Mem.head _))) _ _ hw1)).of) ((hs2.le' ((Held.mem (List.Mem.tail _ (List.Mem.head _))) _ _ hw1)).of)) :)) ?_
  rintro vg1 _ ⟨Zn1, hgr1, rfl⟩
  obtain ⟨gg1, rfl⟩ := hgr1.ptr'
  refine WP.bld (cs := [.slice (some ⟨g2, 0, none⟩) ((i1.supply.length : Int).toNat) ((i1.supply.length : Int).toNat), .pointer (some ⟨gg1, 0, none⟩)]) tysOk rfl ⟨⟨rfl, rfl⟩, rfl⟩ rfl rfl rfl rfl rfl rfl rfl ?_
  refine WP.lal tysOk rfl ⟨rfl, rfl⟩ rfl rfl rfl rfl rfl rfl rfl ?_
  intro g3
  refine WP.lend rfl ⟨rfl, rfl⟩ ?_
  refine WP.shutZ (f := fW) (Wide.mk 0 0) (.tail (.tail .head)) hm1 ?_
  intro hf1
  refine WP.sto' tysOk [.slice (some ⟨g2, 0, none⟩) ((i1.supply.length : Int).toNat) ((i1.supply.length : Int).toNat), .pointer (some ⟨gg1, 0, none⟩)] rfl rfl rfl rfl rfl rfl rfl rfl rfl (.tail .head) rfl rfl ?_
  refine WP.sx tysOk rfl ⟨⟨⟩, ⟨⟩⟩ ?_
  refine WP.lx tysOk rfl ⟨⟩ (CellAt.blk (.tail (.tail (.tail .head))) rfl) ?_
  iterate 2 (refine WP.sx tysOk rfl ⟨⟨⟩, ⟨⟩⟩ ?_)
  refine WP.loop (α := Nat × Int × (List Wide) × (Option Addr) × Nat × Nat) (fun x => lp (flow_Net_b1 i1 x1 r1) x.1 (x.2.1, x.2.2.1) = some r ∧ OwF x.2.2.2.1 x.2.2.2.2.1 x.2.2.1) (fun x => [(1, .slice A3 x1.length c3), (5, .pointer (some ⟨g3, 0, none⟩)), (16, iv (i1.arcs.length : Int)), (17, iv x.2.1)]) (fun x => [.blk g3 127 [.slice x.2.2.2.1 x.2.2.2.2.1 x.2.2.2.2.2, .pointer (some ⟨gg1, 0, none⟩)], Ow fW 38 x.2.2.2.1 x.2.2.2.2.1 x.2.2.2.2.2 x.2.2.1, .fz Zn1, .fz (PH.of w)]) (fun x => x.1) rfl (big, 0, (List.replicate (i1.supply.length : Int).toNat (Wide.mk 0 0)), (some ⟨g2, 0, none⟩), (i1.supply.length : Int).toNat, (i1.supply.length : Int).toNat) ⟨h, hf1⟩ ?_ ?_ ?_
  ·repeat first | exact ⟨⟩ | refine ⟨rfl, ?_⟩
  ·exact (.cons .head (.cons .head (.cons .head (.cons (.tail .head) .nil))))
  rintro ⟨n1, s3, xs2, A5, m2, c5⟩ ⟨h, hf6⟩
  dsimp only at h hf6 ⊢
  rcases n1 with _ | n1
  · exact (lp_no h).elim
  replace h := lp_succ h
  unfold flow_Net_b1 at h
  try dsimp only at h
  refine WP.sx tysOk rfl ⟨⟨⟩, ⟨⟩⟩ ?_
  refine WP.cond_d rfl rfl (fun hh4 => ?_) (fun hh4 => ?_)
  ·rw [if_pos hh4] at h
   iterate 2 (refine WP.sx tysOk rfl ⟨⟨⟩, ⟨⟩⟩ ?_)
   obtain ⟨r8, hg8, h⟩ := bind_some h
   refine WP.drawL 5 [(4, [], fun _ => constSpec (iv r8))] rfl (by kernel_rfl) (by kernel_rfl) (by kernel_rfl) ?_
   refine WP.mx_ tysOk rfl ⟨⟨rfl, rfl⟩, rfl⟩ (SegAt.blk' .head rfl) ?_
   iterate 3 (refine WP.sx tysOk rfl ⟨⟨⟨rfl, rfl⟩, rfl⟩, ⟨⟩⟩ ?_)
   refine WP.callV rfl rfl rfl rfl rfl rfl rfl (by kernel_rfl) (fun w1 hw1 => (flow_at_w hg8 (hs3.le' ((Held.mem (List.Mem.tail _ (List.Mem.tail _ (List.Mem.tail _ (List.Mem.head _))))) _ _ hw1)).of :)) ⟨⟨rfl, rfl⟩, rfl⟩ ?_
   refine WP.lend rfl ⟨rfl, rfl⟩ ?_
   obtain ⟨r9, hg9, h⟩ := bind_some h
   refine WP.callT [.blk g3 127 [.slice A5 m2 c5, .pointer (some ⟨gg1, 0, none⟩)], .fz Zn1, .fz (PH.of w)] (flow_book_put_S A5 m2 c5 r9) rfl rfl rfl rfl rfl rfl rfl (by kernel_rfl) (fun w1 hw1 => (flow_book_put_w (F := [.blk g3 127 [.slice A5 m2 c5, .pointer (some ⟨gg1, 0, none⟩)], .fz Zn1, .fz (PH.of w)]) (Held.mem (List.Mem.tail _ (List.Mem.head _))) hg9 hf6 hgr1 (hw1.pick (.cons (.tail .head) (.cons .head (.cons .head (.cons .head .nil))))) :)) ?_
   rintro _ _ ⟨rfl, hf7, rfl⟩
   iterate 2 (refine WP.sx tysOk rfl ⟨⟨⟩, ⟨⟩⟩ ?_)
   refine WP.stop rfl (n1, w64 (s3 + 1), r9, A5, m2, c5) ⟨⟨h, hf7⟩, Nat.lt_succ_self _⟩ ?_ ?_
   ·repeat first | exact ⟨⟩ | refine ⟨rfl, ?_⟩
   exact (.cons (.tail .head) (.cons .head (.cons .head (.cons .head .nil))))
  rw [if_neg hh4] at h
  refine WP.sx tysOk rfl ⟨⟨⟩, ⟨⟩⟩ ?_
  refine WP.lx tysOk rfl ⟨⟩ (CellAt.blk .head rfl) ?_
  refine WP.sx tysOk rfl ⟨⟨⟩, ⟨⟩⟩ ?_
  cases h
  refine WP.retR tysOk rfl rfl ⟨_, _, rfl, rfl, rfl⟩ (fun w1 hw1 => ⟨_, _, rfl, ⟨A5, m2, c5, rfl, hf6, rfl⟩, Ret.of_KH hw1 (.cons (.tail .head) (.cons (.tail (.tail .head)) .nil))⟩)

set_option maxRecDepth 20000 in
set_option maxHeartbeats 8000000 in
theorem flow_Fits_w {w : World} {v0 : Value} {v1 : Value} {i1 : Inst} {x1 : List Int} {r : Int} (h : flow_Fits i1 x1 = some r) (p1 : InsZ (PH.of w) v0 i1) (p2 : SlF (fI .i64) (PH.of w) v1 x1) :
    Calls Tryz.prog 25 #[v0, v1] w fun e w' => e = .returned (.int .u16 (r)) ∧ Below w.heap.size w w' := by
  obtain ⟨A1, c1, A2, c2, rfl, hs1, hs2⟩ := p1
  obtain ⟨A3, c3, rfl, hs3⟩ := p2
  unfold flow_Fits at h
  refine enter_ Tryz.func25 rfl Tryz.ntmps25 rfl ?_
  refine WP.box rfl rfl rfl rfl rfl rfl ?_
  intro g1
  refine WP.sx tysOk rfl ⟨⟨⟩, ⟨⟩⟩ ?_
  refine WP.mx_ tysOk rfl ⟨⟩ (SegAt.blk' .head rfl) ?_
  obtain ⟨r1, hg1, h⟩ := bind_some h
  refine WP.callV rfl rfl rfl rfl rfl rfl rfl (by kernel_rfl) (fun w1 hw1 => (inst_Right_w hg1 (InsZ.mk_ ((hs1.le' ((Held.mem (List.Mem.tail _ (List.Mem.head _))) _ _ hw1)).of) ((hs2.le' ((Held.mem (List.Mem.tail _ (List.Mem.head _))) _ _ hw1)).of)) :)) ⟨⟩ ?_
  iterate 3 (refine WP.sx tysOk rfl ⟨⟨⟩, ⟨⟩⟩ ?_)
  refine WP.cond_d rfl rfl (fun hh1 => ?_) (fun hh1 => ?_)
  ·rw [if_pos hh1] at h
   iterate 2 (refine WP.sx tysOk rfl ⟨⟨⟩, ⟨⟩⟩ ?_)
   cases h
   refine WP.retR tysOk rfl rfl ⟨_, _, rfl, rfl, rfl⟩ (fun w1 hw1 => ⟨rfl, Ret.below_ hw1 (.cons (.tail .head) .nil)⟩)
  rw [if_neg hh1] at h
  iterate 3 (refine WP.sx tysOk rfl ⟨⟨⟩, ⟨⟩⟩ ?_)
  refine WP.lx tysOk rfl ⟨⟩ (CellAt.blk .head rfl) ?_
  iterate 2 (refine WP.sx tysOk rfl ⟨⟨⟩, ⟨⟩⟩ ?_)
  refine WP.cond_d rfl rfl (fun hh2 => ?_) (fun hh2 => ?_)
  ·rw [if_pos hh2] at h
   refine WP.sx tysOk rfl ⟨⟨⟩, ⟨⟩⟩ ?_
   cases h
   refine WP.retR tysOk rfl rfl ⟨_, _, rfl, rfl, rfl⟩ (fun w1 hw1 => ⟨rfl, Ret.below_ hw1 (.cons (.tail .head) .nil)⟩)
  rw [if_neg hh2] at h
  iterate 3 (refine WP.sx tysOk rfl ⟨⟨⟩, ⟨⟩⟩ ?_)
  refine WP.loop (α := Nat × Int) (fun x => lp (flow_Fits_b1 i1 x1) x.1 x.2 = some r) (fun x => [(1, .slice A3 x1.length c3), (2, .pointer (some ⟨g1, 0, none⟩)), (21, .slice A3 x1.length c3), (22, iv (x1.length : Int)), (23, iv x.2)]) (fun x => [.blk g1 25 [.slice A1 i1.supply.length c1, .slice A2 i1.arcs.length c2], .fz (PH.of w)]) (fun x => x.1) rfl (big, 0) h ?_ ?_ ?_
  ·repeat first | exact ⟨⟩ | refine ⟨rfl, ?_⟩
  ·exact (.cons .head (.cons .head .nil))
  rintro ⟨n5, s6⟩ h
  dsimp only at h ⊢
  rcases n5 with _ | n5
  · exact (lp_no h).elim
  replace h := lp_succ h
  unfold flow_Fits_b1 at h
  try dsimp only at h
  refine WP.sx tysOk rfl ⟨⟨⟩, ⟨⟩⟩ ?_
  refine WP.cond_d rfl rfl (fun hh19 => ?_) (fun hh19 => ?_)
  ·rw [if_pos hh19] at h
   refine WP.sx tysOk rfl ⟨⟨⟩, ⟨⟩⟩ ?_
   obtain ⟨hj17, h⟩ := ck_some h
   refine WP.ixA tysOk rfl ⟨⟩ rfl rfl rfl rfl rfl rfl rfl rfl hj17 (hs3.ex hj17) ?_
   intro b17 b17v hA17
   refine WP.lx tysOk rfl ⟨⟩ (hs3.at0 hA17 (Held.mem (List.Mem.tail _ (List.Mem.head _))) hj17 rfl) ?_
   iterate 3 (refine WP.sx tysOk rfl ⟨⟨⟩, ⟨⟩⟩ ?_)
   refine WP.lx tysOk rfl ⟨⟩ (CellAt.blk .head rfl) ?_
   refine WP.sx tysOk rfl ⟨⟨⟩, ⟨⟩⟩ ?_
   obtain ⟨hj18, h⟩ := ck_some h
   refine WP.ixA tysOk rfl ⟨⟩ rfl rfl rfl rfl rfl rfl rfl rfl hj18 (hs2.ex hj18) ?_
   intro b18 b18v hA18
   refine WP.mx_ tysOk rfl ⟨⟩ (hs2.seg hA18 (Held.mem (List.Mem.tail _ (List.Mem.head _))) hj18) ?_
   refine WP.sx tysOk rfl ⟨⟨⟩, ⟨⟩⟩ ?_
   obtain ⟨r12, hg12, h⟩ := bind_some h
   refine WP.callV rfl rfl rfl rfl rfl rfl rfl (by kernel_rfl) (fun w1 hw1 => (flow_fits_w hg12  :)) ⟨⟩ ?_
   refine WP.sx tysOk rfl ⟨⟨⟩, ⟨⟩⟩ ?_
   refine WP.cond_n rfl rfl (fun hh20 => ?_) (fun hh20 => ?_)
   ·rw [if_neg (bneg hh20)] at h
    refine WP.sx tysOk rfl ⟨⟨⟩, ⟨⟩⟩ ?_
    cases h
    refine WP.retR tysOk rfl rfl ⟨_, _, rfl, rfl, rfl⟩ (fun w1 hw1 => ⟨rfl, Ret.below_ hw1 (.cons (.tail .head) .nil)⟩)
   rw [if_pos hh20] at h
   iterate 2 (refine WP.sx tysOk rfl ⟨⟨⟩, ⟨⟩⟩ ?_)
   refine WP.stop rfl (n5, w64 (s6 + 1)) ⟨h, Nat.lt_succ_self _⟩ ?_ ?_
   ·repeat first | exact ⟨⟩ | refine ⟨rfl, ?_⟩
   exact (.cons .head (.cons .head .nil))
  rw [if_neg hh19] at h
  refine WP.mx_ tysOk rfl ⟨⟩ (SegAt.blk' .head rfl) ?_
  refine WP.sx tysOk rfl ⟨⟨⟩, ⟨⟩⟩ ?_
  obtain ⟨r13, hg13, h⟩ := bind_some h
  refine WP.callS (flow_Net_S r13) rfl rfl rfl rfl rfl rfl rfl (by kernel_rfl) (fun w1 hw1 => (flow_Net_w hg13 (InsZ.mk_ ((hs1.le' ((Held.mem (List.Mem.tail _ (List.Mem.head _))) _ _ hw1)).of) ((hs2.le' ((Held.mem (List.Mem.tail _ (List.Mem.head _))) _ _ hw1)).of)) (hs3.le' ((Held.mem (List.Mem.tail _ (List.Mem.head _))) _ _ hw1)).of :)) ?_
  rintro _ _ ⟨A6, n6, c6, rfl, hf3, rfl⟩
  refine WP.lenO (xs := r13) tysOk rfl ⟨⟩ rfl rfl rfl rfl rfl rfl hf3 ?_
  refine WP.sx tysOk rfl ⟨⟨⟩, ⟨⟩⟩ ?_
  refine WP.loop (α := Nat × Int) (fun x => lp (flow_Fits_b2 i1 r13) x.1 x.2 = some r) (fun x => [(2, .pointer (some ⟨g1, 0, none⟩)), (39, .slice A6 n6 c6), (40, iv (r13.length : Int)), (41, iv x.2)]) (fun x => [Ow fW 38 A6 n6 c6 r13, .blk g1 25 [.slice A1 i1.supply.length c1, .slice A2 i1.arcs.length c2], .fz (PH.of w)]) (fun x => x.1) rfl (big, 0) h ?_ ?_ ?_
  ·repeat first | exact ⟨⟩ | refine ⟨rfl, ?_⟩
  ·exact (.cons .head (.cons .head (.cons .head .nil)))
  rintro ⟨n7, s8⟩ h
  dsimp only at h ⊢
  rcases n7 with _ | n7
  · exact (lp_no h).elim
  replace h := lp_succ h
  unfold flow_Fits_b2 at h
  try dsimp only at h
  refine WP.sx tysOk rfl ⟨⟨⟩, ⟨⟩⟩ ?_
  refine WP.cond_d rfl rfl (fun hh25 => ?_) (fun hh25 => ?_)
  ·rw [if_pos hh25] at h
   refine WP.sx tysOk rfl ⟨⟨⟩, ⟨⟩⟩ ?_
   obtain ⟨hj23, h⟩ := ck_some h
   refine WP.ixO tysOk rfl ⟨⟩ rfl rfl rfl rfl rfl rfl rfl rfl hf3 hj23 ?_
   intro b23 hA23
   refine WP.mx_ tysOk rfl ⟨⟩ (OwS.seg .head hA23 hj23) ?_
   refine WP.al tysOk rfl rfl rfl rfl rfl rfl ?_
   intro g10
   refine WP.sx tysOk rfl ⟨⟨⟩, ⟨⟩⟩ ?_
   refine WP.sto' tysOk [iv ((gt r13 s8).hi), .int .u64 ((gt r13 s8).lo)] rfl rfl rfl rfl rfl rfl rfl rfl rfl .head rfl rfl ?_
   refine WP.draw rfl (by kernel_rfl) (by kernel_rfl) ?_
   refine WP.mx_ tysOk rfl rfl (SegAt.blk' .head rfl) ?_
   refine WP.sx tysOk rfl ⟨rfl, ⟨⟩⟩ ?_
   refine WP.lx tysOk rfl rfl (CellAt.blk (.tail (.tail .head)) rfl) ?_
   refine WP.sx tysOk rfl ⟨rfl, ⟨⟩⟩ ?_
   obtain ⟨hj24, h⟩ := ck_some h
   refine WP.ixA tysOk rfl rfl rfl rfl rfl rfl rfl rfl rfl rfl hj24 (hs1.ex hj24) ?_
   intro b24 b24v hA24
   refine WP.lx tysOk rfl rfl (hs1.at0 hA24 (Held.mem (List.Mem.tail _ (List.Mem.tail _ (List.Mem.tail _ (List.Mem.head _))))) hj24 rfl) ?_
   obtain ⟨r16, hg16, h⟩ := bind_some h
   refine WP.callV rfl rfl rfl rfl rfl rfl rfl (by kernel_rfl) (fun w1 hw1 => (num_Of_w hg16  :)) rfl ?_
   refine WP.neS rfl rfl rfl rfl rfl rfl rfl rfl (by kernel_rfl) (eq38 (gt r13 s8) r16) ?_
   refine WP.qend rfl ?_
   refine WP.cond_nd rfl rfl (fun hh26 => ?_) (fun hh26 => ?_)
   ·rw [if_neg hh26] at h
    refine WP.sx tysOk rfl ⟨⟨⟩, ⟨⟩⟩ ?_
    cases h
    refine WP.retR tysOk rfl rfl ⟨_, _, rfl, rfl, rfl⟩ (fun w1 hw1 => ⟨rfl, Ret.below_ hw1 (.cons (.tail (.tail (.tail .head))) .nil)⟩)
   rw [if_pos hh26] at h
   iterate 2 (refine WP.sx tysOk rfl ⟨⟨⟩, ⟨⟩⟩ ?_)
   refine WP.stop rfl (n7, w64 (s8 + 1)) ⟨h, Nat.lt_succ_self _⟩ ?_ ?_
   ·repeat first | exact ⟨⟩ | refine ⟨rfl, ?_⟩
   exact (.cons (.tail .head) (.cons (.tail .head) (.cons (.tail .head) .nil)))
  rw [if_neg hh25] at h
  refine WP.sx tysOk rfl ⟨⟨⟩, ⟨⟩⟩ ?_
  cases h
  refine WP.retR tysOk rfl rfl ⟨_, _, rfl, rfl, rfl⟩ (fun w1 hw1 => ⟨rfl, Ret.below_ hw1 (.cons (.tail (.tail .head)) .nil)⟩)

set_option maxRecDepth 20000 in
set_option maxHeartbeats 8000000 in
theorem law17_forced_w {w : World} {v0 : Value} {v1 : Value} {d1 : Inst} {i1 : List Int} {r : Bool} (h : law17_forced d1 i1 = some r) (p1 : InsZ (PH.of w) v0 d1) (p2 : SlF (fI .i64) (PH.of w) v1 i1) :
    Calls Tryz.prog 21 #[v0, v1] w fun e w' => e = .returned (.bool (r)) ∧ Below w.heap.size w w' := by
  obtain ⟨A1, c1, A2, c2, rfl, hs1, hs2⟩ := p1
  obtain ⟨A3, c3, rfl, hs3⟩ := p2
  unfold law17_forced at h
  refine enter_ Tryz.func21 rfl Tryz.ntmps21 rfl ?_
  refine WP.box rfl rfl rfl rfl rfl rfl ?_
  intro g1
  refine WP.sx tysOk rfl ⟨⟨⟩, ⟨⟩⟩ ?_
  refine WP.mx_ tysOk rfl ⟨⟩ (SegAt.blk' .head rfl) ?_
  refine WP.sx tysOk rfl ⟨⟨⟩, ⟨⟩⟩ ?_
  obtain ⟨r1, hg1, h⟩ := bind_some h
  refine WP.callV rfl rfl rfl rfl rfl rfl rfl (by kernel_rfl) (fun w1 hw1 => (flow_Fits_w hg1 (InsZ.mk_ ((hs1.le' ((Held.mem (List.Mem.tail _ (List.Mem.head _))) _ _ hw1)).of) ((hs2.le' ((Held.mem (List.Mem.tail _ (List.Mem.head _))) _ _ hw1)).of)) (hs3.le' ((Held.mem (List.Mem.tail _ (List.Mem.head _))) _ _ hw1)).of :)) ⟨⟩ ?_
  refine WP.sx tysOk rfl ⟨⟨⟩, ⟨⟩⟩ ?_
  refine WP.cond_d rfl rfl (fun hh1 => ?_) (fun hh1 => ?_)
  ·rw [if_pos hh1] at h
   refine WP.sx tysOk rfl ⟨⟨⟩, ⟨⟩⟩ ?_
   cases h
   refine WP.retR tysOk rfl rfl ⟨_, _, rfl, rfl, rfl⟩ (fun w1 hw1 => ⟨rfl, Ret.below_ hw1 (.cons (.tail .head) .nil)⟩)
  rw [if_neg hh1] at h
  refine WP.sx tysOk rfl ⟨⟨⟩, ⟨⟩⟩ ?_
  refine WP.loop (α := Nat × Int) (fun x => lp (law17_forced_b1 d1 i1) x.1 x.2 = some r) (fun x => [(1, .slice A3 i1.length c3), (2, .pointer (some ⟨g1, 0, none⟩)), (5, iv x.2)]) (fun x => [.blk g1 25 [.slice A1 d1.supply.length c1, .slice A2 d1.arcs.length c2], .fz (PH.of w)]) (fun x => x.1) rfl (big, 0) h ?_ ?_ ?_
  ·repeat first | exact ⟨⟩ | refine ⟨rfl, ?_⟩
  ·exact (.cons .head (.cons .head .nil))
  rintro ⟨n5, s10⟩ h
  dsimp only at h ⊢
  rcases n5 with _ | n5
  · exact (lp_no h).elim
  replace h := lp_succ h
  unfold law17_forced_b1 at h
  try dsimp only at h
  iterate 2 (refine WP.sx tysOk rfl ⟨⟨⟩, ⟨⟩⟩ ?_)
  refine WP.lx tysOk rfl ⟨⟩ (CellAt.blk .head rfl) ?_
  iterate 2 (refine WP.sx tysOk rfl ⟨⟨⟩, ⟨⟩⟩ ?_)
  refine WP.cond_d rfl rfl (fun hh84 => ?_) (fun hh84 => ?_)
  ·rw [if_pos hh84] at h
   refine WP.mx_ tysOk rfl ⟨⟩ (SegAt.blk' .head rfl) ?_
   refine WP.sx tysOk rfl ⟨⟨⟩, ⟨⟩⟩ ?_
   obtain ⟨r16, hg16, h⟩ := bind_some h
   refine WP.callV rfl rfl rfl rfl rfl rfl rfl (by kernel_rfl) (fun w1 hw1 => (leaf_Tip_w hg16 (InsZ.mk_ ((hs1.le' ((Held.mem (List.Mem.tail _ (List.Mem.head _))) _ _ hw1)).of) ((hs2.le' ((Held.mem (List.Mem.tail _ (List.Mem.head _))) _ _ hw1)).of)) :)) ⟨⟩ ?_
   iterate 9 (refine WP.sx tysOk rfl ⟨⟨⟩, ⟨⟩⟩ ?_)
   by_cases hh85 : r16.2.2 = true
   ·rw [if_pos hh85] at h
    refine WP.yes rfl rfl hh85 ?_
    iterate 2 (refine WP.sx tysOk rfl ⟨⟨⟩, ⟨⟩⟩ ?_; refine WP.yes rfl rfl rfl ?_)
    refine WP.sx tysOk rfl ⟨⟨⟩, ⟨⟩⟩ ?_
    by_cases hh86 : r16.1 < 0
    ·rw [if_pos hh86] at h
     refine WP.no rfl rfl (decide_eq_true hh86) rfl rfl ?_
     iterate 3 (refine WP.no rfl rfl rfl rfl rfl ?_)
     iterate 2 (refine WP.yes rfl rfl rfl ?_; refine WP.sx tysOk rfl ⟨⟨⟩, ⟨⟩⟩ ?_)
     iterate 6 (refine WP.no rfl rfl rfl rfl rfl ?_)
     refine WP.yes rfl rfl rfl ?_
     iterate 2 (refine WP.sx tysOk rfl ⟨⟨⟩, ⟨⟩⟩ ?_)
     refine WP.condT rfl rfl ?_
     refine WP.sx tysOk rfl ⟨⟨⟩, ⟨⟩⟩ ?_
     cases h
     refine WP.retR tysOk rfl rfl ⟨_, _, rfl, rfl, rfl⟩ (fun w1 hw1 => ⟨rfl, Ret.below_ hw1 (.cons (.tail .head) .nil)⟩)
    rw [if_neg hh86] at h
    refine WP.yes rfl rfl (decide_eq_false hh86) ?_
    iterate 5 (refine WP.sx tysOk rfl ⟨⟨⟩, ⟨⟩⟩ ?_; refine WP.yes rfl rfl rfl ?_)
    refine WP.sx tysOk rfl ⟨⟨⟩, ⟨⟩⟩ ?_
    by_cases hh87 : (i1.length : Int) ≤ r16.1
    ·rw [if_pos hh87] at h
     refine WP.no rfl rfl (decide_eq_true hh87) rfl rfl ?_
     iterate 5 (refine WP.no rfl rfl rfl rfl rfl ?_)
     refine WP.yes rfl rfl rfl ?_
     iterate 2 (refine WP.sx tysOk rfl ⟨⟨⟩, ⟨⟩⟩ ?_)
     refine WP.condT rfl rfl ?_
     refine WP.sx tysOk rfl ⟨⟨⟩, ⟨⟩⟩ ?_
     cases h
     refine WP.retR tysOk rfl rfl ⟨_, _, rfl, rfl, rfl⟩ (fun w1 hw1 => ⟨rfl, Ret.below_ hw1 (.cons (.tail .head) .nil)⟩)
    rw [if_neg hh87] at h
    refine WP.yes rfl rfl (decide_eq_false hh87) ?_
    iterate 2 (refine WP.sx tysOk rfl ⟨⟨⟩, ⟨⟩⟩ ?_; refine WP.yes rfl rfl rfl ?_)
    obtain ⟨hj39, h⟩ := ck_some h
    refine WP.ixA tysOk rfl ⟨⟩ rfl rfl rfl rfl rfl rfl rfl rfl hj39 (hs3.ex hj39) ?_
    intro b51 b51v hA51
    refine WP.yes rfl rfl rfl ?_
    refine WP.lx tysOk rfl ⟨⟩ (hs3.at0 hA51 (Held.mem (List.Mem.tail _ (List.Mem.head _))) hj39 rfl) ?_
    iterate 2 (refine WP.yes rfl rfl rfl ?_; refine WP.sx tysOk rfl ⟨⟨⟩, ⟨⟩⟩ ?_)
    refine WP.yes rfl rfl rfl ?_
    iterate 2 (refine WP.sx tysOk rfl ⟨⟨⟩, ⟨⟩⟩ ?_)
    refine WP.cond_d rfl rfl (fun hh88 => ?_) (fun hh88 => ?_)
    ·rw [if_pos hh88] at h
     refine WP.sx tysOk rfl ⟨⟨⟩, ⟨⟩⟩ ?_
     cases h
     refine WP.retR tysOk rfl rfl ⟨_, _, rfl, rfl, rfl⟩ (fun w1 hw1 => ⟨rfl, Ret.below_ hw1 (.cons (.tail .head) .nil)⟩)
    rw [if_neg hh88] at h
    refine WP.sx tysOk rfl ⟨⟨⟩, ⟨⟩⟩ ?_
    refine WP.loop (α := Nat × Int) (fun x => lp (law17_forced_b2 d1 i1 s10 (lp (law17_forced_b1 d1 i1) n5)) x.1 x.2 = some r) (fun x => [(1, .slice A3 i1.length c3), (2, .pointer (some ⟨g1, 0, none⟩)), (5, iv s10), (9, iv x.2), (30, iv r16.1), (31, .bool (decide (r16.1 < 0))), (32, .bool (false)), (33, iv r16.1), (34, .slice A3 i1.length c3), (35, iv (i1.length : Int)), (36, .bool (decide ((i1.length : Int) ≤ r16.1))), (37, .bool (decide ((i1.length : Int) ≤ r16.1))), (38, .bool (false)), (39, .slice A3 i1.length c3), (40, iv r16.1), (42, iv (gt i1 r16.1)), (43, iv r16.2.1), (44, .bool (decide (¬ (gt i1 r16.1) = r16.2.1))), (45, .bool (decide (¬ (gt i1 r16.1) = r16.2.1)))]) (fun x => [.blk g1 25 [.slice A1 d1.supply.length c1, .slice A2 d1.arcs.length c2], .fz (PH.of w)]) (fun x => x.1) rfl (big, 0) h ?_ ?_ ?_
    ·repeat first | exact ⟨⟩ | refine ⟨rfl, ?_⟩
    ·exact (.cons .head (.cons .head .nil))
    rintro ⟨n6, s12⟩ h
    dsimp only at h ⊢
    rcases n6 with _ | n6
    · exact (lp_no h).elim
    replace h := lp_succ h
    unfold law17_forced_b2 at h
    try dsimp only at h
    iterate 2 (refine WP.sx tysOk rfl ⟨⟨⟩, ⟨⟩⟩ ?_)
    refine WP.lx tysOk rfl ⟨⟩ (CellAt.blk .head rfl) ?_
    iterate 3 (refine WP.sx tysOk rfl ⟨⟨⟩, ⟨⟩⟩ ?_)
    by_cases hh101 : s12 < (d1.arcs.length : Int)
    ·rw [if_pos hh101] at h
     refine WP.yes rfl rfl (decide_eq_true hh101) ?_
     refine WP.mx_ tysOk rfl ⟨⟩ (SegAt.blk' .head rfl) ?_
     refine WP.yes rfl rfl rfl ?_
     refine WP.sx tysOk rfl ⟨⟨⟩, ⟨⟩⟩ ?_
     refine WP.yes rfl rfl rfl ?_
     obtain ⟨r19, hg19, h⟩ := bind_some h
     refine WP.callV rfl rfl rfl rfl rfl rfl rfl (by kernel_rfl) (fun w1 hw1 => (leaf_Shut_w hg19 (InsZ.mk_ ((hs1.le' ((Held.mem (List.Mem.tail _ (List.Mem.head _))) _ _ hw1)).of) ((hs2.le' ((Held.mem (List.Mem.tail _ (List.Mem.head _))) _ _ hw1)).of)) :)) ⟨⟩ ?_
     refine WP.sx tysOk rfl ⟨⟨⟩, ⟨⟩⟩ ?_
     refine WP.cond rfl rfl (fun hh102 => ?_) (fun hh102 => ?_)
     ·rw [if_pos hh102] at h
      refine WP.sx tysOk rfl ⟨⟨⟩, ⟨⟩⟩ ?_
      refine WP.lx tysOk rfl ⟨⟩ (CellAt.blk .head rfl) ?_
      refine WP.sx tysOk rfl ⟨⟨⟩, ⟨⟩⟩ ?_
      obtain ⟨hj46, h⟩ := ck_some h
      refine WP.ixA tysOk rfl ⟨⟩ rfl rfl rfl rfl rfl rfl rfl rfl hj46 (hs2.ex hj46) ?_
      intro b60 b60v hA60
      refine WP.sx tysOk rfl ⟨⟨⟩, ⟨⟩⟩ ?_
      refine WP.lx tysOk rfl ⟨⟩ (hs2.at0 hA60 (Held.mem (List.Mem.tail _ (List.Mem.head _))) hj46 rfl) ?_
      iterate 3 (refine WP.sx tysOk rfl ⟨⟨⟩, ⟨⟩⟩ ?_)
      by_cases hh103 : ((gt d1.arcs s12).src) = s10
      ·rw [if_pos hh103] at h
       refine WP.no rfl rfl (decide_eq_true hh103) rfl rfl ?_
       iterate 7 (refine WP.no rfl rfl rfl rfl rfl ?_)
       iterate 2 (refine WP.sx tysOk rfl ⟨⟨⟩, ⟨⟩⟩ ?_)
       iterate 2 (refine WP.yes rfl rfl rfl ?_; refine WP.sx tysOk rfl ⟨⟨⟩, ⟨⟩⟩ ?_)
       refine WP.yes rfl rfl rfl ?_
       obtain ⟨hj47, h⟩ := ck_some h
       refine WP.ixA tysOk rfl ⟨⟩ rfl rfl rfl rfl rfl rfl rfl rfl hj47 (hs3.ex hj47) ?_
       intro b61 b61v hA61
       refine WP.yes rfl rfl rfl ?_
       refine WP.lx tysOk rfl ⟨⟩ (hs3.at0 hA61 (Held.mem (List.Mem.tail _ (List.Mem.head _))) hj47 rfl) ?_
       refine WP.yes rfl rfl rfl ?_
       iterate 2 (refine WP.sx tysOk rfl ⟨⟨⟩, ⟨⟩⟩ ?_)
       refine WP.cond_d rfl rfl (fun hh104 => ?_) (fun hh104 => ?_)
       ·rw [if_pos hh104] at h
        refine WP.sx tysOk rfl ⟨⟨⟩, ⟨⟩⟩ ?_
        cases h
        refine WP.retR tysOk rfl rfl ⟨_, _, rfl, rfl, rfl⟩ (fun w1 hw1 => ⟨rfl, Ret.below_ hw1 (.cons (.tail .head) .nil)⟩)
       rw [if_neg hh104] at h
       iterate 3 (refine WP.sx tysOk rfl ⟨⟨⟩, ⟨⟩⟩ ?_)
       refine WP.stop rfl (n6, w64 (s12 + 1)) ⟨h, Nat.lt_succ_self _⟩ ?_ ?_
       ·repeat first | exact ⟨⟩ | refine ⟨rfl, ?_⟩
       exact (.cons .head (.cons .head .nil))
      rw [if_neg hh103] at h
      refine WP.yes rfl rfl (decide_eq_false hh103) ?_
      refine WP.sx tysOk rfl ⟨⟨⟩, ⟨⟩⟩ ?_
      refine WP.yes rfl rfl rfl ?_
      refine WP.lx tysOk rfl ⟨⟩ (CellAt.blk .head rfl) ?_
      refine WP.yes rfl rfl rfl ?_
      refine WP.sx tysOk rfl ⟨⟨⟩, ⟨⟩⟩ ?_
      refine WP.yes rfl rfl rfl ?_
      refine WP.ixA tysOk rfl ⟨⟩ rfl rfl rfl rfl rfl rfl rfl rfl hj46 (hs2.ex hj46) ?_
      intro b62 b62v hA62
      refine WP.yes rfl rfl rfl ?_
      refine WP.sx tysOk rfl ⟨⟨⟩, ⟨⟩⟩ ?_
      refine WP.yes rfl rfl rfl ?_
      refine WP.lx tysOk rfl ⟨⟩ (hs2.at hA62 (Held.mem (List.Mem.tail _ (List.Mem.head _))) hj46 1 rfl) ?_
      refine WP.yes rfl rfl rfl ?_
      refine WP.sx tysOk rfl ⟨⟨⟩, ⟨⟩⟩ ?_
      refine WP.yes rfl rfl rfl ?_
      iterate 3 (refine WP.sx tysOk rfl ⟨⟨⟩, ⟨⟩⟩ ?_)
      by_cases hh105 : ((gt d1.arcs s12).dst) = s10
      ·rw [if_pos hh105] at h
       refine WP.yes rfl rfl (decide_eq_true hh105) ?_
       iterate 2 (refine WP.sx tysOk rfl ⟨⟨⟩, ⟨⟩⟩ ?_; refine WP.yes rfl rfl rfl ?_)
       obtain ⟨hj48, h⟩ := ck_some h
       refine WP.ixA tysOk rfl ⟨⟩ rfl rfl rfl rfl rfl rfl rfl rfl hj48 (hs3.ex hj48) ?_
       intro b63 b63v hA63
       refine WP.yes rfl rfl rfl ?_
       refine WP.lx tysOk rfl ⟨⟩ (hs3.at0 hA63 (Held.mem (List.Mem.tail _ (List.Mem.head _))) hj48 rfl) ?_
       refine WP.yes rfl rfl rfl ?_
       iterate 2 (refine WP.sx tysOk rfl ⟨⟨⟩, ⟨⟩⟩ ?_)
       refine WP.cond_d rfl rfl (fun hh106 => ?_) (fun hh106 => ?_)
       ·rw [if_pos hh106] at h
        refine WP.sx tysOk rfl ⟨⟨⟩, ⟨⟩⟩ ?_
        cases h
        refine WP.retR tysOk rfl rfl ⟨_, _, rfl, rfl, rfl⟩ (fun w1 hw1 => ⟨rfl, Ret.below_ hw1 (.cons (.tail .head) .nil)⟩)
       rw [if_neg hh106] at h
       iterate 3 (refine WP.sx tysOk rfl ⟨⟨⟩, ⟨⟩⟩ ?_)
       refine WP.stop rfl (n6, w64 (s12 + 1)) ⟨h, Nat.lt_succ_self _⟩ ?_ ?_
       ·repeat first | exact ⟨⟩ | refine ⟨rfl, ?_⟩
       exact (.cons .head (.cons .head .nil))
      rw [if_neg hh105] at h
      refine WP.no rfl rfl (decide_eq_false hh105) rfl rfl ?_
      iterate 4 (refine WP.no rfl rfl rfl rfl rfl ?_)
      refine WP.sx tysOk rfl ⟨⟨⟩, ⟨⟩⟩ ?_
      refine WP.condF rfl rfl ?_
      iterate 3 (refine WP.sx tysOk rfl ⟨⟨⟩, ⟨⟩⟩ ?_)
      refine WP.stop rfl (n6, w64 (s12 + 1)) ⟨h, Nat.lt_succ_self _⟩ ?_ ?_
      ·repeat first | exact ⟨⟩ | refine ⟨rfl, ?_⟩
      exact (.cons .head (.cons .head .nil))
     rw [if_neg (bneg hh102)] at h
     iterate 3 (refine WP.sx tysOk rfl ⟨⟨⟩, ⟨⟩⟩ ?_)
     refine WP.stop rfl (n5, w64 (s10 + 1)) ⟨h, Nat.lt_succ_self _⟩ ?_ ?_
     ·repeat first | exact ⟨⟩ | refine ⟨rfl, ?_⟩
     exact (.cons .head (.cons .head .nil))
    rw [if_neg hh101] at h
    refine WP.no rfl rfl (decide_eq_false hh101) rfl rfl ?_
    iterate 2 (refine WP.no rfl rfl rfl rfl rfl ?_)
    refine WP.sx tysOk rfl ⟨⟨⟩, ⟨⟩⟩ ?_
    refine WP.condF rfl rfl ?_
    iterate 3 (refine WP.sx tysOk rfl ⟨⟨⟩, ⟨⟩⟩ ?_)
    refine WP.stop rfl (n5, w64 (s10 + 1)) ⟨h, Nat.lt_succ_self _⟩ ?_ ?_
    ·repeat first | exact ⟨⟩ | refine ⟨rfl, ?_⟩
    exact (.cons .head (.cons .head .nil))
   rw [if_neg hh85] at h
   refine WP.no rfl rfl (bfalse hh85) rfl rfl ?_
   iterate 2 (refine WP.no rfl rfl rfl rfl rfl ?_)
   iterate 4 (refine WP.noU rfl rfl rfl rfl ?_)
   iterate 2 (refine WP.no rfl rfl rfl rfl rfl ?_)
   iterate 6 (refine WP.noU rfl rfl rfl rfl ?_)
   refine WP.no rfl rfl rfl rfl rfl ?_
   refine WP.sx tysOk rfl ⟨⟨⟩, ⟨⟩⟩ ?_
   refine WP.condF rfl rfl ?_
   refine WP.sx tysOk rfl ⟨⟨⟩, ⟨⟩⟩ ?_
   refine WP.loop (α := Nat × Int) (fun x => lp (law17_forced_b3 d1 i1 s10 (lp (law17_forced_b1 d1 i1) n5)) x.1 x.2 = some r) (fun x => [(1, .slice A3 i1.length c3), (2, .pointer (some ⟨g1, 0, none⟩)), (5, iv s10), (9, iv x.2)]) (fun x => [.blk g1 25 [.slice A1 d1.supply.length c1, .slice A2 d1.arcs.length c2], .fz (PH.of w)]) (fun x => x.1) rfl (big, 0) h ?_ ?_ ?_
   ·repeat first | exact ⟨⟩ | refine ⟨rfl, ?_⟩
   ·exact (.cons .head (.cons .head .nil))
   rintro ⟨n7, s14⟩ h
   dsimp only at h ⊢
   rcases n7 with _ | n7
   · exact (lp_no h).elim
   replace h := lp_succ h
   unfold law17_forced_b3 at h
   try dsimp only at h
   iterate 2 (refine WP.sx tysOk rfl ⟨⟨⟩, ⟨⟩⟩ ?_)
   refine WP.lx tysOk rfl ⟨⟩ (CellAt.blk .head rfl) ?_
   iterate 3 (refine WP.sx tysOk rfl ⟨⟨⟩, ⟨⟩⟩ ?_)
   by_cases hh119 : s14 < (d1.arcs.length : Int)
   ·rw [if_pos hh119] at h
    refine WP.yes rfl rfl (decide_eq_true hh119) ?_
    refine WP.mx_ tysOk rfl ⟨⟩ (SegAt.blk' .head rfl) ?_
    refine WP.yes rfl rfl rfl ?_
    refine WP.sx tysOk rfl ⟨⟨⟩, ⟨⟩⟩ ?_
    refine WP.yes rfl rfl rfl ?_
    obtain ⟨r22, hg22, h⟩ := bind_some h
    refine WP.callV rfl rfl rfl rfl rfl rfl rfl (by kernel_rfl) (fun w1 hw1 => (leaf_Shut_w hg22 (InsZ.mk_ ((hs1.le' ((Held.mem (List.Mem.tail _ (List.Mem.head _))) _ _ hw1)).of) ((hs2.le' ((Held.mem (List.Mem.tail _ (List.Mem.head _))) _ _ hw1)).of)) :)) ⟨⟩ ?_
    refine WP.sx tysOk rfl ⟨⟨⟩, ⟨⟩⟩ ?_
    refine WP.cond rfl rfl (fun hh120 => ?_) (fun hh120 => ?_)
    ·rw [if_pos hh120] at h
     refine WP.sx tysOk rfl ⟨⟨⟩, ⟨⟩⟩ ?_
     refine WP.lx tysOk rfl ⟨⟩ (CellAt.blk .head rfl) ?_
     refine WP.sx tysOk rfl ⟨⟨⟩, ⟨⟩⟩ ?_
     obtain ⟨hj55, h⟩ := ck_some h
     refine WP.ixA tysOk rfl ⟨⟩ rfl rfl rfl rfl rfl rfl rfl rfl hj55 (hs2.ex hj55) ?_
     intro b72 b72v hA72
     refine WP.sx tysOk rfl ⟨⟨⟩, ⟨⟩⟩ ?_
     refine WP.lx tysOk rfl ⟨⟩ (hs2.at0 hA72 (Held.mem (List.Mem.tail _ (List.Mem.head _))) hj55 rfl) ?_
     iterate 3 (refine WP.sx tysOk rfl ⟨⟨⟩, ⟨⟩⟩ ?_)
     by_cases hh121 : ((gt d1.arcs s14).src) = s10
     ·rw [if_pos hh121] at h
      refine WP.no rfl rfl (decide_eq_true hh121) rfl rfl ?_
      iterate 7 (refine WP.no rfl rfl rfl rfl rfl ?_)
      iterate 2 (refine WP.sx tysOk rfl ⟨⟨⟩, ⟨⟩⟩ ?_)
      iterate 2 (refine WP.yes rfl rfl rfl ?_; refine WP.sx tysOk rfl ⟨⟨⟩, ⟨⟩⟩ ?_)
      refine WP.yes rfl rfl rfl ?_
      obtain ⟨hj56, h⟩ := ck_some h
      refine WP.ixA tysOk rfl ⟨⟩ rfl rfl rfl rfl rfl rfl rfl rfl hj56 (hs3.ex hj56) ?_
      intro b73 b73v hA73
      refine WP.yes rfl rfl rfl ?_
      refine WP.lx tysOk rfl ⟨⟩ (hs3.at0 hA73 (Held.mem (List.Mem.tail _ (List.Mem.head _))) hj56 rfl) ?_
      refine WP.yes rfl rfl rfl ?_
      iterate 2 (refine WP.sx tysOk rfl ⟨⟨⟩, ⟨⟩⟩ ?_)
      refine WP.cond_d rfl rfl (fun hh122 => ?_) (fun hh122 => ?_)
      ·rw [if_pos hh122] at h
       refine WP.sx tysOk rfl ⟨⟨⟩, ⟨⟩⟩ ?_
       cases h
       refine WP.retR tysOk rfl rfl ⟨_, _, rfl, rfl, rfl⟩ (fun w1 hw1 => ⟨rfl, Ret.below_ hw1 (.cons (.tail .head) .nil)⟩)
      rw [if_neg hh122] at h
      iterate 3 (refine WP.sx tysOk rfl ⟨⟨⟩, ⟨⟩⟩ ?_)
      refine WP.stop rfl (n7, w64 (s14 + 1)) ⟨h, Nat.lt_succ_self _⟩ ?_ ?_
      ·repeat first | exact ⟨⟩ | refine ⟨rfl, ?_⟩
      exact (.cons .head (.cons .head .nil))
     rw [if_neg hh121] at h
     refine WP.yes rfl rfl (decide_eq_false hh121) ?_
     refine WP.sx tysOk rfl ⟨⟨⟩, ⟨⟩⟩ ?_
     refine WP.yes rfl rfl rfl ?_
     refine WP.lx tysOk rfl ⟨⟩ (CellAt.blk .head rfl) ?_
     refine WP.yes rfl rfl rfl ?_
     refine WP.sx tysOk rfl ⟨⟨⟩, ⟨⟩⟩ ?_
     refine WP.yes rfl rfl rfl ?_
     refine WP.ixA tysOk rfl ⟨⟩ rfl rfl rfl rfl rfl rfl rfl rfl hj55 (hs2.ex hj55) ?_
     intro b74 b74v hA74
     refine WP.yes rfl rfl rfl ?_
     refine WP.sx tysOk rfl ⟨⟨⟩, ⟨⟩⟩ ?_
     refine WP.yes rfl rfl rfl ?_
     refine WP.lx tysOk rfl ⟨⟩ (hs2.at hA74 (Held.mem (List.Mem.tail _ (List.Mem.head _))) hj55 1 rfl) ?_
     refine WP.yes rfl rfl rfl ?_
     refine WP.sx tysOk rfl ⟨⟨⟩, ⟨⟩⟩ ?_
     refine WP.yes rfl rfl rfl ?_
     iterate 3 (refine WP.sx tysOk rfl ⟨⟨⟩, ⟨⟩⟩ ?_)
     by_cases hh123 : ((gt d1.arcs s14).dst) = s10
     ·rw [if_pos hh123] at h
      refine WP.yes rfl rfl (decide_eq_true hh123) ?_
      iterate 2 (refine WP.sx tysOk rfl ⟨⟨⟩, ⟨⟩⟩ ?_; refine WP.yes rfl rfl rfl ?_)
      obtain ⟨hj57, h⟩ := ck_some h
      refine WP.ixA tysOk rfl ⟨⟩ rfl rfl rfl rfl rfl rfl rfl rfl hj57 (hs3.ex hj57) ?_
      intro b75 b75v hA75
      refine WP.yes rfl rfl rfl ?_
      refine WP.lx tysOk rfl ⟨⟩ (hs3.at0 hA75 (Held.mem (List.Mem.tail _ (List.Mem.head _))) hj57 rfl) ?_
      refine WP.yes rfl rfl rfl ?_
      iterate 2 (refine WP.sx tysOk rfl ⟨⟨⟩, ⟨⟩⟩ ?_)
      refine WP.cond_d rfl rfl (fun hh124 => ?_) (fun hh124 => ?_)
      ·rw [if_pos hh124] at h
       refine WP.sx tysOk rfl ⟨⟨⟩, ⟨⟩⟩ ?_
       cases h
       refine WP.retR tysOk rfl rfl ⟨_, _, rfl, rfl, rfl⟩ (fun w1 hw1 => ⟨rfl, Ret.below_ hw1 (.cons (.tail .head) .nil)⟩)
      rw [if_neg hh124] at h
      iterate 3 (refine WP.sx tysOk rfl ⟨⟨⟩, ⟨⟩⟩ ?_)
      refine WP.stop rfl (n7, w64 (s14 + 1)) ⟨h, Nat.lt_succ_self _⟩ ?_ ?_
      ·repeat first | exact ⟨⟩ | refine ⟨rfl, ?_⟩
      exact (.cons .head (.cons .head .nil))
     rw [if_neg hh123] at h
     refine WP.no rfl rfl (decide_eq_false hh123) rfl rfl ?_
     iterate 4 (refine WP.no rfl rfl rfl rfl rfl ?_)
     refine WP.sx tysOk rfl ⟨⟨⟩, ⟨⟩⟩ ?_
     refine WP.condF rfl rfl ?_
     iterate 3 (refine WP.sx tysOk rfl ⟨⟨⟩, ⟨⟩⟩ ?_)
     refine WP.stop rfl (n7, w64 (s14 + 1)) ⟨h, Nat.lt_succ_self _⟩ ?_ ?_
     ·repeat first | exact ⟨⟩ | refine ⟨rfl, ?_⟩
     exact (.cons .head (.cons .head .nil))
    rw [if_neg (bneg hh120)] at h
    iterate 3 (refine WP.sx tysOk rfl ⟨⟨⟩, ⟨⟩⟩ ?_)
    refine WP.stop rfl (n5, w64 (s10 + 1)) ⟨h, Nat.lt_succ_self _⟩ ?_ ?_
    ·repeat first | exact ⟨⟩ | refine ⟨rfl, ?_⟩
    exact (.cons .head (.cons .head .nil))
   rw [if_neg hh119] at h
   refine WP.no rfl rfl (decide_eq_false hh119) rfl rfl ?_
   iterate 2 (refine WP.no rfl rfl rfl rfl rfl ?_)
   refine WP.sx tysOk rfl ⟨⟨⟩, ⟨⟩⟩ ?_
   refine WP.condF rfl rfl ?_
   iterate 3 (refine WP.sx tysOk rfl ⟨⟨⟩, ⟨⟩⟩ ?_)
   refine WP.stop rfl (n5, w64 (s10 + 1)) ⟨h, Nat.lt_succ_self _⟩ ?_ ?_
   ·repeat first | exact ⟨⟩ | refine ⟨rfl, ?_⟩
   exact (.cons .head (.cons .head .nil))
  rw [if_neg hh84] at h
  refine WP.sx tysOk rfl ⟨⟨⟩, ⟨⟩⟩ ?_
  cases h
  refine WP.retR tysOk rfl rfl ⟨_, _, rfl, rfl, rfl⟩ (fun w1 hw1 => ⟨rfl, Ret.below_ hw1 (.cons (.tail .head) .nil)⟩)

set_option maxRecDepth 20000 in
set_option maxHeartbeats 8000000 in
theorem law17_LeafForced_w {w : World} {v0 : Value} {v1 : Value} {v2 : Value} {v3 : Value} {c1 : List Int} {d1 : List Int} {e1 : List Int} {x1 : List Int} {r : Bool} (h : law17_LeafForced c1 d1 e1 x1 = some r) (p1 : SlF (fI .u8) (PH.of w) v0 c1) (p2 : SlF (fI .u8) (PH.of w) v1 d1) (p3 : SlF (fI .u8) (PH.of w) v2 e1) (p4 : SlF (fI .i64) (PH.of w) v3 x1) (pg : GlobE (PH.of w)) :
    Calls Tryz.prog 5 #[v0, v1, v2, v3] w fun e w' => e = .returned (.bool (r)) ∧ Below w.heap.size w w' := by
  obtain ⟨A1, c2, rfl, hs1⟩ := p1
  obtain ⟨A2, c3, rfl, hs2⟩ := p2
  obtain ⟨A3, c4, rfl, hs3⟩ := p3
  obtain ⟨A4, c5, rfl, hs4⟩ := p4
  unfold law17_LeafForced at h
  refine enter_ Tryz.func5 rfl Tryz.ntmps5 rfl ?_
  iterate 3 (refine WP.sx tysOk rfl ⟨⟨⟩, ⟨⟩⟩ ?_)
  obtain ⟨r1, hg1, h⟩ := bind_some h
  refine WP.callS (law17_Tree_S r1) rfl rfl rfl rfl rfl rfl rfl (by kernel_rfl) (fun w1 hw1 => (law17_Tree_w hg1 (hs1.le' ((Held.mem (List.Mem.head _)) _ _ hw1)).of (hs2.le' ((Held.mem (List.Mem.head _)) _ _ hw1)).of :)) ?_
  rintro _ _ ⟨A5, n1, c6, A6, n2, c7, rfl, hf1, hf2, rfl⟩
  refine WP.al tysOk rfl rfl rfl rfl rfl rfl ?_
  intro g1
  refine WP.sto' tysOk [.slice A5 n1 c6, .slice A6 n2 c7] rfl rfl rfl rfl rfl rfl rfl rfl rfl .head rfl rfl ?_
  refine WP.mx_ tysOk rfl ⟨⟩ (SegAt.blk' .head rfl) ?_
  refine WP.sx tysOk rfl ⟨⟨⟩, ⟨⟩⟩ ?_
  obtain ⟨r2, hg2, h⟩ := bind_some h
  refine WP.callS (law09_Flow_S r2) rfl rfl rfl rfl rfl rfl rfl (by kernel_rfl) (fun w1 hw1 => (law09_Flow_w hg2 (InsZ.mk_ (hw1.ow (.tail .head) hf1) (hw1.ow (.tail (.tail .head)) hf2)) (hs3.le' ((Held.mem (List.Mem.tail _ (List.Mem.tail _ (List.Mem.tail _ (List.Mem.head _))))) _ _ hw1)).of :)) ?_
  rintro _ _ ⟨A7, n3, c8, rfl, hf3, rfl⟩
  refine WP.sx tysOk rfl ⟨⟨⟩, ⟨⟩⟩ ?_
  obtain ⟨r3, hg3, h⟩ := bind_some h
  refine WP.callV rfl rfl rfl rfl rfl rfl rfl (by kernel_rfl) (fun w1 hw1 => (law17_known_w hg3 (pg.le ((Held.mem (List.Mem.tail _ (List.Mem.tail _ (List.Mem.tail _ (List.Mem.tail _ (List.Mem.head _)))))) _ _ hw1)) :)) ⟨⟩ ?_
  refine WP.sx tysOk rfl ⟨⟨⟩, ⟨⟩⟩ ?_
  by_cases hh1 : r3 = true
  ·rw [if_pos hh1] at h
   refine WP.yes rfl rfl hh1 ?_
   refine WP.mx_ tysOk rfl ⟨⟩ (SegAt.blk' (.tail .head) rfl) ?_
   refine WP.yes rfl rfl rfl ?_
   refine WP.sx tysOk rfl ⟨⟨⟩, ⟨⟩⟩ ?_
   refine WP.yes rfl rfl rfl ?_
   obtain ⟨r4, hg4, h⟩ := bind_some h
   refine WP.callV rfl rfl rfl rfl rfl rfl rfl (by kernel_rfl) (fun w1 hw1 => (law17_forced_w hg4 (InsZ.mk_ (hw1.ow (.tail (.tail .head)) hf1) (hw1.ow (.tail (.tail (.tail .head))) hf2)) (hs4.le' ((Held.mem (List.Mem.tail _ (List.Mem.tail _ (List.Mem.tail _ (List.Mem.tail _ (List.Mem.head _)))))) _ _ hw1)).of :)) ⟨⟩ ?_
   iterate 2 (refine WP.sx tysOk rfl ⟨⟨⟩, ⟨⟩⟩ ?_)
   by_cases hh2 : r4 = true
   ·rw [if_pos hh2] at h
    refine WP.yes rfl rfl hh2 ?_
    refine WP.mx_ tysOk rfl ⟨⟩ (SegAt.blk' (.tail .head) rfl) ?_
    refine WP.yes rfl rfl rfl ?_
    refine WP.sx tysOk rfl ⟨⟨⟩, ⟨⟩⟩ ?_
    refine WP.yes rfl rfl rfl ?_
    obtain ⟨r5, hg5, h⟩ := bind_some h
    refine WP.callV rfl rfl rfl rfl rfl rfl rfl (by kernel_rfl) (fun w1 hw1 => (law17_forced_w hg5 (InsZ.mk_ (hw1.ow (.tail (.tail .head)) hf1) (hw1.ow (.tail (.tail (.tail .head))) hf2)) (hw1.ow .head hf3) :)) ⟨⟩ ?_
    iterate 2 (refine WP.sx tysOk rfl ⟨⟨⟩, ⟨⟩⟩ ?_)
    cases h
    refine WP.retR tysOk rfl rfl ⟨_, _, rfl, rfl, rfl⟩ (fun w1 hw1 => ⟨rfl, Ret.below_ hw1 (.cons (.tail (.tail (.tail (.tail .head)))) .nil)⟩)
   rw [if_neg hh2] at h
   refine WP.no rfl rfl (bfalse hh2) rfl rfl ?_
   iterate 2 (refine WP.no rfl rfl rfl rfl rfl ?_)
   iterate 2 (refine WP.sx tysOk rfl ⟨⟨⟩, ⟨⟩⟩ ?_)
   cases h
   refine WP.retR tysOk rfl rfl ⟨_, _, rfl, rfl, rfl⟩ (fun w1 hw1 => ⟨rfl, Ret.below_ hw1 (.cons (.tail (.tail (.tail (.tail .head)))) .nil)⟩)
  rw [if_neg hh1] at h
  refine WP.no rfl rfl (bfalse hh1) rfl rfl ?_
  iterate 2 (refine WP.no rfl rfl rfl rfl rfl ?_)
  iterate 2 (refine WP.sx tysOk rfl ⟨⟨⟩, ⟨⟩⟩ ?_)
  iterate 3 (refine WP.no rfl rfl rfl rfl rfl ?_)
  iterate 2 (refine WP.sx tysOk rfl ⟨⟨⟩, ⟨⟩⟩ ?_)
  cases h
  refine WP.retR tysOk rfl rfl ⟨_, _, rfl, rfl, rfl⟩ (fun w1 hw1 => ⟨rfl, Ret.below_ hw1 (.cons (.tail (.tail (.tail (.tail .head)))) .nil)⟩)
end Go.Proofs.YtbnjeanldechnaaGreatDoor
