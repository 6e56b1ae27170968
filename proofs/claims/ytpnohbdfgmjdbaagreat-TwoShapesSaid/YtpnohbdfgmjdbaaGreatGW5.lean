/- The walks: the code computes that. -/
import Derived.Test.YtpnohbdfgmjdbaaGreatGW4
import Derived.Test.YtpnohbdfgmjdbaaGreatTys
import Derived.Test.YtpnohbdfgmjdbaaGreatEngG
import Derived.KernelRfl
namespace Go.Proofs.YtpnohbdfgmjdbaaGreat
open Go.RowKit Go.Qe
abbrev two_shape_run_2_S (r : Step × Int) : Value → Heap → Prop := fun v L => ∃ (A1 : Option Addr) (n1 c1 : Nat) (A2 : Option Addr) (n2 c2 : Nat) (A3 : Option Addr) (n3 c3 : Nat) (A4 : Option Addr) (n4 c4 : Nat), v = .tuple #[.agg #[.slice A1 n1 c1, .slice A2 n2 c2, iv r.1.rcd.pass, .slice A3 n3 c3, .slice A4 n4 c4, iv r.1.off.hi, .int .u64 (r.1.off.lo), .bool (r.1.did)], .int .u16 (r.2)] ∧ OwF A1 n1 r.1.inst.supply ∧ OwF A2 n2 r.1.inst.arcs ∧ OwF A3 n3 r.1.rcd.was.supply ∧ OwF A4 n4 r.1.rcd.was.arcs ∧ L = [Ow (fI .i64) 2 A1 n1 c1 r.1.inst.supply, Ow fA 34 A2 n2 c2 r.1.inst.arcs, Ow (fI .i64) 2 A3 n3 c3 r.1.rcd.was.supply, Ow fA 34 A4 n4 c4 r.1.rcd.was.arcs]
set_option maxRecDepth 20000 in
set_option maxHeartbeats 8000000 in
theorem two_shape_run_2_w {w : World} {v0 : Value} {i1 : Inst} {r : Step × Int} (h : two_shape_run_2 i1 = some r) (p1 : InsZ (PH.of w) v0 i1) :
    Calls Tryz.prog 29 #[.agg #[iv 9, .func (.func 46) #[] #[], .func (.func 47) #[] #[], .func (.func 48) #[] #[]], v0] w fun e w' => ∃ v L, e = .returned v ∧ two_shape_run_2_S r v L ∧ Ret w w' L := by
  obtain ⟨A1, c1, A2, c2, rfl, hs1, hs2⟩ := p1
  unfold two_shape_run_2 at h
  refine enter_ Tryz.func29 rfl Tryz.ntmps29 rfl ?_
  refine WP.box rfl rfl rfl rfl rfl rfl ?_
  intro g1
  refine WP.box rfl rfl rfl rfl rfl rfl ?_
  intro g2
  refine WP.al tysOk rfl rfl rfl rfl rfl rfl ?_
  intro g3
  refine WP.sx tysOk rfl ⟨⟨⟩, ⟨⟩⟩ ?_
  refine WP.mx_ tysOk rfl ⟨⟩ (SegAt.blk' (.tail .head) rfl) ?_
  obtain ⟨r1, hg1, h⟩ := bind_some h
  refine WP.callV rfl rfl rfl rfl rfl rfl rfl (by kernel_rfl) (fun w1 hw1 => (inst_Right_w hg1 (InsZ.mk_ ((hs1.le' ((Held.mem (List.Mem.tail _ (List.Mem.tail _ (List.Mem.tail _ (List.Mem.head _))))) _ _ hw1)).of) ((hs2.le' ((Held.mem (List.Mem.tail _ (List.Mem.tail _ (List.Mem.tail _ (List.Mem.head _))))) _ _ hw1)).of)) :)) ⟨⟩ ?_
  iterate 3 (refine WP.sx tysOk rfl ⟨⟨⟩, ⟨⟩⟩ ?_)
  refine WP.cond_d rfl rfl (fun hh1 => ?_) (fun hh1 => ?_)
  ·rw [if_pos hh1] at h
   refine WP.bld (cs := [.slice none 0 0, .slice none 0 0, iv 0, .slice none 0 0, .slice none 0 0, iv 0, .int .u64 (0), .bool (false)]) tysOk rfl ⟨⟩ rfl rfl rfl rfl rfl rfl rfl ?_
   refine WP.sx tysOk rfl ⟨⟨⟩, ⟨⟩⟩ ?_
   refine WP.sto' tysOk [.slice none 0 0, .slice none 0 0, iv 0, .slice none 0 0, .slice none 0 0, iv 0, .int .u64 (0), .bool (false)] rfl rfl rfl rfl rfl rfl rfl rfl rfl .head rfl rfl ?_
   refine WP.sx tysOk rfl ⟨⟨⟩, ⟨⟩⟩ ?_
   cases h
   refine WP.own_nil 2 (fI .i64).z ?_
   refine WP.own_nil 34 fA.z ?_
   refine WP.own_nil 2 (fI .i64).z ?_
   refine WP.own_nil 34 fA.z ?_
   refine WP.retR tysOk rfl rfl ⟨_, _, _, _, rfl, ⟨_, rfl, .inr ⟨rfl, _, rfl, rfl, (SegAt.blk' (z := 8) (.tail (.tail (.tail (.tail .head)))) rfl).1⟩⟩, ⟨_, _, rfl, rfl, rfl⟩, rfl⟩ (fun w1 hw1 => ⟨_, _, rfl, ⟨none, 0, 0, none, 0, 0, none, 0, 0, none, 0, 0, rfl, OwF.nil_, OwF.nil_, OwF.nil_, OwF.nil_, rfl⟩, Ret.of_KH hw1 (.cons (.tail (.tail (.tail .head))) (.cons (.tail (.tail .head)) (.cons (.tail .head) (.cons .head (.cons (.tail (.tail (.tail .head))) .nil)))))⟩)
  rw [if_neg hh1] at h
  refine WP.mx_ tysOk rfl ⟨⟩ (SegAt.blk' (.tail .head) rfl) ?_
  obtain ⟨r2, hg2, h⟩ := bind_some h
  refine WP.callS (inst_Copy_S r2) rfl rfl rfl rfl rfl rfl rfl (by kernel_rfl) (fun w1 hw1 => (inst_Copy_w hg2 (InsZ.mk_ ((hs1.le' ((Held.mem (List.Mem.tail _ (List.Mem.tail _ (List.Mem.tail _ (List.Mem.head _))))) _ _ hw1)).of) ((hs2.le' ((Held.mem (List.Mem.tail _ (List.Mem.tail _ (List.Mem.tail _ (List.Mem.head _))))) _ _ hw1)).of)) :)) ?_
  rintro _ _ ⟨A3, n1, c3, A4, n2, c4, rfl, hf1, hf2, rfl⟩
  refine WP.al tysOk rfl rfl rfl rfl rfl rfl ?_
  intro g4
  refine WP.sto' tysOk [.slice A3 n1 c3, .slice A4 n2 c4] rfl rfl rfl rfl rfl rfl rfl rfl rfl .head rfl rfl ?_
  refine WP.mx_ tysOk rfl ⟨⟩ (SegAt.blk' (.tail (.tail (.tail (.tail .head)))) rfl) ?_
  obtain ⟨r3, hg3, h⟩ := bind_some h
  refine WP.callS (adj_New_S r3) rfl rfl rfl rfl rfl rfl rfl (by kernel_rfl) (fun w1 hw1 => (adj_New_w hg3 (InsZ.mk_ ((hs1.le' ((Held.mem (List.Mem.tail _ (List.Mem.tail _ (List.Mem.tail _ (List.Mem.tail _ (List.Mem.tail _ (List.Mem.tail _ (List.Mem.head _)))))))) _ _ hw1)).of) ((hs2.le' ((Held.mem (List.Mem.tail _ (List.Mem.tail _ (List.Mem.tail _ (List.Mem.tail _ (List.Mem.tail _ (List.Mem.tail _ (List.Mem.head _)))))))) _ _ hw1)).of)) :)) ?_
  rintro vg1 _ ⟨Zn1, hgr1, rfl⟩
  obtain ⟨gg1, rfl⟩ := hgr1.ptr'
  iterate 2 (refine WP.sx tysOk rfl ⟨⟨⟩, ⟨⟩⟩ ?_)
  refine WP.lx tysOk rfl ⟨⟩ (CellAt.blk (.tail (.tail (.tail (.tail (.tail .head))))) rfl) ?_
  iterate 2 (refine WP.sx tysOk rfl ⟨⟨⟩, ⟨⟩⟩ ?_)
  refine WP.loop (α := Nat × Int) (fun x => lp (two_shape_run_2_b1 i1 r2 r3) x.1 x.2 = some r) (fun x => [(2, .pointer (some ⟨g1, 0, none⟩)), (3, .pointer (some ⟨g2, 0, none⟩)), (4, .pointer (some ⟨g3, 0, none⟩)), (7, .pointer (some ⟨g4, 0, none⟩)), (8, .pointer (some ⟨gg1, 0, none⟩)), (27, iv (i1.supply.length : Int)), (28, iv x.2)]) (fun x => [.fz Zn1, .blk g4 25 [.slice A3 n1 c3, .slice A4 n2 c4], Ow (fI .i64) 2 A3 n1 c3 r2.supply, Ow fA 34 A4 n2 c4 r2.arcs, .blk g3 48 [.slice none 0 0, .slice none 0 0, iv 0, .slice none 0 0, .slice none 0 0, iv 0, .int .u64 (0), .bool (false)], .blk g2 25 [.slice A1 i1.supply.length c1, .slice A2 i1.arcs.length c2], .blk g1 72 [iv 9, .func (.func 46) #[] #[], .func (.func 47) #[] #[], .func (.func 48) #[] #[]], .fz (PH.of w)]) (fun x => x.1) rfl (big, 0) h ?_ ?_ ?_
  ·repeat first | exact ⟨⟩ | refine ⟨rfl, ?_⟩
  ·exact (.cons .head (.cons .head (.cons .head (.cons .head (.cons .head (.cons .head (.cons .head (.cons .head .nil))))))))
  rintro ⟨n11, s2⟩ h
  dsimp only at h ⊢
  rcases n11 with _ | n11
  · exact (lp_no h).elim
  replace h := lp_succ h
  unfold two_shape_run_2_b1 at h
  try dsimp only at h
  refine WP.sx tysOk rfl ⟨⟨⟩, ⟨⟩⟩ ?_
  refine WP.cond_d rfl rfl (fun hh8 => ?_) (fun hh8 => ?_)
  ·rw [if_pos hh8] at h
   iterate 2 (refine WP.sx tysOk rfl ⟨⟨⟩, ⟨⟩⟩ ?_)
   refine WP.mx_ tysOk rfl ⟨⟩ (SegAt.blk' (.tail (.tail (.tail (.tail (.tail (.tail .head)))))) rfl) ?_
   refine WP.sx tysOk rfl ⟨⟨⟩, ⟨⟩⟩ ?_
   refine WP.mx_ tysOk rfl ⟨⟩ (SegAt.blk' (.tail (.tail (.tail (.tail (.tail .head))))) rfl) ?_
   refine WP.sx tysOk rfl ⟨⟨⟩, ⟨⟩⟩ ?_
   obtain ⟨r18, hg18, h⟩ := bind_some h
   refine WP.callV rfl rfl rfl rfl rfl rfl rfl (by kernel_rfl) (fun w1 hw1 => (two_shape_at_2_w hg18 (hgr1.le ((Held.mem (List.Mem.head _)) _ _ hw1)) (InsZ.mk_ ((hs1.le' ((Held.mem (List.Mem.tail _ (List.Mem.tail _ (List.Mem.tail _ (List.Mem.tail _ (List.Mem.tail _ (List.Mem.tail _ (List.Mem.tail _ (List.Mem.head _))))))))) _ _ hw1)).of) ((hs2.le' ((Held.mem (List.Mem.tail _ (List.Mem.tail _ (List.Mem.tail _ (List.Mem.tail _ (List.Mem.tail _ (List.Mem.tail _ (List.Mem.tail _ (List.Mem.head _))))))))) _ _ hw1)).of)) :)) ⟨⟩ ?_
   iterate 4 (refine WP.sx tysOk rfl ⟨⟨⟩, ⟨⟩⟩ ?_)
   refine WP.al tysOk rfl rfl rfl rfl rfl rfl ?_
   intro g15
   refine WP.al tysOk rfl rfl rfl rfl rfl rfl ?_
   intro g16
   refine WP.sto' tysOk [iv r18.1.node, iv r18.1.a, iv r18.1.b, iv r18.1.new.src, iv r18.1.new.dst, iv r18.1.new.low, iv r18.1.new.cap, iv r18.1.new.cost] rfl rfl rfl rfl rfl rfl rfl rfl rfl (.tail .head) rfl rfl ?_
   refine WP.sto' tysOk [iv r18.2.1.x.src, iv r18.2.1.x.dst, iv r18.2.1.x.low, iv r18.2.1.x.cap, iv r18.2.1.x.cost, iv r18.2.1.y.src, iv r18.2.1.y.dst, iv r18.2.1.y.low, iv r18.2.1.y.cap, iv r18.2.1.y.cost, iv r18.2.1.n, iv r18.2.1.s] rfl rfl rfl rfl rfl rfl rfl rfl rfl (.tail .head) rfl rfl ?_
   iterate 3 (refine WP.sx tysOk rfl ⟨⟨⟩, ⟨⟩⟩ ?_)
   refine WP.cond_n rfl rfl (fun hh9 => ?_) (fun hh9 => ?_)
   ·rw [if_neg (bneg hh9)] at h
    iterate 2 (refine WP.sx tysOk rfl ⟨⟨⟩, ⟨⟩⟩ ?_)
    refine WP.stop rfl (n11, w64 (s2 + 1)) ⟨h, Nat.lt_succ_self _⟩ ?_ ?_
    ·repeat first | exact ⟨⟩ | refine ⟨rfl, ?_⟩
    exact (.cons (.tail (.tail .head)) (.cons (.tail (.tail .head)) (.cons (.tail (.tail .head)) (.cons (.tail (.tail .head)) (.cons (.tail (.tail .head)) (.cons (.tail (.tail .head)) (.cons (.tail (.tail .head)) (.cons (.tail (.tail .head)) .nil))))))))
   rw [if_pos hh9] at h
   refine WP.mx_ tysOk rfl ⟨⟩ (SegAt.blk' (.tail (.tail (.tail (.tail (.tail (.tail (.tail .head))))))) rfl) ?_
   obtain ⟨r19, hg19, h⟩ := bind_some h
   refine WP.callS (inst_Copy_S r19) rfl rfl rfl rfl rfl rfl rfl (by kernel_rfl) (fun w1 hw1 => (inst_Copy_w hg19 (InsZ.mk_ ((hs1.le' ((Held.mem (List.Mem.tail _ (List.Mem.tail _ (List.Mem.tail _ (List.Mem.tail _ (List.Mem.tail _ (List.Mem.tail _ (List.Mem.tail _ (List.Mem.tail _ (List.Mem.tail _ (List.Mem.head _))))))))))) _ _ hw1)).of) ((hs2.le' ((Held.mem (List.Mem.tail _ (List.Mem.tail _ (List.Mem.tail _ (List.Mem.tail _ (List.Mem.tail _ (List.Mem.tail _ (List.Mem.tail _ (List.Mem.tail _ (List.Mem.tail _ (List.Mem.head _))))))))))) _ _ hw1)).of)) :)) ?_
   rintro _ _ ⟨A15, n12, c15, A16, n13, c16, rfl, hf21, hf22, rfl⟩
   refine WP.al tysOk rfl rfl rfl rfl rfl rfl ?_
   intro g17
   refine WP.sto' tysOk [.slice A15 n12 c15, .slice A16 n13 c16] rfl rfl rfl rfl rfl rfl rfl rfl rfl .head rfl rfl ?_
   obtain ⟨r20, hg20, h⟩ := bind_some h
   obtain ⟨hj5, h⟩ := ck_some h
   refine WP.drawL 13 [(6, [], fun _ => constSpec (iv r20))] rfl (by kernel_rfl) (by kernel_rfl) (by kernel_rfl) ?_
   refine WP.sx tysOk rfl ⟨⟨⟨rfl, rfl⟩, rfl⟩, ⟨⟩⟩ ?_
   refine WP.lx tysOk rfl ⟨⟨rfl, rfl⟩, rfl⟩ (CellAt.blk .head rfl) ?_
   iterate 2 (refine WP.sx tysOk rfl ⟨⟨⟨rfl, rfl⟩, rfl⟩, ⟨⟩⟩ ?_)
   refine WP.lx tysOk rfl ⟨⟨rfl, rfl⟩, rfl⟩ (CellAt.blk (.tail (.tail (.tail (.tail .head)))) rfl) ?_
   refine WP.sx tysOk rfl ⟨⟨⟨rfl, rfl⟩, rfl⟩, ⟨⟩⟩ ?_
   refine WP.callV rfl rfl rfl rfl rfl rfl rfl (by kernel_rfl) (fun w1 hw1 => (adj_Graph_Other_w hg20 (hgr1.le ((Held.mem (List.Mem.tail _ (List.Mem.tail _ (List.Mem.tail _ (List.Mem.tail _ (List.Mem.tail _ (List.Mem.head _))))))) _ _ hw1)) :)) ⟨⟨rfl, rfl⟩, rfl⟩ ?_
   refine WP.ixO tysOk rfl ⟨⟨rfl, rfl⟩, rfl⟩ rfl rfl rfl rfl rfl rfl rfl rfl hf21 hj5 ?_
   intro b7 hA7
   refine WP.lx tysOk rfl ⟨⟨rfl, rfl⟩, rfl⟩ (OwS.at0 (.tail .head) hA7 hj5 rfl) ?_
   refine WP.sx tysOk rfl ⟨⟨⟨rfl, rfl⟩, rfl⟩, ⟨⟩⟩ ?_
   refine WP.lx tysOk rfl ⟨⟨rfl, rfl⟩, rfl⟩ (CellAt.blk (.tail (.tail (.tail .head))) rfl) ?_
   refine WP.sx tysOk rfl ⟨⟨⟨rfl, rfl⟩, rfl⟩, ⟨⟩⟩ ?_
   refine WP.ixO tysOk rfl ⟨⟨rfl, rfl⟩, rfl⟩ rfl rfl rfl rfl rfl rfl rfl rfl hf21 hj5 ?_
   intro b8 hA8
   refine WP.lend rfl ⟨rfl, rfl⟩ ?_
   obtain ⟨xs7, hx5, h⟩ := lt_some h
   refine WP.stoO (f := (fI .i64)) 0 (w64 ((gt r19.supply r20) + r18.2.1.s)) tysOk rfl rfl rfl rfl rfl rfl rfl rfl rfl (.tail .head) hA8 hf21 hj5 rfl rfl rfl hx5 ?_
   intro hf23
   refine WP.sx tysOk rfl ⟨⟨⟩, ⟨⟩⟩ ?_
   refine WP.lx tysOk rfl ⟨⟩ (CellAt.blk (.tail .head) rfl) ?_
   refine WP.sx tysOk rfl ⟨⟨⟩, ⟨⟩⟩ ?_
   refine WP.mx_ tysOk rfl ⟨⟩ (SegAt.blk' (.tail (.tail (.tail (.tail .head)))) rfl) ?_
   refine WP.bsO (f := fA) [r18.1.new] tysOk rfl rfl rfl rfl rfl rfl rfl rfl rfl rfl rfl rfl rfl rfl ?_
   intro g18 hf24
   obtain ⟨hl3, h⟩ := ck_some h
   obtain ⟨xs8, hz3, h⟩ := lt_some h
   refine WP.appO (f := fA) (xs := r19.arcs) (ys := [r18.1.new]) tysOk rfl rfl rfl rfl rfl rfl rfl rfl rfl rfl rfl rfl (.tail (.tail (.tail .head))) hf22 hf24.len (OwS.app .head hf24) hl3 hz3 ?_
   intro A17 c17 hf25
   refine WP.sx tysOk rfl ⟨⟨⟩, ⟨⟩⟩ ?_
   refine WP.sto' tysOk [.slice A15 n12 c15, .slice A17 xs8.length c17] rfl rfl rfl rfl rfl rfl rfl rfl rfl (.tail (.tail (.tail .head))) rfl rfl ?_
   refine WP.sx tysOk rfl ⟨⟨⟩, ⟨⟩⟩ ?_
   refine WP.lx tysOk rfl ⟨⟩ (CellAt.blk (.tail (.tail (.tail (.tail (.tail (.tail (.tail (.tail (.tail (.tail (.tail .head))))))))))) rfl) ?_
   refine WP.sx tysOk rfl ⟨⟨⟩, ⟨⟩⟩ ?_
   obtain ⟨hm3, h⟩ := ck_some h
   refine WP.mkO (f := fB) false tysOk rfl rfl rfl rfl rfl rfl rfl rfl rfl rfl rfl rfl hm3 ?_
   intro g19 hf26
   iterate 3 (refine WP.sx tysOk rfl ⟨⟨⟩, ⟨⟩⟩ ?_)
   obtain ⟨hj6, h⟩ := ck_some h
   refine WP.ixO tysOk rfl ⟨⟩ rfl rfl rfl rfl rfl rfl rfl rfl hf26 hj6 ?_
   intro b9 hA9
   obtain ⟨xs9, hx6, h⟩ := lt_some h
   refine WP.stoO (f := fB) 0 true tysOk rfl rfl rfl rfl rfl rfl rfl rfl rfl .head hA9 hf26 hj6 rfl rfl rfl hx6 ?_
   intro hf27
   refine WP.mx_ tysOk rfl ⟨⟩ (SegAt.blk' (.tail .head) rfl) ?_
   refine WP.sx tysOk rfl ⟨⟨⟩, ⟨⟩⟩ ?_
   obtain ⟨r21, hg21, h⟩ := bind_some h
   refine WP.callS (inst_Without_S r21) rfl rfl rfl rfl rfl rfl rfl (by kernel_rfl) (fun w1 hw1 => (inst_Without_w hg21 (InsZ.mk_ (hw1.ow (.tail (.tail (.tail (.tail .head)))) hf23) (hw1.ow (.tail (.tail .head)) hf25)) (hw1.ow .head hf27) SlF.nil_ :)) ?_
   rintro _ _ ⟨A18, n14, c18, A19, n15, c19, rfl, hf28, hf29, rfl⟩
   refine WP.sto' tysOk [.slice A18 n14 c18, .slice A19 n15 c19] rfl rfl rfl rfl rfl rfl rfl rfl rfl (.tail (.tail (.tail .head))) rfl rfl ?_
   refine WP.mx_ tysOk rfl ⟨⟩ (SegAt.blk' .head rfl) ?_
   obtain ⟨r22, hg22, h⟩ := bind_some h
   refine WP.callV rfl rfl rfl rfl rfl rfl rfl (by kernel_rfl) (fun w1 hw1 => (inst_Right_w hg22 (InsZ.mk_ (hw1.ow (.tail .head) hf28) (hw1.ow (.tail (.tail .head)) hf29)) :)) ⟨⟩ ?_
   refine WP.sx tysOk rfl ⟨⟨⟩, ⟨⟩⟩ ?_
   refine WP.cond_d rfl rfl (fun hh10 => ?_) (fun hh10 => ?_)
   ·rw [if_pos hh10] at h
    refine WP.bld (cs := [.slice none 0 0, .slice none 0 0, iv 0, .slice none 0 0, .slice none 0 0, iv 0, .int .u64 (0), .bool (false)]) tysOk rfl ⟨⟩ rfl rfl rfl rfl rfl rfl rfl ?_
    refine WP.sto' tysOk [.slice none 0 0, .slice none 0 0, iv 0, .slice none 0 0, .slice none 0 0, iv 0, .int .u64 (0), .bool (false)] rfl rfl rfl rfl rfl rfl rfl rfl rfl (.tail (.tail (.tail (.tail (.tail (.tail (.tail (.tail (.tail (.tail (.tail (.tail (.tail .head))))))))))))) rfl rfl ?_
    refine WP.sx tysOk rfl ⟨⟨⟩, ⟨⟩⟩ ?_
    cases h
    refine WP.own_nil 2 (fI .i64).z ?_
    refine WP.own_nil 34 fA.z ?_
    refine WP.own_nil 2 (fI .i64).z ?_
    refine WP.own_nil 34 fA.z ?_
    refine WP.retR tysOk rfl rfl ⟨_, _, _, _, rfl, ⟨_, rfl, .inr ⟨rfl, _, rfl, rfl, (SegAt.blk' (z := 8) (.tail (.tail (.tail (.tail .head)))) rfl).1⟩⟩, ⟨_, _, rfl, rfl, rfl⟩, rfl⟩ (fun w1 hw1 => ⟨_, _, rfl, ⟨none, 0, 0, none, 0, 0, none, 0, 0, none, 0, 0, rfl, OwF.nil_, OwF.nil_, OwF.nil_, OwF.nil_, rfl⟩, Ret.of_KH hw1 (.cons (.tail (.tail (.tail .head))) (.cons (.tail (.tail .head)) (.cons (.tail .head) (.cons .head (.cons (.tail (.tail (.tail (.tail (.tail (.tail (.tail (.tail (.tail (.tail (.tail (.tail (.tail (.tail (.tail (.tail .head)))))))))))))))) .nil)))))⟩)
   rw [if_neg hh10] at h
   obtain ⟨r23, hg23, h⟩ := bind_some h
   obtain ⟨r24, hg24, h⟩ := bind_some h
   refine WP.drawL 15 [(8, [], fun _ => constSpec (iv r23)), (13, [], fun _ => constSpec (.agg #[iv r24.hi, .int .u64 (r24.lo)]))] rfl (by kernel_rfl) (by kernel_rfl) (by kernel_rfl) ?_
   refine WP.mx_ tysOk rfl ⟨⟨rfl, rfl⟩, rfl⟩ (SegAt.blk' .head rfl) ?_
   refine WP.sx tysOk rfl ⟨⟨⟨rfl, rfl⟩, rfl⟩, ⟨⟩⟩ ?_
   refine WP.lx tysOk rfl ⟨⟨rfl, rfl⟩, rfl⟩ (CellAt.blk (.tail (.tail (.tail (.tail (.tail (.tail (.tail (.tail (.tail (.tail (.tail (.tail (.tail (.tail (.tail .head))))))))))))))) rfl) ?_
   refine WP.mx_ tysOk rfl ⟨⟨rfl, rfl⟩, rfl⟩ (SegAt.blk' (.tail (.tail (.tail (.tail (.tail (.tail (.tail (.tail (.tail (.tail .head)))))))))) rfl) ?_
   refine WP.bld (cs := [iv 9, .slice A3 n1 c3, .slice A4 n2 c4]) tysOk rfl ⟨⟨rfl, rfl⟩, rfl⟩ rfl rfl rfl rfl rfl rfl rfl ?_
   refine WP.sx tysOk rfl ⟨⟨⟨rfl, rfl⟩, rfl⟩, ⟨⟩⟩ ?_
   refine WP.lx tysOk rfl ⟨⟨rfl, rfl⟩, rfl⟩ (CellAt.blk (.tail (.tail (.tail (.tail (.tail (.tail (.tail (.tail (.tail (.tail (.tail (.tail (.tail (.tail (.tail .head))))))))))))))) rfl) ?_
   refine WP.mx_ tysOk rfl ⟨⟨rfl, rfl⟩, rfl⟩ (SegAt.blk' (.tail (.tail (.tail (.tail (.tail (.tail (.tail .head))))))) rfl) ?_
   refine WP.callV rfl rfl rfl rfl rfl rfl rfl (by kernel_rfl) (fun w1 hw1 => (two_pair_both_w hg23  :)) ⟨⟨rfl, rfl⟩, rfl⟩ ?_
   iterate 3 (refine WP.sx tysOk rfl ⟨⟨⟨rfl, rfl⟩, rfl⟩, ⟨⟩⟩ ?_)
   refine WP.lx tysOk rfl ⟨⟨rfl, rfl⟩, rfl⟩ (CellAt.blk (.tail (.tail (.tail (.tail (.tail (.tail (.tail .head))))))) rfl) ?_
   refine WP.callV rfl rfl rfl rfl rfl rfl rfl (by kernel_rfl) (fun w1 hw1 => (num_Times_w hg24  :)) ⟨⟨rfl, rfl⟩, rfl⟩ ?_
   refine WP.bld (cs := [.slice A18 n14 c18, .slice A19 n15 c19, iv 9, .slice A3 n1 c3, .slice A4 n2 c4, iv r24.hi, .int .u64 (r24.lo), .bool (true)]) tysOk rfl ⟨⟨rfl, rfl⟩, rfl⟩ rfl rfl rfl rfl rfl rfl rfl ?_
   refine WP.lend rfl ⟨rfl, rfl⟩ ?_
   refine WP.sto' tysOk [.slice A18 n14 c18, .slice A19 n15 c19, iv 9, .slice A3 n1 c3, .slice A4 n2 c4, iv r24.hi, .int .u64 (r24.lo), .bool (true)] rfl rfl rfl rfl rfl rfl rfl rfl rfl (.tail (.tail (.tail (.tail (.tail (.tail (.tail (.tail (.tail (.tail (.tail (.tail (.tail .head))))))))))))) rfl rfl ?_
   refine WP.sx tysOk rfl ⟨⟨⟩, ⟨⟩⟩ ?_
   cases h
   refine WP.retR tysOk rfl rfl ⟨_, _, _, _, rfl, ⟨_, rfl, .inr ⟨rfl, _, rfl, rfl, (SegAt.blk' (z := 8) .head rfl).1⟩⟩, ⟨_, _, rfl, rfl, rfl⟩, rfl⟩ (fun w1 hw1 => ⟨_, _, rfl, ⟨A18, n14, c18, A19, n15, c19, A3, n1, c3, A4, n2, c4, rfl, hf28, hf29, hf1, hf2, rfl⟩, Ret.of_KH hw1 (.cons (.tail (.tail .head)) (.cons (.tail (.tail .head)) (.cons (.tail (.tail (.tail (.tail (.tail (.tail (.tail (.tail (.tail (.tail .head)))))))))) (.cons (.tail (.tail (.tail (.tail (.tail (.tail (.tail (.tail (.tail (.tail .head)))))))))) (.cons (.tail (.tail (.tail (.tail (.tail (.tail (.tail (.tail (.tail (.tail (.tail (.tail .head)))))))))))) .nil)))))⟩)
  rw [if_neg hh8] at h
  refine WP.mx_ tysOk rfl ⟨⟩ (SegAt.blk' (.tail .head) rfl) ?_
  refine WP.bld (cs := [.slice A3 n1 c3, .slice A4 n2 c4, iv 0, .slice none 0 0, .slice none 0 0, iv 0, .int .u64 (0), .bool (false)]) tysOk rfl ⟨⟩ rfl rfl rfl rfl rfl rfl rfl ?_
  refine WP.sto' tysOk [.slice A3 n1 c3, .slice A4 n2 c4, iv 0, .slice none 0 0, .slice none 0 0, iv 0, .int .u64 (0), .bool (false)] rfl rfl rfl rfl rfl rfl rfl rfl rfl (.tail (.tail (.tail (.tail .head)))) rfl rfl ?_
  refine WP.sx tysOk rfl ⟨⟨⟩, ⟨⟩⟩ ?_
  cases h
  refine WP.own_nil 2 (fI .i64).z ?_
  refine WP.own_nil 34 fA.z ?_
  refine WP.retR tysOk rfl rfl ⟨_, _, _, _, rfl, ⟨_, rfl, .inr ⟨rfl, _, rfl, rfl, (SegAt.blk' (z := 8) (.tail (.tail .head)) rfl).1⟩⟩, ⟨_, _, rfl, rfl, rfl⟩, rfl⟩ (fun w1 hw1 => ⟨_, _, rfl, ⟨A3, n1, c3, A4, n2, c4, none, 0, 0, none, 0, 0, rfl, hf1, hf2, OwF.nil_, OwF.nil_, rfl⟩, Ret.of_KH hw1 (.cons (.tail (.tail (.tail (.tail (.tail .head))))) (.cons (.tail (.tail (.tail (.tail (.tail .head))))) (.cons (.tail .head) (.cons .head (.cons (.tail (.tail (.tail (.tail (.tail .head))))) .nil)))))⟩)

abbrev two_Fork_S (r : Step × Int) : Value → Heap → Prop := fun v L => ∃ (A1 : Option Addr) (n1 c1 : Nat) (A2 : Option Addr) (n2 c2 : Nat) (A3 : Option Addr) (n3 c3 : Nat) (A4 : Option Addr) (n4 c4 : Nat), v = .tuple #[.agg #[.slice A1 n1 c1, .slice A2 n2 c2, iv r.1.rcd.pass, .slice A3 n3 c3, .slice A4 n4 c4, iv r.1.off.hi, .int .u64 (r.1.off.lo), .bool (r.1.did)], .int .u16 (r.2)] ∧ OwF A1 n1 r.1.inst.supply ∧ OwF A2 n2 r.1.inst.arcs ∧ OwF A3 n3 r.1.rcd.was.supply ∧ OwF A4 n4 r.1.rcd.was.arcs ∧ L = [Ow (fI .i64) 2 A1 n1 c1 r.1.inst.supply, Ow fA 34 A2 n2 c2 r.1.inst.arcs, Ow (fI .i64) 2 A3 n3 c3 r.1.rcd.was.supply, Ow fA 34 A4 n4 c4 r.1.rcd.was.arcs]
set_option maxRecDepth 20000 in
set_option maxHeartbeats 8000000 in
theorem two_Fork_w {w : World} {v0 : Value} {i1 : Inst} {r : Step × Int} (h : two_Fork i1 = some r) (p1 : InsZ (PH.of w) v0 i1) :
    Calls Tryz.prog 18 #[v0] w fun e w' => ∃ v L, e = .returned v ∧ two_Fork_S r v L ∧ Ret w w' L := by
  obtain ⟨A1, c1, A2, c2, rfl, hs1, hs2⟩ := p1
  unfold two_Fork at h
  refine enter_ Tryz.func18 rfl Tryz.ntmps18 rfl ?_
  refine WP.box rfl rfl rfl rfl rfl rfl ?_
  intro g1
  refine WP.al tysOk rfl rfl rfl rfl rfl rfl ?_
  intro g2
  refine WP.sx tysOk rfl ⟨⟨⟩, ⟨⟩⟩ ?_
  obtain ⟨r1, hg1, h⟩ := bind_some h
  refine WP.drawL 5 [(0, [], fun _ => constSpec (.agg #[iv 9, .func (.func 46) #[] #[], .func (.func 47) #[] #[], .func (.func 48) #[] #[]])), (2, [], fun _ => two_shape_run_2_S r1)] rfl (by kernel_rfl) (by kernel_rfl) (by kernel_rfl) ?_
  refine WP.callV rfl rfl rfl rfl rfl rfl rfl (by kernel_rfl) (fun w1 hw1 => two_fork_w) ⟨⟨rfl, rfl⟩, rfl⟩ ?_
  refine WP.mx_ tysOk rfl ⟨⟨rfl, rfl⟩, rfl⟩ (SegAt.blk' (.tail .head) rfl) ?_
  refine WP.lcall rfl ⟨rfl, rfl⟩ rfl rfl rfl rfl rfl rfl rfl (by kernel_rfl) (fun w1 hw1 => (two_shape_run_2_w hg1 (InsZ.mk_ ((hs1.le' ((Held.mem (List.Mem.tail _ (List.Mem.tail _ (List.Mem.head _)))) _ _ hw1)).of) ((hs2.le' ((Held.mem (List.Mem.tail _ (List.Mem.tail _ (List.Mem.head _)))) _ _ hw1)).of)) :)) ?_
  rintro _ _ ⟨A3, n1, c3, A4, n2, c4, A5, n3, c5, A6, n4, c6, rfl, hf1, hf2, hf3, hf4, rfl⟩
  iterate 2 (refine WP.sx tysOk rfl ⟨⟨⟨rfl, rfl⟩, rfl⟩, ⟨⟩⟩ ?_)
  refine WP.lend rfl ⟨rfl, rfl⟩ ?_
  refine WP.sto' tysOk [.slice A3 n1 c3, .slice A4 n2 c4, iv r1.1.rcd.pass, .slice A5 n3 c5, .slice A6 n4 c6, iv r1.1.off.hi, .int .u64 (r1.1.off.lo), .bool (r1.1.did)] rfl rfl rfl rfl rfl rfl rfl rfl rfl (.tail (.tail (.tail (.tail .head)))) rfl rfl ?_
  refine WP.sx tysOk rfl ⟨⟨⟩, ⟨⟩⟩ ?_
  cases h
  refine WP.retR tysOk rfl rfl ⟨_, _, _, _, rfl, ⟨_, rfl, .inr ⟨rfl, _, rfl, rfl, (SegAt.blk' (z := 8) .head rfl).1⟩⟩, ⟨_, _, rfl, rfl, rfl⟩, rfl⟩ (fun w1 hw1 => ⟨_, _, rfl, ⟨A3, n1, c3, A4, n2, c4, A5, n3, c5, A6, n4, c6, rfl, hf1, hf2, hf3, hf4, rfl⟩, Ret.of_KH hw1 (.cons (.tail .head) (.cons (.tail .head) (.cons (.tail .head) (.cons (.tail .head) (.cons (.tail (.tail .head)) .nil)))))⟩)

set_option maxRecDepth 20000 in
set_option maxHeartbeats 8000000 in
theorem ref18_Split_w {w : World} {v0 : Value} {d1 : Inst} {i1 : Int} {r : Spot × Bool} (h : ref18_Split d1 i1 = some r) (p1 : InsZ (PH.of w) v0 d1) :
    Calls Tryz.prog 22 #[v0, iv i1] w fun e w' => e = .returned (.tuple #[.agg #[iv r.1.node, iv r.1.a, iv r.1.b, iv r.1.new.src, iv r.1.new.dst, iv r.1.new.low, iv r.1.new.cap, iv r.1.new.cost], .bool (r.2)]) ∧ Below w.heap.size w w' := by
  obtain ⟨A1, c1, A2, c2, rfl, hs1, hs2⟩ := p1
  unfold ref18_Split at h
  refine enter_ Tryz.func22 rfl Tryz.ntmps22 rfl ?_
  refine WP.box rfl rfl rfl rfl rfl rfl ?_
  intro g1
  refine WP.al tysOk rfl rfl rfl rfl rfl rfl ?_
  intro g2
  refine WP.sx tysOk rfl ⟨⟨⟩, ⟨⟩⟩ ?_
  refine WP.mx_ tysOk rfl ⟨⟩ (SegAt.blk' (.tail .head) rfl) ?_
  refine WP.sx tysOk rfl ⟨⟨⟩, ⟨⟩⟩ ?_
  obtain ⟨r1, hg1, h⟩ := bind_some h
  refine WP.callS (ref18_two_S r1) rfl rfl rfl rfl rfl rfl rfl (by kernel_rfl) (fun w1 hw1 => (ref18_two_w hg1 (InsZ.mk_ ((hs1.le' ((Held.mem (List.Mem.tail _ (List.Mem.tail _ (List.Mem.head _)))) _ _ hw1)).of) ((hs2.le' ((Held.mem (List.Mem.tail _ (List.Mem.tail _ (List.Mem.head _)))) _ _ hw1)).of)) :)) ?_
  rintro _ _ ⟨A3, n1, c3, rfl, hf1, rfl⟩
  iterate 5 (refine WP.sx tysOk rfl ⟨⟨⟩, ⟨⟩⟩ ?_)
  refine WP.draw rfl (by kernel_rfl) (by kernel_rfl) ?_
  iterate 3 (refine WP.sx tysOk rfl ⟨rfl, ⟨⟩⟩ ?_)
  by_cases hh1 : r1.2 = true
  ·rw [if_pos hh1] at h
   refine WP.yes rfl rfl (by simp [hh1]) ?_
   refine WP.sx tysOk rfl ⟨rfl, ⟨⟩⟩ ?_
   refine WP.yes rfl rfl rfl ?_
   refine WP.lx tysOk rfl rfl (CellAt.blk (.tail (.tail .head)) rfl) ?_
   refine WP.yes rfl rfl rfl ?_
   refine WP.sx tysOk rfl ⟨rfl, ⟨⟩⟩ ?_
   refine WP.yes rfl rfl rfl ?_
   obtain ⟨hj1, h⟩ := ck_some h
   refine WP.ixO tysOk rfl rfl rfl rfl rfl rfl rfl rfl rfl rfl hf1 hj1 ?_
   intro b1 hA1
   refine WP.yes rfl rfl rfl ?_
   refine WP.lx tysOk rfl rfl (OwS.at0 .head hA1 hj1 rfl) ?_
   refine WP.yes rfl rfl rfl ?_
   obtain ⟨hj2, h⟩ := ck_some h
   refine WP.ixA tysOk rfl rfl rfl rfl rfl rfl rfl rfl rfl rfl hj2 (hs2.ex hj2) ?_
   intro b2 b2v hA2
   refine WP.yes rfl rfl rfl ?_
   refine WP.sx tysOk rfl ⟨rfl, ⟨⟩⟩ ?_
   refine WP.yes rfl rfl rfl ?_
   refine WP.lx tysOk rfl rfl (hs2.at hA2 (Held.mem (List.Mem.tail _ (List.Mem.tail _ (List.Mem.tail _ (List.Mem.head _))))) hj2 1 rfl) ?_
   iterate 3 (refine WP.yes rfl rfl rfl ?_; refine WP.sx tysOk rfl ⟨rfl, ⟨⟩⟩ ?_)
   refine WP.yes rfl rfl rfl ?_
   refine WP.lx tysOk rfl rfl (CellAt.blk (.tail (.tail .head)) rfl) ?_
   refine WP.yes rfl rfl rfl ?_
   refine WP.sx tysOk rfl ⟨rfl, ⟨⟩⟩ ?_
   refine WP.yes rfl rfl rfl ?_
   obtain ⟨hj3, h⟩ := ck_some h
   refine WP.ixO tysOk rfl rfl rfl rfl rfl rfl rfl rfl rfl rfl hf1 hj3 ?_
   intro b3 hA3
   refine WP.yes rfl rfl rfl ?_
   refine WP.lx tysOk rfl rfl (OwS.at0 .head hA3 hj3 rfl) ?_
   refine WP.yes rfl rfl rfl ?_
   obtain ⟨hj4, h⟩ := ck_some h
   refine WP.ixA tysOk rfl rfl rfl rfl rfl rfl rfl rfl rfl rfl hj4 (hs2.ex hj4) ?_
   intro b4 b4v hA4
   refine WP.yes rfl rfl rfl ?_
   refine WP.sx tysOk rfl ⟨rfl, ⟨⟩⟩ ?_
   refine WP.yes rfl rfl rfl ?_
   refine WP.lx tysOk rfl rfl (hs2.at hA4 (Held.mem (List.Mem.tail _ (List.Mem.tail _ (List.Mem.tail _ (List.Mem.head _))))) hj4 1 rfl) ?_
   iterate 2 (refine WP.yes rfl rfl rfl ?_; refine WP.sx tysOk rfl ⟨rfl, ⟨⟩⟩ ?_)
   refine WP.yes rfl rfl rfl ?_
   iterate 2 (refine WP.sx tysOk rfl ⟨rfl, ⟨⟩⟩ ?_)
   refine WP.qend rfl ?_
   refine WP.cond_n rfl rfl (fun hh2 => ?_) (fun hh2 => ?_)
   ·rw [if_neg (bneg hh2)] at h
    refine WP.bld (cs := [iv 0, iv 0, iv 0, iv 0, iv 0, iv 0, iv 0, iv 0]) tysOk rfl ⟨⟩ rfl rfl rfl rfl rfl rfl rfl ?_
    refine WP.sto' tysOk [iv 0, iv 0, iv 0, iv 0, iv 0, iv 0, iv 0, iv 0] rfl rfl rfl rfl rfl rfl rfl rfl rfl (.tail .head) rfl rfl ?_
    refine WP.sx tysOk rfl ⟨⟨⟩, ⟨⟩⟩ ?_
    cases h
    refine WP.retR tysOk rfl rfl ⟨_, _, _, _, rfl, ⟨_, rfl, .inr ⟨rfl, _, rfl, rfl, (SegAt.blk' (z := 8) .head rfl).1⟩⟩, ⟨_, _, rfl, rfl, rfl⟩, rfl⟩ (fun w1 hw1 => ⟨rfl, Ret.below_ hw1 (.cons (.tail (.tail (.tail .head))) .nil)⟩)
   rw [if_pos hh2] at h
   refine WP.drawL 8 [(7, [], fun _ => blkSpec 34 [iv 0, iv 0, iv 0, iv 0, iv 0])] rfl (by kernel_rfl) (by kernel_rfl) (by kernel_rfl) ?_
   refine WP.sx tysOk rfl ⟨⟨⟨rfl, rfl⟩, rfl⟩, ⟨⟩⟩ ?_
   refine WP.lx tysOk rfl ⟨⟨rfl, rfl⟩, rfl⟩ (CellAt.blk (.tail (.tail .head)) rfl) ?_
   refine WP.sx tysOk rfl ⟨⟨⟨rfl, rfl⟩, rfl⟩, ⟨⟩⟩ ?_
   refine WP.ixO tysOk rfl ⟨⟨rfl, rfl⟩, rfl⟩ rfl rfl rfl rfl rfl rfl rfl rfl hf1 hj1 ?_
   intro b5 hA5
   refine WP.lx tysOk rfl ⟨⟨rfl, rfl⟩, rfl⟩ (OwS.at0 .head hA5 hj1 rfl) ?_
   refine WP.ixA tysOk rfl ⟨⟨rfl, rfl⟩, rfl⟩ rfl rfl rfl rfl rfl rfl rfl rfl hj2 (hs2.ex hj2) ?_
   intro b6 b6v hA6
   refine WP.mx_ tysOk rfl ⟨⟨rfl, rfl⟩, rfl⟩ (hs2.seg hA6 (Held.mem (List.Mem.tail _ (List.Mem.tail _ (List.Mem.tail _ (List.Mem.head _))))) hj2) ?_
   refine WP.lal tysOk rfl ⟨rfl, rfl⟩ rfl rfl rfl rfl rfl rfl rfl ?_
   intro g3
   refine WP.lend rfl ⟨rfl, rfl⟩ ?_
   refine WP.sto' tysOk [iv ((gt d1.arcs (gt r1.1 0)).src), iv ((gt d1.arcs (gt r1.1 0)).dst), iv ((gt d1.arcs (gt r1.1 0)).low), iv ((gt d1.arcs (gt r1.1 0)).cap), iv ((gt d1.arcs (gt r1.1 0)).cost)] rfl rfl rfl rfl rfl rfl rfl rfl rfl .head rfl rfl ?_
   refine WP.drawL 8 [(7, [], fun _ => blkSpec 34 [iv 0, iv 0, iv 0, iv 0, iv 0])] rfl (by kernel_rfl) (by kernel_rfl) (by kernel_rfl) ?_
   refine WP.sx tysOk rfl ⟨⟨⟨rfl, rfl⟩, rfl⟩, ⟨⟩⟩ ?_
   refine WP.lx tysOk rfl ⟨⟨rfl, rfl⟩, rfl⟩ (CellAt.blk (.tail (.tail (.tail .head))) rfl) ?_
   refine WP.sx tysOk rfl ⟨⟨⟨rfl, rfl⟩, rfl⟩, ⟨⟩⟩ ?_
   refine WP.ixO tysOk rfl ⟨⟨rfl, rfl⟩, rfl⟩ rfl rfl rfl rfl rfl rfl rfl rfl hf1 hj3 ?_
   intro b7 hA7
   refine WP.lx tysOk rfl ⟨⟨rfl, rfl⟩, rfl⟩ (OwS.at0 (.tail .head) hA7 hj3 rfl) ?_
   refine WP.ixA tysOk rfl ⟨⟨rfl, rfl⟩, rfl⟩ rfl rfl rfl rfl rfl rfl rfl rfl hj4 (hs2.ex hj4) ?_
   intro b8 b8v hA8
   refine WP.mx_ tysOk rfl ⟨⟨rfl, rfl⟩, rfl⟩ (hs2.seg hA8 (Held.mem (List.Mem.tail _ (List.Mem.tail _ (List.Mem.tail _ (List.Mem.tail _ (List.Mem.head _)))))) hj4) ?_
   refine WP.lal tysOk rfl ⟨rfl, rfl⟩ rfl rfl rfl rfl rfl rfl rfl ?_
   intro g4
   refine WP.lend rfl ⟨rfl, rfl⟩ ?_
   refine WP.sto' tysOk [iv ((gt d1.arcs (gt r1.1 1)).src), iv ((gt d1.arcs (gt r1.1 1)).dst), iv ((gt d1.arcs (gt r1.1 1)).low), iv ((gt d1.arcs (gt r1.1 1)).cap), iv ((gt d1.arcs (gt r1.1 1)).cost)] rfl rfl rfl rfl rfl rfl rfl rfl rfl .head rfl rfl ?_
   refine WP.sx tysOk rfl ⟨⟨⟩, ⟨⟩⟩ ?_
   refine WP.lx tysOk rfl ⟨⟩ (CellAt.blk (.tail (.tail (.tail (.tail .head)))) rfl) ?_
   refine WP.sx tysOk rfl ⟨⟨⟩, ⟨⟩⟩ ?_
   obtain ⟨hj5, h⟩ := ck_some h
   refine WP.ixA tysOk rfl ⟨⟩ rfl rfl rfl rfl rfl rfl rfl rfl hj5 (hs1.ex hj5) ?_
   intro b9 b9v hA9
   refine WP.lx tysOk rfl ⟨⟩ (hs1.at0 hA9 (Held.mem (List.Mem.tail _ (List.Mem.tail _ (List.Mem.tail _ (List.Mem.tail _ (List.Mem.tail _ (List.Mem.head _))))))) hj5 rfl) ?_
   iterate 2 (refine WP.sx tysOk rfl ⟨⟨⟩, ⟨⟩⟩ ?_)
   refine WP.lx tysOk rfl ⟨⟩ (CellAt.blk .head rfl) ?_
   refine WP.sx tysOk rfl ⟨⟨⟩, ⟨⟩⟩ ?_
   refine WP.lx tysOk rfl ⟨⟩ (CellAt.blk (.tail .head) rfl) ?_
   refine WP.sx tysOk rfl ⟨⟨⟩, ⟨⟩⟩ ?_
   refine WP.lx tysOk rfl ⟨⟩ (CellAt.blk (.tail .head) rfl) ?_
   refine WP.sx tysOk rfl ⟨⟨⟩, ⟨⟩⟩ ?_
   refine WP.lx tysOk rfl ⟨⟩ (CellAt.blk .head rfl) ?_
   refine WP.sx tysOk rfl ⟨⟨⟩, ⟨⟩⟩ ?_
   refine WP.bld (cs := [iv ((gt d1.arcs (gt r1.1 1)).dst), iv ((gt d1.arcs (gt r1.1 0)).dst), iv 0, iv 0, iv (w64 (((gt d1.arcs (gt r1.1 0)).cost) - ((gt d1.arcs (gt r1.1 1)).cost)))]) tysOk rfl ⟨⟩ rfl rfl rfl rfl rfl rfl rfl ?_
   refine WP.al tysOk rfl rfl rfl rfl rfl rfl ?_
   intro g5
   refine WP.sto' tysOk [iv ((gt d1.arcs (gt r1.1 1)).dst), iv ((gt d1.arcs (gt r1.1 0)).dst), iv 0, iv 0, iv (w64 (((gt d1.arcs (gt r1.1 0)).cost) - ((gt d1.arcs (gt r1.1 1)).cost)))] rfl rfl rfl rfl rfl rfl rfl rfl rfl .head rfl rfl ?_
   refine WP.sx tysOk rfl ⟨⟨⟩, ⟨⟩⟩ ?_
   refine WP.lx tysOk rfl ⟨⟩ (CellAt.blk (.tail (.tail .head)) rfl) ?_
   iterate 2 (refine WP.sx tysOk rfl ⟨⟨⟩, ⟨⟩⟩ ?_)
   refine WP.cond_d rfl rfl (fun hh3 => ?_) (fun hh3 => ?_)
   ·rw [if_pos hh3] at h
    iterate 4 (refine WP.sx tysOk rfl ⟨⟨⟩, ⟨⟩⟩ ?_)
    refine WP.lx tysOk rfl ⟨⟩ (CellAt.blk (.tail (.tail .head)) rfl) ?_
    refine WP.sx tysOk rfl ⟨⟨⟩, ⟨⟩⟩ ?_
    refine WP.sto' tysOk [iv ((gt d1.arcs (gt r1.1 0)).src), iv ((gt d1.arcs (gt r1.1 0)).dst), iv 0, iv 0, iv (w64 (((gt d1.arcs (gt r1.1 0)).cost) - ((gt d1.arcs (gt r1.1 1)).cost)))] rfl rfl rfl rfl rfl rfl rfl rfl rfl .head rfl rfl ?_
    refine WP.sx tysOk rfl ⟨⟨⟩, ⟨⟩⟩ ?_
    refine WP.lx tysOk rfl ⟨⟩ (CellAt.blk (.tail .head) rfl) ?_
    refine WP.sx tysOk rfl ⟨⟨⟩, ⟨⟩⟩ ?_
    refine WP.sto' tysOk [iv ((gt d1.arcs (gt r1.1 0)).src), iv ((gt d1.arcs (gt r1.1 1)).src), iv 0, iv 0, iv (w64 (((gt d1.arcs (gt r1.1 0)).cost) - ((gt d1.arcs (gt r1.1 1)).cost)))] rfl rfl rfl rfl rfl rfl rfl rfl rfl .head rfl rfl ?_
    refine WP.sx tysOk rfl ⟨⟨⟩, ⟨⟩⟩ ?_
    refine WP.lx tysOk rfl ⟨⟩ (CellAt.blk (.tail (.tail .head)) rfl) ?_
    refine WP.sx tysOk rfl ⟨⟨⟩, ⟨⟩⟩ ?_
    refine WP.sto' tysOk [iv ((gt d1.arcs (gt r1.1 0)).src), iv ((gt d1.arcs (gt r1.1 1)).src), iv ((gt d1.arcs (gt r1.1 0)).low), iv 0, iv (w64 (((gt d1.arcs (gt r1.1 0)).cost) - ((gt d1.arcs (gt r1.1 1)).cost)))] rfl rfl rfl rfl rfl rfl rfl rfl rfl .head rfl rfl ?_
    refine WP.sx tysOk rfl ⟨⟨⟩, ⟨⟩⟩ ?_
    refine WP.lx tysOk rfl ⟨⟩ (CellAt.blk (.tail .head) rfl) ?_
    refine WP.sx tysOk rfl ⟨⟨⟩, ⟨⟩⟩ ?_
    refine WP.cond_d rfl rfl (fun hh4 => ?_) (fun hh4 => ?_)
    ·rw [if_pos hh4] at h
     refine WP.sx tysOk rfl ⟨⟨⟩, ⟨⟩⟩ ?_
     refine WP.lx tysOk rfl ⟨⟩ (CellAt.blk (.tail (.tail .head)) rfl) ?_
     iterate 2 (refine WP.sx tysOk rfl ⟨⟨⟩, ⟨⟩⟩ ?_)
     refine WP.lx tysOk rfl ⟨⟩ (CellAt.blk (.tail .head) rfl) ?_
     refine WP.sx tysOk rfl ⟨⟨⟩, ⟨⟩⟩ ?_
     refine WP.mx rfl ⟨⟩ rfl rfl rfl rfl rfl rfl ?_
     refine WP.sx tysOk rfl ⟨⟨⟩, ⟨⟩⟩ ?_
     refine WP.sto' tysOk [iv ((gt d1.arcs (gt r1.1 0)).src), iv ((gt d1.arcs (gt r1.1 1)).src), iv (if (w64 ((w64 (0 - (gt d1.supply i1))) - ((gt d1.arcs (gt r1.1 1)).cap))) > ((gt d1.arcs (gt r1.1 0)).low) then w64 ((w64 (0 - (gt d1.supply i1))) - ((gt d1.arcs (gt r1.1 1)).cap)) else (gt d1.arcs (gt r1.1 0)).low), iv 0, iv (w64 (((gt d1.arcs (gt r1.1 0)).cost) - ((gt d1.arcs (gt r1.1 1)).cost)))] rfl rfl rfl rfl rfl rfl rfl rfl rfl .head rfl rfl ?_
     refine WP.sx tysOk rfl ⟨⟨⟩, ⟨⟩⟩ ?_
     refine WP.lx tysOk rfl ⟨⟩ (CellAt.blk (.tail (.tail .head)) rfl) ?_
     iterate 2 (refine WP.sx tysOk rfl ⟨⟨⟩, ⟨⟩⟩ ?_)
     refine WP.lx tysOk rfl ⟨⟩ (CellAt.blk (.tail .head) rfl) ?_
     refine WP.sx tysOk rfl ⟨⟨⟩, ⟨⟩⟩ ?_
     refine WP.mn rfl ⟨⟩ rfl rfl rfl rfl rfl rfl ?_
     refine WP.sx tysOk rfl ⟨⟨⟩, ⟨⟩⟩ ?_
     refine WP.sto' tysOk [iv ((gt d1.arcs (gt r1.1 0)).src), iv ((gt d1.arcs (gt r1.1 1)).src), iv (if (w64 ((w64 (0 - (gt d1.supply i1))) - ((gt d1.arcs (gt r1.1 1)).cap))) > ((gt d1.arcs (gt r1.1 0)).low) then w64 ((w64 (0 - (gt d1.supply i1))) - ((gt d1.arcs (gt r1.1 1)).cap)) else (gt d1.arcs (gt r1.1 0)).low), iv (if (w64 ((w64 (0 - (gt d1.supply i1))) - ((gt d1.arcs (gt r1.1 1)).low))) < ((gt d1.arcs (gt r1.1 0)).cap) then w64 ((w64 (0 - (gt d1.supply i1))) - ((gt d1.arcs (gt r1.1 1)).low)) else (gt d1.arcs (gt r1.1 0)).cap), iv (w64 (((gt d1.arcs (gt r1.1 0)).cost) - ((gt d1.arcs (gt r1.1 1)).cost)))] rfl rfl rfl rfl rfl rfl rfl rfl rfl .head rfl rfl ?_
     obtain ⟨r2, hg2, h⟩ := bind_some h
     refine WP.edges [(13, 11)] putInv_body rfl rfl (by kernel_rfl) (by kernel_rfl) ?_
     refine WP.heads [0, 1, 2, 3, 4, 5, 6, 7, 8, 9, 10, 11, 12] [13, 14] [(8, [], fun _ => constSpec (.tuple #[.agg #[iv r2.1.node, iv r2.1.a, iv r2.1.b, iv r2.1.new.src, iv r2.1.new.dst, iv r2.1.new.low, iv r2.1.new.cap, iv r2.1.new.cost], .bool (r2.2)])), (12, [], fun _ => blkSpec 56 [iv 0, iv 0, iv 0, iv 0, iv 0, iv 0, iv 0, iv 0])] rfl (by kernel_rfl) (by decide) rfl (by kernel_rfl) (by kernel_rfl) ?_
     iterate 2 (refine WP.sx tysOk rfl ⟨⟨⟨rfl, rfl⟩, rfl⟩, ⟨⟩⟩ ?_)
     refine WP.ixO tysOk rfl ⟨⟨rfl, rfl⟩, rfl⟩ rfl rfl rfl rfl rfl rfl rfl rfl hf1 hj1 ?_
     intro b10 hA10
     refine WP.lx tysOk rfl ⟨⟨rfl, rfl⟩, rfl⟩ (OwS.at0 (.tail (.tail (.tail .head))) hA10 hj1 rfl) ?_
     refine WP.sx tysOk rfl ⟨⟨⟨rfl, rfl⟩, rfl⟩, ⟨⟩⟩ ?_
     refine WP.ixO tysOk rfl ⟨⟨rfl, rfl⟩, rfl⟩ rfl rfl rfl rfl rfl rfl rfl rfl hf1 hj3 ?_
     intro b11 hA11
     refine WP.lx tysOk rfl ⟨⟨rfl, rfl⟩, rfl⟩ (OwS.at0 (.tail (.tail (.tail .head))) hA11 hj3 rfl) ?_
     refine WP.mx_ tysOk rfl ⟨⟨rfl, rfl⟩, rfl⟩ (SegAt.blk' .head rfl) ?_
     refine WP.callV rfl rfl rfl rfl rfl rfl rfl (by kernel_rfl) (fun w1 hw1 => (ref18_spot_w hg2  :)) ⟨⟨rfl, rfl⟩, rfl⟩ ?_
     iterate 3 (refine WP.sx tysOk rfl ⟨⟨⟨rfl, rfl⟩, rfl⟩, ⟨⟩⟩ ?_)
     refine WP.lal tysOk rfl ⟨rfl, rfl⟩ rfl rfl rfl rfl rfl rfl rfl ?_
     intro g6
     refine WP.lend rfl ⟨rfl, rfl⟩ ?_
     refine WP.joinA (α := Unit) (fun x => True) (fun x => [(4, .pointer (some ⟨g2, 0, none⟩)), (12, .pointer (some ⟨g6, 0, none⟩)), (13, .bool (r2.2))]) (fun x => [.blk g6 56 [iv r2.1.node, iv r2.1.a, iv r2.1.b, iv r2.1.new.src, iv r2.1.new.dst, iv r2.1.new.low, iv r2.1.new.cap, iv r2.1.new.cost], .blk g5 34 [iv ((gt d1.arcs (gt r1.1 0)).src), iv ((gt d1.arcs (gt r1.1 1)).src), iv (if (w64 ((w64 (0 - (gt d1.supply i1))) - ((gt d1.arcs (gt r1.1 1)).cap))) > ((gt d1.arcs (gt r1.1 0)).low) then w64 ((w64 (0 - (gt d1.supply i1))) - ((gt d1.arcs (gt r1.1 1)).cap)) else (gt d1.arcs (gt r1.1 0)).low), iv (if (w64 ((w64 (0 - (gt d1.supply i1))) - ((gt d1.arcs (gt r1.1 1)).low))) < ((gt d1.arcs (gt r1.1 0)).cap) then w64 ((w64 (0 - (gt d1.supply i1))) - ((gt d1.arcs (gt r1.1 1)).low)) else (gt d1.arcs (gt r1.1 0)).cap), iv (w64 (((gt d1.arcs (gt r1.1 0)).cost) - ((gt d1.arcs (gt r1.1 1)).cost)))], .blk g4 34 [iv ((gt d1.arcs (gt r1.1 1)).src), iv ((gt d1.arcs (gt r1.1 1)).dst), iv ((gt d1.arcs (gt r1.1 1)).low), iv ((gt d1.arcs (gt r1.1 1)).cap), iv ((gt d1.arcs (gt r1.1 1)).cost)], .blk g3 34 [iv ((gt d1.arcs (gt r1.1 0)).src), iv ((gt d1.arcs (gt r1.1 0)).dst), iv ((gt d1.arcs (gt r1.1 0)).low), iv ((gt d1.arcs (gt r1.1 0)).cap), iv ((gt d1.arcs (gt r1.1 0)).cost)], Ow (fI .i64) 3 A3 n1 c3 r1.1, .blk g2 56 [iv 0, iv 0, iv 0, iv 0, iv 0, iv 0, iv 0, iv 0], .blk g1 25 [.slice A1 d1.supply.length c1, .slice A2 d1.arcs.length c2], .fz (PH.of w)]) rfl ?_ ?_
     ·refine WP.any1 13 rfl (by kernel_rfl) rfl ?_
      refine WP.sto' tysOk [iv r2.1.node, iv r2.1.a, iv r2.1.b, iv r2.1.new.src, iv r2.1.new.dst, iv r2.1.new.low, iv r2.1.new.cap, iv r2.1.new.cost] rfl rfl rfl rfl rfl rfl rfl rfl rfl .head rfl rfl ?_
      refine WP.anyP 14 tysOk putInv_body rfl rfl rfl (by kernel_rfl) (by kernel_rfl) rfl rfl rfl rfl rfl True.intro ?_
      refine WP.any0 rfl (by kernel_rfl) ?_
      refine WP.stop rfl () True.intro ?_ ?_
      ·repeat first | exact ⟨⟩ | refine ⟨rfl, ?_⟩
      exact (.cons .head (.cons .head (.cons .head (.cons .head (.cons .head (.cons .head (.cons .head (.cons .head .nil))))))))
     rintro _ _
     refine WP.mx_ tysOk rfl ⟨⟩ (SegAt.blk' .head rfl) ?_
     refine WP.sx tysOk rfl ⟨⟨⟩, ⟨⟩⟩ ?_
     refine WP.sto' tysOk [iv r2.1.node, iv r2.1.a, iv r2.1.b, iv r2.1.new.src, iv r2.1.new.dst, iv r2.1.new.low, iv r2.1.new.cap, iv r2.1.new.cost] rfl rfl rfl rfl rfl rfl rfl rfl rfl (.tail (.tail (.tail (.tail (.tail .head))))) rfl rfl ?_
     refine WP.sx tysOk rfl ⟨⟨⟩, ⟨⟩⟩ ?_
     cases h
     refine WP.retR tysOk rfl rfl ⟨_, _, _, _, rfl, ⟨_, rfl, .inr ⟨rfl, _, rfl, rfl, (SegAt.blk' (z := 8) .head rfl).1⟩⟩, ⟨_, _, rfl, rfl, rfl⟩, rfl⟩ (fun w1 hw1 => ⟨rfl, Ret.below_ hw1 (.cons (.tail (.tail (.tail (.tail (.tail (.tail (.tail .head))))))) .nil)⟩)
    rw [if_neg hh4] at h
    refine WP.sx tysOk rfl ⟨⟨⟩, ⟨⟩⟩ ?_
    refine WP.lx tysOk rfl ⟨⟩ (CellAt.blk (.tail (.tail .head)) rfl) ?_
    iterate 2 (refine WP.sx tysOk rfl ⟨⟨⟩, ⟨⟩⟩ ?_)
    refine WP.lx tysOk rfl ⟨⟩ (CellAt.blk (.tail .head) rfl) ?_
    refine WP.sx tysOk rfl ⟨⟨⟩, ⟨⟩⟩ ?_
    refine WP.mn rfl ⟨⟩ rfl rfl rfl rfl rfl rfl ?_
    refine WP.sx tysOk rfl ⟨⟨⟩, ⟨⟩⟩ ?_
    refine WP.sto' tysOk [iv ((gt d1.arcs (gt r1.1 0)).src), iv ((gt d1.arcs (gt r1.1 1)).src), iv ((gt d1.arcs (gt r1.1 0)).low), iv (if (w64 ((w64 (0 - (gt d1.supply i1))) - ((gt d1.arcs (gt r1.1 1)).low))) < ((gt d1.arcs (gt r1.1 0)).cap) then w64 ((w64 (0 - (gt d1.supply i1))) - ((gt d1.arcs (gt r1.1 1)).low)) else (gt d1.arcs (gt r1.1 0)).cap), iv (w64 (((gt d1.arcs (gt r1.1 0)).cost) - ((gt d1.arcs (gt r1.1 1)).cost)))] rfl rfl rfl rfl rfl rfl rfl rfl rfl .head rfl rfl ?_
    obtain ⟨r3, hg3, h⟩ := bind_some h
    refine WP.edges [(13, 11)] putInv_body rfl rfl (by kernel_rfl) (by kernel_rfl) ?_
    refine WP.heads [0, 1, 2, 3, 4, 5, 6, 7, 8, 9, 10, 11, 12] [13, 14] [(8, [], fun _ => constSpec (.tuple #[.agg #[iv r3.1.node, iv r3.1.a, iv r3.1.b, iv r3.1.new.src, iv r3.1.new.dst, iv r3.1.new.low, iv r3.1.new.cap, iv r3.1.new.cost], .bool (r3.2)])), (12, [], fun _ => blkSpec 56 [iv 0, iv 0, iv 0, iv 0, iv 0, iv 0, iv 0, iv 0])] rfl (by kernel_rfl) (by decide) rfl (by kernel_rfl) (by kernel_rfl) ?_
    iterate 2 (refine WP.sx tysOk rfl ⟨⟨⟨rfl, rfl⟩, rfl⟩, ⟨⟩⟩ ?_)
    refine WP.ixO tysOk rfl ⟨⟨rfl, rfl⟩, rfl⟩ rfl rfl rfl rfl rfl rfl rfl rfl hf1 hj1 ?_
    intro b12 hA12
    refine WP.lx tysOk rfl ⟨⟨rfl, rfl⟩, rfl⟩ (OwS.at0 (.tail (.tail (.tail .head))) hA12 hj1 rfl) ?_
    refine WP.sx tysOk rfl ⟨⟨⟨rfl, rfl⟩, rfl⟩, ⟨⟩⟩ ?_
    refine WP.ixO tysOk rfl ⟨⟨rfl, rfl⟩, rfl⟩ rfl rfl rfl rfl rfl rfl rfl rfl hf1 hj3 ?_
    intro b13 hA13
    refine WP.lx tysOk rfl ⟨⟨rfl, rfl⟩, rfl⟩ (OwS.at0 (.tail (.tail (.tail .head))) hA13 hj3 rfl) ?_
    refine WP.mx_ tysOk rfl ⟨⟨rfl, rfl⟩, rfl⟩ (SegAt.blk' .head rfl) ?_
    refine WP.callV rfl rfl rfl rfl rfl rfl rfl (by kernel_rfl) (fun w1 hw1 => (ref18_spot_w hg3  :)) ⟨⟨rfl, rfl⟩, rfl⟩ ?_
    iterate 3 (refine WP.sx tysOk rfl ⟨⟨⟨rfl, rfl⟩, rfl⟩, ⟨⟩⟩ ?_)
    refine WP.lal tysOk rfl ⟨rfl, rfl⟩ rfl rfl rfl rfl rfl rfl rfl ?_
    intro g7
    refine WP.lend rfl ⟨rfl, rfl⟩ ?_
    refine WP.joinA (α := Unit) (fun x => True) (fun x => [(4, .pointer (some ⟨g2, 0, none⟩)), (12, .pointer (some ⟨g7, 0, none⟩)), (13, .bool (r3.2))]) (fun x => [.blk g7 56 [iv r3.1.node, iv r3.1.a, iv r3.1.b, iv r3.1.new.src, iv r3.1.new.dst, iv r3.1.new.low, iv r3.1.new.cap, iv r3.1.new.cost], .blk g5 34 [iv ((gt d1.arcs (gt r1.1 0)).src), iv ((gt d1.arcs (gt r1.1 1)).src), iv ((gt d1.arcs (gt r1.1 0)).low), iv (if (w64 ((w64 (0 - (gt d1.supply i1))) - ((gt d1.arcs (gt r1.1 1)).low))) < ((gt d1.arcs (gt r1.1 0)).cap) then w64 ((w64 (0 - (gt d1.supply i1))) - ((gt d1.arcs (gt r1.1 1)).low)) else (gt d1.arcs (gt r1.1 0)).cap), iv (w64 (((gt d1.arcs (gt r1.1 0)).cost) - ((gt d1.arcs (gt r1.1 1)).cost)))], .blk g4 34 [iv ((gt d1.arcs (gt r1.1 1)).src), iv ((gt d1.arcs (gt r1.1 1)).dst), iv ((gt d1.arcs (gt r1.1 1)).low), iv ((gt d1.arcs (gt r1.1 1)).cap), iv ((gt d1.arcs (gt r1.1 1)).cost)], .blk g3 34 [iv ((gt d1.arcs (gt r1.1 0)).src), iv ((gt d1.arcs (gt r1.1 0)).dst), iv ((gt d1.arcs (gt r1.1 0)).low), iv ((gt d1.arcs (gt r1.1 0)).cap), iv ((gt d1.arcs (gt r1.1 0)).cost)], Ow (fI .i64) 3 A3 n1 c3 r1.1, .blk g2 56 [iv 0, iv 0, iv 0, iv 0, iv 0, iv 0, iv 0, iv 0], .blk g1 25 [.slice A1 d1.supply.length c1, .slice A2 d1.arcs.length c2], .fz (PH.of w)]) rfl ?_ ?_
    ·refine WP.any1 13 rfl (by kernel_rfl) rfl ?_
     refine WP.sto' tysOk [iv r3.1.node, iv r3.1.a, iv r3.1.b, iv r3.1.new.src, iv r3.1.new.dst, iv r3.1.new.low, iv r3.1.new.cap, iv r3.1.new.cost] rfl rfl rfl rfl rfl rfl rfl rfl rfl .head rfl rfl ?_
     refine WP.anyP 14 tysOk putInv_body rfl rfl rfl (by kernel_rfl) (by kernel_rfl) rfl rfl rfl rfl rfl True.intro ?_
     refine WP.any0 rfl (by kernel_rfl) ?_
     refine WP.stop rfl () True.intro ?_ ?_
     ·repeat first | exact ⟨⟩ | refine ⟨rfl, ?_⟩
     exact (.cons .head (.cons .head (.cons .head (.cons .head (.cons .head (.cons .head (.cons .head (.cons .head .nil))))))))
    rintro _ _
    refine WP.mx_ tysOk rfl ⟨⟩ (SegAt.blk' .head rfl) ?_
    refine WP.sx tysOk rfl ⟨⟨⟩, ⟨⟩⟩ ?_
    refine WP.sto' tysOk [iv r3.1.node, iv r3.1.a, iv r3.1.b, iv r3.1.new.src, iv r3.1.new.dst, iv r3.1.new.low, iv r3.1.new.cap, iv r3.1.new.cost] rfl rfl rfl rfl rfl rfl rfl rfl rfl (.tail (.tail (.tail (.tail (.tail .head))))) rfl rfl ?_
    refine WP.sx tysOk rfl ⟨⟨⟩, ⟨⟩⟩ ?_
    cases h
    refine WP.retR tysOk rfl rfl ⟨_, _, _, _, rfl, ⟨_, rfl, .inr ⟨rfl, _, rfl, rfl, (SegAt.blk' (z := 8) .head rfl).1⟩⟩, ⟨_, _, rfl, rfl, rfl⟩, rfl⟩ (fun w1 hw1 => ⟨rfl, Ret.below_ hw1 (.cons (.tail (.tail (.tail (.tail (.tail (.tail (.tail .head))))))) .nil)⟩)
   rw [if_neg hh3] at h
   refine WP.sx tysOk rfl ⟨⟨⟩, ⟨⟩⟩ ?_
   refine WP.lx tysOk rfl ⟨⟩ (CellAt.blk (.tail (.tail .head)) rfl) ?_
   refine WP.sx tysOk rfl ⟨⟨⟩, ⟨⟩⟩ ?_
   refine WP.sto' tysOk [iv ((gt d1.arcs (gt r1.1 1)).dst), iv ((gt d1.arcs (gt r1.1 0)).dst), iv ((gt d1.arcs (gt r1.1 0)).low), iv 0, iv (w64 (((gt d1.arcs (gt r1.1 0)).cost) - ((gt d1.arcs (gt r1.1 1)).cost)))] rfl rfl rfl rfl rfl rfl rfl rfl rfl .head rfl rfl ?_
   refine WP.sx tysOk rfl ⟨⟨⟩, ⟨⟩⟩ ?_
   refine WP.lx tysOk rfl ⟨⟩ (CellAt.blk (.tail .head) rfl) ?_
   refine WP.sx tysOk rfl ⟨⟨⟩, ⟨⟩⟩ ?_
   refine WP.cond_d rfl rfl (fun hh5 => ?_) (fun hh5 => ?_)
   ·rw [if_pos hh5] at h
    refine WP.sx tysOk rfl ⟨⟨⟩, ⟨⟩⟩ ?_
    refine WP.lx tysOk rfl ⟨⟩ (CellAt.blk (.tail (.tail .head)) rfl) ?_
    iterate 2 (refine WP.sx tysOk rfl ⟨⟨⟩, ⟨⟩⟩ ?_)
    refine WP.lx tysOk rfl ⟨⟩ (CellAt.blk (.tail .head) rfl) ?_
    refine WP.sx tysOk rfl ⟨⟨⟩, ⟨⟩⟩ ?_
    refine WP.mx rfl ⟨⟩ rfl rfl rfl rfl rfl rfl ?_
    refine WP.sx tysOk rfl ⟨⟨⟩, ⟨⟩⟩ ?_
    refine WP.sto' tysOk [iv ((gt d1.arcs (gt r1.1 1)).dst), iv ((gt d1.arcs (gt r1.1 0)).dst), iv (if (w64 ((gt d1.supply i1) - ((gt d1.arcs (gt r1.1 1)).cap))) > ((gt d1.arcs (gt r1.1 0)).low) then w64 ((gt d1.supply i1) - ((gt d1.arcs (gt r1.1 1)).cap)) else (gt d1.arcs (gt r1.1 0)).low), iv 0, iv (w64 (((gt d1.arcs (gt r1.1 0)).cost) - ((gt d1.arcs (gt r1.1 1)).cost)))] rfl rfl rfl rfl rfl rfl rfl rfl rfl .head rfl rfl ?_
    refine WP.sx tysOk rfl ⟨⟨⟩, ⟨⟩⟩ ?_
    refine WP.lx tysOk rfl ⟨⟩ (CellAt.blk (.tail (.tail .head)) rfl) ?_
    iterate 2 (refine WP.sx tysOk rfl ⟨⟨⟩, ⟨⟩⟩ ?_)
    refine WP.lx tysOk rfl ⟨⟩ (CellAt.blk (.tail .head) rfl) ?_
    refine WP.sx tysOk rfl ⟨⟨⟩, ⟨⟩⟩ ?_
    refine WP.mn rfl ⟨⟩ rfl rfl rfl rfl rfl rfl ?_
    refine WP.sx tysOk rfl ⟨⟨⟩, ⟨⟩⟩ ?_
    refine WP.sto' tysOk [iv ((gt d1.arcs (gt r1.1 1)).dst), iv ((gt d1.arcs (gt r1.1 0)).dst), iv (if (w64 ((gt d1.supply i1) - ((gt d1.arcs (gt r1.1 1)).cap))) > ((gt d1.arcs (gt r1.1 0)).low) then w64 ((gt d1.supply i1) - ((gt d1.arcs (gt r1.1 1)).cap)) else (gt d1.arcs (gt r1.1 0)).low), iv (if (w64 ((gt d1.supply i1) - ((gt d1.arcs (gt r1.1 1)).low))) < ((gt d1.arcs (gt r1.1 0)).cap) then w64 ((gt d1.supply i1) - ((gt d1.arcs (gt r1.1 1)).low)) else (gt d1.arcs (gt r1.1 0)).cap), iv (w64 (((gt d1.arcs (gt r1.1 0)).cost) - ((gt d1.arcs (gt r1.1 1)).cost)))] rfl rfl rfl rfl rfl rfl rfl rfl rfl .head rfl rfl ?_
    obtain ⟨r4, hg4, h⟩ := bind_some h
    refine WP.edges [(13, 11)] putInv_body rfl rfl (by kernel_rfl) (by kernel_rfl) ?_
    refine WP.heads [0, 1, 2, 3, 4, 5, 6, 7, 8, 9, 10, 11, 12] [13, 14] [(8, [], fun _ => constSpec (.tuple #[.agg #[iv r4.1.node, iv r4.1.a, iv r4.1.b, iv r4.1.new.src, iv r4.1.new.dst, iv r4.1.new.low, iv r4.1.new.cap, iv r4.1.new.cost], .bool (r4.2)])), (12, [], fun _ => blkSpec 56 [iv 0, iv 0, iv 0, iv 0, iv 0, iv 0, iv 0, iv 0])] rfl (by kernel_rfl) (by decide) rfl (by kernel_rfl) (by kernel_rfl) ?_
    iterate 2 (refine WP.sx tysOk rfl ⟨⟨⟨rfl, rfl⟩, rfl⟩, ⟨⟩⟩ ?_)
    refine WP.ixO tysOk rfl ⟨⟨rfl, rfl⟩, rfl⟩ rfl rfl rfl rfl rfl rfl rfl rfl hf1 hj1 ?_
    intro b14 hA14
    refine WP.lx tysOk rfl ⟨⟨rfl, rfl⟩, rfl⟩ (OwS.at0 (.tail (.tail (.tail .head))) hA14 hj1 rfl) ?_
    refine WP.sx tysOk rfl ⟨⟨⟨rfl, rfl⟩, rfl⟩, ⟨⟩⟩ ?_
    refine WP.ixO tysOk rfl ⟨⟨rfl, rfl⟩, rfl⟩ rfl rfl rfl rfl rfl rfl rfl rfl hf1 hj3 ?_
    intro b15 hA15
    refine WP.lx tysOk rfl ⟨⟨rfl, rfl⟩, rfl⟩ (OwS.at0 (.tail (.tail (.tail .head))) hA15 hj3 rfl) ?_
    refine WP.mx_ tysOk rfl ⟨⟨rfl, rfl⟩, rfl⟩ (SegAt.blk' .head rfl) ?_
    refine WP.callV rfl rfl rfl rfl rfl rfl rfl (by kernel_rfl) (fun w1 hw1 => (ref18_spot_w hg4  :)) ⟨⟨rfl, rfl⟩, rfl⟩ ?_
    iterate 3 (refine WP.sx tysOk rfl ⟨⟨⟨rfl, rfl⟩, rfl⟩, ⟨⟩⟩ ?_)
    refine WP.lal tysOk rfl ⟨rfl, rfl⟩ rfl rfl rfl rfl rfl rfl rfl ?_
    intro g8
    refine WP.lend rfl ⟨rfl, rfl⟩ ?_
    refine WP.joinA (α := Unit) (fun x => True) (fun x => [(4, .pointer (some ⟨g2, 0, none⟩)), (12, .pointer (some ⟨g8, 0, none⟩)), (13, .bool (r4.2))]) (fun x => [.blk g8 56 [iv r4.1.node, iv r4.1.a, iv r4.1.b, iv r4.1.new.src, iv r4.1.new.dst, iv r4.1.new.low, iv r4.1.new.cap, iv r4.1.new.cost], .blk g5 34 [iv ((gt d1.arcs (gt r1.1 1)).dst), iv ((gt d1.arcs (gt r1.1 0)).dst), iv (if (w64 ((gt d1.supply i1) - ((gt d1.arcs (gt r1.1 1)).cap))) > ((gt d1.arcs (gt r1.1 0)).low) then w64 ((gt d1.supply i1) - ((gt d1.arcs (gt r1.1 1)).cap)) else (gt d1.arcs (gt r1.1 0)).low), iv (if (w64 ((gt d1.supply i1) - ((gt d1.arcs (gt r1.1 1)).low))) < ((gt d1.arcs (gt r1.1 0)).cap) then w64 ((gt d1.supply i1) - ((gt d1.arcs (gt r1.1 1)).low)) else (gt d1.arcs (gt r1.1 0)).cap), iv (w64 (((gt d1.arcs (gt r1.1 0)).cost) - ((gt d1.arcs (gt r1.1 1)).cost)))], .blk g4 34 [iv ((gt d1.arcs (gt r1.1 1)).src), iv ((gt d1.arcs (gt r1.1 1)).dst), iv ((gt d1.arcs (gt r1.1 1)).low), iv ((gt d1.arcs (gt r1.1 1)).cap), iv ((gt d1.arcs (gt r1.1 1)).cost)], .blk g3 34 [iv ((gt d1.arcs (gt r1.1 0)).src), iv ((gt d1.arcs (gt r1.1 0)).dst), iv ((gt d1.arcs (gt r1.1 0)).low), iv ((gt d1.arcs (gt r1.1 0)).cap), iv ((gt d1.arcs (gt r1.1 0)).cost)], Ow (fI .i64) 3 A3 n1 c3 r1.1, .blk g2 56 [iv 0, iv 0, iv 0, iv 0, iv 0, iv 0, iv 0, iv 0], .blk g1 25 [.slice A1 d1.supply.length c1, .slice A2 d1.arcs.length c2], .fz (PH.of w)]) rfl ?_ ?_
    ·refine WP.any1 13 rfl (by kernel_rfl) rfl ?_
     refine WP.sto' tysOk [iv r4.1.node, iv r4.1.a, iv r4.1.b, iv r4.1.new.src, iv r4.1.new.dst, iv r4.1.new.low, iv r4.1.new.cap, iv r4.1.new.cost] rfl rfl rfl rfl rfl rfl rfl rfl rfl .head rfl rfl ?_
     refine WP.anyP 14 tysOk putInv_body rfl rfl rfl (by kernel_rfl) (by kernel_rfl) rfl rfl rfl rfl rfl True.intro ?_
     refine WP.any0 rfl (by kernel_rfl) ?_
     refine WP.stop rfl () True.intro ?_ ?_
     ·repeat first | exact ⟨⟩ | refine ⟨rfl, ?_⟩
     exact (.cons .head (.cons .head (.cons .head (.cons .head (.cons .head (.cons .head (.cons .head (.cons .head .nil))))))))
    rintro _ _
    refine WP.mx_ tysOk rfl ⟨⟩ (SegAt.blk' .head rfl) ?_
    refine WP.sx tysOk rfl ⟨⟨⟩, ⟨⟩⟩ ?_
    refine WP.sto' tysOk [iv r4.1.node, iv r4.1.a, iv r4.1.b, iv r4.1.new.src, iv r4.1.new.dst, iv r4.1.new.low, iv r4.1.new.cap, iv r4.1.new.cost] rfl rfl rfl rfl rfl rfl rfl rfl rfl (.tail (.tail (.tail (.tail (.tail .head))))) rfl rfl ?_
    refine WP.sx tysOk rfl ⟨⟨⟩, ⟨⟩⟩ ?_
    cases h
    refine WP.retR tysOk rfl rfl ⟨_, _, _, _, rfl, ⟨_, rfl, .inr ⟨rfl, _, rfl, rfl, (SegAt.blk' (z := 8) .head rfl).1⟩⟩, ⟨_, _, rfl, rfl, rfl⟩, rfl⟩ (fun w1 hw1 => ⟨rfl, Ret.below_ hw1 (.cons (.tail (.tail (.tail (.tail (.tail (.tail (.tail .head))))))) .nil)⟩)
   rw [if_neg hh5] at h
   refine WP.sx tysOk rfl ⟨⟨⟩, ⟨⟩⟩ ?_
   refine WP.lx tysOk rfl ⟨⟩ (CellAt.blk (.tail (.tail .head)) rfl) ?_
   iterate 2 (refine WP.sx tysOk rfl ⟨⟨⟩, ⟨⟩⟩ ?_)
   refine WP.lx tysOk rfl ⟨⟩ (CellAt.blk (.tail .head) rfl) ?_
   refine WP.sx tysOk rfl ⟨⟨⟩, ⟨⟩⟩ ?_
   refine WP.mn rfl ⟨⟩ rfl rfl rfl rfl rfl rfl ?_
   refine WP.sx tysOk rfl ⟨⟨⟩, ⟨⟩⟩ ?_
   refine WP.sto' tysOk [iv ((gt d1.arcs (gt r1.1 1)).dst), iv ((gt d1.arcs (gt r1.1 0)).dst), iv ((gt d1.arcs (gt r1.1 0)).low), iv (if (w64 ((gt d1.supply i1) - ((gt d1.arcs (gt r1.1 1)).low))) < ((gt d1.arcs (gt r1.1 0)).cap) then w64 ((gt d1.supply i1) - ((gt d1.arcs (gt r1.1 1)).low)) else (gt d1.arcs (gt r1.1 0)).cap), iv (w64 (((gt d1.arcs (gt r1.1 0)).cost) - ((gt d1.arcs (gt r1.1 1)).cost)))] rfl rfl rfl rfl rfl rfl rfl rfl rfl .head rfl rfl ?_
   obtain ⟨r5, hg5, h⟩ := bind_some h
   refine WP.edges [(13, 11)] putInv_body rfl rfl (by kernel_rfl) (by kernel_rfl) ?_
   refine WP.heads [0, 1, 2, 3, 4, 5, 6, 7, 8, 9, 10, 11, 12] [13, 14] [(8, [], fun _ => constSpec (.tuple #[.agg #[iv r5.1.node, iv r5.1.a, iv r5.1.b, iv r5.1.new.src, iv r5.1.new.dst, iv r5.1.new.low, iv r5.1.new.cap, iv r5.1.new.cost], .bool (r5.2)])), (12, [], fun _ => blkSpec 56 [iv 0, iv 0, iv 0, iv 0, iv 0, iv 0, iv 0, iv 0])] rfl (by kernel_rfl) (by decide) rfl (by kernel_rfl) (by kernel_rfl) ?_
   iterate 2 (refine WP.sx tysOk rfl ⟨⟨⟨rfl, rfl⟩, rfl⟩, ⟨⟩⟩ ?_)
   refine WP.ixO tysOk rfl ⟨⟨rfl, rfl⟩, rfl⟩ rfl rfl rfl rfl rfl rfl rfl rfl hf1 hj1 ?_
   intro b16 hA16
   refine WP.lx tysOk rfl ⟨⟨rfl, rfl⟩, rfl⟩ (OwS.at0 (.tail (.tail (.tail .head))) hA16 hj1 rfl) ?_
   refine WP.sx tysOk rfl ⟨⟨⟨rfl, rfl⟩, rfl⟩, ⟨⟩⟩ ?_
   refine WP.ixO tysOk rfl ⟨⟨rfl, rfl⟩, rfl⟩ rfl rfl rfl rfl rfl rfl rfl rfl hf1 hj3 ?_
   intro b17 hA17
   refine WP.lx tysOk rfl ⟨⟨rfl, rfl⟩, rfl⟩ (OwS.at0 (.tail (.tail (.tail .head))) hA17 hj3 rfl) ?_
   refine WP.mx_ tysOk rfl ⟨⟨rfl, rfl⟩, rfl⟩ (SegAt.blk' .head rfl) ?_
   refine WP.callV rfl rfl rfl rfl rfl rfl rfl (by kernel_rfl) (fun w1 hw1 => (ref18_spot_w hg5  :)) ⟨⟨rfl, rfl⟩, rfl⟩ ?_
   iterate 3 (refine WP.sx tysOk rfl ⟨⟨⟨rfl, rfl⟩, rfl⟩, ⟨⟩⟩ ?_)
   refine WP.lal tysOk rfl ⟨rfl, rfl⟩ rfl rfl rfl rfl rfl rfl rfl ?_
   intro g9
   refine WP.lend rfl ⟨rfl, rfl⟩ ?_
   refine WP.joinA (α := Unit) (fun x => True) (fun x => [(4, .pointer (some ⟨g2, 0, none⟩)), (12, .pointer (some ⟨g9, 0, none⟩)), (13, .bool (r5.2))]) (fun x => [.blk g9 56 [iv r5.1.node, iv r5.1.a, iv r5.1.b, iv r5.1.new.src, iv r5.1.new.dst, iv r5.1.new.low, iv r5.1.new.cap, iv r5.1.new.cost], .blk g5 34 [iv ((gt d1.arcs (gt r1.1 1)).dst), iv ((gt d1.arcs (gt r1.1 0)).dst), iv ((gt d1.arcs (gt r1.1 0)).low), iv (if (w64 ((gt d1.supply i1) - ((gt d1.arcs (gt r1.1 1)).low))) < ((gt d1.arcs (gt r1.1 0)).cap) then w64 ((gt d1.supply i1) - ((gt d1.arcs (gt r1.1 1)).low)) else (gt d1.arcs (gt r1.1 0)).cap), iv (w64 (((gt d1.arcs (gt r1.1 0)).cost) - ((gt d1.arcs (gt r1.1 1)).cost)))], .blk g4 34 [iv ((gt d1.arcs (gt r1.1 1)).src), iv ((gt d1.arcs (gt r1.1 1)).dst), iv ((gt d1.arcs (gt r1.1 1)).low), iv ((gt d1.arcs (gt r1.1 1)).cap), iv ((gt d1.arcs (gt r1.1 1)).cost)], .blk g3 34 [iv ((gt d1.arcs (gt r1.1 0)).src), iv ((gt d1.arcs (gt r1.1 0)).dst), iv ((gt d1.arcs (gt r1.1 0)).low), iv ((gt d1.arcs (gt r1.1 0)).cap), iv ((gt d1.arcs (gt r1.1 0)).cost)], Ow (fI .i64) 3 A3 n1 c3 r1.1, .blk g2 56 [iv 0, iv 0, iv 0, iv 0, iv 0, iv 0, iv 0, iv 0], .blk g1 25 [.slice A1 d1.supply.length c1, .slice A2 d1.arcs.length c2], .fz (PH.of w)]) rfl ?_ ?_
   ·refine WP.any1 13 rfl (by kernel_rfl) rfl ?_
    refine WP.sto' tysOk [iv r5.1.node, iv r5.1.a, iv r5.1.b, iv r5.1.new.src, iv r5.1.new.dst, iv r5.1.new.low, iv r5.1.new.cap, iv r5.1.new.cost] rfl rfl rfl rfl rfl rfl rfl rfl rfl .head rfl rfl ?_
    refine WP.anyP 14 tysOk putInv_body rfl rfl rfl (by kernel_rfl) (by kernel_rfl) rfl rfl rfl rfl rfl True.intro ?_
    refine WP.any0 rfl (by kernel_rfl) ?_
    refine WP.stop rfl () True.intro ?_ ?_
    ·repeat first | exact ⟨⟩ | refine ⟨rfl, ?_⟩
    exact (.cons .head (.cons .head (.cons .head (.cons .head (.cons .head (.cons .head (.cons .head (.cons .head .nil))))))))
   rintro _ _
   refine WP.mx_ tysOk rfl ⟨⟩ (SegAt.blk' .head rfl) ?_
   refine WP.sx tysOk rfl ⟨⟨⟩, ⟨⟩⟩ ?_
   refine WP.sto' tysOk [iv r5.1.node, iv r5.1.a, iv r5.1.b, iv r5.1.new.src, iv r5.1.new.dst, iv r5.1.new.low, iv r5.1.new.cap, iv r5.1.new.cost] rfl rfl rfl rfl rfl rfl rfl rfl rfl (.tail (.tail (.tail (.tail (.tail .head))))) rfl rfl ?_
   refine WP.sx tysOk rfl ⟨⟨⟩, ⟨⟩⟩ ?_
   cases h
   refine WP.retR tysOk rfl rfl ⟨_, _, _, _, rfl, ⟨_, rfl, .inr ⟨rfl, _, rfl, rfl, (SegAt.blk' (z := 8) .head rfl).1⟩⟩, ⟨_, _, rfl, rfl, rfl⟩, rfl⟩ (fun w1 hw1 => ⟨rfl, Ret.below_ hw1 (.cons (.tail (.tail (.tail (.tail (.tail (.tail (.tail .head))))))) .nil)⟩)
  rw [if_neg hh1] at h
  refine WP.no rfl rfl (by simp [hh1]) rfl rfl ?_
  iterate 20 (refine WP.no rfl rfl rfl rfl rfl ?_)
  refine WP.sx tysOk rfl ⟨rfl, ⟨⟩⟩ ?_
  refine WP.qend rfl ?_
  refine WP.condT rfl rfl ?_
  refine WP.bld (cs := [iv 0, iv 0, iv 0, iv 0, iv 0, iv 0, iv 0, iv 0]) tysOk rfl ⟨⟩ rfl rfl rfl rfl rfl rfl rfl ?_
  refine WP.sto' tysOk [iv 0, iv 0, iv 0, iv 0, iv 0, iv 0, iv 0, iv 0] rfl rfl rfl rfl rfl rfl rfl rfl rfl (.tail .head) rfl rfl ?_
  refine WP.sx tysOk rfl ⟨⟨⟩, ⟨⟩⟩ ?_
  cases h
  refine WP.retR tysOk rfl rfl ⟨_, _, _, _, rfl, ⟨_, rfl, .inr ⟨rfl, _, rfl, rfl, (SegAt.blk' (z := 8) .head rfl).1⟩⟩, ⟨_, _, rfl, rfl, rfl⟩, rfl⟩ (fun w1 hw1 => ⟨rfl, Ret.below_ hw1 (.cons (.tail (.tail (.tail .head))) .nil)⟩)

abbrev ref18_Fork_S (Z : PH) (r : Step × Int) : Value → Heap → Prop := fun v L => ∃ (Zn : PH) (A1 : Option Addr) (n1 c1 : Nat) (A2 : Option Addr) (n2 c2 : Nat) (A3 : Option Addr) (n3 c3 : Nat) (A4 : Option Addr) (n4 c4 : Nat), v = .tuple #[.agg #[.slice A1 n1 c1, .slice A2 n2 c2, iv r.1.rcd.pass, .slice A3 n3 c3, .slice A4 n4 c4, iv r.1.off.hi, .int .u64 (r.1.off.lo), .bool (r.1.did)], iv r.2] ∧ n1 = r.1.inst.supply.length ∧ n2 = r.1.inst.arcs.length ∧ n3 = r.1.rcd.was.supply.length ∧ n4 = r.1.rcd.was.arcs.length ∧ FzS (fI .i64) (Z.or Zn) A1 c1 r.1.inst.supply ∧ FzS fA (Z.or Zn) A2 c2 r.1.inst.arcs ∧ FzS (fI .i64) (Z.or Zn) A3 c3 r.1.rcd.was.supply ∧ FzS fA (Z.or Zn) A4 c4 r.1.rcd.was.arcs ∧ L = [.fz Zn]
set_option maxRecDepth 20000 in
set_option maxHeartbeats 8000000 in
theorem ref18_Fork_w {w : World} {Z : PH} (hZ : Z.le (PH.of w)) {v0 : Value} {i1 : Inst} {r : Step × Int} (h : ref18_Fork i1 = some r) (p1 : InsZ Z v0 i1) :
    Calls Tryz.prog 19 #[v0] w fun e w' => ∃ v L, e = .returned v ∧ ref18_Fork_S Z r v L ∧ Ret w w' L := by
  obtain ⟨A1, c1, A2, c2, rfl, hs1, hs2⟩ := p1
  unfold ref18_Fork at h
  refine enter_ Tryz.func19 rfl Tryz.ntmps19 rfl ?_
  refine WP.box rfl rfl rfl rfl rfl rfl ?_
  intro g1
  refine WP.al tysOk rfl rfl rfl rfl rfl rfl ?_
  intro g2
  refine WP.sx tysOk rfl ⟨⟨⟩, ⟨⟩⟩ ?_
  refine WP.mx_ tysOk rfl ⟨⟩ (SegAt.blk' (.tail .head) rfl) ?_
  obtain ⟨r1, hg1, h⟩ := bind_some h
  refine WP.callV rfl rfl rfl rfl rfl rfl rfl (by kernel_rfl) (fun w1 hw1 => (ref03_Right_w hg1 (InsZ.mk_ ((hs1.le' ((Held.sub (Held.mem (List.Mem.tail _ (List.Mem.tail _ (List.Mem.head _)))) hZ) _ _ hw1)).of) ((hs2.le' ((Held.sub (Held.mem (List.Mem.tail _ (List.Mem.tail _ (List.Mem.head _)))) hZ) _ _ hw1)).of)) :)) ⟨⟩ ?_
  iterate 3 (refine WP.sx tysOk rfl ⟨⟨⟩, ⟨⟩⟩ ?_)
  refine WP.cond_d rfl rfl (fun hh1 => ?_) (fun hh1 => ?_)
  ·rw [if_pos hh1] at h
   refine WP.bld (cs := [.slice none 0 0, .slice none 0 0, iv 0, .slice none 0 0, .slice none 0 0, iv 0, .int .u64 (0), .bool (false)]) tysOk rfl ⟨⟩ rfl rfl rfl rfl rfl rfl rfl ?_
   refine WP.sx tysOk rfl ⟨⟨⟩, ⟨⟩⟩ ?_
   refine WP.sto' tysOk [.slice none 0 0, .slice none 0 0, iv 0, .slice none 0 0, .slice none 0 0, iv 0, .int .u64 (0), .bool (false)] rfl rfl rfl rfl rfl rfl rfl rfl rfl .head rfl rfl ?_
   refine WP.sx tysOk rfl ⟨⟨⟩, ⟨⟩⟩ ?_
   cases h
   refine WP.retR tysOk rfl rfl ⟨_, _, _, _, rfl, ⟨_, rfl, .inr ⟨rfl, _, rfl, rfl, (SegAt.blk' (z := 8) .head rfl).1⟩⟩, ⟨_, _, rfl, rfl, rfl⟩, rfl⟩ (fun w1 hw1 => ⟨_, _, rfl, ⟨PH.new _ w1, none, 0, 0, none, 0, 0, none, 0, 0, none, 0, 0, rfl, rfl, rfl, rfl, rfl, FzS.nil_, FzS.nil_, FzS.nil_, FzS.nil_, rfl⟩, Ret.freeze hw1 (.cons (.tail (.tail .head)) .nil)⟩)
  rw [if_neg hh1] at h
  refine WP.sx tysOk rfl ⟨⟨⟩, ⟨⟩⟩ ?_
  refine WP.loop (α := Nat × Int) (fun x => lp (ref18_Fork_b1 i1) x.1 x.2 = some r) (fun x => [(1, .pointer (some ⟨g1, 0, none⟩)), (2, .pointer (some ⟨g2, 0, none⟩)), (5, iv x.2)]) (fun x => [.blk g2 48 [.slice none 0 0, .slice none 0 0, iv 0, .slice none 0 0, .slice none 0 0, iv 0, .int .u64 (0), .bool (false)], .blk g1 25 [.slice A1 i1.supply.length c1, .slice A2 i1.arcs.length c2], .fz (PH.of w)]) (fun x => x.1) rfl (big, 0) h ?_ ?_ ?_
  ·repeat first | exact ⟨⟩ | refine ⟨rfl, ?_⟩
  ·exact (.cons .head (.cons .head (.cons .head .nil)))
  rintro ⟨n3, n2⟩ h
  dsimp only at h ⊢
  rcases n3 with _ | n3
  · exact (lp_no h).elim
  replace h := lp_succ h
  unfold ref18_Fork_b1 at h
  try dsimp only at h
  iterate 2 (refine WP.sx tysOk rfl ⟨⟨⟩, ⟨⟩⟩ ?_)
  refine WP.lx tysOk rfl ⟨⟩ (CellAt.blk (.tail .head) rfl) ?_
  iterate 2 (refine WP.sx tysOk rfl ⟨⟨⟩, ⟨⟩⟩ ?_)
  refine WP.cond_d rfl rfl (fun hh8 => ?_) (fun hh8 => ?_)
  ·rw [if_pos hh8] at h
   refine WP.mx_ tysOk rfl ⟨⟩ (SegAt.blk' (.tail .head) rfl) ?_
   refine WP.sx tysOk rfl ⟨⟨⟩, ⟨⟩⟩ ?_
   obtain ⟨r8, hg8, h⟩ := bind_some h
   refine WP.callV rfl rfl rfl rfl rfl rfl rfl (by kernel_rfl) (fun w1 hw1 => (ref18_Split_w hg8 (InsZ.mk_ ((hs1.le' ((Held.sub (Held.mem (List.Mem.tail _ (List.Mem.tail _ (List.Mem.head _)))) hZ) _ _ hw1)).of) ((hs2.le' ((Held.sub (Held.mem (List.Mem.tail _ (List.Mem.tail _ (List.Mem.head _)))) hZ) _ _ hw1)).of)) :)) ⟨⟩ ?_
   iterate 3 (refine WP.sx tysOk rfl ⟨⟨⟩, ⟨⟩⟩ ?_)
   refine WP.al tysOk rfl rfl rfl rfl rfl rfl ?_
   intro g9
   refine WP.sto' tysOk [iv r8.1.node, iv r8.1.a, iv r8.1.b, iv r8.1.new.src, iv r8.1.new.dst, iv r8.1.new.low, iv r8.1.new.cap, iv r8.1.new.cost] rfl rfl rfl rfl rfl rfl rfl rfl rfl .head rfl rfl ?_
   iterate 2 (refine WP.sx tysOk rfl ⟨⟨⟩, ⟨⟩⟩ ?_)
   refine WP.cond rfl rfl (fun hh9 => ?_) (fun hh9 => ?_)
   ·rw [if_pos hh9] at h
    refine WP.sx tysOk rfl ⟨⟨⟩, ⟨⟩⟩ ?_
    refine WP.lx tysOk rfl ⟨⟩ (CellAt.blk (.tail (.tail .head)) rfl) ?_
    refine WP.sx tysOk rfl ⟨⟨⟩, ⟨⟩⟩ ?_
    obtain ⟨hj5, h⟩ := ck_some h
    refine WP.ixA tysOk rfl ⟨⟩ rfl rfl rfl rfl rfl rfl rfl rfl hj5 (hs1.ex hj5) ?_
    intro b5 b5v hA5
    refine WP.lx tysOk rfl ⟨⟩ (hs1.at0 hA5 (Held.sub (Held.mem (List.Mem.tail _ (List.Mem.tail _ (List.Mem.tail _ (List.Mem.head _))))) hZ) hj5 rfl) ?_
    iterate 2 (refine WP.sx tysOk rfl ⟨⟨⟩, ⟨⟩⟩ ?_)
    refine WP.lx tysOk rfl ⟨⟩ (CellAt.blk (.tail (.tail .head)) rfl) ?_
    refine WP.sx tysOk rfl ⟨⟨⟩, ⟨⟩⟩ ?_
    refine WP.lx tysOk rfl ⟨⟩ (CellAt.blk .head rfl) ?_
    obtain ⟨hj6, h⟩ := ck_some h
    refine WP.ixA tysOk rfl ⟨⟩ rfl rfl rfl rfl rfl rfl rfl rfl hj6 (hs2.ex hj6) ?_
    intro b6 b6v hA6
    refine WP.sx tysOk rfl ⟨⟨⟩, ⟨⟩⟩ ?_
    refine WP.lx tysOk rfl ⟨⟩ (hs2.at hA6 (Held.sub (Held.mem (List.Mem.tail _ (List.Mem.tail _ (List.Mem.tail _ (List.Mem.head _))))) hZ) hj6 1 rfl) ?_
    iterate 2 (refine WP.sx tysOk rfl ⟨⟨⟩, ⟨⟩⟩ ?_)
    refine WP.cond_d rfl rfl (fun hh10 => ?_) (fun hh10 => ?_)
    ·rw [if_pos hh10] at h
     iterate 2 (refine WP.sx tysOk rfl ⟨⟨⟩, ⟨⟩⟩ ?_)
     obtain ⟨d3, hx3, h⟩ := lt_some h
     refine WP.sx tysOk rfl ⟨⟨⟩, ⟨⟩⟩ ?_
     refine WP.retell (s := 8) (.int .i64 d3) rfl (congrArg (Value.int .i64) hx3.symm) ?_
     refine WP.mx_ tysOk rfl ⟨⟩ (SegAt.blk' (.tail (.tail .head)) rfl) ?_
     refine WP.mx_ tysOk rfl ⟨⟩ (SegAt.blk' .head rfl) ?_
     refine WP.sx tysOk rfl ⟨⟨⟩, ⟨⟩⟩ ?_
     obtain ⟨r9, hg9, h⟩ := bind_some h
     refine WP.callS (ref18_without_S Z r9) rfl rfl rfl rfl rfl rfl rfl (by kernel_rfl) (fun w1 hw1 => (ref18_without_w (Z := Z) ((Held.sub (Held.mem (List.Mem.tail _ (List.Mem.tail _ (List.Mem.tail _ (List.Mem.head _))))) hZ) _ _ hw1) hg9 (InsZ.mk_ ((hs1.le' PH.le.rfl_).of) ((hs2.le' PH.le.rfl_).of)) :)) ?_
     rintro _ _ ⟨Zn5, A19, _, c19, A20, _, c20, A21, _, c21, A22, _, c22, rfl, rfl, rfl, rfl, rfl, hs19, hs20, hs21, hs22, rfl⟩
     iterate 3 (refine WP.sx tysOk rfl ⟨⟨⟩, ⟨⟩⟩ ?_)
     refine WP.al tysOk rfl rfl rfl rfl rfl rfl ?_
     intro g10
     refine WP.sto' tysOk [.slice A19 r9.1.inst.supply.length c19, .slice A20 r9.1.inst.arcs.length c20, iv r9.1.rcd.pass, .slice A21 r9.1.rcd.was.supply.length c21, .slice A22 r9.1.rcd.was.arcs.length c22, iv r9.1.off.hi, .int .u64 (r9.1.off.lo), .bool (r9.1.did)] rfl rfl rfl rfl rfl rfl rfl rfl rfl .head rfl rfl ?_
     refine WP.sx tysOk rfl ⟨⟨⟩, ⟨⟩⟩ ?_
     refine WP.mx_ tysOk rfl ⟨⟩ (SegAt.blk' .head rfl) ?_
     refine WP.sx tysOk rfl ⟨⟨⟩, ⟨⟩⟩ ?_
     refine WP.sto' tysOk [.slice A19 r9.1.inst.supply.length c19, .slice A20 r9.1.inst.arcs.length c20, iv r9.1.rcd.pass, .slice A21 r9.1.rcd.was.supply.length c21, .slice A22 r9.1.rcd.was.arcs.length c22, iv r9.1.off.hi, .int .u64 (r9.1.off.lo), .bool (r9.1.did)] rfl rfl rfl rfl rfl rfl rfl rfl rfl (.tail (.tail (.tail .head))) rfl rfl ?_
     refine WP.sx tysOk rfl ⟨⟨⟩, ⟨⟩⟩ ?_
     cases h
     refine WP.retR tysOk rfl rfl ⟨_, _, _, _, rfl, ⟨_, rfl, .inr ⟨rfl, _, rfl, rfl, (SegAt.blk' (z := 8) .head rfl).1⟩⟩, ⟨_, _, rfl, rfl, rfl⟩, rfl⟩ (fun w1 hw1 => ⟨_, _, rfl, ⟨PH.new _ w1, A19, r9.1.inst.supply.length, c19, A20, r9.1.inst.arcs.length, c20, A21, r9.1.rcd.was.supply.length, c21, A22, r9.1.rcd.was.arcs.length, c22, rfl, rfl, rfl, rfl, rfl, hs19.le' (PH.or_le (PH.le_or _ _) ((hw1.fzNew (.cons (.tail (.tail .head)) (.cons (.tail (.tail (.tail (.tail .head)))) .nil))).trans (PH.new_le_or hZ))), hs20.le' (PH.or_le (PH.le_or _ _) ((hw1.fzNew (.cons (.tail (.tail .head)) (.cons (.tail (.tail (.tail (.tail .head)))) .nil))).trans (PH.new_le_or hZ))), hs21.le' (PH.or_le (PH.le_or _ _) ((hw1.fzNew (.cons (.tail (.tail .head)) (.cons (.tail (.tail (.tail (.tail .head)))) .nil))).trans (PH.new_le_or hZ))), hs22.le' (PH.or_le (PH.le_or _ _) ((hw1.fzNew (.cons (.tail (.tail .head)) (.cons (.tail (.tail (.tail (.tail .head)))) .nil))).trans (PH.new_le_or hZ))), rfl⟩, Ret.freeze hw1 (.cons (.tail (.tail (.tail (.tail (.tail .head))))) .nil)⟩)
    rw [if_neg hh10] at h
    refine WP.mx_ tysOk rfl ⟨⟩ (SegAt.blk' (.tail (.tail .head)) rfl) ?_
    refine WP.mx_ tysOk rfl ⟨⟩ (SegAt.blk' .head rfl) ?_
    refine WP.sx tysOk rfl ⟨⟨⟩, ⟨⟩⟩ ?_
    obtain ⟨r10, hg10, h⟩ := bind_some h
    refine WP.callS (ref18_without_S Z r10) rfl rfl rfl rfl rfl rfl rfl (by kernel_rfl) (fun w1 hw1 => (ref18_without_w (Z := Z) ((Held.sub (Held.mem (List.Mem.tail _ (List.Mem.tail _ (List.Mem.tail _ (List.Mem.head _))))) hZ) _ _ hw1) hg10 (InsZ.mk_ ((hs1.le' PH.le.rfl_).of) ((hs2.le' PH.le.rfl_).of)) :)) ?_
    rintro _ _ ⟨Zn6, A23, _, c23, A24, _, c24, A25, _, c25, A26, _, c26, rfl, rfl, rfl, rfl, rfl, hs23, hs24, hs25, hs26, rfl⟩
    iterate 3 (refine WP.sx tysOk rfl ⟨⟨⟩, ⟨⟩⟩ ?_)
    refine WP.al tysOk rfl rfl rfl rfl rfl rfl ?_
    intro g11
    refine WP.sto' tysOk [.slice A23 r10.1.inst.supply.length c23, .slice A24 r10.1.inst.arcs.length c24, iv r10.1.rcd.pass, .slice A25 r10.1.rcd.was.supply.length c25, .slice A26 r10.1.rcd.was.arcs.length c26, iv r10.1.off.hi, .int .u64 (r10.1.off.lo), .bool (r10.1.did)] rfl rfl rfl rfl rfl rfl rfl rfl rfl .head rfl rfl ?_
    refine WP.sx tysOk rfl ⟨⟨⟩, ⟨⟩⟩ ?_
    refine WP.mx_ tysOk rfl ⟨⟩ (SegAt.blk' .head rfl) ?_
    refine WP.sx tysOk rfl ⟨⟨⟩, ⟨⟩⟩ ?_
    refine WP.sto' tysOk [.slice A23 r10.1.inst.supply.length c23, .slice A24 r10.1.inst.arcs.length c24, iv r10.1.rcd.pass, .slice A25 r10.1.rcd.was.supply.length c25, .slice A26 r10.1.rcd.was.arcs.length c26, iv r10.1.off.hi, .int .u64 (r10.1.off.lo), .bool (r10.1.did)] rfl rfl rfl rfl rfl rfl rfl rfl rfl (.tail (.tail (.tail .head))) rfl rfl ?_
    refine WP.sx tysOk rfl ⟨⟨⟩, ⟨⟩⟩ ?_
    cases h
    refine WP.retR tysOk rfl rfl ⟨_, _, _, _, rfl, ⟨_, rfl, .inr ⟨rfl, _, rfl, rfl, (SegAt.blk' (z := 8) .head rfl).1⟩⟩, ⟨_, _, rfl, rfl, rfl⟩, rfl⟩ (fun w1 hw1 => ⟨_, _, rfl, ⟨PH.new _ w1, A23, r10.1.inst.supply.length, c23, A24, r10.1.inst.arcs.length, c24, A25, r10.1.rcd.was.supply.length, c25, A26, r10.1.rcd.was.arcs.length, c26, rfl, rfl, rfl, rfl, rfl, hs23.le' (PH.or_le (PH.le_or _ _) ((hw1.fzNew (.cons (.tail (.tail .head)) (.cons (.tail (.tail (.tail (.tail .head)))) .nil))).trans (PH.new_le_or hZ))), hs24.le' (PH.or_le (PH.le_or _ _) ((hw1.fzNew (.cons (.tail (.tail .head)) (.cons (.tail (.tail (.tail (.tail .head)))) .nil))).trans (PH.new_le_or hZ))), hs25.le' (PH.or_le (PH.le_or _ _) ((hw1.fzNew (.cons (.tail (.tail .head)) (.cons (.tail (.tail (.tail (.tail .head)))) .nil))).trans (PH.new_le_or hZ))), hs26.le' (PH.or_le (PH.le_or _ _) ((hw1.fzNew (.cons (.tail (.tail .head)) (.cons (.tail (.tail (.tail (.tail .head)))) .nil))).trans (PH.new_le_or hZ))), rfl⟩, Ret.freeze hw1 (.cons (.tail (.tail (.tail (.tail (.tail .head))))) .nil)⟩)
   rw [if_neg (bneg hh9)] at h
   iterate 3 (refine WP.sx tysOk rfl ⟨⟨⟩, ⟨⟩⟩ ?_)
   refine WP.stop rfl (n3, w64 (n2 + 1)) ⟨h, Nat.lt_succ_self _⟩ ?_ ?_
   ·repeat first | exact ⟨⟩ | refine ⟨rfl, ?_⟩
   exact (.cons (.tail .head) (.cons (.tail .head) (.cons (.tail .head) .nil)))
  rw [if_neg hh8] at h
  refine WP.mx_ tysOk rfl ⟨⟩ (SegAt.blk' (.tail .head) rfl) ?_
  refine WP.bld (cs := [.slice A1 i1.supply.length c1, .slice A2 i1.arcs.length c2, iv 0, .slice none 0 0, .slice none 0 0, iv 0, .int .u64 (0), .bool (false)]) tysOk rfl ⟨⟩ rfl rfl rfl rfl rfl rfl rfl ?_
  refine WP.sto' tysOk [.slice A1 i1.supply.length c1, .slice A2 i1.arcs.length c2, iv 0, .slice none 0 0, .slice none 0 0, iv 0, .int .u64 (0), .bool (false)] rfl rfl rfl rfl rfl rfl rfl rfl rfl .head rfl rfl ?_
  refine WP.sx tysOk rfl ⟨⟨⟩, ⟨⟩⟩ ?_
  cases h
  refine WP.retR tysOk rfl rfl ⟨_, _, _, _, rfl, ⟨_, rfl, .inr ⟨rfl, _, rfl, rfl, (SegAt.blk' (z := 8) .head rfl).1⟩⟩, ⟨_, _, rfl, rfl, rfl⟩, rfl⟩ (fun w1 hw1 => ⟨_, _, rfl, ⟨PH.new _ w1, A1, i1.supply.length, c1, A2, i1.arcs.length, c2, none, 0, 0, none, 0, 0, rfl, rfl, rfl, rfl, rfl, hs1.le' (PH.le_or _ _), hs2.le' (PH.le_or _ _), FzS.nil_, FzS.nil_, rfl⟩, Ret.freeze hw1 (.cons (.tail (.tail .head)) .nil)⟩)

set_option maxRecDepth 20000 in
set_option maxHeartbeats 8000000 in
theorem ref15_Same_w {w : World} {v0 : Value} {v1 : Value} {a1 : Step} {b1 : Step} {r : Bool} (h : ref15_Same a1 b1 = some r) (p1 : StepZ (PH.of w) v0 a1) (p2 : StepZ (PH.of w) v1 b1) :
    Calls Tryz.prog 23 #[v0, v1] w fun e w' => e = .returned (.bool (r)) ∧ Below w.heap.size w w' := by
  obtain ⟨A1, c1, A2, c2, A3, c3, A4, c4, rfl, hs1, hs2, hs3, hs4⟩ := p1
  obtain ⟨A5, c5, A6, c6, A7, c7, A8, c8, rfl, hs5, hs6, hs7, hs8⟩ := p2
  unfold ref15_Same at h
  refine enter_ Tryz.func23 rfl Tryz.ntmps23 rfl ?_
  refine WP.box rfl rfl rfl rfl rfl rfl ?_
  intro g1
  refine WP.box rfl rfl rfl rfl rfl rfl ?_
  intro g2
  iterate 2 (refine WP.sx tysOk rfl ⟨⟨⟩, ⟨⟩⟩ ?_)
  refine WP.lx tysOk rfl ⟨⟩ (CellAt.blk (.tail .head) rfl) ?_
  refine WP.sx tysOk rfl ⟨⟨⟩, ⟨⟩⟩ ?_
  refine WP.lx tysOk rfl ⟨⟩ (CellAt.blk .head rfl) ?_
  iterate 2 (refine WP.sx tysOk rfl ⟨⟨⟩, ⟨⟩⟩ ?_)
  by_cases hh1 : (a1.did == b1.did) = true
  ·rw [if_pos hh1] at h
   refine WP.yes rfl rfl hh1 ?_
   refine WP.sx tysOk rfl ⟨⟨⟩, ⟨⟩⟩ ?_
   refine WP.yes rfl rfl rfl ?_
   refine WP.mx_ tysOk rfl ⟨⟩ (SegAt.blk' (.tail .head) rfl) ?_
   refine WP.yes rfl rfl rfl ?_
   refine WP.sx tysOk rfl ⟨⟨⟩, ⟨⟩⟩ ?_
   refine WP.yes rfl rfl rfl ?_
   refine WP.mx_ tysOk rfl ⟨⟩ (SegAt.blk' .head rfl) ?_
   refine WP.yes rfl rfl rfl ?_
   refine WP.eqS rfl ⟨⟩ rfl rfl rfl rfl rfl rfl (by kernel_rfl) (eq46 a1.off b1.off) ?_
   iterate 2 (refine WP.sx tysOk rfl ⟨⟨⟩, ⟨⟩⟩ ?_)
   by_cases hh2 : a1.off = b1.off
   ·rw [if_pos hh2] at h
    refine WP.yes rfl rfl (decide_eq_true hh2) ?_
    iterate 2 (refine WP.sx tysOk rfl ⟨⟨⟩, ⟨⟩⟩ ?_; refine WP.yes rfl rfl rfl ?_)
    refine WP.lx tysOk rfl ⟨⟩ (CellAt.blk (.tail .head) rfl) ?_
    iterate 2 (refine WP.yes rfl rfl rfl ?_; refine WP.sx tysOk rfl ⟨⟨⟩, ⟨⟩⟩ ?_)
    refine WP.yes rfl rfl rfl ?_
    refine WP.lx tysOk rfl ⟨⟩ (CellAt.blk .head rfl) ?_
    refine WP.yes rfl rfl rfl ?_
    iterate 3 (refine WP.sx tysOk rfl ⟨⟨⟩, ⟨⟩⟩ ?_)
    by_cases hh3 : a1.rcd.pass = b1.rcd.pass
    ·rw [if_pos hh3] at h
     refine WP.yes rfl rfl (decide_eq_true hh3) ?_
     refine WP.sx tysOk rfl ⟨⟨⟩, ⟨⟩⟩ ?_
     refine WP.yes rfl rfl rfl ?_
     refine WP.mx_ tysOk rfl ⟨⟩ (SegAt.blk' (.tail .head) rfl) ?_
     refine WP.yes rfl rfl rfl ?_
     refine WP.sx tysOk rfl ⟨⟨⟩, ⟨⟩⟩ ?_
     refine WP.yes rfl rfl rfl ?_
     refine WP.mx_ tysOk rfl ⟨⟩ (SegAt.blk' .head rfl) ?_
     refine WP.yes rfl rfl rfl ?_
     obtain ⟨r1, hg1, h⟩ := bind_some h
     refine WP.callV rfl rfl rfl rfl rfl rfl rfl (by kernel_rfl) (fun w1 hw1 => (ref03_Same_w hg1 (InsZ.mk_ ((hs1.le' ((Held.mem (List.Mem.tail _ (List.Mem.tail _ (List.Mem.head _)))) _ _ hw1)).of) ((hs2.le' ((Held.mem (List.Mem.tail _ (List.Mem.tail _ (List.Mem.head _)))) _ _ hw1)).of)) (InsZ.mk_ ((hs5.le' ((Held.mem (List.Mem.tail _ (List.Mem.tail _ (List.Mem.head _)))) _ _ hw1)).of) ((hs6.le' ((Held.mem (List.Mem.tail _ (List.Mem.tail _ (List.Mem.head _)))) _ _ hw1)).of)) :)) ⟨⟩ ?_
     iterate 2 (refine WP.sx tysOk rfl ⟨⟨⟩, ⟨⟩⟩ ?_)
     by_cases hh4 : r1 = true
     ·rw [if_pos hh4] at h
      refine WP.yes rfl rfl hh4 ?_
      iterate 2 (refine WP.sx tysOk rfl ⟨⟨⟩, ⟨⟩⟩ ?_; refine WP.yes rfl rfl rfl ?_)
      refine WP.mx_ tysOk rfl ⟨⟩ (SegAt.blk' (.tail .head) rfl) ?_
      iterate 2 (refine WP.yes rfl rfl rfl ?_; refine WP.sx tysOk rfl ⟨⟨⟩, ⟨⟩⟩ ?_)
      refine WP.yes rfl rfl rfl ?_
      refine WP.mx_ tysOk rfl ⟨⟩ (SegAt.blk' .head rfl) ?_
      refine WP.yes rfl rfl rfl ?_
      obtain ⟨r2, hg2, h⟩ := bind_some h
      refine WP.callV rfl rfl rfl rfl rfl rfl rfl (by kernel_rfl) (fun w1 hw1 => (ref03_Same_w hg2 (InsZ.mk_ ((hs3.le' ((Held.mem (List.Mem.tail _ (List.Mem.tail _ (List.Mem.head _)))) _ _ hw1)).of) ((hs4.le' ((Held.mem (List.Mem.tail _ (List.Mem.tail _ (List.Mem.head _)))) _ _ hw1)).of)) (InsZ.mk_ ((hs7.le' ((Held.mem (List.Mem.tail _ (List.Mem.tail _ (List.Mem.head _)))) _ _ hw1)).of) ((hs8.le' ((Held.mem (List.Mem.tail _ (List.Mem.tail _ (List.Mem.head _)))) _ _ hw1)).of)) :)) ⟨⟩ ?_
      iterate 2 (refine WP.sx tysOk rfl ⟨⟨⟩, ⟨⟩⟩ ?_)
      cases h
      refine WP.retR tysOk rfl rfl ⟨_, _, rfl, rfl, rfl⟩ (fun w1 hw1 => ⟨rfl, Ret.below_ hw1 (.cons (.tail (.tail .head)) .nil)⟩)
     rw [if_neg hh4] at h
     refine WP.no rfl rfl (bfalse hh4) rfl rfl ?_
     iterate 6 (refine WP.no rfl rfl rfl rfl rfl ?_)
     iterate 2 (refine WP.sx tysOk rfl ⟨⟨⟩, ⟨⟩⟩ ?_)
     cases h
     refine WP.retR tysOk rfl rfl ⟨_, _, rfl, rfl, rfl⟩ (fun w1 hw1 => ⟨rfl, Ret.below_ hw1 (.cons (.tail (.tail .head)) .nil)⟩)
    rw [if_neg hh3] at h
    refine WP.no rfl rfl (decide_eq_false hh3) rfl rfl ?_
    iterate 4 (refine WP.no rfl rfl rfl rfl rfl ?_)
    iterate 2 (refine WP.sx tysOk rfl ⟨⟨⟩, ⟨⟩⟩ ?_)
    iterate 7 (refine WP.no rfl rfl rfl rfl rfl ?_)
    iterate 2 (refine WP.sx tysOk rfl ⟨⟨⟩, ⟨⟩⟩ ?_)
    cases h
    refine WP.retR tysOk rfl rfl ⟨_, _, rfl, rfl, rfl⟩ (fun w1 hw1 => ⟨rfl, Ret.below_ hw1 (.cons (.tail (.tail .head)) .nil)⟩)
   rw [if_neg hh2] at h
   refine WP.no rfl rfl (decide_eq_false hh2) rfl rfl ?_
   iterate 6 (refine WP.no rfl rfl rfl rfl rfl ?_)
   iterate 2 (refine WP.sx tysOk rfl ⟨⟨⟩, ⟨⟩⟩ ?_)
   iterate 5 (refine WP.no rfl rfl rfl rfl rfl ?_)
   iterate 2 (refine WP.sx tysOk rfl ⟨⟨⟩, ⟨⟩⟩ ?_)
   iterate 7 (refine WP.no rfl rfl rfl rfl rfl ?_)
   iterate 2 (refine WP.sx tysOk rfl ⟨⟨⟩, ⟨⟩⟩ ?_)
   cases h
   refine WP.retR tysOk rfl rfl ⟨_, _, rfl, rfl, rfl⟩ (fun w1 hw1 => ⟨rfl, Ret.below_ hw1 (.cons (.tail (.tail .head)) .nil)⟩)
  rw [if_neg hh1] at h
  refine WP.no rfl rfl (bfalse hh1) rfl rfl ?_
  iterate 4 (refine WP.no rfl rfl rfl rfl rfl ?_)
  iterate 2 (refine WP.sx tysOk rfl ⟨⟨⟩, ⟨⟩⟩ ?_)
  iterate 7 (refine WP.no rfl rfl rfl rfl rfl ?_)
  iterate 2 (refine WP.sx tysOk rfl ⟨⟨⟩, ⟨⟩⟩ ?_)
  iterate 5 (refine WP.no rfl rfl rfl rfl rfl ?_)
  iterate 2 (refine WP.sx tysOk rfl ⟨⟨⟩, ⟨⟩⟩ ?_)
  iterate 7 (refine WP.no rfl rfl rfl rfl rfl ?_)
  iterate 2 (refine WP.sx tysOk rfl ⟨⟨⟩, ⟨⟩⟩ ?_)
  cases h
  refine WP.retR tysOk rfl rfl ⟨_, _, rfl, rfl, rfl⟩ (fun w1 hw1 => ⟨rfl, Ret.below_ hw1 (.cons (.tail (.tail .head)) .nil)⟩)

set_option maxRecDepth 20000 in
set_option maxHeartbeats 8000000 in
theorem law18_does_w {w : World} {v0 : Value} {d1 : Inst} {i1 : Int} {r : Bool} (h : law18_does d1 i1 = some r) (p1 : InsZ (PH.of w) v0 d1) :
    Calls Tryz.prog 7 #[v0, iv i1] w fun e w' => e = .returned (.bool (r)) ∧ Below w.heap.size w w' := by
  obtain ⟨A1, c1, A2, c2, rfl, hs1, hs2⟩ := p1
  unfold law18_does at h
  refine enter_ Tryz.func7 rfl Tryz.ntmps7 rfl ?_
  refine WP.box rfl rfl rfl rfl rfl rfl ?_
  intro g1
  refine WP.sx tysOk rfl ⟨⟨⟩, ⟨⟩⟩ ?_
  refine WP.mx_ tysOk rfl ⟨⟩ (SegAt.blk' .head rfl) ?_
  obtain ⟨r1, hg1, h⟩ := bind_some h
  refine WP.callS (two_Series_S r1) rfl rfl rfl rfl rfl rfl rfl (by kernel_rfl) (fun w1 hw1 => (two_Series_w hg1 (InsZ.mk_ ((hs1.le' ((Held.mem (List.Mem.tail _ (List.Mem.head _))) _ _ hw1)).of) ((hs2.le' ((Held.mem (List.Mem.tail _ (List.Mem.head _))) _ _ hw1)).of)) :)) ?_
  rintro _ _ ⟨A3, n1, c3, A4, n2, c4, A5, n3, c5, A6, n4, c6, rfl, hf1, hf2, hf3, hf4, rfl⟩
  iterate 3 (refine WP.sx tysOk rfl ⟨⟨⟩, ⟨⟩⟩ ?_)
  refine WP.al tysOk rfl rfl rfl rfl rfl rfl ?_
  intro g2
  refine WP.sto' tysOk [.slice A3 n1 c3, .slice A4 n2 c4, iv r1.1.rcd.pass, .slice A5 n3 c5, .slice A6 n4 c6, iv r1.1.off.hi, .int .u64 (r1.1.off.lo), .bool (r1.1.did)] rfl rfl rfl rfl rfl rfl rfl rfl rfl .head rfl rfl ?_
  refine WP.sx tysOk rfl ⟨⟨⟩, ⟨⟩⟩ ?_
  refine WP.mx_ tysOk rfl ⟨⟩ (SegAt.blk' (.tail (.tail (.tail (.tail (.tail .head))))) rfl) ?_
  obtain ⟨r2, hg2, h⟩ := bind_some h
  refine WP.callS (ref18_Series_S (PH.of w) r2) rfl rfl rfl rfl rfl rfl rfl (by kernel_rfl) (fun w1 hw1 => (ref18_Series_w (Z := (PH.of w)) ((Held.mem (List.Mem.tail _ (List.Mem.tail _ (List.Mem.tail _ (List.Mem.tail _ (List.Mem.tail _ (List.Mem.tail _ (List.Mem.head _)))))))) _ _ hw1) hg2 (InsZ.mk_ ((hs1.le' PH.le.rfl_).of) ((hs2.le' PH.le.rfl_).of)) :)) ?_
  rintro _ _ ⟨Zn1, A7, _, c7, A8, _, c8, A9, _, c9, A10, _, c10, rfl, rfl, rfl, rfl, rfl, hs3, hs4, hs5, hs6, rfl⟩
  iterate 3 (refine WP.sx tysOk rfl ⟨⟨⟩, ⟨⟩⟩ ?_)
  refine WP.al tysOk rfl rfl rfl rfl rfl rfl ?_
  intro g3
  refine WP.sto' tysOk [.slice A7 r2.1.inst.supply.length c7, .slice A8 r2.1.inst.arcs.length c8, iv r2.1.rcd.pass, .slice A9 r2.1.rcd.was.supply.length c9, .slice A10 r2.1.rcd.was.arcs.length c10, iv r2.1.off.hi, .int .u64 (r2.1.off.lo), .bool (r2.1.did)] rfl rfl rfl rfl rfl rfl rfl rfl rfl .head rfl rfl ?_
  refine WP.sx tysOk rfl ⟨⟨⟩, ⟨⟩⟩ ?_
  refine WP.mx_ tysOk rfl ⟨⟩ (SegAt.blk' (.tail (.tail (.tail (.tail (.tail (.tail (.tail .head))))))) rfl) ?_
  obtain ⟨r3, hg3, h⟩ := bind_some h
  refine WP.callS (two_Fork_S r3) rfl rfl rfl rfl rfl rfl rfl (by kernel_rfl) (fun w1 hw1 => (two_Fork_w hg3 (InsZ.mk_ ((hs1.le' ((Held.mem (List.Mem.tail _ (List.Mem.tail _ (List.Mem.tail _ (List.Mem.tail _ (List.Mem.tail _ (List.Mem.tail _ (List.Mem.tail _ (List.Mem.tail _ (List.Mem.head _)))))))))) _ _ hw1)).of) ((hs2.le' ((Held.mem (List.Mem.tail _ (List.Mem.tail _ (List.Mem.tail _ (List.Mem.tail _ (List.Mem.tail _ (List.Mem.tail _ (List.Mem.tail _ (List.Mem.tail _ (List.Mem.head _)))))))))) _ _ hw1)).of)) :)) ?_
  rintro _ _ ⟨A11, n5, c11, A12, n6, c12, A13, n7, c13, A14, n8, c14, rfl, hf5, hf6, hf7, hf8, rfl⟩
  iterate 3 (refine WP.sx tysOk rfl ⟨⟨⟩, ⟨⟩⟩ ?_)
  refine WP.al tysOk rfl rfl rfl rfl rfl rfl ?_
  intro g4
  refine WP.sto' tysOk [.slice A11 n5 c11, .slice A12 n6 c12, iv r3.1.rcd.pass, .slice A13 n7 c13, .slice A14 n8 c14, iv r3.1.off.hi, .int .u64 (r3.1.off.lo), .bool (r3.1.did)] rfl rfl rfl rfl rfl rfl rfl rfl rfl .head rfl rfl ?_
  refine WP.sx tysOk rfl ⟨⟨⟩, ⟨⟩⟩ ?_
  refine WP.mx_ tysOk rfl ⟨⟩ (SegAt.blk' (.tail (.tail (.tail (.tail (.tail (.tail (.tail (.tail (.tail (.tail (.tail (.tail .head)))))))))))) rfl) ?_
  obtain ⟨r4, hg4, h⟩ := bind_some h
  refine WP.callS (ref18_Fork_S (PH.of w) r4) rfl rfl rfl rfl rfl rfl rfl (by kernel_rfl) (fun w1 hw1 => (ref18_Fork_w (Z := (PH.of w)) ((Held.mem (List.Mem.tail _ (List.Mem.tail _ (List.Mem.tail _ (List.Mem.tail _ (List.Mem.tail _ (List.Mem.tail _ (List.Mem.tail _ (List.Mem.tail _ (List.Mem.tail _ (List.Mem.tail _ (List.Mem.tail _ (List.Mem.tail _ (List.Mem.tail _ (List.Mem.head _))))))))))))))) _ _ hw1) hg4 (InsZ.mk_ ((hs1.le' PH.le.rfl_).of) ((hs2.le' PH.le.rfl_).of)) :)) ?_
  rintro _ _ ⟨Zn2, A15, _, c15, A16, _, c16, A17, _, c17, A18, _, c18, rfl, rfl, rfl, rfl, rfl, hs7, hs8, hs9, hs10, rfl⟩
  iterate 3 (refine WP.sx tysOk rfl ⟨⟨⟩, ⟨⟩⟩ ?_)
  refine WP.al tysOk rfl rfl rfl rfl rfl rfl ?_
  intro g5
  refine WP.sto' tysOk [.slice A15 r4.1.inst.supply.length c15, .slice A16 r4.1.inst.arcs.length c16, iv r4.1.rcd.pass, .slice A17 r4.1.rcd.was.supply.length c17, .slice A18 r4.1.rcd.was.arcs.length c18, iv r4.1.off.hi, .int .u64 (r4.1.off.lo), .bool (r4.1.did)] rfl rfl rfl rfl rfl rfl rfl rfl rfl .head rfl rfl ?_
  refine WP.sx tysOk rfl ⟨⟨⟩, ⟨⟩⟩ ?_
  refine WP.mx_ tysOk rfl ⟨⟩ (SegAt.blk' (.tail (.tail (.tail (.tail (.tail (.tail (.tail (.tail (.tail (.tail (.tail (.tail (.tail (.tail .head)))))))))))))) rfl) ?_
  obtain ⟨r5, hg5, h⟩ := bind_some h
  refine WP.callV rfl rfl rfl rfl rfl rfl rfl (by kernel_rfl) (fun w1 hw1 => (ref03_Right_w hg5 (InsZ.mk_ ((hs1.le' ((Held.mem (List.Mem.tail _ (List.Mem.tail _ (List.Mem.tail _ (List.Mem.tail _ (List.Mem.tail _ (List.Mem.tail _ (List.Mem.tail _ (List.Mem.tail _ (List.Mem.tail _ (List.Mem.tail _ (List.Mem.tail _ (List.Mem.tail _ (List.Mem.tail _ (List.Mem.tail _ (List.Mem.tail _ (List.Mem.head _))))))))))))))))) _ _ hw1)).of) ((hs2.le' ((Held.mem (List.Mem.tail _ (List.Mem.tail _ (List.Mem.tail _ (List.Mem.tail _ (List.Mem.tail _ (List.Mem.tail _ (List.Mem.tail _ (List.Mem.tail _ (List.Mem.tail _ (List.Mem.tail _ (List.Mem.tail _ (List.Mem.tail _ (List.Mem.tail _ (List.Mem.tail _ (List.Mem.tail _ (List.Mem.head _))))))))))))))))) _ _ hw1)).of)) :)) ⟨⟩ ?_
  refine WP.sx tysOk rfl ⟨⟨⟩, ⟨⟩⟩ ?_
  obtain ⟨k1, hk1, h⟩ := lt_some h
  refine WP.join (α := Unit) (fun x => k1 () = some r) (fun x => [(5, .pointer (some ⟨g2, 0, none⟩)), (6, .int .u16 (r1.2)), (7, .pointer (some ⟨g3, 0, none⟩)), (8, iv r2.2), (9, .pointer (some ⟨g4, 0, none⟩)), (10, .int .u16 (r3.2)), (11, .pointer (some ⟨g5, 0, none⟩)), (12, iv r4.2)]) (fun x => [.blk g5 48 [.slice A15 r4.1.inst.supply.length c15, .slice A16 r4.1.inst.arcs.length c16, iv r4.1.rcd.pass, .slice A17 r4.1.rcd.was.supply.length c17, .slice A18 r4.1.rcd.was.arcs.length c18, iv r4.1.off.hi, .int .u64 (r4.1.off.lo), .bool (r4.1.did)], .fz Zn2, .blk g4 48 [.slice A11 n5 c11, .slice A12 n6 c12, iv r3.1.rcd.pass, .slice A13 n7 c13, .slice A14 n8 c14, iv r3.1.off.hi, .int .u64 (r3.1.off.lo), .bool (r3.1.did)], Ow (fI .i64) 2 A11 n5 c11 r3.1.inst.supply, Ow fA 34 A12 n6 c12 r3.1.inst.arcs, Ow (fI .i64) 2 A13 n7 c13 r3.1.rcd.was.supply, Ow fA 34 A14 n8 c14 r3.1.rcd.was.arcs, .blk g3 48 [.slice A7 r2.1.inst.supply.length c7, .slice A8 r2.1.inst.arcs.length c8, iv r2.1.rcd.pass, .slice A9 r2.1.rcd.was.supply.length c9, .slice A10 r2.1.rcd.was.arcs.length c10, iv r2.1.off.hi, .int .u64 (r2.1.off.lo), .bool (r2.1.did)], .fz Zn1, .blk g2 48 [.slice A3 n1 c3, .slice A4 n2 c4, iv r1.1.rcd.pass, .slice A5 n3 c5, .slice A6 n4 c6, iv r1.1.off.hi, .int .u64 (r1.1.off.lo), .bool (r1.1.did)], Ow (fI .i64) 2 A3 n1 c3 r1.1.inst.supply, Ow fA 34 A4 n2 c4 r1.1.inst.arcs, Ow (fI .i64) 2 A5 n3 c5 r1.1.rcd.was.supply, Ow fA 34 A6 n4 c6 r1.1.rcd.was.arcs, .fz (PH.of w)]) rfl ?_ ?_
  ·refine WP.cond_d rfl rfl (fun hh15 => ?_) (fun hh15 => ?_)
   ·rw [if_pos hh15] at h
    refine WP.mx_ tysOk rfl ⟨⟩ (SegAt.blk' (.tail (.tail (.tail (.tail (.tail (.tail (.tail (.tail (.tail (.tail (.tail (.tail (.tail (.tail .head)))))))))))))) rfl) ?_
    refine WP.sx tysOk rfl ⟨⟨⟩, ⟨⟩⟩ ?_
    obtain ⟨r12, hg12, h⟩ := bind_some h
    refine WP.callV rfl rfl rfl rfl rfl rfl rfl (by kernel_rfl) (fun w1 hw1 => (two_Chain_w hg12 (InsZ.mk_ ((hs1.le' ((Held.mem (List.Mem.tail _ (List.Mem.tail _ (List.Mem.tail _ (List.Mem.tail _ (List.Mem.tail _ (List.Mem.tail _ (List.Mem.tail _ (List.Mem.tail _ (List.Mem.tail _ (List.Mem.tail _ (List.Mem.tail _ (List.Mem.tail _ (List.Mem.tail _ (List.Mem.tail _ (List.Mem.tail _ (List.Mem.head _))))))))))))))))) _ _ hw1)).of) ((hs2.le' ((Held.mem (List.Mem.tail _ (List.Mem.tail _ (List.Mem.tail _ (List.Mem.tail _ (List.Mem.tail _ (List.Mem.tail _ (List.Mem.tail _ (List.Mem.tail _ (List.Mem.tail _ (List.Mem.tail _ (List.Mem.tail _ (List.Mem.tail _ (List.Mem.tail _ (List.Mem.tail _ (List.Mem.tail _ (List.Mem.head _))))))))))))))))) _ _ hw1)).of)) :)) ⟨⟩ ?_
    iterate 3 (refine WP.sx tysOk rfl ⟨⟨⟩, ⟨⟩⟩ ?_)
    refine WP.al tysOk rfl rfl rfl rfl rfl rfl ?_
    intro g10
    refine WP.sto' tysOk [iv r12.1.node, iv r12.1.a, iv r12.1.b, iv r12.1.new.src, iv r12.1.new.dst, iv r12.1.new.low, iv r12.1.new.cap, iv r12.1.new.cost] rfl rfl rfl rfl rfl rfl rfl rfl rfl .head rfl rfl ?_
    refine WP.sx tysOk rfl ⟨⟨⟩, ⟨⟩⟩ ?_
    refine WP.mx_ tysOk rfl ⟨⟩ (SegAt.blk' (.tail (.tail (.tail (.tail (.tail (.tail (.tail (.tail (.tail (.tail (.tail (.tail (.tail (.tail (.tail .head))))))))))))))) rfl) ?_
    refine WP.sx tysOk rfl ⟨⟨⟩, ⟨⟩⟩ ?_
    obtain ⟨r13, hg13, h⟩ := bind_some h
    refine WP.callV rfl rfl rfl rfl rfl rfl rfl (by kernel_rfl) (fun w1 hw1 => (ref18_Chain_w hg13 (InsZ.mk_ ((hs1.le' ((Held.mem (List.Mem.tail _ (List.Mem.tail _ (List.Mem.tail _ (List.Mem.tail _ (List.Mem.tail _ (List.Mem.tail _ (List.Mem.tail _ (List.Mem.tail _ (List.Mem.tail _ (List.Mem.tail _ (List.Mem.tail _ (List.Mem.tail _ (List.Mem.tail _ (List.Mem.tail _ (List.Mem.tail _ (List.Mem.tail _ (List.Mem.head _)))))))))))))))))) _ _ hw1)).of) ((hs2.le' ((Held.mem (List.Mem.tail _ (List.Mem.tail _ (List.Mem.tail _ (List.Mem.tail _ (List.Mem.tail _ (List.Mem.tail _ (List.Mem.tail _ (List.Mem.tail _ (List.Mem.tail _ (List.Mem.tail _ (List.Mem.tail _ (List.Mem.tail _ (List.Mem.tail _ (List.Mem.tail _ (List.Mem.tail _ (List.Mem.tail _ (List.Mem.head _)))))))))))))))))) _ _ hw1)).of)) :)) ⟨⟩ ?_
    iterate 3 (refine WP.sx tysOk rfl ⟨⟨⟩, ⟨⟩⟩ ?_)
    refine WP.al tysOk rfl rfl rfl rfl rfl rfl ?_
    intro g11
    refine WP.sto' tysOk [iv r13.1.node, iv r13.1.a, iv r13.1.b, iv r13.1.new.src, iv r13.1.new.dst, iv r13.1.new.low, iv r13.1.new.cap, iv r13.1.new.cost] rfl rfl rfl rfl rfl rfl rfl rfl rfl .head rfl rfl ?_
    refine WP.sx tysOk rfl ⟨⟨⟩, ⟨⟩⟩ ?_
    refine WP.mx_ tysOk rfl ⟨⟩ (SegAt.blk' (.tail (.tail (.tail (.tail (.tail (.tail (.tail (.tail (.tail (.tail (.tail (.tail (.tail (.tail (.tail (.tail .head)))))))))))))))) rfl) ?_
    refine WP.sx tysOk rfl ⟨⟨⟩, ⟨⟩⟩ ?_
    obtain ⟨r14, hg14, h⟩ := bind_some h
    refine WP.callV rfl rfl rfl rfl rfl rfl rfl (by kernel_rfl) (fun w1 hw1 => (two_Split_w hg14 (InsZ.mk_ ((hs1.le' ((Held.mem (List.Mem.tail _ (List.Mem.tail _ (List.Mem.tail _ (List.Mem.tail _ (List.Mem.tail _ (List.Mem.tail _ (List.Mem.tail _ (List.Mem.tail _ (List.Mem.tail _ (List.Mem.tail _ (List.Mem.tail _ (List.Mem.tail _ (List.Mem.tail _ (List.Mem.tail _ (List.Mem.tail _ (List.Mem.tail _ (List.Mem.tail _ (List.Mem.head _))))))))))))))))))) _ _ hw1)).of) ((hs2.le' ((Held.mem (List.Mem.tail _ (List.Mem.tail _ (List.Mem.tail _ (List.Mem.tail _ (List.Mem.tail _ (List.Mem.tail _ (List.Mem.tail _ (List.Mem.tail _ (List.Mem.tail _ (List.Mem.tail _ (List.Mem.tail _ (List.Mem.tail _ (List.Mem.tail _ (List.Mem.tail _ (List.Mem.tail _ (List.Mem.tail _ (List.Mem.tail _ (List.Mem.head _))))))))))))))))))) _ _ hw1)).of)) :)) ⟨⟩ ?_
    iterate 3 (refine WP.sx tysOk rfl ⟨⟨⟩, ⟨⟩⟩ ?_)
    refine WP.al tysOk rfl rfl rfl rfl rfl rfl ?_
    intro g12
    refine WP.sto' tysOk [iv r14.1.node, iv r14.1.a, iv r14.1.b, iv r14.1.new.src, iv r14.1.new.dst, iv r14.1.new.low, iv r14.1.new.cap, iv r14.1.new.cost] rfl rfl rfl rfl rfl rfl rfl rfl rfl .head rfl rfl ?_
    refine WP.sx tysOk rfl ⟨⟨⟩, ⟨⟩⟩ ?_
    refine WP.mx_ tysOk rfl ⟨⟩ (SegAt.blk' (.tail (.tail (.tail (.tail (.tail (.tail (.tail (.tail (.tail (.tail (.tail (.tail (.tail (.tail (.tail (.tail (.tail .head))))))))))))))))) rfl) ?_
    refine WP.sx tysOk rfl ⟨⟨⟩, ⟨⟩⟩ ?_
    obtain ⟨r15, hg15, h⟩ := bind_some h
    refine WP.callV rfl rfl rfl rfl rfl rfl rfl (by kernel_rfl) (fun w1 hw1 => (ref18_Split_w hg15 (InsZ.mk_ ((hs1.le' ((Held.mem (List.Mem.tail _ (List.Mem.tail _ (List.Mem.tail _ (List.Mem.tail _ (List.Mem.tail _ (List.Mem.tail _ (List.Mem.tail _ (List.Mem.tail _ (List.Mem.tail _ (List.Mem.tail _ (List.Mem.tail _ (List.Mem.tail _ (List.Mem.tail _ (List.Mem.tail _ (List.Mem.tail _ (List.Mem.tail _ (List.Mem.tail _ (List.Mem.tail _ (List.Mem.head _)))))))))))))))))))) _ _ hw1)).of) ((hs2.le' ((Held.mem (List.Mem.tail _ (List.Mem.tail _ (List.Mem.tail _ (List.Mem.tail _ (List.Mem.tail _ (List.Mem.tail _ (List.Mem.tail _ (List.Mem.tail _ (List.Mem.tail _ (List.Mem.tail _ (List.Mem.tail _ (List.Mem.tail _ (List.Mem.tail _ (List.Mem.tail _ (List.Mem.tail _ (List.Mem.tail _ (List.Mem.tail _ (List.Mem.tail _ (List.Mem.head _)))))))))))))))))))) _ _ hw1)).of)) :)) ⟨⟩ ?_
    iterate 3 (refine WP.sx tysOk rfl ⟨⟨⟩, ⟨⟩⟩ ?_)
    refine WP.al tysOk rfl rfl rfl rfl rfl rfl ?_
    intro g13
    refine WP.sto' tysOk [iv r15.1.node, iv r15.1.a, iv r15.1.b, iv r15.1.new.src, iv r15.1.new.dst, iv r15.1.new.low, iv r15.1.new.cap, iv r15.1.new.cost] rfl rfl rfl rfl rfl rfl rfl rfl rfl .head rfl rfl ?_
    iterate 5 (refine WP.sx tysOk rfl ⟨⟨⟩, ⟨⟩⟩ ?_)
    by_cases hh16 : (r12.2 == r13.2) = true
    ·rw [if_pos hh16] at h
     refine WP.yes rfl rfl (by simp [hh16]) ?_
     iterate 2 (refine WP.sx tysOk rfl ⟨⟨⟩, ⟨⟩⟩ ?_; refine WP.yes rfl rfl rfl ?_)
     iterate 3 (refine WP.sx tysOk rfl ⟨⟨⟩, ⟨⟩⟩ ?_)
     by_cases hh17 : (r14.2 == r15.2) = true
     ·rw [if_pos hh17] at h
      refine WP.yes rfl rfl (by simp [hh17]) ?_
      refine WP.sx tysOk rfl ⟨⟨⟩, ⟨⟩⟩ ?_
      refine WP.yes rfl rfl rfl ?_
      refine WP.lx tysOk rfl ⟨⟩ (CellAt.blk (.tail (.tail (.tail .head))) rfl) ?_
      refine WP.yes rfl rfl rfl ?_
      refine WP.sx tysOk rfl ⟨⟨⟩, ⟨⟩⟩ ?_
      refine WP.yes rfl rfl rfl ?_
      refine WP.lx tysOk rfl ⟨⟩ (CellAt.blk (.tail (.tail .head)) rfl) ?_
      refine WP.yes rfl rfl rfl ?_
      iterate 3 (refine WP.sx tysOk rfl ⟨⟨⟩, ⟨⟩⟩ ?_)
      by_cases hh18 : ¬ r12.1.node = r13.1.node
      ·rw [if_pos hh18] at h
       refine WP.no rfl rfl (decide_eq_true hh18) rfl rfl ?_
       iterate 4 (refine WP.no rfl rfl rfl rfl rfl ?_)
       iterate 2 (refine WP.sx tysOk rfl ⟨⟨⟩, ⟨⟩⟩ ?_)
       iterate 5 (refine WP.no rfl rfl rfl rfl rfl ?_)
       iterate 2 (refine WP.sx tysOk rfl ⟨⟨⟩, ⟨⟩⟩ ?_)
       iterate 5 (refine WP.no rfl rfl rfl rfl rfl ?_)
       iterate 2 (refine WP.sx tysOk rfl ⟨⟨⟩, ⟨⟩⟩ ?_)
       iterate 5 (refine WP.no rfl rfl rfl rfl rfl ?_)
       iterate 2 (refine WP.sx tysOk rfl ⟨⟨⟩, ⟨⟩⟩ ?_)
       iterate 5 (refine WP.no rfl rfl rfl rfl rfl ?_)
       iterate 2 (refine WP.sx tysOk rfl ⟨⟨⟩, ⟨⟩⟩ ?_)
       iterate 5 (refine WP.no rfl rfl rfl rfl rfl ?_)
       iterate 2 (refine WP.sx tysOk rfl ⟨⟨⟩, ⟨⟩⟩ ?_)
       iterate 5 (refine WP.no rfl rfl rfl rfl rfl ?_)
       refine WP.sx tysOk rfl ⟨⟨⟩, ⟨⟩⟩ ?_
       refine WP.condT rfl rfl ?_
       refine WP.sx tysOk rfl ⟨⟨⟩, ⟨⟩⟩ ?_
       cases h
       refine WP.retR tysOk rfl rfl ⟨_, _, rfl, rfl, rfl⟩ (fun w1 hw1 => ⟨rfl, Ret.below_ hw1 (.cons (.tail (.tail (.tail (.tail (.tail (.tail (.tail (.tail (.tail (.tail (.tail (.tail (.tail (.tail (.tail (.tail (.tail (.tail (.tail .head))))))))))))))))))) .nil)⟩)
      rw [if_neg hh18] at h
      refine WP.yes rfl rfl (decide_eq_false hh18) ?_
      refine WP.sx tysOk rfl ⟨⟨⟩, ⟨⟩⟩ ?_
      refine WP.yes rfl rfl rfl ?_
      refine WP.lx tysOk rfl ⟨⟩ (CellAt.blk (.tail (.tail (.tail .head))) rfl) ?_
      refine WP.yes rfl rfl rfl ?_
      refine WP.sx tysOk rfl ⟨⟨⟩, ⟨⟩⟩ ?_
      refine WP.yes rfl rfl rfl ?_
      refine WP.lx tysOk rfl ⟨⟩ (CellAt.blk (.tail (.tail .head)) rfl) ?_
      refine WP.yes rfl rfl rfl ?_
      iterate 3 (refine WP.sx tysOk rfl ⟨⟨⟩, ⟨⟩⟩ ?_)
      by_cases hh19 : ¬ r12.1.a = r13.1.a
      ·rw [if_pos hh19] at h
       refine WP.no rfl rfl (decide_eq_true hh19) rfl rfl ?_
       iterate 4 (refine WP.no rfl rfl rfl rfl rfl ?_)
       iterate 2 (refine WP.sx tysOk rfl ⟨⟨⟩, ⟨⟩⟩ ?_)
       iterate 5 (refine WP.no rfl rfl rfl rfl rfl ?_)
       iterate 2 (refine WP.sx tysOk rfl ⟨⟨⟩, ⟨⟩⟩ ?_)
       iterate 5 (refine WP.no rfl rfl rfl rfl rfl ?_)
       iterate 2 (refine WP.sx tysOk rfl ⟨⟨⟩, ⟨⟩⟩ ?_)
       iterate 5 (refine WP.no rfl rfl rfl rfl rfl ?_)
       iterate 2 (refine WP.sx tysOk rfl ⟨⟨⟩, ⟨⟩⟩ ?_)
       iterate 5 (refine WP.no rfl rfl rfl rfl rfl ?_)
       iterate 2 (refine WP.sx tysOk rfl ⟨⟨⟩, ⟨⟩⟩ ?_)
       iterate 5 (refine WP.no rfl rfl rfl rfl rfl ?_)
       refine WP.sx tysOk rfl ⟨⟨⟩, ⟨⟩⟩ ?_
       refine WP.condT rfl rfl ?_
       refine WP.sx tysOk rfl ⟨⟨⟩, ⟨⟩⟩ ?_
       cases h
       refine WP.retR tysOk rfl rfl ⟨_, _, rfl, rfl, rfl⟩ (fun w1 hw1 => ⟨rfl, Ret.below_ hw1 (.cons (.tail (.tail (.tail (.tail (.tail (.tail (.tail (.tail (.tail (.tail (.tail (.tail (.tail (.tail (.tail (.tail (.tail (.tail (.tail .head))))))))))))))))))) .nil)⟩)
      rw [if_neg hh19] at h
      refine WP.yes rfl rfl (decide_eq_false hh19) ?_
      refine WP.sx tysOk rfl ⟨⟨⟩, ⟨⟩⟩ ?_
      refine WP.yes rfl rfl rfl ?_
      refine WP.lx tysOk rfl ⟨⟩ (CellAt.blk (.tail (.tail (.tail .head))) rfl) ?_
      refine WP.yes rfl rfl rfl ?_
      refine WP.sx tysOk rfl ⟨⟨⟩, ⟨⟩⟩ ?_
      refine WP.yes rfl rfl rfl ?_
      refine WP.lx tysOk rfl ⟨⟩ (CellAt.blk (.tail (.tail .head)) rfl) ?_
      refine WP.yes rfl rfl rfl ?_
      iterate 3 (refine WP.sx tysOk rfl ⟨⟨⟩, ⟨⟩⟩ ?_)
      by_cases hh20 : ¬ r12.1.b = r13.1.b
      ·rw [if_pos hh20] at h
       refine WP.no rfl rfl (decide_eq_true hh20) rfl rfl ?_
       iterate 4 (refine WP.no rfl rfl rfl rfl rfl ?_)
       iterate 2 (refine WP.sx tysOk rfl ⟨⟨⟩, ⟨⟩⟩ ?_)
       iterate 5 (refine WP.no rfl rfl rfl rfl rfl ?_)
       iterate 2 (refine WP.sx tysOk rfl ⟨⟨⟩, ⟨⟩⟩ ?_)
       iterate 5 (refine WP.no rfl rfl rfl rfl rfl ?_)
       iterate 2 (refine WP.sx tysOk rfl ⟨⟨⟩, ⟨⟩⟩ ?_)
       iterate 5 (refine WP.no rfl rfl rfl rfl rfl ?_)
       iterate 2 (refine WP.sx tysOk rfl ⟨⟨⟩, ⟨⟩⟩ ?_)
       iterate 5 (refine WP.no rfl rfl rfl rfl rfl ?_)
       refine WP.sx tysOk rfl ⟨⟨⟩, ⟨⟩⟩ ?_
       refine WP.condT rfl rfl ?_
       refine WP.sx tysOk rfl ⟨⟨⟩, ⟨⟩⟩ ?_
       cases h
       refine WP.retR tysOk rfl rfl ⟨_, _, rfl, rfl, rfl⟩ (fun w1 hw1 => ⟨rfl, Ret.below_ hw1 (.cons (.tail (.tail (.tail (.tail (.tail (.tail (.tail (.tail (.tail (.tail (.tail (.tail (.tail (.tail (.tail (.tail (.tail (.tail (.tail .head))))))))))))))))))) .nil)⟩)
      rw [if_neg hh20] at h
      refine WP.yes rfl rfl (decide_eq_false hh20) ?_
      refine WP.sx tysOk rfl ⟨⟨⟩, ⟨⟩⟩ ?_
      refine WP.yes rfl rfl rfl ?_
      refine WP.mx_ tysOk rfl ⟨⟩ (SegAt.blk' (.tail (.tail (.tail .head))) rfl) ?_
      refine WP.yes rfl rfl rfl ?_
      refine WP.sx tysOk rfl ⟨⟨⟩, ⟨⟩⟩ ?_
      refine WP.yes rfl rfl rfl ?_
      refine WP.mx_ tysOk rfl ⟨⟩ (SegAt.blk' (.tail (.tail .head)) rfl) ?_
      refine WP.yes rfl rfl rfl ?_
      refine WP.neS rfl ⟨⟩ rfl rfl rfl rfl rfl rfl (by kernel_rfl) (eq34 r12.1.new r13.1.new) ?_
      iterate 2 (refine WP.sx tysOk rfl ⟨⟨⟩, ⟨⟩⟩ ?_)
      by_cases hh21 : r12.1.new = r13.1.new
      ·rw [if_pos hh21] at h
       refine WP.yes rfl rfl (by simp [hh21]) ?_
       refine WP.sx tysOk rfl ⟨⟨⟩, ⟨⟩⟩ ?_
       refine WP.yes rfl rfl rfl ?_
       refine WP.lx tysOk rfl ⟨⟩ (CellAt.blk (.tail .head) rfl) ?_
       refine WP.yes rfl rfl rfl ?_
       refine WP.sx tysOk rfl ⟨⟨⟩, ⟨⟩⟩ ?_
       refine WP.yes rfl rfl rfl ?_
       refine WP.lx tysOk rfl ⟨⟩ (CellAt.blk .head rfl) ?_
       refine WP.yes rfl rfl rfl ?_
       iterate 3 (refine WP.sx tysOk rfl ⟨⟨⟩, ⟨⟩⟩ ?_)
       by_cases hh22 : ¬ r14.1.node = r15.1.node
       ·rw [if_pos hh22] at h
        refine WP.no rfl rfl (decide_eq_true hh22) rfl rfl ?_
        iterate 4 (refine WP.no rfl rfl rfl rfl rfl ?_)
        iterate 2 (refine WP.sx tysOk rfl ⟨⟨⟩, ⟨⟩⟩ ?_)
        iterate 5 (refine WP.no rfl rfl rfl rfl rfl ?_)
        iterate 2 (refine WP.sx tysOk rfl ⟨⟨⟩, ⟨⟩⟩ ?_)
        iterate 5 (refine WP.no rfl rfl rfl rfl rfl ?_)
        refine WP.sx tysOk rfl ⟨⟨⟩, ⟨⟩⟩ ?_
        refine WP.condT rfl rfl ?_
        refine WP.sx tysOk rfl ⟨⟨⟩, ⟨⟩⟩ ?_
        cases h
        refine WP.retR tysOk rfl rfl ⟨_, _, rfl, rfl, rfl⟩ (fun w1 hw1 => ⟨rfl, Ret.below_ hw1 (.cons (.tail (.tail (.tail (.tail (.tail (.tail (.tail (.tail (.tail (.tail (.tail (.tail (.tail (.tail (.tail (.tail (.tail (.tail (.tail .head))))))))))))))))))) .nil)⟩)
       rw [if_neg hh22] at h
       refine WP.yes rfl rfl (decide_eq_false hh22) ?_
       refine WP.sx tysOk rfl ⟨⟨⟩, ⟨⟩⟩ ?_
       refine WP.yes rfl rfl rfl ?_
       refine WP.lx tysOk rfl ⟨⟩ (CellAt.blk (.tail .head) rfl) ?_
       refine WP.yes rfl rfl rfl ?_
       refine WP.sx tysOk rfl ⟨⟨⟩, ⟨⟩⟩ ?_
       refine WP.yes rfl rfl rfl ?_
       refine WP.lx tysOk rfl ⟨⟩ (CellAt.blk .head rfl) ?_
       refine WP.yes rfl rfl rfl ?_
       iterate 3 (refine WP.sx tysOk rfl ⟨⟨⟩, ⟨⟩⟩ ?_)
       by_cases hh23 : ¬ r14.1.a = r15.1.a
       ·rw [if_pos hh23] at h
        refine WP.no rfl rfl (decide_eq_true hh23) rfl rfl ?_
        iterate 4 (refine WP.no rfl rfl rfl rfl rfl ?_)
        iterate 2 (refine WP.sx tysOk rfl ⟨⟨⟩, ⟨⟩⟩ ?_)
        iterate 5 (refine WP.no rfl rfl rfl rfl rfl ?_)
        refine WP.sx tysOk rfl ⟨⟨⟩, ⟨⟩⟩ ?_
        refine WP.condT rfl rfl ?_
        refine WP.sx tysOk rfl ⟨⟨⟩, ⟨⟩⟩ ?_
        cases h
        refine WP.retR tysOk rfl rfl ⟨_, _, rfl, rfl, rfl⟩ (fun w1 hw1 => ⟨rfl, Ret.below_ hw1 (.cons (.tail (.tail (.tail (.tail (.tail (.tail (.tail (.tail (.tail (.tail (.tail (.tail (.tail (.tail (.tail (.tail (.tail (.tail (.tail .head))))))))))))))))))) .nil)⟩)
       rw [if_neg hh23] at h
       refine WP.yes rfl rfl (decide_eq_false hh23) ?_
       refine WP.sx tysOk rfl ⟨⟨⟩, ⟨⟩⟩ ?_
       refine WP.yes rfl rfl rfl ?_
       refine WP.lx tysOk rfl ⟨⟩ (CellAt.blk (.tail .head) rfl) ?_
       refine WP.yes rfl rfl rfl ?_
       refine WP.sx tysOk rfl ⟨⟨⟩, ⟨⟩⟩ ?_
       refine WP.yes rfl rfl rfl ?_
       refine WP.lx tysOk rfl ⟨⟩ (CellAt.blk .head rfl) ?_
       refine WP.yes rfl rfl rfl ?_
       iterate 3 (refine WP.sx tysOk rfl ⟨⟨⟩, ⟨⟩⟩ ?_)
       by_cases hh24 : ¬ r14.1.b = r15.1.b
       ·rw [if_pos hh24] at h
        refine WP.no rfl rfl (decide_eq_true hh24) rfl rfl ?_
        iterate 4 (refine WP.no rfl rfl rfl rfl rfl ?_)
        refine WP.sx tysOk rfl ⟨⟨⟩, ⟨⟩⟩ ?_
        refine WP.condT rfl rfl ?_
        refine WP.sx tysOk rfl ⟨⟨⟩, ⟨⟩⟩ ?_
        cases h
        refine WP.retR tysOk rfl rfl ⟨_, _, rfl, rfl, rfl⟩ (fun w1 hw1 => ⟨rfl, Ret.below_ hw1 (.cons (.tail (.tail (.tail (.tail (.tail (.tail (.tail (.tail (.tail (.tail (.tail (.tail (.tail (.tail (.tail (.tail (.tail (.tail (.tail .head))))))))))))))))))) .nil)⟩)
       rw [if_neg hh24] at h
       refine WP.yes rfl rfl (decide_eq_false hh24) ?_
       refine WP.sx tysOk rfl ⟨⟨⟩, ⟨⟩⟩ ?_
       refine WP.yes rfl rfl rfl ?_
       refine WP.mx_ tysOk rfl ⟨⟩ (SegAt.blk' (.tail .head) rfl) ?_
       refine WP.yes rfl rfl rfl ?_
       refine WP.sx tysOk rfl ⟨⟨⟩, ⟨⟩⟩ ?_
       refine WP.yes rfl rfl rfl ?_
       refine WP.mx_ tysOk rfl ⟨⟩ (SegAt.blk' .head rfl) ?_
       refine WP.yes rfl rfl rfl ?_
       refine WP.neS rfl ⟨⟩ rfl rfl rfl rfl rfl rfl (by kernel_rfl) (eq34 r14.1.new r15.1.new) ?_
       refine WP.sx tysOk rfl ⟨⟨⟩, ⟨⟩⟩ ?_
       refine WP.cond_nd rfl rfl (fun hh25 => ?_) (fun hh25 => ?_)
       ·rw [if_neg hh25] at h
        refine WP.sx tysOk rfl ⟨⟨⟩, ⟨⟩⟩ ?_
        cases h
        refine WP.retR tysOk rfl rfl ⟨_, _, rfl, rfl, rfl⟩ (fun w1 hw1 => ⟨rfl, Ret.below_ hw1 (.cons (.tail (.tail (.tail (.tail (.tail (.tail (.tail (.tail (.tail (.tail (.tail (.tail (.tail (.tail (.tail (.tail (.tail (.tail (.tail .head))))))))))))))))))) .nil)⟩)
       rw [if_pos hh25] at h
       refine WP.stop rfl () h ?_ ?_
       ·repeat first | exact ⟨⟩ | refine ⟨rfl, ?_⟩
       exact (.cons (.tail (.tail (.tail (.tail .head)))) (.cons (.tail (.tail (.tail (.tail .head)))) (.cons (.tail (.tail (.tail (.tail .head)))) (.cons (.tail (.tail (.tail (.tail .head)))) (.cons (.tail (.tail (.tail (.tail .head)))) (.cons (.tail (.tail (.tail (.tail .head)))) (.cons (.tail (.tail (.tail (.tail .head)))) (.cons (.tail (.tail (.tail (.tail .head)))) (.cons (.tail (.tail (.tail (.tail .head)))) (.cons (.tail (.tail (.tail (.tail .head)))) (.cons (.tail (.tail (.tail (.tail .head)))) (.cons (.tail (.tail (.tail (.tail .head)))) (.cons (.tail (.tail (.tail (.tail .head)))) (.cons (.tail (.tail (.tail (.tail .head)))) (.cons (.tail (.tail (.tail (.tail (.tail .head))))) .nil)))))))))))))))
      rw [if_neg hh21] at h
      refine WP.no rfl rfl (by simp [hh21]) rfl rfl ?_
      iterate 4 (refine WP.no rfl rfl rfl rfl rfl ?_)
      iterate 2 (refine WP.sx tysOk rfl ⟨⟨⟩, ⟨⟩⟩ ?_)
      iterate 5 (refine WP.no rfl rfl rfl rfl rfl ?_)
      iterate 2 (refine WP.sx tysOk rfl ⟨⟨⟩, ⟨⟩⟩ ?_)
      iterate 5 (refine WP.no rfl rfl rfl rfl rfl ?_)
      iterate 2 (refine WP.sx tysOk rfl ⟨⟨⟩, ⟨⟩⟩ ?_)
      iterate 5 (refine WP.no rfl rfl rfl rfl rfl ?_)
      refine WP.sx tysOk rfl ⟨⟨⟩, ⟨⟩⟩ ?_
      refine WP.condT rfl rfl ?_
      refine WP.sx tysOk rfl ⟨⟨⟩, ⟨⟩⟩ ?_
      cases h
      refine WP.retR tysOk rfl rfl ⟨_, _, rfl, rfl, rfl⟩ (fun w1 hw1 => ⟨rfl, Ret.below_ hw1 (.cons (.tail (.tail (.tail (.tail (.tail (.tail (.tail (.tail (.tail (.tail (.tail (.tail (.tail (.tail (.tail (.tail (.tail (.tail (.tail .head))))))))))))))))))) .nil)⟩)
     rw [if_neg hh17] at h
     refine WP.no rfl rfl (by simp [hh17]) rfl rfl ?_
     iterate 4 (refine WP.no rfl rfl rfl rfl rfl ?_)
     iterate 2 (refine WP.sx tysOk rfl ⟨⟨⟩, ⟨⟩⟩ ?_)
     iterate 5 (refine WP.no rfl rfl rfl rfl rfl ?_)
     iterate 2 (refine WP.sx tysOk rfl ⟨⟨⟩, ⟨⟩⟩ ?_)
     iterate 5 (refine WP.no rfl rfl rfl rfl rfl ?_)
     iterate 2 (refine WP.sx tysOk rfl ⟨⟨⟩, ⟨⟩⟩ ?_)
     iterate 5 (refine WP.no rfl rfl rfl rfl rfl ?_)
     iterate 2 (refine WP.sx tysOk rfl ⟨⟨⟩, ⟨⟩⟩ ?_)
     iterate 5 (refine WP.no rfl rfl rfl rfl rfl ?_)
     iterate 2 (refine WP.sx tysOk rfl ⟨⟨⟩, ⟨⟩⟩ ?_)
     iterate 5 (refine WP.no rfl rfl rfl rfl rfl ?_)
     iterate 2 (refine WP.sx tysOk rfl ⟨⟨⟩, ⟨⟩⟩ ?_)
     iterate 5 (refine WP.no rfl rfl rfl rfl rfl ?_)
     iterate 2 (refine WP.sx tysOk rfl ⟨⟨⟩, ⟨⟩⟩ ?_)
     iterate 5 (refine WP.no rfl rfl rfl rfl rfl ?_)
     refine WP.sx tysOk rfl ⟨⟨⟩, ⟨⟩⟩ ?_
     refine WP.condT rfl rfl ?_
     refine WP.sx tysOk rfl ⟨⟨⟩, ⟨⟩⟩ ?_
     cases h
     refine WP.retR tysOk rfl rfl ⟨_, _, rfl, rfl, rfl⟩ (fun w1 hw1 => ⟨rfl, Ret.below_ hw1 (.cons (.tail (.tail (.tail (.tail (.tail (.tail (.tail (.tail (.tail (.tail (.tail (.tail (.tail (.tail (.tail (.tail (.tail (.tail (.tail .head))))))))))))))))))) .nil)⟩)
    rw [if_neg hh16] at h
    refine WP.no rfl rfl (by simp [hh16]) rfl rfl ?_
    iterate 2 (refine WP.no rfl rfl rfl rfl rfl ?_)
    iterate 2 (refine WP.sx tysOk rfl ⟨⟨⟩, ⟨⟩⟩ ?_)
    iterate 5 (refine WP.no rfl rfl rfl rfl rfl ?_)
    iterate 2 (refine WP.sx tysOk rfl ⟨⟨⟩, ⟨⟩⟩ ?_)
    iterate 5 (refine WP.no rfl rfl rfl rfl rfl ?_)
    iterate 2 (refine WP.sx tysOk rfl ⟨⟨⟩, ⟨⟩⟩ ?_)
    iterate 5 (refine WP.no rfl rfl rfl rfl rfl ?_)
    iterate 2 (refine WP.sx tysOk rfl ⟨⟨⟩, ⟨⟩⟩ ?_)
    iterate 5 (refine WP.no rfl rfl rfl rfl rfl ?_)
    iterate 2 (refine WP.sx tysOk rfl ⟨⟨⟩, ⟨⟩⟩ ?_)
    iterate 5 (refine WP.no rfl rfl rfl rfl rfl ?_)
    iterate 2 (refine WP.sx tysOk rfl ⟨⟨⟩, ⟨⟩⟩ ?_)
    iterate 5 (refine WP.no rfl rfl rfl rfl rfl ?_)
    iterate 2 (refine WP.sx tysOk rfl ⟨⟨⟩, ⟨⟩⟩ ?_)
    iterate 5 (refine WP.no rfl rfl rfl rfl rfl ?_)
    iterate 2 (refine WP.sx tysOk rfl ⟨⟨⟩, ⟨⟩⟩ ?_)
    iterate 5 (refine WP.no rfl rfl rfl rfl rfl ?_)
    refine WP.sx tysOk rfl ⟨⟨⟩, ⟨⟩⟩ ?_
    refine WP.condT rfl rfl ?_
    refine WP.sx tysOk rfl ⟨⟨⟩, ⟨⟩⟩ ?_
    cases h
    refine WP.retR tysOk rfl rfl ⟨_, _, rfl, rfl, rfl⟩ (fun w1 hw1 => ⟨rfl, Ret.below_ hw1 (.cons (.tail (.tail (.tail (.tail (.tail (.tail (.tail (.tail (.tail (.tail (.tail (.tail (.tail (.tail (.tail (.tail (.tail (.tail (.tail .head))))))))))))))))))) .nil)⟩)
   rw [if_neg hh15] at h
   refine WP.stop rfl () h ?_ ?_
   ·repeat first | exact ⟨⟩ | refine ⟨rfl, ?_⟩
   exact (.cons .head (.cons .head (.cons .head (.cons .head (.cons .head (.cons .head (.cons .head (.cons .head (.cons .head (.cons .head (.cons .head (.cons .head (.cons .head (.cons .head (.cons (.tail .head) .nil)))))))))))))))
  rintro _ h
  skip
  subst hk1
  try dsimp only at h
  iterate 5 (refine WP.sx tysOk rfl ⟨⟨⟩, ⟨⟩⟩ ?_)
  by_cases hh12 : (w64 (r1.2)) = r2.2
  ·rw [if_pos hh12] at h
   refine WP.yes rfl rfl (decide_eq_true hh12) ?_
   refine WP.mx_ tysOk rfl ⟨⟩ (SegAt.blk' (.tail (.tail (.tail (.tail (.tail (.tail (.tail (.tail (.tail .head))))))))) rfl) ?_
   refine WP.yes rfl rfl rfl ?_
   refine WP.mx_ tysOk rfl ⟨⟩ (SegAt.blk' (.tail (.tail (.tail (.tail (.tail (.tail (.tail .head))))))) rfl) ?_
   refine WP.yes rfl rfl rfl ?_
   obtain ⟨r10, hg10, h⟩ := bind_some h
   refine WP.callV rfl rfl rfl rfl rfl rfl rfl (by kernel_rfl) (fun w1 hw1 => (ref15_Same_w hg10 (StepZ.mk_ (hw1.ow (.tail (.tail (.tail (.tail (.tail (.tail (.tail (.tail (.tail (.tail .head)))))))))) hf1) (hw1.ow (.tail (.tail (.tail (.tail (.tail (.tail (.tail (.tail (.tail (.tail (.tail .head))))))))))) hf2) (hw1.ow (.tail (.tail (.tail (.tail (.tail (.tail (.tail (.tail (.tail (.tail (.tail (.tail .head)))))))))))) hf3) (hw1.ow (.tail (.tail (.tail (.tail (.tail (.tail (.tail (.tail (.tail (.tail (.tail (.tail (.tail .head))))))))))))) hf4)) (StepZ.mk_ ((hs3.le' ((Held.or (Held.mem (List.Mem.tail _ (List.Mem.tail _ (List.Mem.tail _ (List.Mem.tail _ (List.Mem.tail _ (List.Mem.tail _ (List.Mem.tail _ (List.Mem.tail _ (List.Mem.tail _ (List.Mem.tail _ (List.Mem.tail _ (List.Mem.tail _ (List.Mem.tail _ (List.Mem.tail _ (List.Mem.head _)))))))))))))))) (Held.mem (List.Mem.tail _ (List.Mem.tail _ (List.Mem.tail _ (List.Mem.tail _ (List.Mem.tail _ (List.Mem.tail _ (List.Mem.tail _ (List.Mem.tail _ (List.Mem.head _))))))))))) _ _ hw1)).of) ((hs4.le' ((Held.or (Held.mem (List.Mem.tail _ (List.Mem.tail _ (List.Mem.tail _ (List.Mem.tail _ (List.Mem.tail _ (List.Mem.tail _ (List.Mem.tail _ (List.Mem.tail _ (List.Mem.tail _ (List.Mem.tail _ (List.Mem.tail _ (List.Mem.tail _ (List.Mem.tail _ (List.Mem.tail _ (List.Mem.head _)))))))))))))))) (Held.mem (List.Mem.tail _ (List.Mem.tail _ (List.Mem.tail _ (List.Mem.tail _ (List.Mem.tail _ (List.Mem.tail _ (List.Mem.tail _ (List.Mem.tail _ (List.Mem.head _))))))))))) _ _ hw1)).of) ((hs5.le' ((Held.or (Held.mem (List.Mem.tail _ (List.Mem.tail _ (List.Mem.tail _ (List.Mem.tail _ (List.Mem.tail _ (List.Mem.tail _ (List.Mem.tail _ (List.Mem.tail _ (List.Mem.tail _ (List.Mem.tail _ (List.Mem.tail _ (List.Mem.tail _ (List.Mem.tail _ (List.Mem.tail _ (List.Mem.head _)))))))))))))))) (Held.mem (List.Mem.tail _ (List.Mem.tail _ (List.Mem.tail _ (List.Mem.tail _ (List.Mem.tail _ (List.Mem.tail _ (List.Mem.tail _ (List.Mem.tail _ (List.Mem.head _))))))))))) _ _ hw1)).of) ((hs6.le' ((Held.or (Held.mem (List.Mem.tail _ (List.Mem.tail _ (List.Mem.tail _ (List.Mem.tail _ (List.Mem.tail _ (List.Mem.tail _ (List.Mem.tail _ (List.Mem.tail _ (List.Mem.tail _ (List.Mem.tail _ (List.Mem.tail _ (List.Mem.tail _ (List.Mem.tail _ (List.Mem.tail _ (List.Mem.head _)))))))))))))))) (Held.mem (List.Mem.tail _ (List.Mem.tail _ (List.Mem.tail _ (List.Mem.tail _ (List.Mem.tail _ (List.Mem.tail _ (List.Mem.tail _ (List.Mem.tail _ (List.Mem.head _))))))))))) _ _ hw1)).of)) :)) ⟨⟩ ?_
   iterate 2 (refine WP.sx tysOk rfl ⟨⟨⟩, ⟨⟩⟩ ?_)
   by_cases hh13 : r10 = true
   ·rw [if_pos hh13] at h
    refine WP.yes rfl rfl hh13 ?_
    iterate 3 (refine WP.sx tysOk rfl ⟨⟨⟩, ⟨⟩⟩ ?_; refine WP.yes rfl rfl rfl ?_)
    iterate 3 (refine WP.sx tysOk rfl ⟨⟨⟩, ⟨⟩⟩ ?_)
    by_cases hh14 : (w64 (r3.2)) = r4.2
    ·rw [if_pos hh14] at h
     refine WP.yes rfl rfl (decide_eq_true hh14) ?_
     refine WP.mx_ tysOk rfl ⟨⟩ (SegAt.blk' (.tail (.tail .head)) rfl) ?_
     refine WP.yes rfl rfl rfl ?_
     refine WP.mx_ tysOk rfl ⟨⟩ (SegAt.blk' .head rfl) ?_
     refine WP.yes rfl rfl rfl ?_
     obtain ⟨r11, hg11, h⟩ := bind_some h
     refine WP.callV rfl rfl rfl rfl rfl rfl rfl (by kernel_rfl) (fun w1 hw1 => (ref15_Same_w hg11 (StepZ.mk_ (hw1.ow (.tail (.tail (.tail .head))) hf5) (hw1.ow (.tail (.tail (.tail (.tail .head)))) hf6) (hw1.ow (.tail (.tail (.tail (.tail (.tail .head))))) hf7) (hw1.ow (.tail (.tail (.tail (.tail (.tail (.tail .head)))))) hf8)) (StepZ.mk_ ((hs7.le' ((Held.or (Held.mem (List.Mem.tail _ (List.Mem.tail _ (List.Mem.tail _ (List.Mem.tail _ (List.Mem.tail _ (List.Mem.tail _ (List.Mem.tail _ (List.Mem.tail _ (List.Mem.tail _ (List.Mem.tail _ (List.Mem.tail _ (List.Mem.tail _ (List.Mem.tail _ (List.Mem.tail _ (List.Mem.head _)))))))))))))))) (Held.mem (List.Mem.tail _ (List.Mem.head _)))) _ _ hw1)).of) ((hs8.le' ((Held.or (Held.mem (List.Mem.tail _ (List.Mem.tail _ (List.Mem.tail _ (List.Mem.tail _ (List.Mem.tail _ (List.Mem.tail _ (List.Mem.tail _ (List.Mem.tail _ (List.Mem.tail _ (List.Mem.tail _ (List.Mem.tail _ (List.Mem.tail _ (List.Mem.tail _ (List.Mem.tail _ (List.Mem.head _)))))))))))))))) (Held.mem (List.Mem.tail _ (List.Mem.head _)))) _ _ hw1)).of) ((hs9.le' ((Held.or (Held.mem (List.Mem.tail _ (List.Mem.tail _ (List.Mem.tail _ (List.Mem.tail _ (List.Mem.tail _ (List.Mem.tail _ (List.Mem.tail _ (List.Mem.tail _ (List.Mem.tail _ (List.Mem.tail _ (List.Mem.tail _ (List.Mem.tail _ (List.Mem.tail _ (List.Mem.tail _ (List.Mem.head _)))))))))))))))) (Held.mem (List.Mem.tail _ (List.Mem.head _)))) _ _ hw1)).of) ((hs10.le' ((Held.or (Held.mem (List.Mem.tail _ (List.Mem.tail _ (List.Mem.tail _ (List.Mem.tail _ (List.Mem.tail _ (List.Mem.tail _ (List.Mem.tail _ (List.Mem.tail _ (List.Mem.tail _ (List.Mem.tail _ (List.Mem.tail _ (List.Mem.tail _ (List.Mem.tail _ (List.Mem.tail _ (List.Mem.head _)))))))))))))))) (Held.mem (List.Mem.tail _ (List.Mem.head _)))) _ _ hw1)).of)) :)) ⟨⟩ ?_
     iterate 2 (refine WP.sx tysOk rfl ⟨⟨⟩, ⟨⟩⟩ ?_)
     cases h
     refine WP.retR tysOk rfl rfl ⟨_, _, rfl, rfl, rfl⟩ (fun w1 hw1 => ⟨rfl, Ret.below_ hw1 (.cons (.tail (.tail (.tail (.tail (.tail (.tail (.tail (.tail (.tail (.tail (.tail (.tail (.tail (.tail .head)))))))))))))) .nil)⟩)
    rw [if_neg hh14] at h
    refine WP.no rfl rfl (decide_eq_false hh14) rfl rfl ?_
    iterate 2 (refine WP.no rfl rfl rfl rfl rfl ?_)
    iterate 2 (refine WP.sx tysOk rfl ⟨⟨⟩, ⟨⟩⟩ ?_)
    cases h
    refine WP.retR tysOk rfl rfl ⟨_, _, rfl, rfl, rfl⟩ (fun w1 hw1 => ⟨rfl, Ret.below_ hw1 (.cons (.tail (.tail (.tail (.tail (.tail (.tail (.tail (.tail (.tail (.tail (.tail (.tail (.tail (.tail .head)))))))))))))) .nil)⟩)
   rw [if_neg hh13] at h
   refine WP.no rfl rfl (bfalse hh13) rfl rfl ?_
   iterate 2 (refine WP.no rfl rfl rfl rfl rfl ?_; refine WP.no rfl rfl rfl rfl rfl ?_; refine WP.no rfl rfl rfl rfl rfl ?_; (iterate 2 (refine WP.sx tysOk rfl ⟨⟨⟩, ⟨⟩⟩ ?_)))
   cases h
   refine WP.retR tysOk rfl rfl ⟨_, _, rfl, rfl, rfl⟩ (fun w1 hw1 => ⟨rfl, Ret.below_ hw1 (.cons (.tail (.tail (.tail (.tail (.tail (.tail (.tail (.tail (.tail (.tail (.tail (.tail (.tail (.tail .head)))))))))))))) .nil)⟩)
  rw [if_neg hh12] at h
  refine WP.no rfl rfl (decide_eq_false hh12) rfl rfl ?_
  iterate 2 (refine WP.no rfl rfl rfl rfl rfl ?_)
  iterate 2 (refine WP.sx tysOk rfl ⟨⟨⟩, ⟨⟩⟩ ?_)
  iterate 4 (refine WP.no rfl rfl rfl rfl rfl ?_)
  iterate 2 (refine WP.sx tysOk rfl ⟨⟨⟩, ⟨⟩⟩ ?_)
  iterate 3 (refine WP.no rfl rfl rfl rfl rfl ?_)
  iterate 2 (refine WP.sx tysOk rfl ⟨⟨⟩, ⟨⟩⟩ ?_)
  cases h
  refine WP.retR tysOk rfl rfl ⟨_, _, rfl, rfl, rfl⟩ (fun w1 hw1 => ⟨rfl, Ret.below_ hw1 (.cons (.tail (.tail (.tail (.tail (.tail (.tail (.tail (.tail (.tail (.tail (.tail (.tail (.tail (.tail .head)))))))))))))) .nil)⟩)

set_option maxRecDepth 20000 in
set_option maxHeartbeats 8000000 in
theorem law18_TwoShapes_w {w : World} {d1 : Int} {i1 : Arc} {x1 : Arc} {x2 : Int} {x3 : Int} {x4 : Int} {r : Bool} (h : law18_TwoShapes d1 i1 x1 x2 x3 x4 = some r) :
    Calls Tryz.prog 4 #[.int .u8 (d1), .agg #[iv i1.src, iv i1.dst, iv i1.low, iv i1.cap, iv i1.cost], .agg #[iv x1.src, iv x1.dst, iv x1.low, iv x1.cap, iv x1.cost], iv x2, iv x3, .int .u8 (x4)] w fun e w' => e = .returned (.bool (r)) ∧ Below w.heap.size w w' := by
  unfold law18_TwoShapes at h
  refine enter_ Tryz.func4 rfl Tryz.ntmps4 rfl ?_
  refine WP.box rfl rfl rfl rfl rfl rfl ?_
  intro g1
  refine WP.box rfl rfl rfl rfl rfl rfl ?_
  intro g2
  iterate 2 (refine WP.sx tysOk rfl ⟨⟨⟩, ⟨⟩⟩ ?_)
  refine WP.mx_ tysOk rfl ⟨⟩ (SegAt.blk' (.tail .head) rfl) ?_
  refine WP.mx_ tysOk rfl ⟨⟩ (SegAt.blk' .head rfl) ?_
  iterate 3 (refine WP.sx tysOk rfl ⟨⟨⟩, ⟨⟩⟩ ?_)
  obtain ⟨r1, hg1, h⟩ := bind_some h
  refine WP.callS (law18_One_S r1) rfl rfl rfl rfl rfl rfl rfl (by kernel_rfl) (fun w1 hw1 => (law18_One_w hg1  :)) ?_
  rintro _ _ ⟨A1, n1, c1, A2, n2, c2, rfl, hf1, hf2, rfl⟩
  refine WP.al tysOk rfl rfl rfl rfl rfl rfl ?_
  intro g3
  refine WP.sto' tysOk [.slice A1 n1 c1, .slice A2 n2 c2] rfl rfl rfl rfl rfl rfl rfl rfl rfl .head rfl rfl ?_
  obtain ⟨r2, hg2, h⟩ := bind_some h
  obtain ⟨r3, hg3, h⟩ := bind_some h
  obtain ⟨r4, hg4, h⟩ := bind_some h
  refine WP.drawL 12 [(2, [], fun _ => constSpec (.agg #[iv r2.src, iv r2.dst, iv r2.low, iv r2.cap, iv r2.cost])), (4, [], fun _ => constSpec (.agg #[iv r3.src, iv r3.dst, iv r3.low, iv r3.cap, iv r3.cost])), (10, [], fun _ => law18_One_S r4), (11, [], fun _ => blkSpec 25 [.slice none 0 0, .slice none 0 0])] rfl (by kernel_rfl) (by kernel_rfl) (by kernel_rfl) ?_
  refine WP.sx tysOk rfl ⟨⟨⟨rfl, rfl⟩, rfl⟩, ⟨⟩⟩ ?_
  refine WP.mx_ tysOk rfl ⟨⟨rfl, rfl⟩, rfl⟩ (SegAt.blk' (.tail (.tail (.tail (.tail .head)))) rfl) ?_
  refine WP.callV rfl rfl rfl rfl rfl rfl rfl (by kernel_rfl) (fun w1 hw1 => (law18_tame_w hg2  :)) ⟨⟨rfl, rfl⟩, rfl⟩ ?_
  refine WP.mx_ tysOk rfl ⟨⟨rfl, rfl⟩, rfl⟩ (SegAt.blk' (.tail (.tail (.tail .head))) rfl) ?_
  refine WP.callV rfl rfl rfl rfl rfl rfl rfl (by kernel_rfl) (fun w1 hw1 => (law18_tame_w hg3  :)) ⟨⟨rfl, rfl⟩, rfl⟩ ?_
  iterate 2 (refine WP.sx tysOk rfl ⟨⟨⟨rfl, rfl⟩, rfl⟩, ⟨⟩⟩ ?_; refine WP.sx tysOk rfl ⟨⟨⟨rfl, rfl⟩, rfl⟩, (by decide)⟩ ?_)
  refine WP.sx tysOk rfl ⟨⟨⟨rfl, rfl⟩, rfl⟩, ⟨⟩⟩ ?_
  refine WP.lcall rfl ⟨rfl, rfl⟩ rfl rfl rfl rfl rfl rfl rfl (by kernel_rfl) (fun w1 hw1 => (law18_One_w hg4  :)) ?_
  rintro _ _ ⟨A3, n3, c3, A4, n4, c4, rfl, hf3, hf4, rfl⟩
  refine WP.lal tysOk rfl ⟨rfl, rfl⟩ rfl rfl rfl rfl rfl rfl rfl ?_
  intro g4
  refine WP.lend rfl ⟨rfl, rfl⟩ ?_
  refine WP.sto' tysOk [.slice A3 n3 c3, .slice A4 n4 c4] rfl rfl rfl rfl rfl rfl rfl rfl rfl .head rfl rfl ?_
  refine WP.sx tysOk rfl ⟨⟨⟩, ⟨⟩⟩ ?_
  obtain ⟨r5, hg5, h⟩ := bind_some h
  obtain ⟨r6, hg6, h⟩ := bind_some h
  obtain ⟨hz1, h⟩ := ck_some h
  obtain ⟨hz2, h⟩ := ck_some h
  obtain ⟨r7, hg7, h⟩ := bind_some h
  refine WP.drawL 16 [(2, [], fun _ => constSpec (.agg #[iv r5.src, iv r5.dst, iv r5.low, iv r5.cap, iv r5.cost])), (4, [], fun _ => constSpec (.agg #[iv r6.src, iv r6.dst, iv r6.low, iv r6.cap, iv r6.cost])), (14, [], fun _ => law18_One_S r7), (15, [], fun _ => blkSpec 25 [.slice none 0 0, .slice none 0 0])] rfl (by kernel_rfl) (by kernel_rfl) (by kernel_rfl) ?_
  refine WP.sx tysOk rfl ⟨⟨⟨rfl, rfl⟩, rfl⟩, ⟨⟩⟩ ?_
  refine WP.mx_ tysOk rfl ⟨⟨rfl, rfl⟩, rfl⟩ (SegAt.blk' (.tail (.tail (.tail (.tail (.tail (.tail (.tail .head))))))) rfl) ?_
  refine WP.callV rfl rfl rfl rfl rfl rfl rfl (by kernel_rfl) (fun w1 hw1 => (law18_tame_w hg5  :)) ⟨⟨rfl, rfl⟩, rfl⟩ ?_
  refine WP.mx_ tysOk rfl ⟨⟨rfl, rfl⟩, rfl⟩ (SegAt.blk' (.tail (.tail (.tail (.tail (.tail (.tail .head)))))) rfl) ?_
  refine WP.callV rfl rfl rfl rfl rfl rfl rfl (by kernel_rfl) (fun w1 hw1 => (law18_tame_w hg6  :)) ⟨⟨rfl, rfl⟩, rfl⟩ ?_
  iterate 2 (refine WP.sx tysOk rfl ⟨⟨⟨rfl, rfl⟩, rfl⟩, ⟨⟩⟩ ?_)
  refine WP.sx tysOk rfl ⟨⟨⟨rfl, rfl⟩, rfl⟩, (by decide)⟩ ?_
  refine WP.sx tysOk rfl ⟨⟨⟨rfl, rfl⟩, rfl⟩, hz1⟩ ?_
  iterate 2 (refine WP.sx tysOk rfl ⟨⟨⟨rfl, rfl⟩, rfl⟩, ⟨⟩⟩ ?_)
  refine WP.sx tysOk rfl ⟨⟨⟨rfl, rfl⟩, rfl⟩, (by decide)⟩ ?_
  refine WP.sx tysOk rfl ⟨⟨⟨rfl, rfl⟩, rfl⟩, hz2⟩ ?_
  refine WP.sx tysOk rfl ⟨⟨⟨rfl, rfl⟩, rfl⟩, ⟨⟩⟩ ?_
  refine WP.lcall rfl ⟨rfl, rfl⟩ rfl rfl rfl rfl rfl rfl rfl (by kernel_rfl) (fun w1 hw1 => (law18_One_w hg7  :)) ?_
  rintro _ _ ⟨A5, n5, c5, A6, n6, c6, rfl, hf5, hf6, rfl⟩
  refine WP.lal tysOk rfl ⟨rfl, rfl⟩ rfl rfl rfl rfl rfl rfl rfl ?_
  intro g5
  refine WP.lend rfl ⟨rfl, rfl⟩ ?_
  refine WP.sto' tysOk [.slice A5 n5 c5, .slice A6 n6 c6] rfl rfl rfl rfl rfl rfl rfl rfl rfl .head rfl rfl ?_
  refine WP.sx tysOk rfl ⟨⟨⟩, ⟨⟩⟩ ?_
  refine WP.lx tysOk rfl ⟨⟩ (CellAt.blk .head rfl) ?_
  refine WP.sx tysOk rfl ⟨⟨⟩, ⟨⟩⟩ ?_
  obtain ⟨hj1, h⟩ := ck_some h
  refine WP.ixO tysOk rfl ⟨⟩ rfl rfl rfl rfl rfl rfl rfl rfl hf6 hj1 ?_
  intro b1 hA1
  refine WP.sx tysOk rfl ⟨⟨⟩, ⟨⟩⟩ ?_
  obtain ⟨xs1, hx1, h⟩ := lt_some h
  refine WP.stoO (f := fA) 3 (Arc.mk ((gt r7.arcs 0).src) ((gt r7.arcs 0).dst) ((gt r7.arcs 0).low) 4398046511104 ((gt r7.arcs 0).cost)) tysOk rfl rfl rfl rfl rfl rfl rfl rfl rfl (.tail (.tail .head)) hA1 hf6 hj1 rfl rfl rfl hx1 ?_
  intro hf7
  obtain ⟨hj2, h⟩ := ck_some h
  refine WP.drawL 7 [] rfl (by kernel_rfl) (by kernel_rfl) (by kernel_rfl) ?_
  refine WP.sx tysOk rfl ⟨⟨⟨rfl, rfl⟩, rfl⟩, ⟨⟩⟩ ?_
  refine WP.lx tysOk rfl ⟨⟨rfl, rfl⟩, rfl⟩ (CellAt.blk (.tail .head) rfl) ?_
  iterate 2 (refine WP.sx tysOk rfl ⟨⟨⟨rfl, rfl⟩, rfl⟩, ⟨⟩⟩ ?_)
  refine WP.sx tysOk rfl ⟨⟨⟨rfl, rfl⟩, rfl⟩, (by decide)⟩ ?_
  refine WP.ixO tysOk rfl ⟨⟨rfl, rfl⟩, rfl⟩ rfl rfl rfl rfl rfl rfl rfl rfl hf7 hj2 ?_
  intro b2 hA2
  refine WP.sx tysOk rfl ⟨⟨⟨rfl, rfl⟩, rfl⟩, ⟨⟩⟩ ?_
  refine WP.lend rfl ⟨rfl, rfl⟩ ?_
  obtain ⟨xs2, hx2, h⟩ := lt_some h
  refine WP.stoO (f := fA) 4 (Arc.mk ((gt xs1 0).src) ((gt xs1 0).dst) ((gt xs1 0).low) ((gt xs1 0).cap) (x3.tmod 4398046511104)) tysOk rfl rfl rfl rfl rfl rfl rfl rfl rfl .head hA2 hf7 hj2 rfl rfl rfl hx2 ?_
  intro hf8
  obtain ⟨hj3, h⟩ := ck_some h
  refine WP.drawL 7 [] rfl (by kernel_rfl) (by kernel_rfl) (by kernel_rfl) ?_
  refine WP.sx tysOk rfl ⟨⟨⟨rfl, rfl⟩, rfl⟩, ⟨⟩⟩ ?_
  refine WP.lx tysOk rfl ⟨⟨rfl, rfl⟩, rfl⟩ (CellAt.blk (.tail .head) rfl) ?_
  iterate 2 (refine WP.sx tysOk rfl ⟨⟨⟨rfl, rfl⟩, rfl⟩, ⟨⟩⟩ ?_)
  refine WP.sx tysOk rfl ⟨⟨⟨rfl, rfl⟩, rfl⟩, (by decide)⟩ ?_
  refine WP.ixO tysOk rfl ⟨⟨rfl, rfl⟩, rfl⟩ rfl rfl rfl rfl rfl rfl rfl rfl hf8 hj3 ?_
  intro b3 hA3
  refine WP.sx tysOk rfl ⟨⟨⟨rfl, rfl⟩, rfl⟩, ⟨⟩⟩ ?_
  refine WP.lend rfl ⟨rfl, rfl⟩ ?_
  obtain ⟨xs3, hx3, h⟩ := lt_some h
  refine WP.stoO (f := fA) 4 (Arc.mk ((gt xs2 1).src) ((gt xs2 1).dst) ((gt xs2 1).low) ((gt xs2 1).cap) (x2.tmod 4398046511104)) tysOk rfl rfl rfl rfl rfl rfl rfl rfl rfl .head hA3 hf8 hj3 rfl rfl rfl hx3 ?_
  intro hf9
  obtain ⟨r8, hg8, h⟩ := bind_some h
  refine WP.callV rfl rfl rfl rfl rfl rfl rfl (by kernel_rfl) (fun w1 hw1 => (law18_known_w hg8  :)) ⟨⟩ ?_
  refine WP.sx tysOk rfl ⟨⟨⟩, ⟨⟩⟩ ?_
  by_cases hh1 : r8 = true
  ·rw [if_pos hh1] at h
   refine WP.yes rfl rfl hh1 ?_
   refine WP.mx_ tysOk rfl ⟨⟩ (SegAt.blk' (.tail (.tail (.tail (.tail (.tail (.tail .head)))))) rfl) ?_
   refine WP.yes rfl rfl rfl ?_
   obtain ⟨r9, hg9, h⟩ := bind_some h
   refine WP.callV rfl rfl rfl rfl rfl rfl rfl (by kernel_rfl) (fun w1 hw1 => (law18_does_w hg9 (InsZ.mk_ (hw1.ow (.tail (.tail (.tail (.tail (.tail (.tail (.tail .head))))))) hf1) (hw1.ow (.tail (.tail (.tail (.tail (.tail (.tail (.tail (.tail .head)))))))) hf2)) :)) ⟨⟩ ?_
   iterate 2 (refine WP.sx tysOk rfl ⟨⟨⟩, ⟨⟩⟩ ?_)
   by_cases hh2 : r9 = true
   ·rw [if_pos hh2] at h
    refine WP.yes rfl rfl hh2 ?_
    refine WP.mx_ tysOk rfl ⟨⟩ (SegAt.blk' (.tail (.tail (.tail .head))) rfl) ?_
    refine WP.yes rfl rfl rfl ?_
    obtain ⟨r10, hg10, h⟩ := bind_some h
    refine WP.callV rfl rfl rfl rfl rfl rfl rfl (by kernel_rfl) (fun w1 hw1 => (law18_does_w hg10 (InsZ.mk_ (hw1.ow (.tail (.tail (.tail (.tail .head)))) hf3) (hw1.ow (.tail (.tail (.tail (.tail (.tail .head))))) hf4)) :)) ⟨⟩ ?_
    iterate 2 (refine WP.sx tysOk rfl ⟨⟨⟩, ⟨⟩⟩ ?_)
    by_cases hh3 : r10 = true
    ·rw [if_pos hh3] at h
     refine WP.yes rfl rfl hh3 ?_
     refine WP.mx_ tysOk rfl ⟨⟩ (SegAt.blk' (.tail .head) rfl) ?_
     refine WP.yes rfl rfl rfl ?_
     obtain ⟨r11, hg11, h⟩ := bind_some h
     refine WP.callV rfl rfl rfl rfl rfl rfl rfl (by kernel_rfl) (fun w1 hw1 => (law18_does_w hg11 (InsZ.mk_ (hw1.ow (.tail (.tail .head)) hf5) (hw1.ow .head hf9)) :)) ⟨⟩ ?_
     iterate 2 (refine WP.sx tysOk rfl ⟨⟨⟩, ⟨⟩⟩ ?_)
     cases h
     refine WP.retR tysOk rfl rfl ⟨_, _, rfl, rfl, rfl⟩ (fun w1 hw1 => ⟨rfl, Ret.below_ hw1 (.cons (.tail (.tail (.tail (.tail (.tail (.tail (.tail (.tail (.tail (.tail (.tail .head))))))))))) .nil)⟩)
    rw [if_neg hh3] at h
    refine WP.no rfl rfl (bfalse hh3) rfl rfl ?_
    refine WP.no rfl rfl rfl rfl rfl ?_
    iterate 2 (refine WP.sx tysOk rfl ⟨⟨⟩, ⟨⟩⟩ ?_)
    cases h
    refine WP.retR tysOk rfl rfl ⟨_, _, rfl, rfl, rfl⟩ (fun w1 hw1 => ⟨rfl, Ret.below_ hw1 (.cons (.tail (.tail (.tail (.tail (.tail (.tail (.tail (.tail (.tail (.tail (.tail .head))))))))))) .nil)⟩)
   rw [if_neg hh2] at h
   refine WP.no rfl rfl (bfalse hh2) rfl rfl ?_
   refine WP.no rfl rfl rfl rfl rfl ?_
   iterate 2 (refine WP.sx tysOk rfl ⟨⟨⟩, ⟨⟩⟩ ?_)
   iterate 2 (refine WP.no rfl rfl rfl rfl rfl ?_)
   iterate 2 (refine WP.sx tysOk rfl ⟨⟨⟩, ⟨⟩⟩ ?_)
   cases h
   refine WP.retR tysOk rfl rfl ⟨_, _, rfl, rfl, rfl⟩ (fun w1 hw1 => ⟨rfl, Ret.below_ hw1 (.cons (.tail (.tail (.tail (.tail (.tail (.tail (.tail (.tail (.tail (.tail (.tail .head))))))))))) .nil)⟩)
  rw [if_neg hh1] at h
  refine WP.no rfl rfl (bfalse hh1) rfl rfl ?_
  iterate 2 (refine WP.no rfl rfl rfl rfl rfl ?_; (iterate 2 (refine WP.sx tysOk rfl ⟨⟨⟩, ⟨⟩⟩ ?_)); refine WP.no rfl rfl rfl rfl rfl ?_)
  refine WP.no rfl rfl rfl rfl rfl ?_
  iterate 2 (refine WP.sx tysOk rfl ⟨⟨⟩, ⟨⟩⟩ ?_)
  cases h
  refine WP.retR tysOk rfl rfl ⟨_, _, rfl, rfl, rfl⟩ (fun w1 hw1 => ⟨rfl, Ret.below_ hw1 (.cons (.tail (.tail (.tail (.tail (.tail (.tail (.tail (.tail (.tail (.tail (.tail .head))))))))))) .nil)⟩)
end Go.Proofs.YtpnohbdfgmjdbaaGreat
