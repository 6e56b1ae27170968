/- The walks: the code computes that. -/
import Derived.Test.YtpnohbdfgmjdbaaGreatGW3
import Derived.Test.YtpnohbdfgmjdbaaGreatTys
import Derived.Test.YtpnohbdfgmjdbaaGreatEngG
import Derived.KernelRfl
namespace Go.Proofs.YtpnohbdfgmjdbaaGreat
open Go.RowKit Go.Qe
abbrev ref18_without_S (Z : PH) (r : Step × Int) : Value → Heap → Prop := fun v L => ∃ (Zn : PH) (A1 : Option Addr) (n1 c1 : Nat) (A2 : Option Addr) (n2 c2 : Nat) (A3 : Option Addr) (n3 c3 : Nat) (A4 : Option Addr) (n4 c4 : Nat), v = .tuple #[.agg #[.slice A1 n1 c1, .slice A2 n2 c2, iv r.1.rcd.pass, .slice A3 n3 c3, .slice A4 n4 c4, iv r.1.off.hi, .int .u64 (r.1.off.lo), .bool (r.1.did)], iv r.2] ∧ n1 = r.1.inst.supply.length ∧ n2 = r.1.inst.arcs.length ∧ n3 = r.1.rcd.was.supply.length ∧ n4 = r.1.rcd.was.arcs.length ∧ FzS (fI .i64) (Z.or Zn) A1 c1 r.1.inst.supply ∧ FzS fA (Z.or Zn) A2 c2 r.1.inst.arcs ∧ FzS (fI .i64) (Z.or Zn) A3 c3 r.1.rcd.was.supply ∧ FzS fA (Z.or Zn) A4 c4 r.1.rcd.was.arcs ∧ L = [.fz Zn]
set_option maxRecDepth 20000 in
set_option maxHeartbeats 8000000 in
theorem ref18_without_w {w : World} {Z : PH} (hZ : Z.le (PH.of w)) {v0 : Value} {d1 : Int} {i1 : Inst} {x1 : Spot} {x2 : Int} {r : Step × Int} (h : ref18_without d1 i1 x1 x2 = some r) (p1 : InsZ Z v0 i1) :
    Calls Tryz.prog 31 #[iv d1, v0, .agg #[iv x1.node, iv x1.a, iv x1.b, iv x1.new.src, iv x1.new.dst, iv x1.new.low, iv x1.new.cap, iv x1.new.cost], iv x2] w fun e w' => ∃ v L, e = .returned v ∧ ref18_without_S Z r v L ∧ Ret w w' L := by
  obtain ⟨A1, c1, A2, c2, rfl, hs1, hs2⟩ := p1
  unfold ref18_without at h
  refine enter_ Tryz.func31 rfl Tryz.ntmps31 rfl ?_
  refine WP.box rfl rfl rfl rfl rfl rfl ?_
  intro g1
  refine WP.box rfl rfl rfl rfl rfl rfl ?_
  intro g2
  refine WP.al tysOk rfl rfl rfl rfl rfl rfl ?_
  intro g3
  iterate 2 (refine WP.sx tysOk rfl ⟨⟨⟩, ⟨⟩⟩ ?_)
  refine WP.lx tysOk rfl ⟨⟩ (CellAt.blk (.tail (.tail .head)) rfl) ?_
  refine WP.sx tysOk rfl ⟨⟨⟩, ⟨⟩⟩ ?_
  refine WP.lx tysOk rfl ⟨⟩ (CellAt.blk (.tail .head) rfl) ?_
  obtain ⟨hj1, h⟩ := ck_some h
  refine WP.ixA tysOk rfl ⟨⟩ rfl rfl rfl rfl rfl rfl rfl rfl hj1 (hs2.ex hj1) ?_
  intro b1 b1v hA1
  refine WP.mx_ tysOk rfl ⟨⟩ (hs2.seg hA1 (Held.sub (Held.mem (List.Mem.tail _ (List.Mem.tail _ (List.Mem.tail _ (List.Mem.head _))))) hZ) hj1) ?_
  refine WP.al tysOk rfl rfl rfl rfl rfl rfl ?_
  intro g4
  refine WP.sto' tysOk [iv ((gt i1.arcs x1.b).src), iv ((gt i1.arcs x1.b).dst), iv ((gt i1.arcs x1.b).low), iv ((gt i1.arcs x1.b).cap), iv ((gt i1.arcs x1.b).cost)] rfl rfl rfl rfl rfl rfl rfl rfl rfl .head rfl rfl ?_
  refine WP.mx_ tysOk rfl ⟨⟩ (SegAt.blk' (.tail (.tail (.tail .head))) rfl) ?_
  obtain ⟨r1, hg1, h⟩ := bind_some h
  refine WP.callS (ref03_Copy_S r1) rfl rfl rfl rfl rfl rfl rfl (by kernel_rfl) (fun w1 hw1 => (ref03_Copy_w hg1 (InsZ.mk_ ((hs1.le' ((Held.sub (Held.mem (List.Mem.tail _ (List.Mem.tail _ (List.Mem.tail _ (List.Mem.tail _ (List.Mem.head _)))))) hZ) _ _ hw1)).of) ((hs2.le' ((Held.sub (Held.mem (List.Mem.tail _ (List.Mem.tail _ (List.Mem.tail _ (List.Mem.tail _ (List.Mem.head _)))))) hZ) _ _ hw1)).of)) :)) ?_
  rintro _ _ ⟨A3, n1, c3, A4, n2, c4, rfl, hf1, hf2, rfl⟩
  refine WP.al tysOk rfl rfl rfl rfl rfl rfl ?_
  intro g5
  refine WP.sto' tysOk [.slice A3 n1 c3, .slice A4 n2 c4] rfl rfl rfl rfl rfl rfl rfl rfl rfl .head rfl rfl ?_
  obtain ⟨r2, hg2, h⟩ := bind_some h
  obtain ⟨hj2, h⟩ := ck_some h
  obtain ⟨hj3, h⟩ := ck_some h
  refine WP.drawL 16 [(5, [], fun _ => constSpec (iv r2))] rfl (by kernel_rfl) (by kernel_rfl) (by kernel_rfl) ?_
  refine WP.sx tysOk rfl ⟨⟨⟨rfl, rfl⟩, rfl⟩, ⟨⟩⟩ ?_
  refine WP.lx tysOk rfl ⟨⟨rfl, rfl⟩, rfl⟩ (CellAt.blk .head rfl) ?_
  refine WP.mx_ tysOk rfl ⟨⟨rfl, rfl⟩, rfl⟩ (SegAt.blk' (.tail (.tail (.tail .head))) rfl) ?_
  refine WP.sx tysOk rfl ⟨⟨⟨rfl, rfl⟩, rfl⟩, ⟨⟩⟩ ?_
  refine WP.lx tysOk rfl ⟨⟨rfl, rfl⟩, rfl⟩ (CellAt.blk (.tail (.tail (.tail (.tail (.tail .head))))) rfl) ?_
  refine WP.callV rfl rfl rfl rfl rfl rfl rfl (by kernel_rfl) (fun w1 hw1 => (ref18_Ends_w hg2  :)) ⟨⟨rfl, rfl⟩, rfl⟩ ?_
  refine WP.ixO tysOk rfl ⟨⟨rfl, rfl⟩, rfl⟩ rfl rfl rfl rfl rfl rfl rfl rfl hf1 hj2 ?_
  intro b2 hA2
  refine WP.lx tysOk rfl ⟨⟨rfl, rfl⟩, rfl⟩ (OwS.at0 (.tail .head) hA2 hj2 rfl) ?_
  refine WP.sx tysOk rfl ⟨⟨⟨rfl, rfl⟩, rfl⟩, ⟨⟩⟩ ?_
  refine WP.lx tysOk rfl ⟨⟨rfl, rfl⟩, rfl⟩ (CellAt.blk (.tail (.tail (.tail (.tail (.tail (.tail .head)))))) rfl) ?_
  refine WP.sx tysOk rfl ⟨⟨⟨rfl, rfl⟩, rfl⟩, ⟨⟩⟩ ?_
  refine WP.lx tysOk rfl ⟨⟨rfl, rfl⟩, rfl⟩ (CellAt.blk (.tail (.tail (.tail (.tail (.tail .head))))) rfl) ?_
  refine WP.ixA tysOk rfl ⟨⟨rfl, rfl⟩, rfl⟩ rfl rfl rfl rfl rfl rfl rfl rfl hj3 (hs1.ex hj3) ?_
  intro b3 b3v hA3
  refine WP.lx tysOk rfl ⟨⟨rfl, rfl⟩, rfl⟩ (hs1.at0 hA3 (Held.sub (Held.mem (List.Mem.tail _ (List.Mem.tail _ (List.Mem.tail _ (List.Mem.tail _ (List.Mem.tail _ (List.Mem.tail _ (List.Mem.tail _ (List.Mem.head _))))))))) hZ) hj3 rfl) ?_
  refine WP.sx tysOk rfl ⟨⟨⟨rfl, rfl⟩, rfl⟩, ⟨⟩⟩ ?_
  refine WP.ixO tysOk rfl ⟨⟨rfl, rfl⟩, rfl⟩ rfl rfl rfl rfl rfl rfl rfl rfl hf1 hj2 ?_
  intro b4 hA4
  refine WP.lend rfl ⟨rfl, rfl⟩ ?_
  obtain ⟨xs1, hx1, h⟩ := lt_some h
  refine WP.stoO (f := (fI .i64)) 0 (w64 ((gt r1.supply r2) + (gt i1.supply x1.node))) tysOk rfl rfl rfl rfl rfl rfl rfl rfl rfl (.tail .head) hA4 hf1 hj2 rfl rfl rfl hx1 ?_
  intro hf3
  refine WP.sx tysOk rfl ⟨⟨⟩, ⟨⟩⟩ ?_
  refine WP.lx tysOk rfl ⟨⟩ (CellAt.blk (.tail .head) rfl) ?_
  refine WP.sx tysOk rfl ⟨⟨⟩, ⟨⟩⟩ ?_
  refine WP.mx_ tysOk rfl ⟨⟩ (SegAt.blk' (.tail (.tail (.tail (.tail (.tail .head))))) rfl) ?_
  refine WP.bsO (f := fA) [x1.new] tysOk rfl rfl rfl rfl rfl rfl rfl rfl rfl rfl rfl rfl rfl rfl ?_
  intro g6 hf4
  obtain ⟨hl1, h⟩ := ck_some h
  obtain ⟨xs2, hz1, h⟩ := lt_some h
  refine WP.appO (f := fA) (xs := r1.arcs) (ys := [x1.new]) tysOk rfl rfl rfl rfl rfl rfl rfl rfl rfl rfl rfl rfl (.tail (.tail (.tail .head))) hf2 hf4.len (OwS.app .head hf4) hl1 hz1 ?_
  intro A5 c5 hf5
  refine WP.sx tysOk rfl ⟨⟨⟩, ⟨⟩⟩ ?_
  refine WP.sto' tysOk [.slice A3 n1 c3, .slice A5 xs2.length c5] rfl rfl rfl rfl rfl rfl rfl rfl rfl (.tail (.tail (.tail .head))) rfl rfl ?_
  refine WP.sx tysOk rfl ⟨⟨⟩, ⟨⟩⟩ ?_
  refine WP.lx tysOk rfl ⟨⟩ (CellAt.blk .head rfl) ?_
  refine WP.lenO (xs := xs1) tysOk rfl ⟨⟩ rfl rfl rfl rfl rfl rfl hf3 ?_
  obtain ⟨hm1, h⟩ := ck_some h
  refine WP.mkO (f := fB) false tysOk rfl rfl rfl rfl rfl rfl rfl rfl rfl rfl rfl rfl hm1 ?_
  intro g7 hf6
  iterate 3 (refine WP.sx tysOk rfl ⟨⟨⟩, ⟨⟩⟩ ?_)
  refine WP.lx tysOk rfl ⟨⟩ (CellAt.blk (.tail (.tail (.tail (.tail (.tail (.tail (.tail .head))))))) rfl) ?_
  obtain ⟨hj4, h⟩ := ck_some h
  refine WP.ixO tysOk rfl ⟨⟩ rfl rfl rfl rfl rfl rfl rfl rfl hf6 hj4 ?_
  intro b5 hA5
  obtain ⟨xs3, hx2, h⟩ := lt_some h
  refine WP.stoO (f := fB) 0 true tysOk rfl rfl rfl rfl rfl rfl rfl rfl rfl .head hA5 hf6 hj4 rfl rfl rfl hx2 ?_
  intro hf7
  obtain ⟨r_o3_4_1, hg_o3_4_1, h⟩ := bind_some h
  obtain ⟨r_o3_8_1, hg_o3_8_1, h⟩ := bind_some h
  obtain ⟨r_o3_9_1, hg_o3_9_1, h⟩ := bind_some h
  refine WP.join (α := (Option Addr) × Nat × Nat × (Option Addr) × Nat × Nat × PH × PH × PH × (Option Addr) × Nat × (Option Addr) × Nat × (Option Addr) × Nat × (Option Addr) × Nat × Nat) (fun x => OwF x.1 x.2.1 r_o3_4_1.supply ∧ OwF x.2.2.2.1 x.2.2.2.2.1 r_o3_4_1.arcs ∧ FzS (fI .i64) x.2.2.2.2.2.2.1 x.1 x.2.2.1 r_o3_4_1.supply ∧ FzS fA x.2.2.2.2.2.2.2.1 x.2.2.2.1 x.2.2.2.2.2.1 r_o3_4_1.arcs ∧ FzS (fI .i64) (PH.or (PH.or (PH.or Z x.2.2.2.2.2.2.1) x.2.2.2.2.2.2.2.1) x.2.2.2.2.2.2.2.2.1) x.2.2.2.2.2.2.2.2.2.1 x.2.2.2.2.2.2.2.2.2.2.1 r_o3_9_1.1.inst.supply ∧ FzS fA (PH.or (PH.or (PH.or Z x.2.2.2.2.2.2.1) x.2.2.2.2.2.2.2.1) x.2.2.2.2.2.2.2.2.1) x.2.2.2.2.2.2.2.2.2.2.2.1 x.2.2.2.2.2.2.2.2.2.2.2.2.1 r_o3_9_1.1.inst.arcs ∧ FzS (fI .i64) (PH.or (PH.or (PH.or Z x.2.2.2.2.2.2.1) x.2.2.2.2.2.2.2.1) x.2.2.2.2.2.2.2.2.1) x.2.2.2.2.2.2.2.2.2.2.2.2.2.1 x.2.2.2.2.2.2.2.2.2.2.2.2.2.2.1 r_o3_9_1.1.rcd.was.supply ∧ FzS fA (PH.or (PH.or (PH.or Z x.2.2.2.2.2.2.1) x.2.2.2.2.2.2.2.1) x.2.2.2.2.2.2.2.2.1) x.2.2.2.2.2.2.2.2.2.2.2.2.2.2.2.1 x.2.2.2.2.2.2.2.2.2.2.2.2.2.2.2.2.1 r_o3_9_1.1.rcd.was.arcs) (fun x => [(8, .pointer (some ⟨g3, 0, none⟩)), (13, .pointer (some ⟨x.2.2.2.2.2.2.2.2.2.2.2.2.2.2.2.2.2, 0, none⟩)), (14, iv r_o3_9_1.2)]) (fun x => [.blk x.2.2.2.2.2.2.2.2.2.2.2.2.2.2.2.2.2 48 [.slice x.2.2.2.2.2.2.2.2.2.1 r_o3_9_1.1.inst.supply.length x.2.2.2.2.2.2.2.2.2.2.1, .slice x.2.2.2.2.2.2.2.2.2.2.2.1 r_o3_9_1.1.inst.arcs.length x.2.2.2.2.2.2.2.2.2.2.2.2.1, iv r_o3_9_1.1.rcd.pass, .slice x.2.2.2.2.2.2.2.2.2.2.2.2.2.1 r_o3_9_1.1.rcd.was.supply.length x.2.2.2.2.2.2.2.2.2.2.2.2.2.2.1, .slice x.2.2.2.2.2.2.2.2.2.2.2.2.2.2.2.1 r_o3_9_1.1.rcd.was.arcs.length x.2.2.2.2.2.2.2.2.2.2.2.2.2.2.2.2.1, iv r_o3_9_1.1.off.hi, .int .u64 (r_o3_9_1.1.off.lo), .bool (r_o3_9_1.1.did)], .fz x.2.2.2.2.2.2.2.2.1, .fz x.2.2.2.2.2.2.2.1, .fz x.2.2.2.2.2.2.1, Ow fB 4 (some ⟨g7, 0, none⟩) ((xs1.length : Int).toNat) ((xs1.length : Int).toNat) xs3, .blk g5 25 [.slice A3 n1 c3, .slice A5 xs2.length c5], Ow fA 34 A5 xs2.length c5 xs2, Ow fA 34 (some ⟨g6, 0, none⟩) 1 1 ([x1.new]), Ow (fI .i64) 2 A3 n1 c3 xs1, .blk g4 34 [iv ((gt i1.arcs x1.b).src), iv ((gt i1.arcs x1.b).dst), iv ((gt i1.arcs x1.b).low), iv ((gt i1.arcs x1.b).cap), iv ((gt i1.arcs x1.b).cost)], .blk g3 48 [.slice none 0 0, .slice none 0 0, iv 0, .slice none 0 0, .slice none 0 0, iv 0, .int .u64 (0), .bool (false)], .blk g2 56 [iv x1.node, iv x1.a, iv x1.b, iv x1.new.src, iv x1.new.dst, iv x1.new.low, iv x1.new.cap, iv x1.new.cost], .blk g1 25 [.slice A1 i1.supply.length c1, .slice A2 i1.arcs.length c2], .fz (PH.of w)]) rfl ?_ ?_
  ·refine WP.drawA rfl (by kernel_rfl) ?_
   refine WP.cutF (α := (Option Addr) × Nat × Nat × (Option Addr) × Nat × Nat) (fun x => OwF x.1 x.2.1 r_o3_4_1.supply ∧ OwF x.2.2.2.1 x.2.2.2.2.1 r_o3_4_1.arcs) #[true, true, true, true, true, true, true, true, true, false, false, false, false, false, false, false] 7 (fun x => [(8, .pointer (some ⟨g3, 0, none⟩)), (55, iv d1), (56, .agg #[.slice A1 i1.supply.length c1, .slice A2 i1.arcs.length c2]), (59, .agg #[.slice x.1 x.2.1 x.2.2.1, .slice x.2.2.2.1 x.2.2.2.2.1 x.2.2.2.2.2]), (63, .agg #[iv r_o3_8_1.hi, .int .u64 (r_o3_8_1.lo)])]) (fun x => [Ow (fI .i64) 2 x.1 x.2.1 x.2.2.1 r_o3_4_1.supply, Ow fA 34 x.2.2.2.1 x.2.2.2.2.1 x.2.2.2.2.2 r_o3_4_1.arcs, Ow fB 4 (some ⟨g7, 0, none⟩) ((xs1.length : Int).toNat) ((xs1.length : Int).toNat) xs3, .blk g5 25 [.slice A3 n1 c3, .slice A5 xs2.length c5], Ow fA 34 A5 xs2.length c5 xs2, Ow fA 34 (some ⟨g6, 0, none⟩) 1 1 ([x1.new]), Ow (fI .i64) 2 A3 n1 c3 xs1, .blk g4 34 [iv ((gt i1.arcs x1.b).src), iv ((gt i1.arcs x1.b).dst), iv ((gt i1.arcs x1.b).low), iv ((gt i1.arcs x1.b).cap), iv ((gt i1.arcs x1.b).cost)], .blk g3 48 [.slice none 0 0, .slice none 0 0, iv 0, .slice none 0 0, .slice none 0 0, iv 0, .int .u64 (0), .bool (false)], .blk g2 56 [iv x1.node, iv x1.a, iv x1.b, iv x1.new.src, iv x1.new.dst, iv x1.new.low, iv x1.new.cap, iv x1.new.cost], .blk g1 25 [.slice A1 i1.supply.length c1, .slice A2 i1.arcs.length c2], .fz (PH.of w)]) rfl ?_ ?_
   ·rintro ⟨A_o3_4_1, n_o3_4_1, c_o3_4_1, A_o3_4_2, n_o3_4_2, c_o3_4_2⟩ ⟨hf_o3_4_1, hf_o3_4_2⟩
    dsimp only at hf_o3_4_1 hf_o3_4_2 ⊢
    refine WP.any2 9 13 rfl (by kernel_rfl) rfl rfl ?_ ?_
    ·refine WP.freezeO .head hf_o3_4_1 ?_
     intro Zp_o3_9_1 hz_o3_9_1
     refine WP.freezeO (.tail .head) hf_o3_4_2 ?_
     intro Zp_o3_9_2 hz_o3_9_2
     refine WP.callS (ref15_Done_S (PH.or (PH.or Z Zp_o3_9_1) Zp_o3_9_2) r_o3_9_1) rfl rfl rfl rfl rfl rfl rfl (by kernel_rfl) (fun w1 hw1 => (ref15_Done_w (Z := (PH.or (PH.or Z Zp_o3_9_1) Zp_o3_9_2)) ((Held.or (Held.or (Held.sub (Held.mem (List.Mem.tail _ (List.Mem.tail _ (List.Mem.tail _ (List.Mem.tail _ (List.Mem.tail _ (List.Mem.tail _ (List.Mem.tail _ (List.Mem.tail _ (List.Mem.tail _ (List.Mem.tail _ (List.Mem.tail _ (List.Mem.head _))))))))))))) hZ) (Held.mem (List.Mem.tail _ (List.Mem.head _)))) (Held.mem (List.Mem.head _))) _ _ hw1) hg_o3_9_1 (InsZ.mk_ ((hs1.le' (PH.le.trans (PH.le.trans PH.le.rfl_ (PH.le_or _ _)) (PH.le_or _ _))).of) ((hs2.le' (PH.le.trans (PH.le.trans PH.le.rfl_ (PH.le_or _ _)) (PH.le_or _ _))).of)) (InsZ.mk_ (SlF.of_n (hz_o3_9_1.le' (PH.le.trans (PH.ri_or ((Held.sub (Held.mem (List.Mem.tail _ (List.Mem.tail _ (List.Mem.tail _ (List.Mem.tail _ (List.Mem.tail _ (List.Mem.tail _ (List.Mem.tail _ (List.Mem.tail _ (List.Mem.tail _ (List.Mem.tail _ (List.Mem.tail _ (List.Mem.head _))))))))))))) hZ) _ _ hw1) ((Held.mem (List.Mem.tail _ (List.Mem.head _))) _ _ hw1)) (PH.le_or _ _))) hf_o3_4_1) (SlF.of_n (hz_o3_9_2.le' (PH.ri_or ((Held.or (Held.sub (Held.mem (List.Mem.tail _ (List.Mem.tail _ (List.Mem.tail _ (List.Mem.tail _ (List.Mem.tail _ (List.Mem.tail _ (List.Mem.tail _ (List.Mem.tail _ (List.Mem.tail _ (List.Mem.tail _ (List.Mem.tail _ (List.Mem.head _))))))))))))) hZ) (Held.mem (List.Mem.tail _ (List.Mem.head _)))) _ _ hw1) ((Held.mem (List.Mem.head _)) _ _ hw1))) hf_o3_4_2)) :)) ?_
     rintro _ _ ⟨Zn_o3_9_1, A_o3_9_1, _, c_o3_9_1, A_o3_9_2, _, c_o3_9_2, A_o3_9_3, _, c_o3_9_3, A_o3_9_4, _, c_o3_9_4, rfl, rfl, rfl, rfl, rfl, hs_o3_9_1, hs_o3_9_2, hs_o3_9_3, hs_o3_9_4, rfl⟩
     refine WP.anyP 10 tysOk putInv_body rfl rfl rfl (by kernel_rfl) (by kernel_rfl) rfl rfl rfl rfl rfl True.intro ?_
     refine WP.anyP 11 tysOk putInv_body rfl rfl rfl (by kernel_rfl) (by kernel_rfl) rfl rfl rfl rfl rfl True.intro ?_
     refine WP.anyP 12 tysOk putInv_body rfl rfl rfl (by kernel_rfl) (by kernel_rfl) rfl rfl rfl rfl rfl True.intro ?_
     refine WP.any1 13 rfl (by kernel_rfl) rfl ?_
     refine WP.al tysOk rfl rfl rfl rfl rfl rfl ?_
     intro g_o3_13_1
     refine WP.any1 14 rfl (by kernel_rfl) rfl ?_
     refine WP.sto' tysOk [.slice A_o3_9_1 r_o3_9_1.1.inst.supply.length c_o3_9_1, .slice A_o3_9_2 r_o3_9_1.1.inst.arcs.length c_o3_9_2, iv r_o3_9_1.1.rcd.pass, .slice A_o3_9_3 r_o3_9_1.1.rcd.was.supply.length c_o3_9_3, .slice A_o3_9_4 r_o3_9_1.1.rcd.was.arcs.length c_o3_9_4, iv r_o3_9_1.1.off.hi, .int .u64 (r_o3_9_1.1.off.lo), .bool (r_o3_9_1.1.did)] rfl rfl rfl rfl rfl rfl rfl rfl rfl .head rfl rfl ?_
     refine WP.anyP 15 tysOk putInv_body rfl rfl rfl (by kernel_rfl) (by kernel_rfl) rfl rfl rfl rfl rfl True.intro ?_
     refine WP.any0 rfl (by kernel_rfl) ?_
     refine WP.stop rfl (A_o3_4_1, n_o3_4_1, c_o3_4_1, A_o3_4_2, n_o3_4_2, c_o3_4_2, Zp_o3_9_1, Zp_o3_9_2, Zn_o3_9_1, A_o3_9_1, c_o3_9_1, A_o3_9_2, c_o3_9_2, A_o3_9_3, c_o3_9_3, A_o3_9_4, c_o3_9_4, g_o3_13_1) ⟨hf_o3_4_1, hf_o3_4_2, hz_o3_9_1, hz_o3_9_2, hs_o3_9_1, hs_o3_9_2, hs_o3_9_3, hs_o3_9_4⟩ ?_ ?_
     ·repeat first | exact ⟨⟩ | refine ⟨rfl, ?_⟩
     exact (.cons .head (.cons .head (.cons .head (.cons .head (.cons .head (.cons .head (.cons .head (.cons .head (.cons .head (.cons .head (.cons .head (.cons .head (.cons .head (.cons .head .nil))))))))))))))
    refine WP.al tysOk rfl rfl rfl rfl rfl rfl ?_
    intro g_o3_13_1
    refine WP.any1 9 rfl (by kernel_rfl) rfl ?_
    refine WP.freezeO (.tail .head) hf_o3_4_1 ?_
    intro Zp_o3_9_1 hz_o3_9_1
    refine WP.freezeO (.tail (.tail .head)) hf_o3_4_2 ?_
    intro Zp_o3_9_2 hz_o3_9_2
    refine WP.callS (ref15_Done_S (PH.or (PH.or Z Zp_o3_9_1) Zp_o3_9_2) r_o3_9_1) rfl rfl rfl rfl rfl rfl rfl (by kernel_rfl) (fun w1 hw1 => (ref15_Done_w (Z := (PH.or (PH.or Z Zp_o3_9_1) Zp_o3_9_2)) ((Held.or (Held.or (Held.sub (Held.mem (List.Mem.tail _ (List.Mem.tail _ (List.Mem.tail _ (List.Mem.tail _ (List.Mem.tail _ (List.Mem.tail _ (List.Mem.tail _ (List.Mem.tail _ (List.Mem.tail _ (List.Mem.tail _ (List.Mem.tail _ (List.Mem.tail _ (List.Mem.head _)))))))))))))) hZ) (Held.mem (List.Mem.tail _ (List.Mem.head _)))) (Held.mem (List.Mem.head _))) _ _ hw1) hg_o3_9_1 (InsZ.mk_ ((hs1.le' (PH.le.trans (PH.le.trans PH.le.rfl_ (PH.le_or _ _)) (PH.le_or _ _))).of) ((hs2.le' (PH.le.trans (PH.le.trans PH.le.rfl_ (PH.le_or _ _)) (PH.le_or _ _))).of)) (InsZ.mk_ (SlF.of_n (hz_o3_9_1.le' (PH.le.trans (PH.ri_or ((Held.sub (Held.mem (List.Mem.tail _ (List.Mem.tail _ (List.Mem.tail _ (List.Mem.tail _ (List.Mem.tail _ (List.Mem.tail _ (List.Mem.tail _ (List.Mem.tail _ (List.Mem.tail _ (List.Mem.tail _ (List.Mem.tail _ (List.Mem.tail _ (List.Mem.head _)))))))))))))) hZ) _ _ hw1) ((Held.mem (List.Mem.tail _ (List.Mem.head _))) _ _ hw1)) (PH.le_or _ _))) hf_o3_4_1) (SlF.of_n (hz_o3_9_2.le' (PH.ri_or ((Held.or (Held.sub (Held.mem (List.Mem.tail _ (List.Mem.tail _ (List.Mem.tail _ (List.Mem.tail _ (List.Mem.tail _ (List.Mem.tail _ (List.Mem.tail _ (List.Mem.tail _ (List.Mem.tail _ (List.Mem.tail _ (List.Mem.tail _ (List.Mem.tail _ (List.Mem.head _)))))))))))))) hZ) (Held.mem (List.Mem.tail _ (List.Mem.head _)))) _ _ hw1) ((Held.mem (List.Mem.head _)) _ _ hw1))) hf_o3_4_2)) :)) ?_
    rintro _ _ ⟨Zn_o3_9_1, A_o3_9_1, _, c_o3_9_1, A_o3_9_2, _, c_o3_9_2, A_o3_9_3, _, c_o3_9_3, A_o3_9_4, _, c_o3_9_4, rfl, rfl, rfl, rfl, rfl, hs_o3_9_1, hs_o3_9_2, hs_o3_9_3, hs_o3_9_4, rfl⟩
    refine WP.anyP 10 tysOk putInv_body rfl rfl rfl (by kernel_rfl) (by kernel_rfl) rfl rfl rfl rfl rfl True.intro ?_
    refine WP.anyP 11 tysOk putInv_body rfl rfl rfl (by kernel_rfl) (by kernel_rfl) rfl rfl rfl rfl rfl True.intro ?_
    refine WP.anyP 12 tysOk putInv_body rfl rfl rfl (by kernel_rfl) (by kernel_rfl) rfl rfl rfl rfl rfl True.intro ?_
    refine WP.any1 14 rfl (by kernel_rfl) rfl ?_
    refine WP.sto' tysOk [.slice A_o3_9_1 r_o3_9_1.1.inst.supply.length c_o3_9_1, .slice A_o3_9_2 r_o3_9_1.1.inst.arcs.length c_o3_9_2, iv r_o3_9_1.1.rcd.pass, .slice A_o3_9_3 r_o3_9_1.1.rcd.was.supply.length c_o3_9_3, .slice A_o3_9_4 r_o3_9_1.1.rcd.was.arcs.length c_o3_9_4, iv r_o3_9_1.1.off.hi, .int .u64 (r_o3_9_1.1.off.lo), .bool (r_o3_9_1.1.did)] rfl rfl rfl rfl rfl rfl rfl rfl rfl (.tail (.tail (.tail .head))) rfl rfl ?_
    refine WP.anyP 15 tysOk putInv_body rfl rfl rfl (by kernel_rfl) (by kernel_rfl) rfl rfl rfl rfl rfl True.intro ?_
    refine WP.any0 rfl (by kernel_rfl) ?_
    refine WP.stop rfl (A_o3_4_1, n_o3_4_1, c_o3_4_1, A_o3_4_2, n_o3_4_2, c_o3_4_2, Zp_o3_9_1, Zp_o3_9_2, Zn_o3_9_1, A_o3_9_1, c_o3_9_1, A_o3_9_2, c_o3_9_2, A_o3_9_3, c_o3_9_3, A_o3_9_4, c_o3_9_4, g_o3_13_1) ⟨hf_o3_4_1, hf_o3_4_2, hz_o3_9_1, hz_o3_9_2, hs_o3_9_1, hs_o3_9_2, hs_o3_9_3, hs_o3_9_4⟩ ?_ ?_
    ·repeat first | exact ⟨⟩ | refine ⟨rfl, ?_⟩
    exact (.cons .head (.cons .head (.cons .head (.cons .head (.cons .head (.cons .head (.cons .head (.cons .head (.cons .head (.cons .head (.cons .head (.cons .head (.cons .head (.cons .head .nil))))))))))))))
   intro mm1
   refine WP.cutF (α := (Option Addr) × Nat × Nat × (Option Addr) × Nat × Nat × Nat) (fun x => OwF x.1 x.2.1 r_o3_4_1.supply ∧ OwF x.2.2.2.1 x.2.2.2.2.1 r_o3_4_1.arcs) #[true, true, true, true, true, true, true, true, false, false, false, false, false, true, false, false] 7 (fun x => [(8, .pointer (some ⟨g3, 0, none⟩)), (13, .pointer (some ⟨x.2.2.2.2.2.2, 0, none⟩)), (55, iv d1), (56, .agg #[.slice A1 i1.supply.length c1, .slice A2 i1.arcs.length c2]), (59, .agg #[.slice x.1 x.2.1 x.2.2.1, .slice x.2.2.2.1 x.2.2.2.2.1 x.2.2.2.2.2.1]), (60, iv x2), (62, iv ((gt i1.arcs x1.b).cost))]) (fun x => [.blk x.2.2.2.2.2.2 48 [.slice none 0 0, .slice none 0 0, iv 0, .slice none 0 0, .slice none 0 0, iv 0, .int .u64 (0), .bool (false)], Ow (fI .i64) 2 x.1 x.2.1 x.2.2.1 r_o3_4_1.supply, Ow fA 34 x.2.2.2.1 x.2.2.2.2.1 x.2.2.2.2.2.1 r_o3_4_1.arcs, Ow fB 4 (some ⟨g7, 0, none⟩) ((xs1.length : Int).toNat) ((xs1.length : Int).toNat) xs3, .blk g5 25 [.slice A3 n1 c3, .slice A5 xs2.length c5], Ow fA 34 A5 xs2.length c5 xs2, Ow fA 34 (some ⟨g6, 0, none⟩) 1 1 ([x1.new]), Ow (fI .i64) 2 A3 n1 c3 xs1, .blk g4 34 [iv ((gt i1.arcs x1.b).src), iv ((gt i1.arcs x1.b).dst), iv ((gt i1.arcs x1.b).low), iv ((gt i1.arcs x1.b).cap), iv ((gt i1.arcs x1.b).cost)], .blk g3 48 [.slice none 0 0, .slice none 0 0, iv 0, .slice none 0 0, .slice none 0 0, iv 0, .int .u64 (0), .bool (false)], .blk g2 56 [iv x1.node, iv x1.a, iv x1.b, iv x1.new.src, iv x1.new.dst, iv x1.new.low, iv x1.new.cap, iv x1.new.cost], .blk g1 25 [.slice A1 i1.supply.length c1, .slice A2 i1.arcs.length c2], .fz (PH.of w)]) rfl ?_ ?_
   ·rintro ⟨A_o3_4_1, n_o3_4_1, c_o3_4_1, A_o3_4_2, n_o3_4_2, c_o3_4_2, g_o3_13_1⟩ ⟨hf_o3_4_1, hf_o3_4_2⟩
    dsimp only at hf_o3_4_1 hf_o3_4_2 ⊢
    refine WP.any1 8 rfl (by kernel_rfl) rfl ?_
    refine WP.callV rfl rfl rfl rfl rfl rfl rfl (by kernel_rfl) (fun w1 hw1 => (ref01_Times_w hg_o3_8_1  :)) ⟨⟩ ?_
    refine WP.any1 9 rfl (by kernel_rfl) rfl ?_
    refine WP.freezeO (.tail .head) hf_o3_4_1 ?_
    intro Zp_o3_9_1 hz_o3_9_1
    refine WP.freezeO (.tail (.tail .head)) hf_o3_4_2 ?_
    intro Zp_o3_9_2 hz_o3_9_2
    refine WP.callS (ref15_Done_S (PH.or (PH.or Z Zp_o3_9_1) Zp_o3_9_2) r_o3_9_1) rfl rfl rfl rfl rfl rfl rfl (by kernel_rfl) (fun w1 hw1 => (ref15_Done_w (Z := (PH.or (PH.or Z Zp_o3_9_1) Zp_o3_9_2)) ((Held.or (Held.or (Held.sub (Held.mem (List.Mem.tail _ (List.Mem.tail _ (List.Mem.tail _ (List.Mem.tail _ (List.Mem.tail _ (List.Mem.tail _ (List.Mem.tail _ (List.Mem.tail _ (List.Mem.tail _ (List.Mem.tail _ (List.Mem.tail _ (List.Mem.tail _ (List.Mem.head _)))))))))))))) hZ) (Held.mem (List.Mem.tail _ (List.Mem.head _)))) (Held.mem (List.Mem.head _))) _ _ hw1) hg_o3_9_1 (InsZ.mk_ ((hs1.le' (PH.le.trans (PH.le.trans PH.le.rfl_ (PH.le_or _ _)) (PH.le_or _ _))).of) ((hs2.le' (PH.le.trans (PH.le.trans PH.le.rfl_ (PH.le_or _ _)) (PH.le_or _ _))).of)) (InsZ.mk_ (SlF.of_n (hz_o3_9_1.le' (PH.le.trans (PH.ri_or ((Held.sub (Held.mem (List.Mem.tail _ (List.Mem.tail _ (List.Mem.tail _ (List.Mem.tail _ (List.Mem.tail _ (List.Mem.tail _ (List.Mem.tail _ (List.Mem.tail _ (List.Mem.tail _ (List.Mem.tail _ (List.Mem.tail _ (List.Mem.tail _ (List.Mem.head _)))))))))))))) hZ) _ _ hw1) ((Held.mem (List.Mem.tail _ (List.Mem.head _))) _ _ hw1)) (PH.le_or _ _))) hf_o3_4_1) (SlF.of_n (hz_o3_9_2.le' (PH.ri_or ((Held.or (Held.sub (Held.mem (List.Mem.tail _ (List.Mem.tail _ (List.Mem.tail _ (List.Mem.tail _ (List.Mem.tail _ (List.Mem.tail _ (List.Mem.tail _ (List.Mem.tail _ (List.Mem.tail _ (List.Mem.tail _ (List.Mem.tail _ (List.Mem.tail _ (List.Mem.head _)))))))))))))) hZ) (Held.mem (List.Mem.tail _ (List.Mem.head _)))) _ _ hw1) ((Held.mem (List.Mem.head _)) _ _ hw1))) hf_o3_4_2)) :)) ?_
    rintro _ _ ⟨Zn_o3_9_1, A_o3_9_1, _, c_o3_9_1, A_o3_9_2, _, c_o3_9_2, A_o3_9_3, _, c_o3_9_3, A_o3_9_4, _, c_o3_9_4, rfl, rfl, rfl, rfl, rfl, hs_o3_9_1, hs_o3_9_2, hs_o3_9_3, hs_o3_9_4, rfl⟩
    refine WP.anyP 10 tysOk putInv_body rfl rfl rfl (by kernel_rfl) (by kernel_rfl) rfl rfl rfl rfl rfl True.intro ?_
    refine WP.anyP 11 tysOk putInv_body rfl rfl rfl (by kernel_rfl) (by kernel_rfl) rfl rfl rfl rfl rfl True.intro ?_
    refine WP.anyP 12 tysOk putInv_body rfl rfl rfl (by kernel_rfl) (by kernel_rfl) rfl rfl rfl rfl rfl True.intro ?_
    refine WP.any1 14 rfl (by kernel_rfl) rfl ?_
    refine WP.sto' tysOk [.slice A_o3_9_1 r_o3_9_1.1.inst.supply.length c_o3_9_1, .slice A_o3_9_2 r_o3_9_1.1.inst.arcs.length c_o3_9_2, iv r_o3_9_1.1.rcd.pass, .slice A_o3_9_3 r_o3_9_1.1.rcd.was.supply.length c_o3_9_3, .slice A_o3_9_4 r_o3_9_1.1.rcd.was.arcs.length c_o3_9_4, iv r_o3_9_1.1.off.hi, .int .u64 (r_o3_9_1.1.off.lo), .bool (r_o3_9_1.1.did)] rfl rfl rfl rfl rfl rfl rfl rfl rfl (.tail (.tail (.tail .head))) rfl rfl ?_
    refine WP.anyP 15 tysOk putInv_body rfl rfl rfl (by kernel_rfl) (by kernel_rfl) rfl rfl rfl rfl rfl True.intro ?_
    refine WP.any0 rfl (by kernel_rfl) ?_
    refine WP.stop rfl (A_o3_4_1, n_o3_4_1, c_o3_4_1, A_o3_4_2, n_o3_4_2, c_o3_4_2, Zp_o3_9_1, Zp_o3_9_2, Zn_o3_9_1, A_o3_9_1, c_o3_9_1, A_o3_9_2, c_o3_9_2, A_o3_9_3, c_o3_9_3, A_o3_9_4, c_o3_9_4, g_o3_13_1) ⟨hf_o3_4_1, hf_o3_4_2, hz_o3_9_1, hz_o3_9_2, hs_o3_9_1, hs_o3_9_2, hs_o3_9_3, hs_o3_9_4⟩ ?_ ?_
    ·repeat first | exact ⟨⟩ | refine ⟨rfl, ?_⟩
    exact (.cons .head (.cons .head (.cons .head (.cons .head (.cons .head (.cons .head (.cons .head (.cons .head (.cons .head (.cons .head (.cons .head (.cons .head (.cons .head (.cons .head .nil))))))))))))))
   intro mm2
   refine WP.cutF (α := (Option Addr) × Nat × Nat × (Option Addr) × Nat × Nat) (fun x => OwF x.1 x.2.1 r_o3_4_1.supply ∧ OwF x.2.2.2.1 x.2.2.2.2.1 r_o3_4_1.arcs) #[true, true, true, true, true, true, true, true, false, false, false, false, false, false, false, false] 8 (fun x => [(8, .pointer (some ⟨g3, 0, none⟩)), (55, iv d1), (56, .agg #[.slice A1 i1.supply.length c1, .slice A2 i1.arcs.length c2]), (59, .agg #[.slice x.1 x.2.1 x.2.2.1, .slice x.2.2.2.1 x.2.2.2.2.1 x.2.2.2.2.2]), (60, iv x2), (62, iv ((gt i1.arcs x1.b).cost))]) (fun x => [Ow (fI .i64) 2 x.1 x.2.1 x.2.2.1 r_o3_4_1.supply, Ow fA 34 x.2.2.2.1 x.2.2.2.2.1 x.2.2.2.2.2 r_o3_4_1.arcs, Ow fB 4 (some ⟨g7, 0, none⟩) ((xs1.length : Int).toNat) ((xs1.length : Int).toNat) xs3, .blk g5 25 [.slice A3 n1 c3, .slice A5 xs2.length c5], Ow fA 34 A5 xs2.length c5 xs2, Ow fA 34 (some ⟨g6, 0, none⟩) 1 1 ([x1.new]), Ow (fI .i64) 2 A3 n1 c3 xs1, .blk g4 34 [iv ((gt i1.arcs x1.b).src), iv ((gt i1.arcs x1.b).dst), iv ((gt i1.arcs x1.b).low), iv ((gt i1.arcs x1.b).cap), iv ((gt i1.arcs x1.b).cost)], .blk g3 48 [.slice none 0 0, .slice none 0 0, iv 0, .slice none 0 0, .slice none 0 0, iv 0, .int .u64 (0), .bool (false)], .blk g2 56 [iv x1.node, iv x1.a, iv x1.b, iv x1.new.src, iv x1.new.dst, iv x1.new.low, iv x1.new.cap, iv x1.new.cost], .blk g1 25 [.slice A1 i1.supply.length c1, .slice A2 i1.arcs.length c2], .fz (PH.of w)]) rfl ?_ ?_
   ·rintro ⟨A_o3_4_1, n_o3_4_1, c_o3_4_1, A_o3_4_2, n_o3_4_2, c_o3_4_2⟩ ⟨hf_o3_4_1, hf_o3_4_2⟩
    dsimp only at hf_o3_4_1 hf_o3_4_2 ⊢
    refine WP.any2 8 13 rfl (by kernel_rfl) rfl rfl ?_ ?_
    ·refine WP.callV rfl rfl rfl rfl rfl rfl rfl (by kernel_rfl) (fun w1 hw1 => (ref01_Times_w hg_o3_8_1  :)) ⟨⟩ ?_
     refine WP.useF mm1 (A_o3_4_1, n_o3_4_1, c_o3_4_1, A_o3_4_2, n_o3_4_2, c_o3_4_2) ⟨hf_o3_4_1, hf_o3_4_2⟩ rfl (by kernel_rfl) ?_ ?_
     ·repeat first | exact ⟨⟩ | refine ⟨rfl, ?_⟩
     exact (.cons .head (.cons .head (.cons .head (.cons .head (.cons .head (.cons .head (.cons .head (.cons .head (.cons .head (.cons .head (.cons .head (.cons .head .nil))))))))))))
    refine WP.al tysOk rfl rfl rfl rfl rfl rfl ?_
    intro g_o3_13_1
    refine WP.useF mm2 (A_o3_4_1, n_o3_4_1, c_o3_4_1, A_o3_4_2, n_o3_4_2, c_o3_4_2, g_o3_13_1) ⟨hf_o3_4_1, hf_o3_4_2⟩ rfl (by kernel_rfl) ?_ ?_
    ·repeat first | exact ⟨⟩ | refine ⟨rfl, ?_⟩
    exact (.cons .head (.cons .head (.cons .head (.cons .head (.cons .head (.cons .head (.cons .head (.cons .head (.cons .head (.cons .head (.cons .head (.cons .head (.cons .head .nil)))))))))))))
   intro mm3
   refine WP.cutF (α := (Option Addr) × Nat × Nat × (Option Addr) × Nat × Nat × Nat) (fun x => OwF x.1 x.2.1 r_o3_4_1.supply ∧ OwF x.2.2.2.1 x.2.2.2.2.1 r_o3_4_1.arcs) #[true, false, true, true, true, true, true, true, false, false, false, false, false, true, false, false] 8 (fun x => [(5, .pointer (some ⟨g1, 0, none⟩)), (8, .pointer (some ⟨g3, 0, none⟩)), (13, .pointer (some ⟨x.2.2.2.2.2.2, 0, none⟩)), (55, iv d1), (59, .agg #[.slice x.1 x.2.1 x.2.2.1, .slice x.2.2.2.1 x.2.2.2.2.1 x.2.2.2.2.2.1]), (60, iv x2), (62, iv ((gt i1.arcs x1.b).cost))]) (fun x => [.blk x.2.2.2.2.2.2 48 [.slice none 0 0, .slice none 0 0, iv 0, .slice none 0 0, .slice none 0 0, iv 0, .int .u64 (0), .bool (false)], Ow (fI .i64) 2 x.1 x.2.1 x.2.2.1 r_o3_4_1.supply, Ow fA 34 x.2.2.2.1 x.2.2.2.2.1 x.2.2.2.2.2.1 r_o3_4_1.arcs, Ow fB 4 (some ⟨g7, 0, none⟩) ((xs1.length : Int).toNat) ((xs1.length : Int).toNat) xs3, .blk g5 25 [.slice A3 n1 c3, .slice A5 xs2.length c5], Ow fA 34 A5 xs2.length c5 xs2, Ow fA 34 (some ⟨g6, 0, none⟩) 1 1 ([x1.new]), Ow (fI .i64) 2 A3 n1 c3 xs1, .blk g4 34 [iv ((gt i1.arcs x1.b).src), iv ((gt i1.arcs x1.b).dst), iv ((gt i1.arcs x1.b).low), iv ((gt i1.arcs x1.b).cap), iv ((gt i1.arcs x1.b).cost)], .blk g3 48 [.slice none 0 0, .slice none 0 0, iv 0, .slice none 0 0, .slice none 0 0, iv 0, .int .u64 (0), .bool (false)], .blk g2 56 [iv x1.node, iv x1.a, iv x1.b, iv x1.new.src, iv x1.new.dst, iv x1.new.low, iv x1.new.cap, iv x1.new.cost], .blk g1 25 [.slice A1 i1.supply.length c1, .slice A2 i1.arcs.length c2], .fz (PH.of w)]) rfl ?_ ?_
   ·rintro ⟨A_o3_4_1, n_o3_4_1, c_o3_4_1, A_o3_4_2, n_o3_4_2, c_o3_4_2, g_o3_13_1⟩ ⟨hf_o3_4_1, hf_o3_4_2⟩
    dsimp only at hf_o3_4_1 hf_o3_4_2 ⊢
    refine WP.any2 1 8 rfl (by kernel_rfl) rfl rfl ?_ ?_
    ·refine WP.mx_ tysOk rfl ⟨⟩ (SegAt.blk' (.tail (.tail (.tail (.tail (.tail (.tail (.tail (.tail (.tail (.tail (.tail .head))))))))))) rfl) ?_
     refine WP.useF mm2 (A_o3_4_1, n_o3_4_1, c_o3_4_1, A_o3_4_2, n_o3_4_2, c_o3_4_2, g_o3_13_1) ⟨hf_o3_4_1, hf_o3_4_2⟩ rfl (by kernel_rfl) ?_ ?_
     ·repeat first | exact ⟨⟩ | refine ⟨rfl, ?_⟩
     exact (.cons .head (.cons .head (.cons .head (.cons .head (.cons .head (.cons .head (.cons .head (.cons .head (.cons .head (.cons .head (.cons .head (.cons .head (.cons .head .nil)))))))))))))
    refine WP.callV rfl rfl rfl rfl rfl rfl rfl (by kernel_rfl) (fun w1 hw1 => (ref01_Times_w hg_o3_8_1  :)) ⟨⟩ ?_
    refine WP.any1 1 rfl (by kernel_rfl) rfl ?_
    refine WP.mx_ tysOk rfl ⟨⟩ (SegAt.blk' (.tail (.tail (.tail (.tail (.tail (.tail (.tail (.tail (.tail (.tail (.tail .head))))))))))) rfl) ?_
    refine WP.any1 9 rfl (by kernel_rfl) rfl ?_
    refine WP.freezeO (.tail .head) hf_o3_4_1 ?_
    intro Zp_o3_9_1 hz_o3_9_1
    refine WP.freezeO (.tail (.tail .head)) hf_o3_4_2 ?_
    intro Zp_o3_9_2 hz_o3_9_2
    refine WP.callS (ref15_Done_S (PH.or (PH.or Z Zp_o3_9_1) Zp_o3_9_2) r_o3_9_1) rfl rfl rfl rfl rfl rfl rfl (by kernel_rfl) (fun w1 hw1 => (ref15_Done_w (Z := (PH.or (PH.or Z Zp_o3_9_1) Zp_o3_9_2)) ((Held.or (Held.or (Held.sub (Held.mem (List.Mem.tail _ (List.Mem.tail _ (List.Mem.tail _ (List.Mem.tail _ (List.Mem.tail _ (List.Mem.tail _ (List.Mem.tail _ (List.Mem.tail _ (List.Mem.tail _ (List.Mem.tail _ (List.Mem.tail _ (List.Mem.tail _ (List.Mem.head _)))))))))))))) hZ) (Held.mem (List.Mem.tail _ (List.Mem.head _)))) (Held.mem (List.Mem.head _))) _ _ hw1) hg_o3_9_1 (InsZ.mk_ ((hs1.le' (PH.le.trans (PH.le.trans PH.le.rfl_ (PH.le_or _ _)) (PH.le_or _ _))).of) ((hs2.le' (PH.le.trans (PH.le.trans PH.le.rfl_ (PH.le_or _ _)) (PH.le_or _ _))).of)) (InsZ.mk_ (SlF.of_n (hz_o3_9_1.le' (PH.le.trans (PH.ri_or ((Held.sub (Held.mem (List.Mem.tail _ (List.Mem.tail _ (List.Mem.tail _ (List.Mem.tail _ (List.Mem.tail _ (List.Mem.tail _ (List.Mem.tail _ (List.Mem.tail _ (List.Mem.tail _ (List.Mem.tail _ (List.Mem.tail _ (List.Mem.tail _ (List.Mem.head _)))))))))))))) hZ) _ _ hw1) ((Held.mem (List.Mem.tail _ (List.Mem.head _))) _ _ hw1)) (PH.le_or _ _))) hf_o3_4_1) (SlF.of_n (hz_o3_9_2.le' (PH.ri_or ((Held.or (Held.sub (Held.mem (List.Mem.tail _ (List.Mem.tail _ (List.Mem.tail _ (List.Mem.tail _ (List.Mem.tail _ (List.Mem.tail _ (List.Mem.tail _ (List.Mem.tail _ (List.Mem.tail _ (List.Mem.tail _ (List.Mem.tail _ (List.Mem.tail _ (List.Mem.head _)))))))))))))) hZ) (Held.mem (List.Mem.tail _ (List.Mem.head _)))) _ _ hw1) ((Held.mem (List.Mem.head _)) _ _ hw1))) hf_o3_4_2)) :)) ?_
    rintro _ _ ⟨Zn_o3_9_1, A_o3_9_1, _, c_o3_9_1, A_o3_9_2, _, c_o3_9_2, A_o3_9_3, _, c_o3_9_3, A_o3_9_4, _, c_o3_9_4, rfl, rfl, rfl, rfl, rfl, hs_o3_9_1, hs_o3_9_2, hs_o3_9_3, hs_o3_9_4, rfl⟩
    refine WP.anyP 10 tysOk putInv_body rfl rfl rfl (by kernel_rfl) (by kernel_rfl) rfl rfl rfl rfl rfl True.intro ?_
    refine WP.anyP 11 tysOk putInv_body rfl rfl rfl (by kernel_rfl) (by kernel_rfl) rfl rfl rfl rfl rfl True.intro ?_
    refine WP.anyP 12 tysOk putInv_body rfl rfl rfl (by kernel_rfl) (by kernel_rfl) rfl rfl rfl rfl rfl True.intro ?_
    refine WP.any1 14 rfl (by kernel_rfl) rfl ?_
    refine WP.sto' tysOk [.slice A_o3_9_1 r_o3_9_1.1.inst.supply.length c_o3_9_1, .slice A_o3_9_2 r_o3_9_1.1.inst.arcs.length c_o3_9_2, iv r_o3_9_1.1.rcd.pass, .slice A_o3_9_3 r_o3_9_1.1.rcd.was.supply.length c_o3_9_3, .slice A_o3_9_4 r_o3_9_1.1.rcd.was.arcs.length c_o3_9_4, iv r_o3_9_1.1.off.hi, .int .u64 (r_o3_9_1.1.off.lo), .bool (r_o3_9_1.1.did)] rfl rfl rfl rfl rfl rfl rfl rfl rfl (.tail (.tail (.tail .head))) rfl rfl ?_
    refine WP.anyP 15 tysOk putInv_body rfl rfl rfl (by kernel_rfl) (by kernel_rfl) rfl rfl rfl rfl rfl True.intro ?_
    refine WP.any0 rfl (by kernel_rfl) ?_
    refine WP.stop rfl (A_o3_4_1, n_o3_4_1, c_o3_4_1, A_o3_4_2, n_o3_4_2, c_o3_4_2, Zp_o3_9_1, Zp_o3_9_2, Zn_o3_9_1, A_o3_9_1, c_o3_9_1, A_o3_9_2, c_o3_9_2, A_o3_9_3, c_o3_9_3, A_o3_9_4, c_o3_9_4, g_o3_13_1) ⟨hf_o3_4_1, hf_o3_4_2, hz_o3_9_1, hz_o3_9_2, hs_o3_9_1, hs_o3_9_2, hs_o3_9_3, hs_o3_9_4⟩ ?_ ?_
    ·repeat first | exact ⟨⟩ | refine ⟨rfl, ?_⟩
    exact (.cons .head (.cons .head (.cons .head (.cons .head (.cons .head (.cons .head (.cons .head (.cons .head (.cons .head (.cons .head (.cons .head (.cons .head (.cons .head (.cons .head .nil))))))))))))))
   intro mm4
   refine WP.cutF (α := Unit) (fun x => True) #[true, true, true, true, false, true, true, true, false, false, false, false, false, false, false, false] 9 (fun x => [(8, .pointer (some ⟨g3, 0, none⟩)), (55, iv d1), (56, .agg #[.slice A1 i1.supply.length c1, .slice A2 i1.arcs.length c2]), (57, .agg #[.slice A3 n1 c3, .slice A5 xs2.length c5]), (58, .slice (some ⟨g7, 0, none⟩) ((xs1.length : Int).toNat) ((xs1.length : Int).toNat)), (60, iv x2), (62, iv ((gt i1.arcs x1.b).cost))]) (fun x => [Ow fB 4 (some ⟨g7, 0, none⟩) ((xs1.length : Int).toNat) ((xs1.length : Int).toNat) xs3, .blk g5 25 [.slice A3 n1 c3, .slice A5 xs2.length c5], Ow fA 34 A5 xs2.length c5 xs2, Ow fA 34 (some ⟨g6, 0, none⟩) 1 1 ([x1.new]), Ow (fI .i64) 2 A3 n1 c3 xs1, .blk g4 34 [iv ((gt i1.arcs x1.b).src), iv ((gt i1.arcs x1.b).dst), iv ((gt i1.arcs x1.b).low), iv ((gt i1.arcs x1.b).cap), iv ((gt i1.arcs x1.b).cost)], .blk g3 48 [.slice none 0 0, .slice none 0 0, iv 0, .slice none 0 0, .slice none 0 0, iv 0, .int .u64 (0), .bool (false)], .blk g2 56 [iv x1.node, iv x1.a, iv x1.b, iv x1.new.src, iv x1.new.dst, iv x1.new.low, iv x1.new.cap, iv x1.new.cost], .blk g1 25 [.slice A1 i1.supply.length c1, .slice A2 i1.arcs.length c2], .fz (PH.of w)]) rfl ?_ ?_
   ·rintro _ _
    refine WP.any2 4 13 rfl (by kernel_rfl) rfl rfl ?_ ?_
    ·refine WP.callS (ref03_Without_S r_o3_4_1) rfl rfl rfl rfl rfl rfl rfl (by kernel_rfl) (fun w1 hw1 => (ref03_Without_w hg_o3_4_1 (InsZ.mk_ (hw1.ow (.tail (.tail (.tail (.tail .head)))) hf3) (hw1.ow (.tail (.tail .head)) hf5)) (hw1.ow .head hf7) SlF.nil_ :)) ?_
     rintro _ _ ⟨A_o3_4_1, n_o3_4_1, c_o3_4_1, A_o3_4_2, n_o3_4_2, c_o3_4_2, rfl, hf_o3_4_1, hf_o3_4_2, rfl⟩
     refine WP.useF mm3 (A_o3_4_1, n_o3_4_1, c_o3_4_1, A_o3_4_2, n_o3_4_2, c_o3_4_2) ⟨hf_o3_4_1, hf_o3_4_2⟩ rfl (by kernel_rfl) ?_ ?_
     ·repeat first | exact ⟨⟩ | refine ⟨rfl, ?_⟩
     exact (.cons .head (.cons .head (.cons .head (.cons .head (.cons .head (.cons .head (.cons .head (.cons .head (.cons .head (.cons .head (.cons .head (.cons .head .nil))))))))))))
    refine WP.al tysOk rfl rfl rfl rfl rfl rfl ?_
    intro g_o3_13_1
    refine WP.any1 4 rfl (by kernel_rfl) rfl ?_
    refine WP.callS (ref03_Without_S r_o3_4_1) rfl rfl rfl rfl rfl rfl rfl (by kernel_rfl) (fun w1 hw1 => (ref03_Without_w hg_o3_4_1 (InsZ.mk_ (hw1.ow (.tail (.tail (.tail (.tail (.tail .head))))) hf3) (hw1.ow (.tail (.tail (.tail .head))) hf5)) (hw1.ow (.tail .head) hf7) SlF.nil_ :)) ?_
    rintro _ _ ⟨A_o3_4_1, n_o3_4_1, c_o3_4_1, A_o3_4_2, n_o3_4_2, c_o3_4_2, rfl, hf_o3_4_1, hf_o3_4_2, rfl⟩
    refine WP.useF mm2 (A_o3_4_1, n_o3_4_1, c_o3_4_1, A_o3_4_2, n_o3_4_2, c_o3_4_2, g_o3_13_1) ⟨hf_o3_4_1, hf_o3_4_2⟩ rfl (by kernel_rfl) ?_ ?_
    ·repeat first | exact ⟨⟩ | refine ⟨rfl, ?_⟩
    exact (.cons (.tail (.tail .head)) (.cons .head (.cons .head (.cons .head (.cons .head (.cons .head (.cons .head (.cons .head (.cons .head (.cons .head (.cons .head (.cons .head (.cons .head .nil)))))))))))))
   intro mm5
   refine WP.cutF (α := Nat) (fun x => True) #[true, true, true, true, false, true, true, false, false, false, false, false, false, true, false, false] 9 (fun x => [(8, .pointer (some ⟨g3, 0, none⟩)), (13, .pointer (some ⟨x, 0, none⟩)), (55, iv d1), (56, .agg #[.slice A1 i1.supply.length c1, .slice A2 i1.arcs.length c2]), (57, .agg #[.slice A3 n1 c3, .slice A5 xs2.length c5]), (58, .slice (some ⟨g7, 0, none⟩) ((xs1.length : Int).toNat) ((xs1.length : Int).toNat)), (60, iv x2), (61, .pointer (some ⟨g4, 4, none⟩))]) (fun x => [.blk x 48 [.slice none 0 0, .slice none 0 0, iv 0, .slice none 0 0, .slice none 0 0, iv 0, .int .u64 (0), .bool (false)], Ow fB 4 (some ⟨g7, 0, none⟩) ((xs1.length : Int).toNat) ((xs1.length : Int).toNat) xs3, .blk g5 25 [.slice A3 n1 c3, .slice A5 xs2.length c5], Ow fA 34 A5 xs2.length c5 xs2, Ow fA 34 (some ⟨g6, 0, none⟩) 1 1 ([x1.new]), Ow (fI .i64) 2 A3 n1 c3 xs1, .blk g4 34 [iv ((gt i1.arcs x1.b).src), iv ((gt i1.arcs x1.b).dst), iv ((gt i1.arcs x1.b).low), iv ((gt i1.arcs x1.b).cap), iv ((gt i1.arcs x1.b).cost)], .blk g3 48 [.slice none 0 0, .slice none 0 0, iv 0, .slice none 0 0, .slice none 0 0, iv 0, .int .u64 (0), .bool (false)], .blk g2 56 [iv x1.node, iv x1.a, iv x1.b, iv x1.new.src, iv x1.new.dst, iv x1.new.low, iv x1.new.cap, iv x1.new.cost], .blk g1 25 [.slice A1 i1.supply.length c1, .slice A2 i1.arcs.length c2], .fz (PH.of w)]) rfl ?_ ?_
   ·rintro g_o3_13_1 _
    refine WP.any2 4 7 rfl (by kernel_rfl) rfl rfl ?_ ?_
    ·refine WP.callS (ref03_Without_S r_o3_4_1) rfl rfl rfl rfl rfl rfl rfl (by kernel_rfl) (fun w1 hw1 => (ref03_Without_w hg_o3_4_1 (InsZ.mk_ (hw1.ow (.tail (.tail (.tail (.tail (.tail .head))))) hf3) (hw1.ow (.tail (.tail (.tail .head))) hf5)) (hw1.ow (.tail .head) hf7) SlF.nil_ :)) ?_
     rintro _ _ ⟨A_o3_4_1, n_o3_4_1, c_o3_4_1, A_o3_4_2, n_o3_4_2, c_o3_4_2, rfl, hf_o3_4_1, hf_o3_4_2, rfl⟩
     refine WP.any1 7 rfl (by kernel_rfl) rfl ?_
     refine WP.lx tysOk rfl ⟨⟩ (CellAt.blk (.tail (.tail (.tail (.tail (.tail (.tail (.tail (.tail .head)))))))) rfl) ?_
     refine WP.useF mm2 (A_o3_4_1, n_o3_4_1, c_o3_4_1, A_o3_4_2, n_o3_4_2, c_o3_4_2, g_o3_13_1) ⟨hf_o3_4_1, hf_o3_4_2⟩ rfl (by kernel_rfl) ?_ ?_
     ·repeat first | exact ⟨⟩ | refine ⟨rfl, ?_⟩
     exact (.cons (.tail (.tail .head)) (.cons .head (.cons .head (.cons .head (.cons .head (.cons .head (.cons .head (.cons .head (.cons .head (.cons .head (.cons .head (.cons .head (.cons .head .nil)))))))))))))
    refine WP.lx tysOk rfl ⟨⟩ (CellAt.blk (.tail (.tail (.tail (.tail (.tail (.tail .head)))))) rfl) ?_
    refine WP.any1 4 rfl (by kernel_rfl) rfl ?_
    refine WP.callS (ref03_Without_S r_o3_4_1) rfl rfl rfl rfl rfl rfl rfl (by kernel_rfl) (fun w1 hw1 => (ref03_Without_w hg_o3_4_1 (InsZ.mk_ (hw1.ow (.tail (.tail (.tail (.tail (.tail .head))))) hf3) (hw1.ow (.tail (.tail (.tail .head))) hf5)) (hw1.ow (.tail .head) hf7) SlF.nil_ :)) ?_
    rintro _ _ ⟨A_o3_4_1, n_o3_4_1, c_o3_4_1, A_o3_4_2, n_o3_4_2, c_o3_4_2, rfl, hf_o3_4_1, hf_o3_4_2, rfl⟩
    refine WP.useF mm2 (A_o3_4_1, n_o3_4_1, c_o3_4_1, A_o3_4_2, n_o3_4_2, c_o3_4_2, g_o3_13_1) ⟨hf_o3_4_1, hf_o3_4_2⟩ rfl (by kernel_rfl) ?_ ?_
    ·repeat first | exact ⟨⟩ | refine ⟨rfl, ?_⟩
    exact (.cons (.tail (.tail .head)) (.cons .head (.cons .head (.cons .head (.cons .head (.cons .head (.cons .head (.cons .head (.cons .head (.cons .head (.cons .head (.cons .head (.cons .head .nil)))))))))))))
   intro mm6
   refine WP.cutF (α := (Option Addr) × Nat × Nat × (Option Addr) × Nat × Nat) (fun x => OwF x.1 x.2.1 r_o3_4_1.supply ∧ OwF x.2.2.2.1 x.2.2.2.2.1 r_o3_4_1.arcs) #[true, false, true, true, true, true, true, true, false, false, false, false, false, false, false, false] 9 (fun x => [(5, .pointer (some ⟨g1, 0, none⟩)), (8, .pointer (some ⟨g3, 0, none⟩)), (55, iv d1), (59, .agg #[.slice x.1 x.2.1 x.2.2.1, .slice x.2.2.2.1 x.2.2.2.2.1 x.2.2.2.2.2]), (60, iv x2), (62, iv ((gt i1.arcs x1.b).cost))]) (fun x => [Ow (fI .i64) 2 x.1 x.2.1 x.2.2.1 r_o3_4_1.supply, Ow fA 34 x.2.2.2.1 x.2.2.2.2.1 x.2.2.2.2.2 r_o3_4_1.arcs, Ow fB 4 (some ⟨g7, 0, none⟩) ((xs1.length : Int).toNat) ((xs1.length : Int).toNat) xs3, .blk g5 25 [.slice A3 n1 c3, .slice A5 xs2.length c5], Ow fA 34 A5 xs2.length c5 xs2, Ow fA 34 (some ⟨g6, 0, none⟩) 1 1 ([x1.new]), Ow (fI .i64) 2 A3 n1 c3 xs1, .blk g4 34 [iv ((gt i1.arcs x1.b).src), iv ((gt i1.arcs x1.b).dst), iv ((gt i1.arcs x1.b).low), iv ((gt i1.arcs x1.b).cap), iv ((gt i1.arcs x1.b).cost)], .blk g3 48 [.slice none 0 0, .slice none 0 0, iv 0, .slice none 0 0, .slice none 0 0, iv 0, .int .u64 (0), .bool (false)], .blk g2 56 [iv x1.node, iv x1.a, iv x1.b, iv x1.new.src, iv x1.new.dst, iv x1.new.low, iv x1.new.cap, iv x1.new.cost], .blk g1 25 [.slice A1 i1.supply.length c1, .slice A2 i1.arcs.length c2], .fz (PH.of w)]) rfl ?_ ?_
   ·rintro ⟨A_o3_4_1, n_o3_4_1, c_o3_4_1, A_o3_4_2, n_o3_4_2, c_o3_4_2⟩ ⟨hf_o3_4_1, hf_o3_4_2⟩
    dsimp only at hf_o3_4_1 hf_o3_4_2 ⊢
    refine WP.any3 1 8 13 rfl (by kernel_rfl) rfl rfl rfl ?_ ?_ ?_
    ·refine WP.mx_ tysOk rfl ⟨⟩ (SegAt.blk' (.tail (.tail (.tail (.tail (.tail (.tail (.tail (.tail (.tail (.tail .head)))))))))) rfl) ?_
     refine WP.useF mm3 (A_o3_4_1, n_o3_4_1, c_o3_4_1, A_o3_4_2, n_o3_4_2, c_o3_4_2) ⟨hf_o3_4_1, hf_o3_4_2⟩ rfl (by kernel_rfl) ?_ ?_
     ·repeat first | exact ⟨⟩ | refine ⟨rfl, ?_⟩
     exact (.cons .head (.cons .head (.cons .head (.cons .head (.cons .head (.cons .head (.cons .head (.cons .head (.cons .head (.cons .head (.cons .head (.cons .head .nil))))))))))))
    ·refine WP.callV rfl rfl rfl rfl rfl rfl rfl (by kernel_rfl) (fun w1 hw1 => (ref01_Times_w hg_o3_8_1  :)) ⟨⟩ ?_
     refine WP.any2 1 13 rfl (by kernel_rfl) rfl rfl ?_ ?_
     ·refine WP.mx_ tysOk rfl ⟨⟩ (SegAt.blk' (.tail (.tail (.tail (.tail (.tail (.tail (.tail (.tail (.tail (.tail .head)))))))))) rfl) ?_
      refine WP.useF mm1 (A_o3_4_1, n_o3_4_1, c_o3_4_1, A_o3_4_2, n_o3_4_2, c_o3_4_2) ⟨hf_o3_4_1, hf_o3_4_2⟩ rfl (by kernel_rfl) ?_ ?_
      ·repeat first | exact ⟨⟩ | refine ⟨rfl, ?_⟩
      exact (.cons .head (.cons .head (.cons .head (.cons .head (.cons .head (.cons .head (.cons .head (.cons .head (.cons .head (.cons .head (.cons .head (.cons .head .nil))))))))))))
     refine WP.al tysOk rfl rfl rfl rfl rfl rfl ?_
     intro g_o3_13_1
     refine WP.any1 1 rfl (by kernel_rfl) rfl ?_
     refine WP.mx_ tysOk rfl ⟨⟩ (SegAt.blk' (.tail (.tail (.tail (.tail (.tail (.tail (.tail (.tail (.tail (.tail (.tail .head))))))))))) rfl) ?_
     refine WP.any1 9 rfl (by kernel_rfl) rfl ?_
     refine WP.freezeO (.tail .head) hf_o3_4_1 ?_
     intro Zp_o3_9_1 hz_o3_9_1
     refine WP.freezeO (.tail (.tail .head)) hf_o3_4_2 ?_
     intro Zp_o3_9_2 hz_o3_9_2
     refine WP.callS (ref15_Done_S (PH.or (PH.or Z Zp_o3_9_1) Zp_o3_9_2) r_o3_9_1) rfl rfl rfl rfl rfl rfl rfl (by kernel_rfl) (fun w1 hw1 => (ref15_Done_w (Z := (PH.or (PH.or Z Zp_o3_9_1) Zp_o3_9_2)) ((Held.or (Held.or (Held.sub (Held.mem (List.Mem.tail _ (List.Mem.tail _ (List.Mem.tail _ (List.Mem.tail _ (List.Mem.tail _ (List.Mem.tail _ (List.Mem.tail _ (List.Mem.tail _ (List.Mem.tail _ (List.Mem.tail _ (List.Mem.tail _ (List.Mem.tail _ (List.Mem.head _)))))))))))))) hZ) (Held.mem (List.Mem.tail _ (List.Mem.head _)))) (Held.mem (List.Mem.head _))) _ _ hw1) hg_o3_9_1 (InsZ.mk_ ((hs1.le' (PH.le.trans (PH.le.trans PH.le.rfl_ (PH.le_or _ _)) (PH.le_or _ _))).of) ((hs2.le' (PH.le.trans (PH.le.trans PH.le.rfl_ (PH.le_or _ _)) (PH.le_or _ _))).of)) (InsZ.mk_ (SlF.of_n (hz_o3_9_1.le' (PH.le.trans (PH.ri_or ((Held.sub (Held.mem (List.Mem.tail _ (List.Mem.tail _ (List.Mem.tail _ (List.Mem.tail _ (List.Mem.tail _ (List.Mem.tail _ (List.Mem.tail _ (List.Mem.tail _ (List.Mem.tail _ (List.Mem.tail _ (List.Mem.tail _ (List.Mem.tail _ (List.Mem.head _)))))))))))))) hZ) _ _ hw1) ((Held.mem (List.Mem.tail _ (List.Mem.head _))) _ _ hw1)) (PH.le_or _ _))) hf_o3_4_1) (SlF.of_n (hz_o3_9_2.le' (PH.ri_or ((Held.or (Held.sub (Held.mem (List.Mem.tail _ (List.Mem.tail _ (List.Mem.tail _ (List.Mem.tail _ (List.Mem.tail _ (List.Mem.tail _ (List.Mem.tail _ (List.Mem.tail _ (List.Mem.tail _ (List.Mem.tail _ (List.Mem.tail _ (List.Mem.tail _ (List.Mem.head _)))))))))))))) hZ) (Held.mem (List.Mem.tail _ (List.Mem.head _)))) _ _ hw1) ((Held.mem (List.Mem.head _)) _ _ hw1))) hf_o3_4_2)) :)) ?_
     rintro _ _ ⟨Zn_o3_9_1, A_o3_9_1, _, c_o3_9_1, A_o3_9_2, _, c_o3_9_2, A_o3_9_3, _, c_o3_9_3, A_o3_9_4, _, c_o3_9_4, rfl, rfl, rfl, rfl, rfl, hs_o3_9_1, hs_o3_9_2, hs_o3_9_3, hs_o3_9_4, rfl⟩
     refine WP.anyP 10 tysOk putInv_body rfl rfl rfl (by kernel_rfl) (by kernel_rfl) rfl rfl rfl rfl rfl True.intro ?_
     refine WP.anyP 11 tysOk putInv_body rfl rfl rfl (by kernel_rfl) (by kernel_rfl) rfl rfl rfl rfl rfl True.intro ?_
     refine WP.anyP 12 tysOk putInv_body rfl rfl rfl (by kernel_rfl) (by kernel_rfl) rfl rfl rfl rfl rfl True.intro ?_
     refine WP.any1 14 rfl (by kernel_rfl) rfl ?_
     refine WP.sto' tysOk [.slice A_o3_9_1 r_o3_9_1.1.inst.supply.length c_o3_9_1, .slice A_o3_9_2 r_o3_9_1.1.inst.arcs.length c_o3_9_2, iv r_o3_9_1.1.rcd.pass, .slice A_o3_9_3 r_o3_9_1.1.rcd.was.supply.length c_o3_9_3, .slice A_o3_9_4 r_o3_9_1.1.rcd.was.arcs.length c_o3_9_4, iv r_o3_9_1.1.off.hi, .int .u64 (r_o3_9_1.1.off.lo), .bool (r_o3_9_1.1.did)] rfl rfl rfl rfl rfl rfl rfl rfl rfl (.tail (.tail (.tail .head))) rfl rfl ?_
     refine WP.anyP 15 tysOk putInv_body rfl rfl rfl (by kernel_rfl) (by kernel_rfl) rfl rfl rfl rfl rfl True.intro ?_
     refine WP.any0 rfl (by kernel_rfl) ?_
     refine WP.stop rfl (A_o3_4_1, n_o3_4_1, c_o3_4_1, A_o3_4_2, n_o3_4_2, c_o3_4_2, Zp_o3_9_1, Zp_o3_9_2, Zn_o3_9_1, A_o3_9_1, c_o3_9_1, A_o3_9_2, c_o3_9_2, A_o3_9_3, c_o3_9_3, A_o3_9_4, c_o3_9_4, g_o3_13_1) ⟨hf_o3_4_1, hf_o3_4_2, hz_o3_9_1, hz_o3_9_2, hs_o3_9_1, hs_o3_9_2, hs_o3_9_3, hs_o3_9_4⟩ ?_ ?_
     ·repeat first | exact ⟨⟩ | refine ⟨rfl, ?_⟩
     exact (.cons .head (.cons .head (.cons .head (.cons .head (.cons .head (.cons .head (.cons .head (.cons .head (.cons .head (.cons .head (.cons .head (.cons .head (.cons .head (.cons .head .nil))))))))))))))
    refine WP.al tysOk rfl rfl rfl rfl rfl rfl ?_
    intro g_o3_13_1
    refine WP.useF mm4 (A_o3_4_1, n_o3_4_1, c_o3_4_1, A_o3_4_2, n_o3_4_2, c_o3_4_2, g_o3_13_1) ⟨hf_o3_4_1, hf_o3_4_2⟩ rfl (by kernel_rfl) ?_ ?_
    ·repeat first | exact ⟨⟩ | refine ⟨rfl, ?_⟩
    exact (.cons .head (.cons .head (.cons .head (.cons .head (.cons .head (.cons .head (.cons .head (.cons .head (.cons .head (.cons .head (.cons .head (.cons .head (.cons .head .nil)))))))))))))
   intro mm7
   refine WP.cutF (α := Nat) (fun x => True) #[true, false, true, true, false, true, true, true, false, false, false, false, false, true, false, false] 9 (fun x => [(5, .pointer (some ⟨g1, 0, none⟩)), (8, .pointer (some ⟨g3, 0, none⟩)), (13, .pointer (some ⟨x, 0, none⟩)), (55, iv d1), (57, .agg #[.slice A3 n1 c3, .slice A5 xs2.length c5]), (58, .slice (some ⟨g7, 0, none⟩) ((xs1.length : Int).toNat) ((xs1.length : Int).toNat)), (60, iv x2), (62, iv ((gt i1.arcs x1.b).cost))]) (fun x => [.blk x 48 [.slice none 0 0, .slice none 0 0, iv 0, .slice none 0 0, .slice none 0 0, iv 0, .int .u64 (0), .bool (false)], Ow fB 4 (some ⟨g7, 0, none⟩) ((xs1.length : Int).toNat) ((xs1.length : Int).toNat) xs3, .blk g5 25 [.slice A3 n1 c3, .slice A5 xs2.length c5], Ow fA 34 A5 xs2.length c5 xs2, Ow fA 34 (some ⟨g6, 0, none⟩) 1 1 ([x1.new]), Ow (fI .i64) 2 A3 n1 c3 xs1, .blk g4 34 [iv ((gt i1.arcs x1.b).src), iv ((gt i1.arcs x1.b).dst), iv ((gt i1.arcs x1.b).low), iv ((gt i1.arcs x1.b).cap), iv ((gt i1.arcs x1.b).cost)], .blk g3 48 [.slice none 0 0, .slice none 0 0, iv 0, .slice none 0 0, .slice none 0 0, iv 0, .int .u64 (0), .bool (false)], .blk g2 56 [iv x1.node, iv x1.a, iv x1.b, iv x1.new.src, iv x1.new.dst, iv x1.new.low, iv x1.new.cap, iv x1.new.cost], .blk g1 25 [.slice A1 i1.supply.length c1, .slice A2 i1.arcs.length c2], .fz (PH.of w)]) rfl ?_ ?_
   ·rintro g_o3_13_1 _
    refine WP.any2 1 4 rfl (by kernel_rfl) rfl rfl ?_ ?_
    ·refine WP.mx_ tysOk rfl ⟨⟩ (SegAt.blk' (.tail (.tail (.tail (.tail (.tail (.tail (.tail (.tail (.tail .head))))))))) rfl) ?_
     refine WP.any1 4 rfl (by kernel_rfl) rfl ?_
     refine WP.callS (ref03_Without_S r_o3_4_1) rfl rfl rfl rfl rfl rfl rfl (by kernel_rfl) (fun w1 hw1 => (ref03_Without_w hg_o3_4_1 (InsZ.mk_ (hw1.ow (.tail (.tail (.tail (.tail (.tail .head))))) hf3) (hw1.ow (.tail (.tail (.tail .head))) hf5)) (hw1.ow (.tail .head) hf7) SlF.nil_ :)) ?_
     rintro _ _ ⟨A_o3_4_1, n_o3_4_1, c_o3_4_1, A_o3_4_2, n_o3_4_2, c_o3_4_2, rfl, hf_o3_4_1, hf_o3_4_2, rfl⟩
     refine WP.useF mm2 (A_o3_4_1, n_o3_4_1, c_o3_4_1, A_o3_4_2, n_o3_4_2, c_o3_4_2, g_o3_13_1) ⟨hf_o3_4_1, hf_o3_4_2⟩ rfl (by kernel_rfl) ?_ ?_
     ·repeat first | exact ⟨⟩ | refine ⟨rfl, ?_⟩
     exact (.cons (.tail (.tail .head)) (.cons .head (.cons .head (.cons .head (.cons .head (.cons .head (.cons .head (.cons .head (.cons .head (.cons .head (.cons .head (.cons .head (.cons .head .nil)))))))))))))
    refine WP.callS (ref03_Without_S r_o3_4_1) rfl rfl rfl rfl rfl rfl rfl (by kernel_rfl) (fun w1 hw1 => (ref03_Without_w hg_o3_4_1 (InsZ.mk_ (hw1.ow (.tail (.tail (.tail (.tail (.tail .head))))) hf3) (hw1.ow (.tail (.tail (.tail .head))) hf5)) (hw1.ow (.tail .head) hf7) SlF.nil_ :)) ?_
    rintro _ _ ⟨A_o3_4_1, n_o3_4_1, c_o3_4_1, A_o3_4_2, n_o3_4_2, c_o3_4_2, rfl, hf_o3_4_1, hf_o3_4_2, rfl⟩
    refine WP.useF mm4 (A_o3_4_1, n_o3_4_1, c_o3_4_1, A_o3_4_2, n_o3_4_2, c_o3_4_2, g_o3_13_1) ⟨hf_o3_4_1, hf_o3_4_2⟩ rfl (by kernel_rfl) ?_ ?_
    ·repeat first | exact ⟨⟩ | refine ⟨rfl, ?_⟩
    exact (.cons (.tail (.tail .head)) (.cons .head (.cons .head (.cons .head (.cons .head (.cons .head (.cons .head (.cons .head (.cons .head (.cons .head (.cons .head (.cons .head (.cons .head .nil)))))))))))))
   intro mm8
   refine WP.cutF (α := Unit) (fun x => True) #[true, true, true, true, false, true, true, false, false, false, false, false, false, false, false, false] 10 (fun x => [(8, .pointer (some ⟨g3, 0, none⟩)), (55, iv d1), (56, .agg #[.slice A1 i1.supply.length c1, .slice A2 i1.arcs.length c2]), (57, .agg #[.slice A3 n1 c3, .slice A5 xs2.length c5]), (58, .slice (some ⟨g7, 0, none⟩) ((xs1.length : Int).toNat) ((xs1.length : Int).toNat)), (60, iv x2), (61, .pointer (some ⟨g4, 4, none⟩))]) (fun x => [Ow fB 4 (some ⟨g7, 0, none⟩) ((xs1.length : Int).toNat) ((xs1.length : Int).toNat) xs3, .blk g5 25 [.slice A3 n1 c3, .slice A5 xs2.length c5], Ow fA 34 A5 xs2.length c5 xs2, Ow fA 34 (some ⟨g6, 0, none⟩) 1 1 ([x1.new]), Ow (fI .i64) 2 A3 n1 c3 xs1, .blk g4 34 [iv ((gt i1.arcs x1.b).src), iv ((gt i1.arcs x1.b).dst), iv ((gt i1.arcs x1.b).low), iv ((gt i1.arcs x1.b).cap), iv ((gt i1.arcs x1.b).cost)], .blk g3 48 [.slice none 0 0, .slice none 0 0, iv 0, .slice none 0 0, .slice none 0 0, iv 0, .int .u64 (0), .bool (false)], .blk g2 56 [iv x1.node, iv x1.a, iv x1.b, iv x1.new.src, iv x1.new.dst, iv x1.new.low, iv x1.new.cap, iv x1.new.cost], .blk g1 25 [.slice A1 i1.supply.length c1, .slice A2 i1.arcs.length c2], .fz (PH.of w)]) rfl ?_ ?_
   ·rintro _ _
    refine WP.any3 4 7 13 rfl (by kernel_rfl) rfl rfl rfl ?_ ?_ ?_
    ·refine WP.callS (ref03_Without_S r_o3_4_1) rfl rfl rfl rfl rfl rfl rfl (by kernel_rfl) (fun w1 hw1 => (ref03_Without_w hg_o3_4_1 (InsZ.mk_ (hw1.ow (.tail (.tail (.tail (.tail .head)))) hf3) (hw1.ow (.tail (.tail .head)) hf5)) (hw1.ow .head hf7) SlF.nil_ :)) ?_
     rintro _ _ ⟨A_o3_4_1, n_o3_4_1, c_o3_4_1, A_o3_4_2, n_o3_4_2, c_o3_4_2, rfl, hf_o3_4_1, hf_o3_4_2, rfl⟩
     refine WP.any2 7 13 rfl (by kernel_rfl) rfl rfl ?_ ?_
     ·refine WP.lx tysOk rfl ⟨⟩ (CellAt.blk (.tail (.tail (.tail (.tail (.tail (.tail (.tail .head))))))) rfl) ?_
      refine WP.useF mm3 (A_o3_4_1, n_o3_4_1, c_o3_4_1, A_o3_4_2, n_o3_4_2, c_o3_4_2) ⟨hf_o3_4_1, hf_o3_4_2⟩ rfl (by kernel_rfl) ?_ ?_
      ·repeat first | exact ⟨⟩ | refine ⟨rfl, ?_⟩
      exact (.cons .head (.cons .head (.cons .head (.cons .head (.cons .head (.cons .head (.cons .head (.cons .head (.cons .head (.cons .head (.cons .head (.cons .head .nil))))))))))))
     refine WP.al tysOk rfl rfl rfl rfl rfl rfl ?_
     intro g_o3_13_1
     refine WP.any1 7 rfl (by kernel_rfl) rfl ?_
     refine WP.lx tysOk rfl ⟨⟩ (CellAt.blk (.tail (.tail (.tail (.tail (.tail (.tail (.tail (.tail .head)))))))) rfl) ?_
     refine WP.useF mm2 (A_o3_4_1, n_o3_4_1, c_o3_4_1, A_o3_4_2, n_o3_4_2, c_o3_4_2, g_o3_13_1) ⟨hf_o3_4_1, hf_o3_4_2⟩ rfl (by kernel_rfl) ?_ ?_
     ·repeat first | exact ⟨⟩ | refine ⟨rfl, ?_⟩
     exact (.cons .head (.cons .head (.cons .head (.cons .head (.cons .head (.cons .head (.cons .head (.cons .head (.cons .head (.cons .head (.cons .head (.cons .head (.cons .head .nil)))))))))))))
    ·refine WP.lx tysOk rfl ⟨⟩ (CellAt.blk (.tail (.tail (.tail (.tail (.tail .head))))) rfl) ?_
     refine WP.useF mm5 () True.intro rfl (by kernel_rfl) ?_ ?_
     ·repeat first | exact ⟨⟩ | refine ⟨rfl, ?_⟩
     exact (.cons .head (.cons .head (.cons .head (.cons .head (.cons .head (.cons .head (.cons .head (.cons .head (.cons .head (.cons .head .nil))))))))))
    refine WP.al tysOk rfl rfl rfl rfl rfl rfl ?_
    intro g_o3_13_1
    refine WP.useF mm6 g_o3_13_1 True.intro rfl (by kernel_rfl) ?_ ?_
    ·repeat first | exact ⟨⟩ | refine ⟨rfl, ?_⟩
    exact (.cons .head (.cons .head (.cons .head (.cons .head (.cons .head (.cons .head (.cons .head (.cons .head (.cons .head (.cons .head (.cons .head .nil)))))))))))
   intro mm9
   refine WP.cutF (α := Unit) (fun x => True) #[true, true, false, true, false, true, true, true, false, false, false, false, false, false, false, false] 10 (fun x => [(8, .pointer (some ⟨g3, 0, none⟩)), (11, .pointer (some ⟨g5, 0, none⟩)), (55, iv d1), (56, .agg #[.slice A1 i1.supply.length c1, .slice A2 i1.arcs.length c2]), (58, .slice (some ⟨g7, 0, none⟩) ((xs1.length : Int).toNat) ((xs1.length : Int).toNat)), (60, iv x2), (62, iv ((gt i1.arcs x1.b).cost))]) (fun x => [Ow fB 4 (some ⟨g7, 0, none⟩) ((xs1.length : Int).toNat) ((xs1.length : Int).toNat) xs3, .blk g5 25 [.slice A3 n1 c3, .slice A5 xs2.length c5], Ow fA 34 A5 xs2.length c5 xs2, Ow fA 34 (some ⟨g6, 0, none⟩) 1 1 ([x1.new]), Ow (fI .i64) 2 A3 n1 c3 xs1, .blk g4 34 [iv ((gt i1.arcs x1.b).src), iv ((gt i1.arcs x1.b).dst), iv ((gt i1.arcs x1.b).low), iv ((gt i1.arcs x1.b).cap), iv ((gt i1.arcs x1.b).cost)], .blk g3 48 [.slice none 0 0, .slice none 0 0, iv 0, .slice none 0 0, .slice none 0 0, iv 0, .int .u64 (0), .bool (false)], .blk g2 56 [iv x1.node, iv x1.a, iv x1.b, iv x1.new.src, iv x1.new.dst, iv x1.new.low, iv x1.new.cap, iv x1.new.cost], .blk g1 25 [.slice A1 i1.supply.length c1, .slice A2 i1.arcs.length c2], .fz (PH.of w)]) rfl ?_ ?_
   ·rintro _ _
    refine WP.any2 2 13 rfl (by kernel_rfl) rfl rfl ?_ ?_
    ·refine WP.mx_ tysOk rfl ⟨⟩ (SegAt.blk' (.tail .head) rfl) ?_
     refine WP.useF mm5 () True.intro rfl (by kernel_rfl) ?_ ?_
     ·repeat first | exact ⟨⟩ | refine ⟨rfl, ?_⟩
     exact (.cons .head (.cons .head (.cons .head (.cons .head (.cons .head (.cons .head (.cons .head (.cons .head (.cons .head (.cons .head .nil))))))))))
    refine WP.al tysOk rfl rfl rfl rfl rfl rfl ?_
    intro g_o3_13_1
    refine WP.any1 2 rfl (by kernel_rfl) rfl ?_
    refine WP.mx_ tysOk rfl ⟨⟩ (SegAt.blk' (.tail (.tail .head)) rfl) ?_
    refine WP.any1 4 rfl (by kernel_rfl) rfl ?_
    refine WP.callS (ref03_Without_S r_o3_4_1) rfl rfl rfl rfl rfl rfl rfl (by kernel_rfl) (fun w1 hw1 => (ref03_Without_w hg_o3_4_1 (InsZ.mk_ (hw1.ow (.tail (.tail (.tail (.tail (.tail .head))))) hf3) (hw1.ow (.tail (.tail (.tail .head))) hf5)) (hw1.ow (.tail .head) hf7) SlF.nil_ :)) ?_
    rintro _ _ ⟨A_o3_4_1, n_o3_4_1, c_o3_4_1, A_o3_4_2, n_o3_4_2, c_o3_4_2, rfl, hf_o3_4_1, hf_o3_4_2, rfl⟩
    refine WP.useF mm2 (A_o3_4_1, n_o3_4_1, c_o3_4_1, A_o3_4_2, n_o3_4_2, c_o3_4_2, g_o3_13_1) ⟨hf_o3_4_1, hf_o3_4_2⟩ rfl (by kernel_rfl) ?_ ?_
    ·repeat first | exact ⟨⟩ | refine ⟨rfl, ?_⟩
    exact (.cons (.tail (.tail .head)) (.cons .head (.cons .head (.cons .head (.cons .head (.cons .head (.cons .head (.cons .head (.cons .head (.cons .head (.cons .head (.cons .head (.cons .head .nil)))))))))))))
   intro mm10
   refine WP.cutF (α := Nat) (fun x => True) #[true, true, false, true, false, true, true, false, false, false, false, false, false, true, false, false] 10 (fun x => [(8, .pointer (some ⟨g3, 0, none⟩)), (11, .pointer (some ⟨g5, 0, none⟩)), (13, .pointer (some ⟨x, 0, none⟩)), (55, iv d1), (56, .agg #[.slice A1 i1.supply.length c1, .slice A2 i1.arcs.length c2]), (58, .slice (some ⟨g7, 0, none⟩) ((xs1.length : Int).toNat) ((xs1.length : Int).toNat)), (60, iv x2), (61, .pointer (some ⟨g4, 4, none⟩))]) (fun x => [.blk x 48 [.slice none 0 0, .slice none 0 0, iv 0, .slice none 0 0, .slice none 0 0, iv 0, .int .u64 (0), .bool (false)], Ow fB 4 (some ⟨g7, 0, none⟩) ((xs1.length : Int).toNat) ((xs1.length : Int).toNat) xs3, .blk g5 25 [.slice A3 n1 c3, .slice A5 xs2.length c5], Ow fA 34 A5 xs2.length c5 xs2, Ow fA 34 (some ⟨g6, 0, none⟩) 1 1 ([x1.new]), Ow (fI .i64) 2 A3 n1 c3 xs1, .blk g4 34 [iv ((gt i1.arcs x1.b).src), iv ((gt i1.arcs x1.b).dst), iv ((gt i1.arcs x1.b).low), iv ((gt i1.arcs x1.b).cap), iv ((gt i1.arcs x1.b).cost)], .blk g3 48 [.slice none 0 0, .slice none 0 0, iv 0, .slice none 0 0, .slice none 0 0, iv 0, .int .u64 (0), .bool (false)], .blk g2 56 [iv x1.node, iv x1.a, iv x1.b, iv x1.new.src, iv x1.new.dst, iv x1.new.low, iv x1.new.cap, iv x1.new.cost], .blk g1 25 [.slice A1 i1.supply.length c1, .slice A2 i1.arcs.length c2], .fz (PH.of w)]) rfl ?_ ?_
   ·rintro g_o3_13_1 _
    refine WP.any2 2 7 rfl (by kernel_rfl) rfl rfl ?_ ?_
    ·refine WP.mx_ tysOk rfl ⟨⟩ (SegAt.blk' (.tail (.tail .head)) rfl) ?_
     refine WP.useF mm6 g_o3_13_1 True.intro rfl (by kernel_rfl) ?_ ?_
     ·repeat first | exact ⟨⟩ | refine ⟨rfl, ?_⟩
     exact (.cons .head (.cons .head (.cons .head (.cons .head (.cons .head (.cons .head (.cons .head (.cons .head (.cons .head (.cons .head (.cons .head .nil)))))))))))
    refine WP.lx tysOk rfl ⟨⟩ (CellAt.blk (.tail (.tail (.tail (.tail (.tail (.tail .head)))))) rfl) ?_
    refine WP.any1 2 rfl (by kernel_rfl) rfl ?_
    refine WP.mx_ tysOk rfl ⟨⟩ (SegAt.blk' (.tail (.tail .head)) rfl) ?_
    refine WP.any1 4 rfl (by kernel_rfl) rfl ?_
    refine WP.callS (ref03_Without_S r_o3_4_1) rfl rfl rfl rfl rfl rfl rfl (by kernel_rfl) (fun w1 hw1 => (ref03_Without_w hg_o3_4_1 (InsZ.mk_ (hw1.ow (.tail (.tail (.tail (.tail (.tail .head))))) hf3) (hw1.ow (.tail (.tail (.tail .head))) hf5)) (hw1.ow (.tail .head) hf7) SlF.nil_ :)) ?_
    rintro _ _ ⟨A_o3_4_1, n_o3_4_1, c_o3_4_1, A_o3_4_2, n_o3_4_2, c_o3_4_2, rfl, hf_o3_4_1, hf_o3_4_2, rfl⟩
    refine WP.useF mm2 (A_o3_4_1, n_o3_4_1, c_o3_4_1, A_o3_4_2, n_o3_4_2, c_o3_4_2, g_o3_13_1) ⟨hf_o3_4_1, hf_o3_4_2⟩ rfl (by kernel_rfl) ?_ ?_
    ·repeat first | exact ⟨⟩ | refine ⟨rfl, ?_⟩
    exact (.cons (.tail (.tail .head)) (.cons .head (.cons .head (.cons .head (.cons .head (.cons .head (.cons .head (.cons .head (.cons .head (.cons .head (.cons .head (.cons .head (.cons .head .nil)))))))))))))
   intro mm11
   refine WP.cutF (α := Unit) (fun x => True) #[true, false, true, true, false, true, true, true, false, false, false, false, false, false, false, false] 10 (fun x => [(5, .pointer (some ⟨g1, 0, none⟩)), (8, .pointer (some ⟨g3, 0, none⟩)), (55, iv d1), (57, .agg #[.slice A3 n1 c3, .slice A5 xs2.length c5]), (58, .slice (some ⟨g7, 0, none⟩) ((xs1.length : Int).toNat) ((xs1.length : Int).toNat)), (60, iv x2), (62, iv ((gt i1.arcs x1.b).cost))]) (fun x => [Ow fB 4 (some ⟨g7, 0, none⟩) ((xs1.length : Int).toNat) ((xs1.length : Int).toNat) xs3, .blk g5 25 [.slice A3 n1 c3, .slice A5 xs2.length c5], Ow fA 34 A5 xs2.length c5 xs2, Ow fA 34 (some ⟨g6, 0, none⟩) 1 1 ([x1.new]), Ow (fI .i64) 2 A3 n1 c3 xs1, .blk g4 34 [iv ((gt i1.arcs x1.b).src), iv ((gt i1.arcs x1.b).dst), iv ((gt i1.arcs x1.b).low), iv ((gt i1.arcs x1.b).cap), iv ((gt i1.arcs x1.b).cost)], .blk g3 48 [.slice none 0 0, .slice none 0 0, iv 0, .slice none 0 0, .slice none 0 0, iv 0, .int .u64 (0), .bool (false)], .blk g2 56 [iv x1.node, iv x1.a, iv x1.b, iv x1.new.src, iv x1.new.dst, iv x1.new.low, iv x1.new.cap, iv x1.new.cost], .blk g1 25 [.slice A1 i1.supply.length c1, .slice A2 i1.arcs.length c2], .fz (PH.of w)]) rfl ?_ ?_
   ·rintro _ _
    refine WP.any3 1 4 13 rfl (by kernel_rfl) rfl rfl rfl ?_ ?_ ?_
    ·refine WP.mx_ tysOk rfl ⟨⟩ (SegAt.blk' (.tail (.tail (.tail (.tail (.tail (.tail (.tail (.tail .head)))))))) rfl) ?_
     refine WP.useF mm5 () True.intro rfl (by kernel_rfl) ?_ ?_
     ·repeat first | exact ⟨⟩ | refine ⟨rfl, ?_⟩
     exact (.cons .head (.cons .head (.cons .head (.cons .head (.cons .head (.cons .head (.cons .head (.cons .head (.cons .head (.cons .head .nil))))))))))
    ·refine WP.callS (ref03_Without_S r_o3_4_1) rfl rfl rfl rfl rfl rfl rfl (by kernel_rfl) (fun w1 hw1 => (ref03_Without_w hg_o3_4_1 (InsZ.mk_ (hw1.ow (.tail (.tail (.tail (.tail .head)))) hf3) (hw1.ow (.tail (.tail .head)) hf5)) (hw1.ow .head hf7) SlF.nil_ :)) ?_
     rintro _ _ ⟨A_o3_4_1, n_o3_4_1, c_o3_4_1, A_o3_4_2, n_o3_4_2, c_o3_4_2, rfl, hf_o3_4_1, hf_o3_4_2, rfl⟩
     refine WP.useF mm7 (A_o3_4_1, n_o3_4_1, c_o3_4_1, A_o3_4_2, n_o3_4_2, c_o3_4_2) ⟨hf_o3_4_1, hf_o3_4_2⟩ rfl (by kernel_rfl) ?_ ?_
     ·repeat first | exact ⟨⟩ | refine ⟨rfl, ?_⟩
     exact (.cons .head (.cons .head (.cons .head (.cons .head (.cons .head (.cons .head (.cons .head (.cons .head (.cons .head (.cons .head (.cons .head (.cons .head .nil))))))))))))
    refine WP.al tysOk rfl rfl rfl rfl rfl rfl ?_
    intro g_o3_13_1
    refine WP.useF mm8 g_o3_13_1 True.intro rfl (by kernel_rfl) ?_ ?_
    ·repeat first | exact ⟨⟩ | refine ⟨rfl, ?_⟩
    exact (.cons .head (.cons .head (.cons .head (.cons .head (.cons .head (.cons .head (.cons .head (.cons .head (.cons .head (.cons .head (.cons .head .nil)))))))))))
   intro mm12
   refine WP.cutF (α := Nat) (fun x => True) #[true, false, true, true, false, true, true, false, false, false, false, false, false, true, false, false] 10 (fun x => [(5, .pointer (some ⟨g1, 0, none⟩)), (8, .pointer (some ⟨g3, 0, none⟩)), (13, .pointer (some ⟨x, 0, none⟩)), (55, iv d1), (57, .agg #[.slice A3 n1 c3, .slice A5 xs2.length c5]), (58, .slice (some ⟨g7, 0, none⟩) ((xs1.length : Int).toNat) ((xs1.length : Int).toNat)), (60, iv x2), (61, .pointer (some ⟨g4, 4, none⟩))]) (fun x => [.blk x 48 [.slice none 0 0, .slice none 0 0, iv 0, .slice none 0 0, .slice none 0 0, iv 0, .int .u64 (0), .bool (false)], Ow fB 4 (some ⟨g7, 0, none⟩) ((xs1.length : Int).toNat) ((xs1.length : Int).toNat) xs3, .blk g5 25 [.slice A3 n1 c3, .slice A5 xs2.length c5], Ow fA 34 A5 xs2.length c5 xs2, Ow fA 34 (some ⟨g6, 0, none⟩) 1 1 ([x1.new]), Ow (fI .i64) 2 A3 n1 c3 xs1, .blk g4 34 [iv ((gt i1.arcs x1.b).src), iv ((gt i1.arcs x1.b).dst), iv ((gt i1.arcs x1.b).low), iv ((gt i1.arcs x1.b).cap), iv ((gt i1.arcs x1.b).cost)], .blk g3 48 [.slice none 0 0, .slice none 0 0, iv 0, .slice none 0 0, .slice none 0 0, iv 0, .int .u64 (0), .bool (false)], .blk g2 56 [iv x1.node, iv x1.a, iv x1.b, iv x1.new.src, iv x1.new.dst, iv x1.new.low, iv x1.new.cap, iv x1.new.cost], .blk g1 25 [.slice A1 i1.supply.length c1, .slice A2 i1.arcs.length c2], .fz (PH.of w)]) rfl ?_ ?_
   ·rintro g_o3_13_1 _
    refine WP.any3 1 4 7 rfl (by kernel_rfl) rfl rfl rfl ?_ ?_ ?_
    ·refine WP.mx_ tysOk rfl ⟨⟩ (SegAt.blk' (.tail (.tail (.tail (.tail (.tail (.tail (.tail (.tail (.tail .head))))))))) rfl) ?_
     refine WP.useF mm6 g_o3_13_1 True.intro rfl (by kernel_rfl) ?_ ?_
     ·repeat first | exact ⟨⟩ | refine ⟨rfl, ?_⟩
     exact (.cons .head (.cons .head (.cons .head (.cons .head (.cons .head (.cons .head (.cons .head (.cons .head (.cons .head (.cons .head (.cons .head .nil)))))))))))
    ·refine WP.callS (ref03_Without_S r_o3_4_1) rfl rfl rfl rfl rfl rfl rfl (by kernel_rfl) (fun w1 hw1 => (ref03_Without_w hg_o3_4_1 (InsZ.mk_ (hw1.ow (.tail (.tail (.tail (.tail (.tail .head))))) hf3) (hw1.ow (.tail (.tail (.tail .head))) hf5)) (hw1.ow (.tail .head) hf7) SlF.nil_ :)) ?_
     rintro _ _ ⟨A_o3_4_1, n_o3_4_1, c_o3_4_1, A_o3_4_2, n_o3_4_2, c_o3_4_2, rfl, hf_o3_4_1, hf_o3_4_2, rfl⟩
     refine WP.any2 1 7 rfl (by kernel_rfl) rfl rfl ?_ ?_
     ·refine WP.mx_ tysOk rfl ⟨⟩ (SegAt.blk' (.tail (.tail (.tail (.tail (.tail (.tail (.tail (.tail (.tail (.tail (.tail .head))))))))))) rfl) ?_
      refine WP.any1 7 rfl (by kernel_rfl) rfl ?_
      refine WP.lx tysOk rfl ⟨⟩ (CellAt.blk (.tail (.tail (.tail (.tail (.tail (.tail (.tail (.tail .head)))))))) rfl) ?_
      refine WP.useF mm2 (A_o3_4_1, n_o3_4_1, c_o3_4_1, A_o3_4_2, n_o3_4_2, c_o3_4_2, g_o3_13_1) ⟨hf_o3_4_1, hf_o3_4_2⟩ rfl (by kernel_rfl) ?_ ?_
      ·repeat first | exact ⟨⟩ | refine ⟨rfl, ?_⟩
      exact (.cons (.tail (.tail .head)) (.cons .head (.cons .head (.cons .head (.cons .head (.cons .head (.cons .head (.cons .head (.cons .head (.cons .head (.cons .head (.cons .head (.cons .head .nil)))))))))))))
     refine WP.lx tysOk rfl ⟨⟩ (CellAt.blk (.tail (.tail (.tail (.tail (.tail (.tail (.tail (.tail .head)))))))) rfl) ?_
     refine WP.useF mm4 (A_o3_4_1, n_o3_4_1, c_o3_4_1, A_o3_4_2, n_o3_4_2, c_o3_4_2, g_o3_13_1) ⟨hf_o3_4_1, hf_o3_4_2⟩ rfl (by kernel_rfl) ?_ ?_
     ·repeat first | exact ⟨⟩ | refine ⟨rfl, ?_⟩
     exact (.cons (.tail (.tail .head)) (.cons .head (.cons .head (.cons .head (.cons .head (.cons .head (.cons .head (.cons .head (.cons .head (.cons .head (.cons .head (.cons .head (.cons .head .nil)))))))))))))
    refine WP.lx tysOk rfl ⟨⟩ (CellAt.blk (.tail (.tail (.tail (.tail (.tail (.tail .head)))))) rfl) ?_
    refine WP.useF mm8 g_o3_13_1 True.intro rfl (by kernel_rfl) ?_ ?_
    ·repeat first | exact ⟨⟩ | refine ⟨rfl, ?_⟩
    exact (.cons .head (.cons .head (.cons .head (.cons .head (.cons .head (.cons .head (.cons .head (.cons .head (.cons .head (.cons .head (.cons .head .nil)))))))))))
   intro mm13
   refine WP.cutF (α := Nat) (fun x => True) #[true, false, false, true, false, true, true, true, false, false, false, false, false, true, false, false] 10 (fun x => [(5, .pointer (some ⟨g1, 0, none⟩)), (8, .pointer (some ⟨g3, 0, none⟩)), (11, .pointer (some ⟨g5, 0, none⟩)), (13, .pointer (some ⟨x, 0, none⟩)), (55, iv d1), (58, .slice (some ⟨g7, 0, none⟩) ((xs1.length : Int).toNat) ((xs1.length : Int).toNat)), (60, iv x2), (62, iv ((gt i1.arcs x1.b).cost))]) (fun x => [.blk x 48 [.slice none 0 0, .slice none 0 0, iv 0, .slice none 0 0, .slice none 0 0, iv 0, .int .u64 (0), .bool (false)], Ow fB 4 (some ⟨g7, 0, none⟩) ((xs1.length : Int).toNat) ((xs1.length : Int).toNat) xs3, .blk g5 25 [.slice A3 n1 c3, .slice A5 xs2.length c5], Ow fA 34 A5 xs2.length c5 xs2, Ow fA 34 (some ⟨g6, 0, none⟩) 1 1 ([x1.new]), Ow (fI .i64) 2 A3 n1 c3 xs1, .blk g4 34 [iv ((gt i1.arcs x1.b).src), iv ((gt i1.arcs x1.b).dst), iv ((gt i1.arcs x1.b).low), iv ((gt i1.arcs x1.b).cap), iv ((gt i1.arcs x1.b).cost)], .blk g3 48 [.slice none 0 0, .slice none 0 0, iv 0, .slice none 0 0, .slice none 0 0, iv 0, .int .u64 (0), .bool (false)], .blk g2 56 [iv x1.node, iv x1.a, iv x1.b, iv x1.new.src, iv x1.new.dst, iv x1.new.low, iv x1.new.cap, iv x1.new.cost], .blk g1 25 [.slice A1 i1.supply.length c1, .slice A2 i1.arcs.length c2], .fz (PH.of w)]) rfl ?_ ?_
   ·rintro g_o3_13_1 _
    refine WP.any2 1 2 rfl (by kernel_rfl) rfl rfl ?_ ?_
    ·refine WP.mx_ tysOk rfl ⟨⟩ (SegAt.blk' (.tail (.tail (.tail (.tail (.tail (.tail (.tail (.tail (.tail .head))))))))) rfl) ?_
     refine WP.any1 2 rfl (by kernel_rfl) rfl ?_
     refine WP.mx_ tysOk rfl ⟨⟩ (SegAt.blk' (.tail (.tail .head)) rfl) ?_
     refine WP.any1 4 rfl (by kernel_rfl) rfl ?_
     refine WP.callS (ref03_Without_S r_o3_4_1) rfl rfl rfl rfl rfl rfl rfl (by kernel_rfl) (fun w1 hw1 => (ref03_Without_w hg_o3_4_1 (InsZ.mk_ (hw1.ow (.tail (.tail (.tail (.tail (.tail .head))))) hf3) (hw1.ow (.tail (.tail (.tail .head))) hf5)) (hw1.ow (.tail .head) hf7) SlF.nil_ :)) ?_
     rintro _ _ ⟨A_o3_4_1, n_o3_4_1, c_o3_4_1, A_o3_4_2, n_o3_4_2, c_o3_4_2, rfl, hf_o3_4_1, hf_o3_4_2, rfl⟩
     refine WP.useF mm2 (A_o3_4_1, n_o3_4_1, c_o3_4_1, A_o3_4_2, n_o3_4_2, c_o3_4_2, g_o3_13_1) ⟨hf_o3_4_1, hf_o3_4_2⟩ rfl (by kernel_rfl) ?_ ?_
     ·repeat first | exact ⟨⟩ | refine ⟨rfl, ?_⟩
     exact (.cons (.tail (.tail .head)) (.cons .head (.cons .head (.cons .head (.cons .head (.cons .head (.cons .head (.cons .head (.cons .head (.cons .head (.cons .head (.cons .head (.cons .head .nil)))))))))))))
    refine WP.mx_ tysOk rfl ⟨⟩ (SegAt.blk' (.tail (.tail .head)) rfl) ?_
    refine WP.useF mm8 g_o3_13_1 True.intro rfl (by kernel_rfl) ?_ ?_
    ·repeat first | exact ⟨⟩ | refine ⟨rfl, ?_⟩
    exact (.cons .head (.cons .head (.cons .head (.cons .head (.cons .head (.cons .head (.cons .head (.cons .head (.cons .head (.cons .head (.cons .head .nil)))))))))))
   intro mm14
   refine WP.anyP 0 tysOk putInv_body rfl rfl rfl (by kernel_rfl) (by kernel_rfl) rfl rfl rfl rfl rfl True.intro ?_
   refine WP.anyP 3 tysOk putInv_body rfl rfl rfl (by kernel_rfl) (by kernel_rfl) rfl rfl rfl rfl rfl True.intro ?_
   refine WP.anyP 5 tysOk putInv_body rfl rfl rfl (by kernel_rfl) (by kernel_rfl) rfl rfl rfl rfl rfl True.intro ?_
   refine WP.anyP 6 tysOk putInv_body rfl rfl rfl (by kernel_rfl) (by kernel_rfl) rfl rfl rfl rfl rfl True.intro ?_
   refine WP.any4 1 2 7 13 rfl (by kernel_rfl) rfl rfl rfl rfl ?_ ?_ ?_ ?_
   ·refine WP.mx_ tysOk rfl ⟨⟩ (SegAt.blk' (.tail (.tail (.tail (.tail (.tail (.tail (.tail (.tail .head)))))))) rfl) ?_
    refine WP.any3 2 7 13 rfl (by kernel_rfl) rfl rfl rfl ?_ ?_ ?_
    ·refine WP.mx_ tysOk rfl ⟨⟩ (SegAt.blk' (.tail .head) rfl) ?_
     refine WP.useF mm9 () True.intro rfl (by kernel_rfl) ?_ ?_
     ·repeat first | exact ⟨⟩ | refine ⟨rfl, ?_⟩
     exact (.cons .head (.cons .head (.cons .head (.cons .head (.cons .head (.cons .head (.cons .head (.cons .head (.cons .head (.cons .head .nil))))))))))
    ·refine WP.lx tysOk rfl ⟨⟩ (CellAt.blk (.tail (.tail (.tail (.tail (.tail .head))))) rfl) ?_
     refine WP.useF mm10 () True.intro rfl (by kernel_rfl) ?_ ?_
     ·repeat first | exact ⟨⟩ | refine ⟨rfl, ?_⟩
     exact (.cons .head (.cons .head (.cons .head (.cons .head (.cons .head (.cons .head (.cons .head (.cons .head (.cons .head (.cons .head .nil))))))))))
    refine WP.al tysOk rfl rfl rfl rfl rfl rfl ?_
    intro g_o3_13_1
    refine WP.useF mm11 g_o3_13_1 True.intro rfl (by kernel_rfl) ?_ ?_
    ·repeat first | exact ⟨⟩ | refine ⟨rfl, ?_⟩
    exact (.cons .head (.cons .head (.cons .head (.cons .head (.cons .head (.cons .head (.cons .head (.cons .head (.cons .head (.cons .head (.cons .head .nil)))))))))))
   ·refine WP.mx_ tysOk rfl ⟨⟩ (SegAt.blk' (.tail .head) rfl) ?_
    refine WP.any4 1 4 7 13 rfl (by kernel_rfl) rfl rfl rfl rfl ?_ ?_ ?_ ?_
    ·refine WP.mx_ tysOk rfl ⟨⟩ (SegAt.blk' (.tail (.tail (.tail (.tail (.tail (.tail (.tail (.tail .head)))))))) rfl) ?_
     refine WP.useF mm9 () True.intro rfl (by kernel_rfl) ?_ ?_
     ·repeat first | exact ⟨⟩ | refine ⟨rfl, ?_⟩
     exact (.cons .head (.cons .head (.cons .head (.cons .head (.cons .head (.cons .head (.cons .head (.cons .head (.cons .head (.cons .head .nil))))))))))
    ·refine WP.callS (ref03_Without_S r_o3_4_1) rfl rfl rfl rfl rfl rfl rfl (by kernel_rfl) (fun w1 hw1 => (ref03_Without_w hg_o3_4_1 (InsZ.mk_ (hw1.ow (.tail (.tail (.tail (.tail .head)))) hf3) (hw1.ow (.tail (.tail .head)) hf5)) (hw1.ow .head hf7) SlF.nil_ :)) ?_
     rintro _ _ ⟨A_o3_4_1, n_o3_4_1, c_o3_4_1, A_o3_4_2, n_o3_4_2, c_o3_4_2, rfl, hf_o3_4_1, hf_o3_4_2, rfl⟩
     refine WP.any3 1 7 13 rfl (by kernel_rfl) rfl rfl rfl ?_ ?_ ?_
     ·refine WP.mx_ tysOk rfl ⟨⟩ (SegAt.blk' (.tail (.tail (.tail (.tail (.tail (.tail (.tail (.tail (.tail (.tail .head)))))))))) rfl) ?_
      refine WP.any2 7 13 rfl (by kernel_rfl) rfl rfl ?_ ?_
      ·refine WP.lx tysOk rfl ⟨⟩ (CellAt.blk (.tail (.tail (.tail (.tail (.tail (.tail (.tail .head))))))) rfl) ?_
       refine WP.useF mm3 (A_o3_4_1, n_o3_4_1, c_o3_4_1, A_o3_4_2, n_o3_4_2, c_o3_4_2) ⟨hf_o3_4_1, hf_o3_4_2⟩ rfl (by kernel_rfl) ?_ ?_
       ·repeat first | exact ⟨⟩ | refine ⟨rfl, ?_⟩
       exact (.cons .head (.cons .head (.cons .head (.cons .head (.cons .head (.cons .head (.cons .head (.cons .head (.cons .head (.cons .head (.cons .head (.cons .head .nil))))))))))))
      refine WP.al tysOk rfl rfl rfl rfl rfl rfl ?_
      intro g_o3_13_1
      refine WP.any1 7 rfl (by kernel_rfl) rfl ?_
      refine WP.lx tysOk rfl ⟨⟩ (CellAt.blk (.tail (.tail (.tail (.tail (.tail (.tail (.tail (.tail .head)))))))) rfl) ?_
      refine WP.useF mm2 (A_o3_4_1, n_o3_4_1, c_o3_4_1, A_o3_4_2, n_o3_4_2, c_o3_4_2, g_o3_13_1) ⟨hf_o3_4_1, hf_o3_4_2⟩ rfl (by kernel_rfl) ?_ ?_
      ·repeat first | exact ⟨⟩ | refine ⟨rfl, ?_⟩
      exact (.cons .head (.cons .head (.cons .head (.cons .head (.cons .head (.cons .head (.cons .head (.cons .head (.cons .head (.cons .head (.cons .head (.cons .head (.cons .head .nil)))))))))))))
     ·refine WP.lx tysOk rfl ⟨⟩ (CellAt.blk (.tail (.tail (.tail (.tail (.tail (.tail (.tail .head))))))) rfl) ?_
      refine WP.useF mm7 (A_o3_4_1, n_o3_4_1, c_o3_4_1, A_o3_4_2, n_o3_4_2, c_o3_4_2) ⟨hf_o3_4_1, hf_o3_4_2⟩ rfl (by kernel_rfl) ?_ ?_
      ·repeat first | exact ⟨⟩ | refine ⟨rfl, ?_⟩
      exact (.cons .head (.cons .head (.cons .head (.cons .head (.cons .head (.cons .head (.cons .head (.cons .head (.cons .head (.cons .head (.cons .head (.cons .head .nil))))))))))))
     refine WP.al tysOk rfl rfl rfl rfl rfl rfl ?_
     intro g_o3_13_1
     refine WP.any2 1 7 rfl (by kernel_rfl) rfl rfl ?_ ?_
     ·refine WP.mx_ tysOk rfl ⟨⟩ (SegAt.blk' (.tail (.tail (.tail (.tail (.tail (.tail (.tail (.tail (.tail (.tail (.tail .head))))))))))) rfl) ?_
      refine WP.any1 7 rfl (by kernel_rfl) rfl ?_
      refine WP.lx tysOk rfl ⟨⟩ (CellAt.blk (.tail (.tail (.tail (.tail (.tail (.tail (.tail (.tail .head)))))))) rfl) ?_
      refine WP.useF mm2 (A_o3_4_1, n_o3_4_1, c_o3_4_1, A_o3_4_2, n_o3_4_2, c_o3_4_2, g_o3_13_1) ⟨hf_o3_4_1, hf_o3_4_2⟩ rfl (by kernel_rfl) ?_ ?_
      ·repeat first | exact ⟨⟩ | refine ⟨rfl, ?_⟩
      exact (.cons .head (.cons .head (.cons .head (.cons .head (.cons .head (.cons .head (.cons .head (.cons .head (.cons .head (.cons .head (.cons .head (.cons .head (.cons .head .nil)))))))))))))
     refine WP.lx tysOk rfl ⟨⟩ (CellAt.blk (.tail (.tail (.tail (.tail (.tail (.tail (.tail (.tail .head)))))))) rfl) ?_
     refine WP.useF mm4 (A_o3_4_1, n_o3_4_1, c_o3_4_1, A_o3_4_2, n_o3_4_2, c_o3_4_2, g_o3_13_1) ⟨hf_o3_4_1, hf_o3_4_2⟩ rfl (by kernel_rfl) ?_ ?_
     ·repeat first | exact ⟨⟩ | refine ⟨rfl, ?_⟩
     exact (.cons .head (.cons .head (.cons .head (.cons .head (.cons .head (.cons .head (.cons .head (.cons .head (.cons .head (.cons .head (.cons .head (.cons .head (.cons .head .nil)))))))))))))
    ·refine WP.lx tysOk rfl ⟨⟩ (CellAt.blk (.tail (.tail (.tail (.tail (.tail .head))))) rfl) ?_
     refine WP.useF mm12 () True.intro rfl (by kernel_rfl) ?_ ?_
     ·repeat first | exact ⟨⟩ | refine ⟨rfl, ?_⟩
     exact (.cons .head (.cons .head (.cons .head (.cons .head (.cons .head (.cons .head (.cons .head (.cons .head (.cons .head (.cons .head .nil))))))))))
    refine WP.al tysOk rfl rfl rfl rfl rfl rfl ?_
    intro g_o3_13_1
    refine WP.useF mm13 g_o3_13_1 True.intro rfl (by kernel_rfl) ?_ ?_
    ·repeat first | exact ⟨⟩ | refine ⟨rfl, ?_⟩
    exact (.cons .head (.cons .head (.cons .head (.cons .head (.cons .head (.cons .head (.cons .head (.cons .head (.cons .head (.cons .head (.cons .head .nil)))))))))))
   ·refine WP.lx tysOk rfl ⟨⟩ (CellAt.blk (.tail (.tail (.tail (.tail (.tail .head))))) rfl) ?_
    refine WP.any3 1 2 13 rfl (by kernel_rfl) rfl rfl rfl ?_ ?_ ?_
    ·refine WP.mx_ tysOk rfl ⟨⟩ (SegAt.blk' (.tail (.tail (.tail (.tail (.tail (.tail (.tail (.tail .head)))))))) rfl) ?_
     refine WP.useF mm10 () True.intro rfl (by kernel_rfl) ?_ ?_
     ·repeat first | exact ⟨⟩ | refine ⟨rfl, ?_⟩
     exact (.cons .head (.cons .head (.cons .head (.cons .head (.cons .head (.cons .head (.cons .head (.cons .head (.cons .head (.cons .head .nil))))))))))
    ·refine WP.mx_ tysOk rfl ⟨⟩ (SegAt.blk' (.tail .head) rfl) ?_
     refine WP.useF mm12 () True.intro rfl (by kernel_rfl) ?_ ?_
     ·repeat first | exact ⟨⟩ | refine ⟨rfl, ?_⟩
     exact (.cons .head (.cons .head (.cons .head (.cons .head (.cons .head (.cons .head (.cons .head (.cons .head (.cons .head (.cons .head .nil))))))))))
    refine WP.al tysOk rfl rfl rfl rfl rfl rfl ?_
    intro g_o3_13_1
    refine WP.useF mm14 g_o3_13_1 True.intro rfl (by kernel_rfl) ?_ ?_
    ·repeat first | exact ⟨⟩ | refine ⟨rfl, ?_⟩
    exact (.cons .head (.cons .head (.cons .head (.cons .head (.cons .head (.cons .head (.cons .head (.cons .head (.cons .head (.cons .head (.cons .head .nil)))))))))))
   refine WP.al tysOk rfl rfl rfl rfl rfl rfl ?_
   intro g_o3_13_1
   refine WP.any3 1 2 7 rfl (by kernel_rfl) rfl rfl rfl ?_ ?_ ?_
   ·refine WP.mx_ tysOk rfl ⟨⟩ (SegAt.blk' (.tail (.tail (.tail (.tail (.tail (.tail (.tail (.tail (.tail .head))))))))) rfl) ?_
    refine WP.useF mm11 g_o3_13_1 True.intro rfl (by kernel_rfl) ?_ ?_
    ·repeat first | exact ⟨⟩ | refine ⟨rfl, ?_⟩
    exact (.cons .head (.cons .head (.cons .head (.cons .head (.cons .head (.cons .head (.cons .head (.cons .head (.cons .head (.cons .head (.cons .head .nil)))))))))))
   ·refine WP.mx_ tysOk rfl ⟨⟩ (SegAt.blk' (.tail (.tail .head)) rfl) ?_
    refine WP.useF mm13 g_o3_13_1 True.intro rfl (by kernel_rfl) ?_ ?_
    ·repeat first | exact ⟨⟩ | refine ⟨rfl, ?_⟩
    exact (.cons .head (.cons .head (.cons .head (.cons .head (.cons .head (.cons .head (.cons .head (.cons .head (.cons .head (.cons .head (.cons .head .nil)))))))))))
   refine WP.lx tysOk rfl ⟨⟩ (CellAt.blk (.tail (.tail (.tail (.tail (.tail (.tail .head)))))) rfl) ?_
   refine WP.useF mm14 g_o3_13_1 True.intro rfl (by kernel_rfl) ?_ ?_
   ·repeat first | exact ⟨⟩ | refine ⟨rfl, ?_⟩
   exact (.cons .head (.cons .head (.cons .head (.cons .head (.cons .head (.cons .head (.cons .head (.cons .head (.cons .head (.cons .head (.cons .head .nil)))))))))))
  rintro ⟨A_o3_4_1, n_o3_4_1, c_o3_4_1, A_o3_4_2, n_o3_4_2, c_o3_4_2, Zp_o3_9_1, Zp_o3_9_2, Zn_o3_9_1, A_o3_9_1, c_o3_9_1, A_o3_9_2, c_o3_9_2, A_o3_9_3, c_o3_9_3, A_o3_9_4, c_o3_9_4, g_o3_13_1⟩ ⟨hf_o3_4_1, hf_o3_4_2, hz_o3_9_1, hz_o3_9_2, hs_o3_9_1, hs_o3_9_2, hs_o3_9_3, hs_o3_9_4⟩
  dsimp only at hf_o3_4_1 hf_o3_4_2 hz_o3_9_1 hz_o3_9_2 hs_o3_9_1 hs_o3_9_2 hs_o3_9_3 hs_o3_9_4 ⊢
  refine WP.mx_ tysOk rfl ⟨⟩ (SegAt.blk' .head rfl) ?_
  refine WP.sx tysOk rfl ⟨⟨⟩, ⟨⟩⟩ ?_
  refine WP.sto' tysOk [.slice A_o3_9_1 r_o3_9_1.1.inst.supply.length c_o3_9_1, .slice A_o3_9_2 r_o3_9_1.1.inst.arcs.length c_o3_9_2, iv r_o3_9_1.1.rcd.pass, .slice A_o3_9_3 r_o3_9_1.1.rcd.was.supply.length c_o3_9_3, .slice A_o3_9_4 r_o3_9_1.1.rcd.was.arcs.length c_o3_9_4, iv r_o3_9_1.1.off.hi, .int .u64 (r_o3_9_1.1.off.lo), .bool (r_o3_9_1.1.did)] rfl rfl rfl rfl rfl rfl rfl rfl rfl (.tail (.tail (.tail (.tail (.tail (.tail (.tail (.tail (.tail (.tail .head)))))))))) rfl rfl ?_
  refine WP.sx tysOk rfl ⟨⟨⟩, ⟨⟩⟩ ?_
  cases h
  refine WP.retR tysOk rfl rfl ⟨_, _, _, _, rfl, ⟨_, rfl, .inr ⟨rfl, _, rfl, rfl, (SegAt.blk' (z := 8) .head rfl).1⟩⟩, ⟨_, _, rfl, rfl, rfl⟩, rfl⟩ (fun w1 hw1 => ⟨_, _, rfl, ⟨PH.new _ w1, A_o3_9_1, r_o3_9_1.1.inst.supply.length, c_o3_9_1, A_o3_9_2, r_o3_9_1.1.inst.arcs.length, c_o3_9_2, A_o3_9_3, r_o3_9_1.1.rcd.was.supply.length, c_o3_9_3, A_o3_9_4, r_o3_9_1.1.rcd.was.arcs.length, c_o3_9_4, rfl, rfl, rfl, rfl, rfl, hs_o3_9_1.le' (PH.or_le (PH.or_le (PH.or_le (PH.le_or _ _) ((hw1.fzNew (.cons (.tail (.tail (.tail (.tail .head)))) (.cons (.tail (.tail (.tail (.tail (.tail (.tail (.tail (.tail (.tail (.tail (.tail (.tail .head)))))))))))) .nil))).trans (PH.new_le_or hZ))) ((hw1.fzNew (.cons (.tail (.tail (.tail .head))) (.cons (.tail (.tail (.tail (.tail (.tail (.tail (.tail (.tail (.tail (.tail (.tail (.tail .head)))))))))))) .nil))).trans (PH.new_le_or hZ))) ((hw1.fzNew (.cons (.tail (.tail .head)) (.cons (.tail (.tail (.tail (.tail (.tail (.tail (.tail (.tail (.tail (.tail (.tail (.tail .head)))))))))))) .nil))).trans (PH.new_le_or hZ))), hs_o3_9_2.le' (PH.or_le (PH.or_le (PH.or_le (PH.le_or _ _) ((hw1.fzNew (.cons (.tail (.tail (.tail (.tail .head)))) (.cons (.tail (.tail (.tail (.tail (.tail (.tail (.tail (.tail (.tail (.tail (.tail (.tail .head)))))))))))) .nil))).trans (PH.new_le_or hZ))) ((hw1.fzNew (.cons (.tail (.tail (.tail .head))) (.cons (.tail (.tail (.tail (.tail (.tail (.tail (.tail (.tail (.tail (.tail (.tail (.tail .head)))))))))))) .nil))).trans (PH.new_le_or hZ))) ((hw1.fzNew (.cons (.tail (.tail .head)) (.cons (.tail (.tail (.tail (.tail (.tail (.tail (.tail (.tail (.tail (.tail (.tail (.tail .head)))))))))))) .nil))).trans (PH.new_le_or hZ))), hs_o3_9_3.le' (PH.or_le (PH.or_le (PH.or_le (PH.le_or _ _) ((hw1.fzNew (.cons (.tail (.tail (.tail (.tail .head)))) (.cons (.tail (.tail (.tail (.tail (.tail (.tail (.tail (.tail (.tail (.tail (.tail (.tail .head)))))))))))) .nil))).trans (PH.new_le_or hZ))) ((hw1.fzNew (.cons (.tail (.tail (.tail .head))) (.cons (.tail (.tail (.tail (.tail (.tail (.tail (.tail (.tail (.tail (.tail (.tail (.tail .head)))))))))))) .nil))).trans (PH.new_le_or hZ))) ((hw1.fzNew (.cons (.tail (.tail .head)) (.cons (.tail (.tail (.tail (.tail (.tail (.tail (.tail (.tail (.tail (.tail (.tail (.tail .head)))))))))))) .nil))).trans (PH.new_le_or hZ))), hs_o3_9_4.le' (PH.or_le (PH.or_le (PH.or_le (PH.le_or _ _) ((hw1.fzNew (.cons (.tail (.tail (.tail (.tail .head)))) (.cons (.tail (.tail (.tail (.tail (.tail (.tail (.tail (.tail (.tail (.tail (.tail (.tail .head)))))))))))) .nil))).trans (PH.new_le_or hZ))) ((hw1.fzNew (.cons (.tail (.tail (.tail .head))) (.cons (.tail (.tail (.tail (.tail (.tail (.tail (.tail (.tail (.tail (.tail (.tail (.tail .head)))))))))))) .nil))).trans (PH.new_le_or hZ))) ((hw1.fzNew (.cons (.tail (.tail .head)) (.cons (.tail (.tail (.tail (.tail (.tail (.tail (.tail (.tail (.tail (.tail (.tail (.tail .head)))))))))))) .nil))).trans (PH.new_le_or hZ))), rfl⟩, Ret.freeze hw1 (.cons (.tail (.tail (.tail (.tail (.tail (.tail (.tail (.tail (.tail (.tail (.tail (.tail (.tail .head))))))))))))) .nil)⟩)

abbrev ref18_Series_S (Z : PH) (r : Step × Int) : Value → Heap → Prop := fun v L => ∃ (Zn : PH) (A1 : Option Addr) (n1 c1 : Nat) (A2 : Option Addr) (n2 c2 : Nat) (A3 : Option Addr) (n3 c3 : Nat) (A4 : Option Addr) (n4 c4 : Nat), v = .tuple #[.agg #[.slice A1 n1 c1, .slice A2 n2 c2, iv r.1.rcd.pass, .slice A3 n3 c3, .slice A4 n4 c4, iv r.1.off.hi, .int .u64 (r.1.off.lo), .bool (r.1.did)], iv r.2] ∧ n1 = r.1.inst.supply.length ∧ n2 = r.1.inst.arcs.length ∧ n3 = r.1.rcd.was.supply.length ∧ n4 = r.1.rcd.was.arcs.length ∧ FzS (fI .i64) (Z.or Zn) A1 c1 r.1.inst.supply ∧ FzS fA (Z.or Zn) A2 c2 r.1.inst.arcs ∧ FzS (fI .i64) (Z.or Zn) A3 c3 r.1.rcd.was.supply ∧ FzS fA (Z.or Zn) A4 c4 r.1.rcd.was.arcs ∧ L = [.fz Zn]
set_option maxRecDepth 20000 in
set_option maxHeartbeats 8000000 in
theorem ref18_Series_w {w : World} {Z : PH} (hZ : Z.le (PH.of w)) {v0 : Value} {i1 : Inst} {r : Step × Int} (h : ref18_Series i1 = some r) (p1 : InsZ Z v0 i1) :
    Calls Tryz.prog 17 #[v0] w fun e w' => ∃ v L, e = .returned v ∧ ref18_Series_S Z r v L ∧ Ret w w' L := by
  obtain ⟨A1, c1, A2, c2, rfl, hs1, hs2⟩ := p1
  unfold ref18_Series at h
  refine enter_ Tryz.func17 rfl Tryz.ntmps17 rfl ?_
  refine WP.box rfl rfl rfl rfl rfl rfl ?_
  intro g1
  refine WP.al tysOk rfl rfl rfl rfl rfl rfl ?_
  intro g2
  refine WP.sx tysOk rfl ⟨⟨⟩, ⟨⟩⟩ ?_
  refine WP.mx_ tysOk rfl ⟨⟩ (SegAt.blk' (.tail .head) rfl) ?_
  obtain ⟨r1, hg1, h⟩ := bind_some h
  refine WP.callV rfl rfl rfl rfl rfl rfl rfl (by kernel_rfl) (fun w1 hw1 => (ref03_Right_w hg1 (InsZ.mk_ ((hs1.le' ((Held.sub (Held.mem (List.Mem.tail _ (List.Mem.tail _ (List.Mem.head _)))) hZ) _ _ hw1)).of) ((hs2.le' ((Held.sub (Held.mem (List.Mem.tail _ (List.Mem.tail _ (List.Mem.head _)))) hZ) _ _ hw1)).of)) :)) ⟨⟩ ?_
  iterate 3 (refine WP.sx tysOk rfl ⟨⟨⟩, ⟨⟩⟩ ?_)
  refine WP.cond_d rfl rfl (fun hh1 => ?_) (fun hh1 => ?_)
  ·rw [if_pos hh1] at h
   refine WP.bld (cs := [.slice none 0 0, .slice none 0 0, iv 0, .slice none 0 0, .slice none 0 0, iv 0, .int .u64 (0), .bool (false)]) tysOk rfl ⟨⟩ rfl rfl rfl rfl rfl rfl rfl ?_
   refine WP.sx tysOk rfl ⟨⟨⟩, ⟨⟩⟩ ?_
   refine WP.sto' tysOk [.slice none 0 0, .slice none 0 0, iv 0, .slice none 0 0, .slice none 0 0, iv 0, .int .u64 (0), .bool (false)] rfl rfl rfl rfl rfl rfl rfl rfl rfl .head rfl rfl ?_
   refine WP.sx tysOk rfl ⟨⟨⟩, ⟨⟩⟩ ?_
   cases h
   refine WP.retR tysOk rfl rfl ⟨_, _, _, _, rfl, ⟨_, rfl, .inr ⟨rfl, _, rfl, rfl, (SegAt.blk' (z := 8) .head rfl).1⟩⟩, ⟨_, _, rfl, rfl, rfl⟩, rfl⟩ (fun w1 hw1 => ⟨_, _, rfl, ⟨PH.new _ w1, none, 0, 0, none, 0, 0, none, 0, 0, none, 0, 0, rfl, rfl, rfl, rfl, rfl, FzS.nil_, FzS.nil_, FzS.nil_, FzS.nil_, rfl⟩, Ret.freeze hw1 (.cons (.tail (.tail .head)) .nil)⟩)
  rw [if_neg hh1] at h
  refine WP.sx tysOk rfl ⟨⟨⟩, ⟨⟩⟩ ?_
  refine WP.loop (α := Nat × Int) (fun x => lp (ref18_Series_b1 i1) x.1 x.2 = some r) (fun x => [(1, .pointer (some ⟨g1, 0, none⟩)), (2, .pointer (some ⟨g2, 0, none⟩)), (5, iv x.2)]) (fun x => [.blk g2 48 [.slice none 0 0, .slice none 0 0, iv 0, .slice none 0 0, .slice none 0 0, iv 0, .int .u64 (0), .bool (false)], .blk g1 25 [.slice A1 i1.supply.length c1, .slice A2 i1.arcs.length c2], .fz (PH.of w)]) (fun x => x.1) rfl (big, 0) h ?_ ?_ ?_
  ·repeat first | exact ⟨⟩ | refine ⟨rfl, ?_⟩
  ·exact (.cons .head (.cons .head (.cons .head .nil)))
  rintro ⟨n3, n2⟩ h
  dsimp only at h ⊢
  rcases n3 with _ | n3
  · exact (lp_no h).elim
  replace h := lp_succ h
  unfold ref18_Series_b1 at h
  try dsimp only at h
  iterate 2 (refine WP.sx tysOk rfl ⟨⟨⟩, ⟨⟩⟩ ?_)
  refine WP.lx tysOk rfl ⟨⟩ (CellAt.blk (.tail .head) rfl) ?_
  iterate 2 (refine WP.sx tysOk rfl ⟨⟨⟩, ⟨⟩⟩ ?_)
  refine WP.cond_d rfl rfl (fun hh6 => ?_) (fun hh6 => ?_)
  ·rw [if_pos hh6] at h
   refine WP.mx_ tysOk rfl ⟨⟩ (SegAt.blk' (.tail .head) rfl) ?_
   refine WP.sx tysOk rfl ⟨⟨⟩, ⟨⟩⟩ ?_
   obtain ⟨r4, hg4, h⟩ := bind_some h
   refine WP.callV rfl rfl rfl rfl rfl rfl rfl (by kernel_rfl) (fun w1 hw1 => (ref18_Chain_w hg4 (InsZ.mk_ ((hs1.le' ((Held.sub (Held.mem (List.Mem.tail _ (List.Mem.tail _ (List.Mem.head _)))) hZ) _ _ hw1)).of) ((hs2.le' ((Held.sub (Held.mem (List.Mem.tail _ (List.Mem.tail _ (List.Mem.head _)))) hZ) _ _ hw1)).of)) :)) ⟨⟩ ?_
   iterate 3 (refine WP.sx tysOk rfl ⟨⟨⟩, ⟨⟩⟩ ?_)
   refine WP.al tysOk rfl rfl rfl rfl rfl rfl ?_
   intro g5
   refine WP.sto' tysOk [iv r4.1.node, iv r4.1.a, iv r4.1.b, iv r4.1.new.src, iv r4.1.new.dst, iv r4.1.new.low, iv r4.1.new.cap, iv r4.1.new.cost] rfl rfl rfl rfl rfl rfl rfl rfl rfl .head rfl rfl ?_
   iterate 2 (refine WP.sx tysOk rfl ⟨⟨⟩, ⟨⟩⟩ ?_)
   refine WP.cond rfl rfl (fun hh7 => ?_) (fun hh7 => ?_)
   ·rw [if_pos hh7] at h
    obtain ⟨hj_o3_5_1, h⟩ := ck_some h
    obtain ⟨r_o3_7_1, hg_o3_7_1, h⟩ := bind_some h
    refine WP.join (α := Nat × Nat × PH × (Option Addr) × Nat × (Option Addr) × Nat × (Option Addr) × Nat × (Option Addr) × Nat × Nat) (fun x => A1 = some ⟨x.1, x.2.1, none⟩ ∧ FzS (fI .i64) (PH.or Z x.2.2.1) x.2.2.2.1 x.2.2.2.2.1 r_o3_7_1.1.inst.supply ∧ FzS fA (PH.or Z x.2.2.1) x.2.2.2.2.2.1 x.2.2.2.2.2.2.1 r_o3_7_1.1.inst.arcs ∧ FzS (fI .i64) (PH.or Z x.2.2.1) x.2.2.2.2.2.2.2.1 x.2.2.2.2.2.2.2.2.1 r_o3_7_1.1.rcd.was.supply ∧ FzS fA (PH.or Z x.2.2.1) x.2.2.2.2.2.2.2.2.2.1 x.2.2.2.2.2.2.2.2.2.2.1 r_o3_7_1.1.rcd.was.arcs) (fun x => [(2, .pointer (some ⟨g2, 0, none⟩)), (8, .pointer (some ⟨x.2.2.2.2.2.2.2.2.2.2.2, 0, none⟩)), (9, iv r_o3_7_1.2)]) (fun x => [.blk x.2.2.2.2.2.2.2.2.2.2.2 48 [.slice x.2.2.2.1 r_o3_7_1.1.inst.supply.length x.2.2.2.2.1, .slice x.2.2.2.2.2.1 r_o3_7_1.1.inst.arcs.length x.2.2.2.2.2.2.1, iv r_o3_7_1.1.rcd.pass, .slice x.2.2.2.2.2.2.2.1 r_o3_7_1.1.rcd.was.supply.length x.2.2.2.2.2.2.2.2.1, .slice x.2.2.2.2.2.2.2.2.2.1 r_o3_7_1.1.rcd.was.arcs.length x.2.2.2.2.2.2.2.2.2.2.1, iv r_o3_7_1.1.off.hi, .int .u64 (r_o3_7_1.1.off.lo), .bool (r_o3_7_1.1.did)], .fz x.2.2.1, .blk g5 56 [iv r4.1.node, iv r4.1.a, iv r4.1.b, iv r4.1.new.src, iv r4.1.new.dst, iv r4.1.new.low, iv r4.1.new.cap, iv r4.1.new.cost], .blk g2 48 [.slice none 0 0, .slice none 0 0, iv 0, .slice none 0 0, .slice none 0 0, iv 0, .int .u64 (0), .bool (false)], .blk g1 25 [.slice A1 i1.supply.length c1, .slice A2 i1.arcs.length c2], .fz (PH.of w)]) rfl ?_ ?_
    ·refine WP.drawA rfl (by kernel_rfl) ?_
     refine WP.cutF (α := Nat × Nat × Nat) (fun x => A1 = some ⟨x.1, x.2.1, none⟩) #[true, true, true, true, true, true, true, false, false, false, false, true, false, false] 6 (fun x => [(2, .pointer (some ⟨g2, 0, none⟩)), (8, .pointer (some ⟨x.2.2, 0, none⟩)), (31, .agg #[.slice A1 i1.supply.length c1, .slice A2 i1.arcs.length c2]), (32, .agg #[iv r4.1.node, iv r4.1.a, iv r4.1.b, iv r4.1.new.src, iv r4.1.new.dst, iv r4.1.new.low, iv r4.1.new.cap, iv r4.1.new.cost]), (37, iv (gt i1.supply n2))]) (fun x => [.blk x.2.2 48 [.slice none 0 0, .slice none 0 0, iv 0, .slice none 0 0, .slice none 0 0, iv 0, .int .u64 (0), .bool (false)], .blk g5 56 [iv r4.1.node, iv r4.1.a, iv r4.1.b, iv r4.1.new.src, iv r4.1.new.dst, iv r4.1.new.low, iv r4.1.new.cap, iv r4.1.new.cost], .blk g2 48 [.slice none 0 0, .slice none 0 0, iv 0, .slice none 0 0, .slice none 0 0, iv 0, .int .u64 (0), .bool (false)], .blk g1 25 [.slice A1 i1.supply.length c1, .slice A2 i1.arcs.length c2], .fz (PH.of w)]) rfl ?_ ?_
     ·rintro ⟨b_o3_5_1, b_o3_5_1v, g_o3_11_1⟩ hA_o3_5_1
      dsimp only at hA_o3_5_1 ⊢
      refine WP.any1 7 rfl (by kernel_rfl) rfl ?_
      refine WP.callS (ref18_without_S Z r_o3_7_1) rfl rfl rfl rfl rfl rfl rfl (by kernel_rfl) (fun w1 hw1 => (ref18_without_w (Z := Z) ((Held.sub (Held.mem (List.Mem.tail _ (List.Mem.tail _ (List.Mem.tail _ (List.Mem.tail _ (List.Mem.head _)))))) hZ) _ _ hw1) hg_o3_7_1 (InsZ.mk_ ((hs1.le' PH.le.rfl_).of) ((hs2.le' PH.le.rfl_).of)) :)) ?_
      rintro _ _ ⟨Zn_o3_7_1, A_o3_7_1, _, c_o3_7_1, A_o3_7_2, _, c_o3_7_2, A_o3_7_3, _, c_o3_7_3, A_o3_7_4, _, c_o3_7_4, rfl, rfl, rfl, rfl, rfl, hs_o3_7_1, hs_o3_7_2, hs_o3_7_3, hs_o3_7_4, rfl⟩
      refine WP.anyP 8 tysOk putInv_body rfl rfl rfl (by kernel_rfl) (by kernel_rfl) rfl rfl rfl rfl rfl True.intro ?_
      refine WP.anyP 9 tysOk putInv_body rfl rfl rfl (by kernel_rfl) (by kernel_rfl) rfl rfl rfl rfl rfl True.intro ?_
      refine WP.anyP 10 tysOk putInv_body rfl rfl rfl (by kernel_rfl) (by kernel_rfl) rfl rfl rfl rfl rfl True.intro ?_
      refine WP.any1 12 rfl (by kernel_rfl) rfl ?_
      refine WP.sto' tysOk [.slice A_o3_7_1 r_o3_7_1.1.inst.supply.length c_o3_7_1, .slice A_o3_7_2 r_o3_7_1.1.inst.arcs.length c_o3_7_2, iv r_o3_7_1.1.rcd.pass, .slice A_o3_7_3 r_o3_7_1.1.rcd.was.supply.length c_o3_7_3, .slice A_o3_7_4 r_o3_7_1.1.rcd.was.arcs.length c_o3_7_4, iv r_o3_7_1.1.off.hi, .int .u64 (r_o3_7_1.1.off.lo), .bool (r_o3_7_1.1.did)] rfl rfl rfl rfl rfl rfl rfl rfl rfl (.tail .head) rfl rfl ?_
      refine WP.anyP 13 tysOk putInv_body rfl rfl rfl (by kernel_rfl) (by kernel_rfl) rfl rfl rfl rfl rfl True.intro ?_
      refine WP.any0 rfl (by kernel_rfl) ?_
      refine WP.stop rfl (b_o3_5_1, b_o3_5_1v, Zn_o3_7_1, A_o3_7_1, c_o3_7_1, A_o3_7_2, c_o3_7_2, A_o3_7_3, c_o3_7_3, A_o3_7_4, c_o3_7_4, g_o3_11_1) ⟨hA_o3_5_1, hs_o3_7_1, hs_o3_7_2, hs_o3_7_3, hs_o3_7_4⟩ ?_ ?_
      ·repeat first | exact ⟨⟩ | refine ⟨rfl, ?_⟩
      exact (.cons .head (.cons .head (.cons .head (.cons .head (.cons .head (.cons .head .nil))))))
     intro mm1
     refine WP.cutF (α := Nat × Nat) (fun x => A1 = some ⟨x.1, x.2, none⟩) #[true, true, true, true, true, true, true, false, false, false, false, false, false, false] 7 (fun x => [(2, .pointer (some ⟨g2, 0, none⟩)), (31, .agg #[.slice A1 i1.supply.length c1, .slice A2 i1.arcs.length c2]), (32, .agg #[iv r4.1.node, iv r4.1.a, iv r4.1.b, iv r4.1.new.src, iv r4.1.new.dst, iv r4.1.new.low, iv r4.1.new.cap, iv r4.1.new.cost]), (37, iv (gt i1.supply n2))]) (fun x => [.blk g5 56 [iv r4.1.node, iv r4.1.a, iv r4.1.b, iv r4.1.new.src, iv r4.1.new.dst, iv r4.1.new.low, iv r4.1.new.cap, iv r4.1.new.cost], .blk g2 48 [.slice none 0 0, .slice none 0 0, iv 0, .slice none 0 0, .slice none 0 0, iv 0, .int .u64 (0), .bool (false)], .blk g1 25 [.slice A1 i1.supply.length c1, .slice A2 i1.arcs.length c2], .fz (PH.of w)]) rfl ?_ ?_
     ·rintro ⟨b_o3_5_1, b_o3_5_1v⟩ hA_o3_5_1
      dsimp only at hA_o3_5_1 ⊢
      refine WP.any2 7 11 rfl (by kernel_rfl) rfl rfl ?_ ?_
      ·refine WP.callS (ref18_without_S Z r_o3_7_1) rfl rfl rfl rfl rfl rfl rfl (by kernel_rfl) (fun w1 hw1 => (ref18_without_w (Z := Z) ((Held.sub (Held.mem (List.Mem.tail _ (List.Mem.tail _ (List.Mem.tail _ (List.Mem.head _))))) hZ) _ _ hw1) hg_o3_7_1 (InsZ.mk_ ((hs1.le' PH.le.rfl_).of) ((hs2.le' PH.le.rfl_).of)) :)) ?_
       rintro _ _ ⟨Zn_o3_7_1, A_o3_7_1, _, c_o3_7_1, A_o3_7_2, _, c_o3_7_2, A_o3_7_3, _, c_o3_7_3, A_o3_7_4, _, c_o3_7_4, rfl, rfl, rfl, rfl, rfl, hs_o3_7_1, hs_o3_7_2, hs_o3_7_3, hs_o3_7_4, rfl⟩
       refine WP.anyP 8 tysOk putInv_body rfl rfl rfl (by kernel_rfl) (by kernel_rfl) rfl rfl rfl rfl rfl True.intro ?_
       refine WP.anyP 9 tysOk putInv_body rfl rfl rfl (by kernel_rfl) (by kernel_rfl) rfl rfl rfl rfl rfl True.intro ?_
       refine WP.anyP 10 tysOk putInv_body rfl rfl rfl (by kernel_rfl) (by kernel_rfl) rfl rfl rfl rfl rfl True.intro ?_
       refine WP.any1 11 rfl (by kernel_rfl) rfl ?_
       refine WP.al tysOk rfl rfl rfl rfl rfl rfl ?_
       intro g_o3_11_1
       refine WP.any1 12 rfl (by kernel_rfl) rfl ?_
       refine WP.sto' tysOk [.slice A_o3_7_1 r_o3_7_1.1.inst.supply.length c_o3_7_1, .slice A_o3_7_2 r_o3_7_1.1.inst.arcs.length c_o3_7_2, iv r_o3_7_1.1.rcd.pass, .slice A_o3_7_3 r_o3_7_1.1.rcd.was.supply.length c_o3_7_3, .slice A_o3_7_4 r_o3_7_1.1.rcd.was.arcs.length c_o3_7_4, iv r_o3_7_1.1.off.hi, .int .u64 (r_o3_7_1.1.off.lo), .bool (r_o3_7_1.1.did)] rfl rfl rfl rfl rfl rfl rfl rfl rfl .head rfl rfl ?_
       refine WP.anyP 13 tysOk putInv_body rfl rfl rfl (by kernel_rfl) (by kernel_rfl) rfl rfl rfl rfl rfl True.intro ?_
       refine WP.any0 rfl (by kernel_rfl) ?_
       refine WP.stop rfl (b_o3_5_1, b_o3_5_1v, Zn_o3_7_1, A_o3_7_1, c_o3_7_1, A_o3_7_2, c_o3_7_2, A_o3_7_3, c_o3_7_3, A_o3_7_4, c_o3_7_4, g_o3_11_1) ⟨hA_o3_5_1, hs_o3_7_1, hs_o3_7_2, hs_o3_7_3, hs_o3_7_4⟩ ?_ ?_
       ·repeat first | exact ⟨⟩ | refine ⟨rfl, ?_⟩
       exact (.cons .head (.cons .head (.cons .head (.cons .head (.cons .head (.cons .head .nil))))))
      refine WP.al tysOk rfl rfl rfl rfl rfl rfl ?_
      intro g_o3_11_1
      refine WP.useF mm1 (b_o3_5_1, b_o3_5_1v, g_o3_11_1) hA_o3_5_1 rfl (by kernel_rfl) ?_ ?_
      ·repeat first | exact ⟨⟩ | refine ⟨rfl, ?_⟩
      exact (.cons .head (.cons .head (.cons .head (.cons .head (.cons .head .nil)))))
     intro mm2
     refine WP.cutF (α := Nat) (fun x => True) #[true, true, true, true, true, false, false, false, false, false, false, true, false, false] 8 (fun x => [(2, .pointer (some ⟨g2, 0, none⟩)), (8, .pointer (some ⟨x, 0, none⟩)), (31, .agg #[.slice A1 i1.supply.length c1, .slice A2 i1.arcs.length c2]), (32, .agg #[iv r4.1.node, iv r4.1.a, iv r4.1.b, iv r4.1.new.src, iv r4.1.new.dst, iv r4.1.new.low, iv r4.1.new.cap, iv r4.1.new.cost]), (34, .slice A1 i1.supply.length c1), (35, iv n2)]) (fun x => [.blk x 48 [.slice none 0 0, .slice none 0 0, iv 0, .slice none 0 0, .slice none 0 0, iv 0, .int .u64 (0), .bool (false)], .blk g5 56 [iv r4.1.node, iv r4.1.a, iv r4.1.b, iv r4.1.new.src, iv r4.1.new.dst, iv r4.1.new.low, iv r4.1.new.cap, iv r4.1.new.cost], .blk g2 48 [.slice none 0 0, .slice none 0 0, iv 0, .slice none 0 0, .slice none 0 0, iv 0, .int .u64 (0), .bool (false)], .blk g1 25 [.slice A1 i1.supply.length c1, .slice A2 i1.arcs.length c2], .fz (PH.of w)]) rfl ?_ ?_
     ·rintro g_o3_11_1 _
      refine WP.any1 5 rfl (by kernel_rfl) rfl ?_
      refine WP.ixA tysOk rfl ⟨⟩ rfl rfl rfl rfl rfl rfl rfl rfl hj_o3_5_1 (hs1.ex hj_o3_5_1) ?_
      intro b_o3_5_1 b_o3_5_1v hA_o3_5_1
      refine WP.any1 6 rfl (by kernel_rfl) rfl ?_
      refine WP.lx tysOk rfl ⟨⟩ (hs1.at0 hA_o3_5_1 (Held.sub (Held.mem (List.Mem.tail _ (List.Mem.tail _ (List.Mem.tail _ (List.Mem.tail _ (List.Mem.head _)))))) hZ) hj_o3_5_1 rfl) ?_
      refine WP.useF mm1 (b_o3_5_1, b_o3_5_1v, g_o3_11_1) hA_o3_5_1 rfl (by kernel_rfl) ?_ ?_
      ·repeat first | exact ⟨⟩ | refine ⟨rfl, ?_⟩
      exact (.cons .head (.cons .head (.cons .head (.cons .head (.cons .head .nil)))))
     intro mm3
     refine WP.cutF (α := Nat × Nat) (fun x => A1 = some ⟨x.1, x.2, none⟩) #[true, false, true, true, true, true, true, false, false, false, false, false, false, false] 8 (fun x => [(2, .pointer (some ⟨g2, 0, none⟩)), (6, .pointer (some ⟨g5, 0, none⟩)), (31, .agg #[.slice A1 i1.supply.length c1, .slice A2 i1.arcs.length c2]), (37, iv (gt i1.supply n2))]) (fun x => [.blk g5 56 [iv r4.1.node, iv r4.1.a, iv r4.1.b, iv r4.1.new.src, iv r4.1.new.dst, iv r4.1.new.low, iv r4.1.new.cap, iv r4.1.new.cost], .blk g2 48 [.slice none 0 0, .slice none 0 0, iv 0, .slice none 0 0, .slice none 0 0, iv 0, .int .u64 (0), .bool (false)], .blk g1 25 [.slice A1 i1.supply.length c1, .slice A2 i1.arcs.length c2], .fz (PH.of w)]) rfl ?_ ?_
     ·rintro ⟨b_o3_5_1, b_o3_5_1v⟩ hA_o3_5_1
      dsimp only at hA_o3_5_1 ⊢
      refine WP.any2 1 11 rfl (by kernel_rfl) rfl rfl ?_ ?_
      ·refine WP.mx_ tysOk rfl ⟨⟩ (SegAt.blk' .head rfl) ?_
       refine WP.useF mm2 (b_o3_5_1, b_o3_5_1v) hA_o3_5_1 rfl (by kernel_rfl) ?_ ?_
       ·repeat first | exact ⟨⟩ | refine ⟨rfl, ?_⟩
       exact (.cons .head (.cons .head (.cons .head (.cons .head .nil))))
      refine WP.al tysOk rfl rfl rfl rfl rfl rfl ?_
      intro g_o3_11_1
      refine WP.any1 1 rfl (by kernel_rfl) rfl ?_
      refine WP.mx_ tysOk rfl ⟨⟩ (SegAt.blk' (.tail .head) rfl) ?_
      refine WP.useF mm1 (b_o3_5_1, b_o3_5_1v, g_o3_11_1) hA_o3_5_1 rfl (by kernel_rfl) ?_ ?_
      ·repeat first | exact ⟨⟩ | refine ⟨rfl, ?_⟩
      exact (.cons .head (.cons .head (.cons .head (.cons .head (.cons .head .nil)))))
     intro mm4
     refine WP.cutF (α := Nat × Nat) (fun x => A1 = some ⟨x.1, x.2, none⟩) #[false, true, true, true, true, true, true, false, false, false, false, false, false, false] 8 (fun x => [(1, .pointer (some ⟨g1, 0, none⟩)), (2, .pointer (some ⟨g2, 0, none⟩)), (32, .agg #[iv r4.1.node, iv r4.1.a, iv r4.1.b, iv r4.1.new.src, iv r4.1.new.dst, iv r4.1.new.low, iv r4.1.new.cap, iv r4.1.new.cost]), (37, iv (gt i1.supply n2))]) (fun x => [.blk g5 56 [iv r4.1.node, iv r4.1.a, iv r4.1.b, iv r4.1.new.src, iv r4.1.new.dst, iv r4.1.new.low, iv r4.1.new.cap, iv r4.1.new.cost], .blk g2 48 [.slice none 0 0, .slice none 0 0, iv 0, .slice none 0 0, .slice none 0 0, iv 0, .int .u64 (0), .bool (false)], .blk g1 25 [.slice A1 i1.supply.length c1, .slice A2 i1.arcs.length c2], .fz (PH.of w)]) rfl ?_ ?_
     ·rintro ⟨b_o3_5_1, b_o3_5_1v⟩ hA_o3_5_1
      dsimp only at hA_o3_5_1 ⊢
      refine WP.any2 0 11 rfl (by kernel_rfl) rfl rfl ?_ ?_
      ·refine WP.mx_ tysOk rfl ⟨⟩ (SegAt.blk' (.tail (.tail .head)) rfl) ?_
       refine WP.useF mm2 (b_o3_5_1, b_o3_5_1v) hA_o3_5_1 rfl (by kernel_rfl) ?_ ?_
       ·repeat first | exact ⟨⟩ | refine ⟨rfl, ?_⟩
       exact (.cons .head (.cons .head (.cons .head (.cons .head .nil))))
      refine WP.al tysOk rfl rfl rfl rfl rfl rfl ?_
      intro g_o3_11_1
      refine WP.any1 0 rfl (by kernel_rfl) rfl ?_
      refine WP.mx_ tysOk rfl ⟨⟩ (SegAt.blk' (.tail (.tail (.tail .head))) rfl) ?_
      refine WP.useF mm1 (b_o3_5_1, b_o3_5_1v, g_o3_11_1) hA_o3_5_1 rfl (by kernel_rfl) ?_ ?_
      ·repeat first | exact ⟨⟩ | refine ⟨rfl, ?_⟩
      exact (.cons .head (.cons .head (.cons .head (.cons .head (.cons .head .nil)))))
     intro mm5
     refine WP.cutF (α := Nat × Nat × Nat) (fun x => A1 = some ⟨x.1, x.2.1, none⟩) #[false, false, true, true, true, true, true, false, false, false, false, true, false, false] 8 (fun x => [(1, .pointer (some ⟨g1, 0, none⟩)), (2, .pointer (some ⟨g2, 0, none⟩)), (6, .pointer (some ⟨g5, 0, none⟩)), (8, .pointer (some ⟨x.2.2, 0, none⟩)), (37, iv (gt i1.supply n2))]) (fun x => [.blk x.2.2 48 [.slice none 0 0, .slice none 0 0, iv 0, .slice none 0 0, .slice none 0 0, iv 0, .int .u64 (0), .bool (false)], .blk g5 56 [iv r4.1.node, iv r4.1.a, iv r4.1.b, iv r4.1.new.src, iv r4.1.new.dst, iv r4.1.new.low, iv r4.1.new.cap, iv r4.1.new.cost], .blk g2 48 [.slice none 0 0, .slice none 0 0, iv 0, .slice none 0 0, .slice none 0 0, iv 0, .int .u64 (0), .bool (false)], .blk g1 25 [.slice A1 i1.supply.length c1, .slice A2 i1.arcs.length c2], .fz (PH.of w)]) rfl ?_ ?_
     ·rintro ⟨b_o3_5_1, b_o3_5_1v, g_o3_11_1⟩ hA_o3_5_1
      dsimp only at hA_o3_5_1 ⊢
      refine WP.any2 0 1 rfl (by kernel_rfl) rfl rfl ?_ ?_
      ·refine WP.mx_ tysOk rfl ⟨⟩ (SegAt.blk' (.tail (.tail (.tail .head))) rfl) ?_
       refine WP.any1 1 rfl (by kernel_rfl) rfl ?_
       refine WP.mx_ tysOk rfl ⟨⟩ (SegAt.blk' (.tail .head) rfl) ?_
       refine WP.useF mm1 (b_o3_5_1, b_o3_5_1v, g_o3_11_1) hA_o3_5_1 rfl (by kernel_rfl) ?_ ?_
       ·repeat first | exact ⟨⟩ | refine ⟨rfl, ?_⟩
       exact (.cons .head (.cons .head (.cons .head (.cons .head (.cons .head .nil)))))
      refine WP.mx_ tysOk rfl ⟨⟩ (SegAt.blk' (.tail .head) rfl) ?_
      refine WP.any1 0 rfl (by kernel_rfl) rfl ?_
      refine WP.mx_ tysOk rfl ⟨⟩ (SegAt.blk' (.tail (.tail (.tail .head))) rfl) ?_
      refine WP.useF mm1 (b_o3_5_1, b_o3_5_1v, g_o3_11_1) hA_o3_5_1 rfl (by kernel_rfl) ?_ ?_
      ·repeat first | exact ⟨⟩ | refine ⟨rfl, ?_⟩
      exact (.cons .head (.cons .head (.cons .head (.cons .head (.cons .head .nil)))))
     intro mm6
     refine WP.cutF (α := Unit) (fun x => True) #[true, true, true, true, true, false, false, false, false, false, false, false, false, false] 9 (fun x => [(2, .pointer (some ⟨g2, 0, none⟩)), (31, .agg #[.slice A1 i1.supply.length c1, .slice A2 i1.arcs.length c2]), (32, .agg #[iv r4.1.node, iv r4.1.a, iv r4.1.b, iv r4.1.new.src, iv r4.1.new.dst, iv r4.1.new.low, iv r4.1.new.cap, iv r4.1.new.cost]), (34, .slice A1 i1.supply.length c1), (35, iv n2)]) (fun x => [.blk g5 56 [iv r4.1.node, iv r4.1.a, iv r4.1.b, iv r4.1.new.src, iv r4.1.new.dst, iv r4.1.new.low, iv r4.1.new.cap, iv r4.1.new.cost], .blk g2 48 [.slice none 0 0, .slice none 0 0, iv 0, .slice none 0 0, .slice none 0 0, iv 0, .int .u64 (0), .bool (false)], .blk g1 25 [.slice A1 i1.supply.length c1, .slice A2 i1.arcs.length c2], .fz (PH.of w)]) rfl ?_ ?_
     ·rintro _ _
      refine WP.any2 5 11 rfl (by kernel_rfl) rfl rfl ?_ ?_
      ·refine WP.ixA tysOk rfl ⟨⟩ rfl rfl rfl rfl rfl rfl rfl rfl hj_o3_5_1 (hs1.ex hj_o3_5_1) ?_
       intro b_o3_5_1 b_o3_5_1v hA_o3_5_1
       refine WP.any2 6 11 rfl (by kernel_rfl) rfl rfl ?_ ?_
       ·refine WP.lx tysOk rfl ⟨⟩ (hs1.at0 hA_o3_5_1 (Held.sub (Held.mem (List.Mem.tail _ (List.Mem.tail _ (List.Mem.tail _ (List.Mem.head _))))) hZ) hj_o3_5_1 rfl) ?_
        refine WP.useF mm2 (b_o3_5_1, b_o3_5_1v) hA_o3_5_1 rfl (by kernel_rfl) ?_ ?_
        ·repeat first | exact ⟨⟩ | refine ⟨rfl, ?_⟩
        exact (.cons .head (.cons .head (.cons .head (.cons .head .nil))))
       refine WP.al tysOk rfl rfl rfl rfl rfl rfl ?_
       intro g_o3_11_1
       refine WP.any1 6 rfl (by kernel_rfl) rfl ?_
       refine WP.lx tysOk rfl ⟨⟩ (hs1.at0 hA_o3_5_1 (Held.sub (Held.mem (List.Mem.tail _ (List.Mem.tail _ (List.Mem.tail _ (List.Mem.tail _ (List.Mem.head _)))))) hZ) hj_o3_5_1 rfl) ?_
       refine WP.useF mm1 (b_o3_5_1, b_o3_5_1v, g_o3_11_1) hA_o3_5_1 rfl (by kernel_rfl) ?_ ?_
       ·repeat first | exact ⟨⟩ | refine ⟨rfl, ?_⟩
       exact (.cons .head (.cons .head (.cons .head (.cons .head (.cons .head .nil)))))
      refine WP.al tysOk rfl rfl rfl rfl rfl rfl ?_
      intro g_o3_11_1
      refine WP.useF mm3 g_o3_11_1 True.intro rfl (by kernel_rfl) ?_ ?_
      ·repeat first | exact ⟨⟩ | refine ⟨rfl, ?_⟩
      exact (.cons .head (.cons .head (.cons .head (.cons .head (.cons .head .nil)))))
     intro mm7
     refine WP.cutF (α := Nat) (fun x => True) #[true, false, true, true, true, false, false, false, false, false, false, true, false, false] 9 (fun x => [(2, .pointer (some ⟨g2, 0, none⟩)), (6, .pointer (some ⟨g5, 0, none⟩)), (8, .pointer (some ⟨x, 0, none⟩)), (31, .agg #[.slice A1 i1.supply.length c1, .slice A2 i1.arcs.length c2]), (34, .slice A1 i1.supply.length c1), (35, iv n2)]) (fun x => [.blk x 48 [.slice none 0 0, .slice none 0 0, iv 0, .slice none 0 0, .slice none 0 0, iv 0, .int .u64 (0), .bool (false)], .blk g5 56 [iv r4.1.node, iv r4.1.a, iv r4.1.b, iv r4.1.new.src, iv r4.1.new.dst, iv r4.1.new.low, iv r4.1.new.cap, iv r4.1.new.cost], .blk g2 48 [.slice none 0 0, .slice none 0 0, iv 0, .slice none 0 0, .slice none 0 0, iv 0, .int .u64 (0), .bool (false)], .blk g1 25 [.slice A1 i1.supply.length c1, .slice A2 i1.arcs.length c2], .fz (PH.of w)]) rfl ?_ ?_
     ·rintro g_o3_11_1 _
      refine WP.any2 1 5 rfl (by kernel_rfl) rfl rfl ?_ ?_
      ·refine WP.mx_ tysOk rfl ⟨⟩ (SegAt.blk' (.tail .head) rfl) ?_
       refine WP.useF mm3 g_o3_11_1 True.intro rfl (by kernel_rfl) ?_ ?_
       ·repeat first | exact ⟨⟩ | refine ⟨rfl, ?_⟩
       exact (.cons .head (.cons .head (.cons .head (.cons .head (.cons .head .nil)))))
      refine WP.ixA tysOk rfl ⟨⟩ rfl rfl rfl rfl rfl rfl rfl rfl hj_o3_5_1 (hs1.ex hj_o3_5_1) ?_
      intro b_o3_5_1 b_o3_5_1v hA_o3_5_1
      refine WP.any2 1 6 rfl (by kernel_rfl) rfl rfl ?_ ?_
      ·refine WP.mx_ tysOk rfl ⟨⟩ (SegAt.blk' (.tail .head) rfl) ?_
       refine WP.any1 6 rfl (by kernel_rfl) rfl ?_
       refine WP.lx tysOk rfl ⟨⟩ (hs1.at0 hA_o3_5_1 (Held.sub (Held.mem (List.Mem.tail _ (List.Mem.tail _ (List.Mem.tail _ (List.Mem.tail _ (List.Mem.head _)))))) hZ) hj_o3_5_1 rfl) ?_
       refine WP.useF mm1 (b_o3_5_1, b_o3_5_1v, g_o3_11_1) hA_o3_5_1 rfl (by kernel_rfl) ?_ ?_
       ·repeat first | exact ⟨⟩ | refine ⟨rfl, ?_⟩
       exact (.cons .head (.cons .head (.cons .head (.cons .head (.cons .head .nil)))))
      refine WP.lx tysOk rfl ⟨⟩ (hs1.at0 hA_o3_5_1 (Held.sub (Held.mem (List.Mem.tail _ (List.Mem.tail _ (List.Mem.tail _ (List.Mem.tail _ (List.Mem.head _)))))) hZ) hj_o3_5_1 rfl) ?_
      refine WP.any1 1 rfl (by kernel_rfl) rfl ?_
      refine WP.mx_ tysOk rfl ⟨⟩ (SegAt.blk' (.tail .head) rfl) ?_
      refine WP.useF mm1 (b_o3_5_1, b_o3_5_1v, g_o3_11_1) hA_o3_5_1 rfl (by kernel_rfl) ?_ ?_
      ·repeat first | exact ⟨⟩ | refine ⟨rfl, ?_⟩
      exact (.cons .head (.cons .head (.cons .head (.cons .head (.cons .head .nil)))))
     intro mm8
     refine WP.cutF (α := Nat) (fun x => True) #[false, true, true, true, true, false, false, false, false, false, false, true, false, false] 9 (fun x => [(1, .pointer (some ⟨g1, 0, none⟩)), (2, .pointer (some ⟨g2, 0, none⟩)), (8, .pointer (some ⟨x, 0, none⟩)), (32, .agg #[iv r4.1.node, iv r4.1.a, iv r4.1.b, iv r4.1.new.src, iv r4.1.new.dst, iv r4.1.new.low, iv r4.1.new.cap, iv r4.1.new.cost]), (34, .slice A1 i1.supply.length c1), (35, iv n2)]) (fun x => [.blk x 48 [.slice none 0 0, .slice none 0 0, iv 0, .slice none 0 0, .slice none 0 0, iv 0, .int .u64 (0), .bool (false)], .blk g5 56 [iv r4.1.node, iv r4.1.a, iv r4.1.b, iv r4.1.new.src, iv r4.1.new.dst, iv r4.1.new.low, iv r4.1.new.cap, iv r4.1.new.cost], .blk g2 48 [.slice none 0 0, .slice none 0 0, iv 0, .slice none 0 0, .slice none 0 0, iv 0, .int .u64 (0), .bool (false)], .blk g1 25 [.slice A1 i1.supply.length c1, .slice A2 i1.arcs.length c2], .fz (PH.of w)]) rfl ?_ ?_
     ·rintro g_o3_11_1 _
      refine WP.any2 0 5 rfl (by kernel_rfl) rfl rfl ?_ ?_
      ·refine WP.mx_ tysOk rfl ⟨⟩ (SegAt.blk' (.tail (.tail (.tail .head))) rfl) ?_
       refine WP.useF mm3 g_o3_11_1 True.intro rfl (by kernel_rfl) ?_ ?_
       ·repeat first | exact ⟨⟩ | refine ⟨rfl, ?_⟩
       exact (.cons .head (.cons .head (.cons .head (.cons .head (.cons .head .nil)))))
      refine WP.ixA tysOk rfl ⟨⟩ rfl rfl rfl rfl rfl rfl rfl rfl hj_o3_5_1 (hs1.ex hj_o3_5_1) ?_
      intro b_o3_5_1 b_o3_5_1v hA_o3_5_1
      refine WP.any2 0 6 rfl (by kernel_rfl) rfl rfl ?_ ?_
      ·refine WP.mx_ tysOk rfl ⟨⟩ (SegAt.blk' (.tail (.tail (.tail .head))) rfl) ?_
       refine WP.any1 6 rfl (by kernel_rfl) rfl ?_
       refine WP.lx tysOk rfl ⟨⟩ (hs1.at0 hA_o3_5_1 (Held.sub (Held.mem (List.Mem.tail _ (List.Mem.tail _ (List.Mem.tail _ (List.Mem.tail _ (List.Mem.head _)))))) hZ) hj_o3_5_1 rfl) ?_
       refine WP.useF mm1 (b_o3_5_1, b_o3_5_1v, g_o3_11_1) hA_o3_5_1 rfl (by kernel_rfl) ?_ ?_
       ·repeat first | exact ⟨⟩ | refine ⟨rfl, ?_⟩
       exact (.cons .head (.cons .head (.cons .head (.cons .head (.cons .head .nil)))))
      refine WP.lx tysOk rfl ⟨⟩ (hs1.at0 hA_o3_5_1 (Held.sub (Held.mem (List.Mem.tail _ (List.Mem.tail _ (List.Mem.tail _ (List.Mem.tail _ (List.Mem.head _)))))) hZ) hj_o3_5_1 rfl) ?_
      refine WP.any1 0 rfl (by kernel_rfl) rfl ?_
      refine WP.mx_ tysOk rfl ⟨⟩ (SegAt.blk' (.tail (.tail (.tail .head))) rfl) ?_
      refine WP.useF mm1 (b_o3_5_1, b_o3_5_1v, g_o3_11_1) hA_o3_5_1 rfl (by kernel_rfl) ?_ ?_
      ·repeat first | exact ⟨⟩ | refine ⟨rfl, ?_⟩
      exact (.cons .head (.cons .head (.cons .head (.cons .head (.cons .head .nil)))))
     intro mm9
     refine WP.cutF (α := Unit) (fun x => True) #[true, true, true, false, true, false, false, false, false, false, false, false, false, false] 10 (fun x => [(2, .pointer (some ⟨g2, 0, none⟩)), (31, .agg #[.slice A1 i1.supply.length c1, .slice A2 i1.arcs.length c2]), (32, .agg #[iv r4.1.node, iv r4.1.a, iv r4.1.b, iv r4.1.new.src, iv r4.1.new.dst, iv r4.1.new.low, iv r4.1.new.cap, iv r4.1.new.cost]), (33, .pointer (some ⟨g1, 0, none⟩)), (35, iv n2)]) (fun x => [.blk g5 56 [iv r4.1.node, iv r4.1.a, iv r4.1.b, iv r4.1.new.src, iv r4.1.new.dst, iv r4.1.new.low, iv r4.1.new.cap, iv r4.1.new.cost], .blk g2 48 [.slice none 0 0, .slice none 0 0, iv 0, .slice none 0 0, .slice none 0 0, iv 0, .int .u64 (0), .bool (false)], .blk g1 25 [.slice A1 i1.supply.length c1, .slice A2 i1.arcs.length c2], .fz (PH.of w)]) rfl ?_ ?_
     ·rintro _ _
      refine WP.any2 3 11 rfl (by kernel_rfl) rfl rfl ?_ ?_
      ·refine WP.lx tysOk rfl ⟨⟩ (CellAt.blk (.tail (.tail .head)) rfl) ?_
       refine WP.useF mm7 () True.intro rfl (by kernel_rfl) ?_ ?_
       ·repeat first | exact ⟨⟩ | refine ⟨rfl, ?_⟩
       exact (.cons .head (.cons .head (.cons .head (.cons .head .nil))))
      refine WP.al tysOk rfl rfl rfl rfl rfl rfl ?_
      intro g_o3_11_1
      refine WP.any1 3 rfl (by kernel_rfl) rfl ?_
      refine WP.lx tysOk rfl ⟨⟩ (CellAt.blk (.tail (.tail (.tail .head))) rfl) ?_
      refine WP.useF mm3 g_o3_11_1 True.intro rfl (by kernel_rfl) ?_ ?_
      ·repeat first | exact ⟨⟩ | refine ⟨rfl, ?_⟩
      exact (.cons .head (.cons .head (.cons .head (.cons .head (.cons .head .nil)))))
     intro mm10
     refine WP.cutF (α := Unit) (fun x => True) #[true, false, true, true, true, false, false, false, false, false, false, false, false, false] 10 (fun x => [(2, .pointer (some ⟨g2, 0, none⟩)), (6, .pointer (some ⟨g5, 0, none⟩)), (31, .agg #[.slice A1 i1.supply.length c1, .slice A2 i1.arcs.length c2]), (34, .slice A1 i1.supply.length c1), (35, iv n2)]) (fun x => [.blk g5 56 [iv r4.1.node, iv r4.1.a, iv r4.1.b, iv r4.1.new.src, iv r4.1.new.dst, iv r4.1.new.low, iv r4.1.new.cap, iv r4.1.new.cost], .blk g2 48 [.slice none 0 0, .slice none 0 0, iv 0, .slice none 0 0, .slice none 0 0, iv 0, .int .u64 (0), .bool (false)], .blk g1 25 [.slice A1 i1.supply.length c1, .slice A2 i1.arcs.length c2], .fz (PH.of w)]) rfl ?_ ?_
     ·rintro _ _
      refine WP.any3 1 5 11 rfl (by kernel_rfl) rfl rfl rfl ?_ ?_ ?_
      ·refine WP.mx_ tysOk rfl ⟨⟩ (SegAt.blk' .head rfl) ?_
       refine WP.useF mm7 () True.intro rfl (by kernel_rfl) ?_ ?_
       ·repeat first | exact ⟨⟩ | refine ⟨rfl, ?_⟩
       exact (.cons .head (.cons .head (.cons .head (.cons .head .nil))))
      ·refine WP.ixA tysOk rfl ⟨⟩ rfl rfl rfl rfl rfl rfl rfl rfl hj_o3_5_1 (hs1.ex hj_o3_5_1) ?_
       intro b_o3_5_1 b_o3_5_1v hA_o3_5_1
       refine WP.any3 1 6 11 rfl (by kernel_rfl) rfl rfl rfl ?_ ?_ ?_
       ·refine WP.mx_ tysOk rfl ⟨⟩ (SegAt.blk' .head rfl) ?_
        refine WP.any2 6 11 rfl (by kernel_rfl) rfl rfl ?_ ?_
        ·refine WP.lx tysOk rfl ⟨⟩ (hs1.at0 hA_o3_5_1 (Held.sub (Held.mem (List.Mem.tail _ (List.Mem.tail _ (List.Mem.tail _ (List.Mem.head _))))) hZ) hj_o3_5_1 rfl) ?_
         refine WP.useF mm2 (b_o3_5_1, b_o3_5_1v) hA_o3_5_1 rfl (by kernel_rfl) ?_ ?_
         ·repeat first | exact ⟨⟩ | refine ⟨rfl, ?_⟩
         exact (.cons .head (.cons .head (.cons .head (.cons .head .nil))))
        refine WP.al tysOk rfl rfl rfl rfl rfl rfl ?_
        intro g_o3_11_1
        refine WP.any1 6 rfl (by kernel_rfl) rfl ?_
        refine WP.lx tysOk rfl ⟨⟩ (hs1.at0 hA_o3_5_1 (Held.sub (Held.mem (List.Mem.tail _ (List.Mem.tail _ (List.Mem.tail _ (List.Mem.tail _ (List.Mem.head _)))))) hZ) hj_o3_5_1 rfl) ?_
        refine WP.useF mm1 (b_o3_5_1, b_o3_5_1v, g_o3_11_1) hA_o3_5_1 rfl (by kernel_rfl) ?_ ?_
        ·repeat first | exact ⟨⟩ | refine ⟨rfl, ?_⟩
        exact (.cons .head (.cons .head (.cons .head (.cons .head (.cons .head .nil)))))
       ·refine WP.lx tysOk rfl ⟨⟩ (hs1.at0 hA_o3_5_1 (Held.sub (Held.mem (List.Mem.tail _ (List.Mem.tail _ (List.Mem.tail _ (List.Mem.head _))))) hZ) hj_o3_5_1 rfl) ?_
        refine WP.useF mm4 (b_o3_5_1, b_o3_5_1v) hA_o3_5_1 rfl (by kernel_rfl) ?_ ?_
        ·repeat first | exact ⟨⟩ | refine ⟨rfl, ?_⟩
        exact (.cons .head (.cons .head (.cons .head (.cons .head .nil))))
       refine WP.al tysOk rfl rfl rfl rfl rfl rfl ?_
       intro g_o3_11_1
       refine WP.any2 1 6 rfl (by kernel_rfl) rfl rfl ?_ ?_
       ·refine WP.mx_ tysOk rfl ⟨⟩ (SegAt.blk' (.tail .head) rfl) ?_
        refine WP.any1 6 rfl (by kernel_rfl) rfl ?_
        refine WP.lx tysOk rfl ⟨⟩ (hs1.at0 hA_o3_5_1 (Held.sub (Held.mem (List.Mem.tail _ (List.Mem.tail _ (List.Mem.tail _ (List.Mem.tail _ (List.Mem.head _)))))) hZ) hj_o3_5_1 rfl) ?_
        refine WP.useF mm1 (b_o3_5_1, b_o3_5_1v, g_o3_11_1) hA_o3_5_1 rfl (by kernel_rfl) ?_ ?_
        ·repeat first | exact ⟨⟩ | refine ⟨rfl, ?_⟩
        exact (.cons .head (.cons .head (.cons .head (.cons .head (.cons .head .nil)))))
       refine WP.lx tysOk rfl ⟨⟩ (hs1.at0 hA_o3_5_1 (Held.sub (Held.mem (List.Mem.tail _ (List.Mem.tail _ (List.Mem.tail _ (List.Mem.tail _ (List.Mem.head _)))))) hZ) hj_o3_5_1 rfl) ?_
       refine WP.any1 1 rfl (by kernel_rfl) rfl ?_
       refine WP.mx_ tysOk rfl ⟨⟩ (SegAt.blk' (.tail .head) rfl) ?_
       refine WP.useF mm1 (b_o3_5_1, b_o3_5_1v, g_o3_11_1) hA_o3_5_1 rfl (by kernel_rfl) ?_ ?_
       ·repeat first | exact ⟨⟩ | refine ⟨rfl, ?_⟩
       exact (.cons .head (.cons .head (.cons .head (.cons .head (.cons .head .nil)))))
      refine WP.al tysOk rfl rfl rfl rfl rfl rfl ?_
      intro g_o3_11_1
      refine WP.useF mm8 g_o3_11_1 True.intro rfl (by kernel_rfl) ?_ ?_
      ·repeat first | exact ⟨⟩ | refine ⟨rfl, ?_⟩
      exact (.cons .head (.cons .head (.cons .head (.cons .head (.cons .head .nil)))))
     intro mm11
     refine WP.cutF (α := Nat) (fun x => True) #[true, false, true, false, true, false, false, false, false, false, false, true, false, false] 10 (fun x => [(2, .pointer (some ⟨g2, 0, none⟩)), (6, .pointer (some ⟨g5, 0, none⟩)), (8, .pointer (some ⟨x, 0, none⟩)), (31, .agg #[.slice A1 i1.supply.length c1, .slice A2 i1.arcs.length c2]), (33, .pointer (some ⟨g1, 0, none⟩)), (35, iv n2)]) (fun x => [.blk x 48 [.slice none 0 0, .slice none 0 0, iv 0, .slice none 0 0, .slice none 0 0, iv 0, .int .u64 (0), .bool (false)], .blk g5 56 [iv r4.1.node, iv r4.1.a, iv r4.1.b, iv r4.1.new.src, iv r4.1.new.dst, iv r4.1.new.low, iv r4.1.new.cap, iv r4.1.new.cost], .blk g2 48 [.slice none 0 0, .slice none 0 0, iv 0, .slice none 0 0, .slice none 0 0, iv 0, .int .u64 (0), .bool (false)], .blk g1 25 [.slice A1 i1.supply.length c1, .slice A2 i1.arcs.length c2], .fz (PH.of w)]) rfl ?_ ?_
     ·rintro g_o3_11_1 _
      refine WP.any2 1 3 rfl (by kernel_rfl) rfl rfl ?_ ?_
      ·refine WP.mx_ tysOk rfl ⟨⟩ (SegAt.blk' (.tail .head) rfl) ?_
       refine WP.any1 3 rfl (by kernel_rfl) rfl ?_
       refine WP.lx tysOk rfl ⟨⟩ (CellAt.blk (.tail (.tail (.tail .head))) rfl) ?_
       refine WP.useF mm3 g_o3_11_1 True.intro rfl (by kernel_rfl) ?_ ?_
       ·repeat first | exact ⟨⟩ | refine ⟨rfl, ?_⟩
       exact (.cons .head (.cons .head (.cons .head (.cons .head (.cons .head .nil)))))
      refine WP.lx tysOk rfl ⟨⟩ (CellAt.blk (.tail (.tail (.tail .head))) rfl) ?_
      refine WP.useF mm8 g_o3_11_1 True.intro rfl (by kernel_rfl) ?_ ?_
      ·repeat first | exact ⟨⟩ | refine ⟨rfl, ?_⟩
      exact (.cons .head (.cons .head (.cons .head (.cons .head (.cons .head .nil)))))
     intro mm12
     refine WP.cutF (α := Unit) (fun x => True) #[false, true, true, true, true, false, false, false, false, false, false, false, false, false] 10 (fun x => [(1, .pointer (some ⟨g1, 0, none⟩)), (2, .pointer (some ⟨g2, 0, none⟩)), (32, .agg #[iv r4.1.node, iv r4.1.a, iv r4.1.b, iv r4.1.new.src, iv r4.1.new.dst, iv r4.1.new.low, iv r4.1.new.cap, iv r4.1.new.cost]), (34, .slice A1 i1.supply.length c1), (35, iv n2)]) (fun x => [.blk g5 56 [iv r4.1.node, iv r4.1.a, iv r4.1.b, iv r4.1.new.src, iv r4.1.new.dst, iv r4.1.new.low, iv r4.1.new.cap, iv r4.1.new.cost], .blk g2 48 [.slice none 0 0, .slice none 0 0, iv 0, .slice none 0 0, .slice none 0 0, iv 0, .int .u64 (0), .bool (false)], .blk g1 25 [.slice A1 i1.supply.length c1, .slice A2 i1.arcs.length c2], .fz (PH.of w)]) rfl ?_ ?_
     ·rintro _ _
      refine WP.any3 0 5 11 rfl (by kernel_rfl) rfl rfl rfl ?_ ?_ ?_
      ·refine WP.mx_ tysOk rfl ⟨⟩ (SegAt.blk' (.tail (.tail .head)) rfl) ?_
       refine WP.useF mm7 () True.intro rfl (by kernel_rfl) ?_ ?_
       ·repeat first | exact ⟨⟩ | refine ⟨rfl, ?_⟩
       exact (.cons .head (.cons .head (.cons .head (.cons .head .nil))))
      ·refine WP.ixA tysOk rfl ⟨⟩ rfl rfl rfl rfl rfl rfl rfl rfl hj_o3_5_1 (hs1.ex hj_o3_5_1) ?_
       intro b_o3_5_1 b_o3_5_1v hA_o3_5_1
       refine WP.any3 0 6 11 rfl (by kernel_rfl) rfl rfl rfl ?_ ?_ ?_
       ·refine WP.mx_ tysOk rfl ⟨⟩ (SegAt.blk' (.tail (.tail .head)) rfl) ?_
        refine WP.any2 6 11 rfl (by kernel_rfl) rfl rfl ?_ ?_
        ·refine WP.lx tysOk rfl ⟨⟩ (hs1.at0 hA_o3_5_1 (Held.sub (Held.mem (List.Mem.tail _ (List.Mem.tail _ (List.Mem.tail _ (List.Mem.head _))))) hZ) hj_o3_5_1 rfl) ?_
         refine WP.useF mm2 (b_o3_5_1, b_o3_5_1v) hA_o3_5_1 rfl (by kernel_rfl) ?_ ?_
         ·repeat first | exact ⟨⟩ | refine ⟨rfl, ?_⟩
         exact (.cons .head (.cons .head (.cons .head (.cons .head .nil))))
        refine WP.al tysOk rfl rfl rfl rfl rfl rfl ?_
        intro g_o3_11_1
        refine WP.any1 6 rfl (by kernel_rfl) rfl ?_
        refine WP.lx tysOk rfl ⟨⟩ (hs1.at0 hA_o3_5_1 (Held.sub (Held.mem (List.Mem.tail _ (List.Mem.tail _ (List.Mem.tail _ (List.Mem.tail _ (List.Mem.head _)))))) hZ) hj_o3_5_1 rfl) ?_
        refine WP.useF mm1 (b_o3_5_1, b_o3_5_1v, g_o3_11_1) hA_o3_5_1 rfl (by kernel_rfl) ?_ ?_
        ·repeat first | exact ⟨⟩ | refine ⟨rfl, ?_⟩
        exact (.cons .head (.cons .head (.cons .head (.cons .head (.cons .head .nil)))))
       ·refine WP.lx tysOk rfl ⟨⟩ (hs1.at0 hA_o3_5_1 (Held.sub (Held.mem (List.Mem.tail _ (List.Mem.tail _ (List.Mem.tail _ (List.Mem.head _))))) hZ) hj_o3_5_1 rfl) ?_
        refine WP.useF mm5 (b_o3_5_1, b_o3_5_1v) hA_o3_5_1 rfl (by kernel_rfl) ?_ ?_
        ·repeat first | exact ⟨⟩ | refine ⟨rfl, ?_⟩
        exact (.cons .head (.cons .head (.cons .head (.cons .head .nil))))
       refine WP.al tysOk rfl rfl rfl rfl rfl rfl ?_
       intro g_o3_11_1
       refine WP.any2 0 6 rfl (by kernel_rfl) rfl rfl ?_ ?_
       ·refine WP.mx_ tysOk rfl ⟨⟩ (SegAt.blk' (.tail (.tail (.tail .head))) rfl) ?_
        refine WP.any1 6 rfl (by kernel_rfl) rfl ?_
        refine WP.lx tysOk rfl ⟨⟩ (hs1.at0 hA_o3_5_1 (Held.sub (Held.mem (List.Mem.tail _ (List.Mem.tail _ (List.Mem.tail _ (List.Mem.tail _ (List.Mem.head _)))))) hZ) hj_o3_5_1 rfl) ?_
        refine WP.useF mm1 (b_o3_5_1, b_o3_5_1v, g_o3_11_1) hA_o3_5_1 rfl (by kernel_rfl) ?_ ?_
        ·repeat first | exact ⟨⟩ | refine ⟨rfl, ?_⟩
        exact (.cons .head (.cons .head (.cons .head (.cons .head (.cons .head .nil)))))
       refine WP.lx tysOk rfl ⟨⟩ (hs1.at0 hA_o3_5_1 (Held.sub (Held.mem (List.Mem.tail _ (List.Mem.tail _ (List.Mem.tail _ (List.Mem.tail _ (List.Mem.head _)))))) hZ) hj_o3_5_1 rfl) ?_
       refine WP.any1 0 rfl (by kernel_rfl) rfl ?_
       refine WP.mx_ tysOk rfl ⟨⟩ (SegAt.blk' (.tail (.tail (.tail .head))) rfl) ?_
       refine WP.useF mm1 (b_o3_5_1, b_o3_5_1v, g_o3_11_1) hA_o3_5_1 rfl (by kernel_rfl) ?_ ?_
       ·repeat first | exact ⟨⟩ | refine ⟨rfl, ?_⟩
       exact (.cons .head (.cons .head (.cons .head (.cons .head (.cons .head .nil)))))
      refine WP.al tysOk rfl rfl rfl rfl rfl rfl ?_
      intro g_o3_11_1
      refine WP.useF mm9 g_o3_11_1 True.intro rfl (by kernel_rfl) ?_ ?_
      ·repeat first | exact ⟨⟩ | refine ⟨rfl, ?_⟩
      exact (.cons .head (.cons .head (.cons .head (.cons .head (.cons .head .nil)))))
     intro mm13
     refine WP.cutF (α := Nat) (fun x => True) #[false, true, true, false, true, false, false, false, false, false, false, true, false, false] 10 (fun x => [(1, .pointer (some ⟨g1, 0, none⟩)), (2, .pointer (some ⟨g2, 0, none⟩)), (8, .pointer (some ⟨x, 0, none⟩)), (32, .agg #[iv r4.1.node, iv r4.1.a, iv r4.1.b, iv r4.1.new.src, iv r4.1.new.dst, iv r4.1.new.low, iv r4.1.new.cap, iv r4.1.new.cost]), (33, .pointer (some ⟨g1, 0, none⟩)), (35, iv n2)]) (fun x => [.blk x 48 [.slice none 0 0, .slice none 0 0, iv 0, .slice none 0 0, .slice none 0 0, iv 0, .int .u64 (0), .bool (false)], .blk g5 56 [iv r4.1.node, iv r4.1.a, iv r4.1.b, iv r4.1.new.src, iv r4.1.new.dst, iv r4.1.new.low, iv r4.1.new.cap, iv r4.1.new.cost], .blk g2 48 [.slice none 0 0, .slice none 0 0, iv 0, .slice none 0 0, .slice none 0 0, iv 0, .int .u64 (0), .bool (false)], .blk g1 25 [.slice A1 i1.supply.length c1, .slice A2 i1.arcs.length c2], .fz (PH.of w)]) rfl ?_ ?_
     ·rintro g_o3_11_1 _
      refine WP.any2 0 3 rfl (by kernel_rfl) rfl rfl ?_ ?_
      ·refine WP.mx_ tysOk rfl ⟨⟩ (SegAt.blk' (.tail (.tail (.tail .head))) rfl) ?_
       refine WP.any1 3 rfl (by kernel_rfl) rfl ?_
       refine WP.lx tysOk rfl ⟨⟩ (CellAt.blk (.tail (.tail (.tail .head))) rfl) ?_
       refine WP.useF mm3 g_o3_11_1 True.intro rfl (by kernel_rfl) ?_ ?_
       ·repeat first | exact ⟨⟩ | refine ⟨rfl, ?_⟩
       exact (.cons .head (.cons .head (.cons .head (.cons .head (.cons .head .nil)))))
      refine WP.lx tysOk rfl ⟨⟩ (CellAt.blk (.tail (.tail (.tail .head))) rfl) ?_
      refine WP.useF mm9 g_o3_11_1 True.intro rfl (by kernel_rfl) ?_ ?_
      ·repeat first | exact ⟨⟩ | refine ⟨rfl, ?_⟩
      exact (.cons .head (.cons .head (.cons .head (.cons .head (.cons .head .nil)))))
     intro mm14
     refine WP.cutF (α := Nat) (fun x => True) #[false, false, true, true, true, false, false, false, false, false, false, true, false, false] 10 (fun x => [(1, .pointer (some ⟨g1, 0, none⟩)), (2, .pointer (some ⟨g2, 0, none⟩)), (6, .pointer (some ⟨g5, 0, none⟩)), (8, .pointer (some ⟨x, 0, none⟩)), (34, .slice A1 i1.supply.length c1), (35, iv n2)]) (fun x => [.blk x 48 [.slice none 0 0, .slice none 0 0, iv 0, .slice none 0 0, .slice none 0 0, iv 0, .int .u64 (0), .bool (false)], .blk g5 56 [iv r4.1.node, iv r4.1.a, iv r4.1.b, iv r4.1.new.src, iv r4.1.new.dst, iv r4.1.new.low, iv r4.1.new.cap, iv r4.1.new.cost], .blk g2 48 [.slice none 0 0, .slice none 0 0, iv 0, .slice none 0 0, .slice none 0 0, iv 0, .int .u64 (0), .bool (false)], .blk g1 25 [.slice A1 i1.supply.length c1, .slice A2 i1.arcs.length c2], .fz (PH.of w)]) rfl ?_ ?_
     ·rintro g_o3_11_1 _
      refine WP.any3 0 1 5 rfl (by kernel_rfl) rfl rfl rfl ?_ ?_ ?_
      ·refine WP.mx_ tysOk rfl ⟨⟩ (SegAt.blk' (.tail (.tail (.tail .head))) rfl) ?_
       refine WP.useF mm8 g_o3_11_1 True.intro rfl (by kernel_rfl) ?_ ?_
       ·repeat first | exact ⟨⟩ | refine ⟨rfl, ?_⟩
       exact (.cons .head (.cons .head (.cons .head (.cons .head (.cons .head .nil)))))
      ·refine WP.mx_ tysOk rfl ⟨⟩ (SegAt.blk' (.tail .head) rfl) ?_
       refine WP.useF mm9 g_o3_11_1 True.intro rfl (by kernel_rfl) ?_ ?_
       ·repeat first | exact ⟨⟩ | refine ⟨rfl, ?_⟩
       exact (.cons .head (.cons .head (.cons .head (.cons .head (.cons .head .nil)))))
      refine WP.ixA tysOk rfl ⟨⟩ rfl rfl rfl rfl rfl rfl rfl rfl hj_o3_5_1 (hs1.ex hj_o3_5_1) ?_
      intro b_o3_5_1 b_o3_5_1v hA_o3_5_1
      refine WP.any3 0 1 6 rfl (by kernel_rfl) rfl rfl rfl ?_ ?_ ?_
      ·refine WP.mx_ tysOk rfl ⟨⟩ (SegAt.blk' (.tail (.tail (.tail .head))) rfl) ?_
       refine WP.any2 1 6 rfl (by kernel_rfl) rfl rfl ?_ ?_
       ·refine WP.mx_ tysOk rfl ⟨⟩ (SegAt.blk' (.tail .head) rfl) ?_
        refine WP.any1 6 rfl (by kernel_rfl) rfl ?_
        refine WP.lx tysOk rfl ⟨⟩ (hs1.at0 hA_o3_5_1 (Held.sub (Held.mem (List.Mem.tail _ (List.Mem.tail _ (List.Mem.tail _ (List.Mem.tail _ (List.Mem.head _)))))) hZ) hj_o3_5_1 rfl) ?_
        refine WP.useF mm1 (b_o3_5_1, b_o3_5_1v, g_o3_11_1) hA_o3_5_1 rfl (by kernel_rfl) ?_ ?_
        ·repeat first | exact ⟨⟩ | refine ⟨rfl, ?_⟩
        exact (.cons .head (.cons .head (.cons .head (.cons .head (.cons .head .nil)))))
       refine WP.lx tysOk rfl ⟨⟩ (hs1.at0 hA_o3_5_1 (Held.sub (Held.mem (List.Mem.tail _ (List.Mem.tail _ (List.Mem.tail _ (List.Mem.tail _ (List.Mem.head _)))))) hZ) hj_o3_5_1 rfl) ?_
       refine WP.any1 1 rfl (by kernel_rfl) rfl ?_
       refine WP.mx_ tysOk rfl ⟨⟩ (SegAt.blk' (.tail .head) rfl) ?_
       refine WP.useF mm1 (b_o3_5_1, b_o3_5_1v, g_o3_11_1) hA_o3_5_1 rfl (by kernel_rfl) ?_ ?_
       ·repeat first | exact ⟨⟩ | refine ⟨rfl, ?_⟩
       exact (.cons .head (.cons .head (.cons .head (.cons .head (.cons .head .nil)))))
      ·refine WP.mx_ tysOk rfl ⟨⟩ (SegAt.blk' (.tail .head) rfl) ?_
       refine WP.any2 0 6 rfl (by kernel_rfl) rfl rfl ?_ ?_
       ·refine WP.mx_ tysOk rfl ⟨⟩ (SegAt.blk' (.tail (.tail (.tail .head))) rfl) ?_
        refine WP.any1 6 rfl (by kernel_rfl) rfl ?_
        refine WP.lx tysOk rfl ⟨⟩ (hs1.at0 hA_o3_5_1 (Held.sub (Held.mem (List.Mem.tail _ (List.Mem.tail _ (List.Mem.tail _ (List.Mem.tail _ (List.Mem.head _)))))) hZ) hj_o3_5_1 rfl) ?_
        refine WP.useF mm1 (b_o3_5_1, b_o3_5_1v, g_o3_11_1) hA_o3_5_1 rfl (by kernel_rfl) ?_ ?_
        ·repeat first | exact ⟨⟩ | refine ⟨rfl, ?_⟩
        exact (.cons .head (.cons .head (.cons .head (.cons .head (.cons .head .nil)))))
       refine WP.lx tysOk rfl ⟨⟩ (hs1.at0 hA_o3_5_1 (Held.sub (Held.mem (List.Mem.tail _ (List.Mem.tail _ (List.Mem.tail _ (List.Mem.tail _ (List.Mem.head _)))))) hZ) hj_o3_5_1 rfl) ?_
       refine WP.any1 0 rfl (by kernel_rfl) rfl ?_
       refine WP.mx_ tysOk rfl ⟨⟩ (SegAt.blk' (.tail (.tail (.tail .head))) rfl) ?_
       refine WP.useF mm1 (b_o3_5_1, b_o3_5_1v, g_o3_11_1) hA_o3_5_1 rfl (by kernel_rfl) ?_ ?_
       ·repeat first | exact ⟨⟩ | refine ⟨rfl, ?_⟩
       exact (.cons .head (.cons .head (.cons .head (.cons .head (.cons .head .nil)))))
      refine WP.lx tysOk rfl ⟨⟩ (hs1.at0 hA_o3_5_1 (Held.sub (Held.mem (List.Mem.tail _ (List.Mem.tail _ (List.Mem.tail _ (List.Mem.tail _ (List.Mem.head _)))))) hZ) hj_o3_5_1 rfl) ?_
      refine WP.useF mm6 (b_o3_5_1, b_o3_5_1v, g_o3_11_1) hA_o3_5_1 rfl (by kernel_rfl) ?_ ?_
      ·repeat first | exact ⟨⟩ | refine ⟨rfl, ?_⟩
      exact (.cons .head (.cons .head (.cons .head (.cons .head (.cons .head .nil)))))
     intro mm15
     refine WP.anyP 2 tysOk putInv_body rfl rfl rfl (by kernel_rfl) (by kernel_rfl) rfl rfl rfl rfl rfl True.intro ?_
     refine WP.anyP 4 tysOk putInv_body rfl rfl rfl (by kernel_rfl) (by kernel_rfl) rfl rfl rfl rfl rfl True.intro ?_
     refine WP.any4 0 1 3 11 rfl (by kernel_rfl) rfl rfl rfl rfl ?_ ?_ ?_ ?_
     ·refine WP.mx_ tysOk rfl ⟨⟩ (SegAt.blk' (.tail (.tail .head)) rfl) ?_
      refine WP.any3 1 3 11 rfl (by kernel_rfl) rfl rfl rfl ?_ ?_ ?_
      ·refine WP.mx_ tysOk rfl ⟨⟩ (SegAt.blk' .head rfl) ?_
       refine WP.useF mm10 () True.intro rfl (by kernel_rfl) ?_ ?_
       ·repeat first | exact ⟨⟩ | refine ⟨rfl, ?_⟩
       exact (.cons .head (.cons .head (.cons .head (.cons .head .nil))))
      ·refine WP.lx tysOk rfl ⟨⟩ (CellAt.blk (.tail (.tail .head)) rfl) ?_
       refine WP.useF mm11 () True.intro rfl (by kernel_rfl) ?_ ?_
       ·repeat first | exact ⟨⟩ | refine ⟨rfl, ?_⟩
       exact (.cons .head (.cons .head (.cons .head (.cons .head .nil))))
      refine WP.al tysOk rfl rfl rfl rfl rfl rfl ?_
      intro g_o3_11_1
      refine WP.useF mm12 g_o3_11_1 True.intro rfl (by kernel_rfl) ?_ ?_
      ·repeat first | exact ⟨⟩ | refine ⟨rfl, ?_⟩
      exact (.cons .head (.cons .head (.cons .head (.cons .head (.cons .head .nil)))))
     ·refine WP.mx_ tysOk rfl ⟨⟩ (SegAt.blk' .head rfl) ?_
      refine WP.any3 0 3 11 rfl (by kernel_rfl) rfl rfl rfl ?_ ?_ ?_
      ·refine WP.mx_ tysOk rfl ⟨⟩ (SegAt.blk' (.tail (.tail .head)) rfl) ?_
       refine WP.useF mm10 () True.intro rfl (by kernel_rfl) ?_ ?_
       ·repeat first | exact ⟨⟩ | refine ⟨rfl, ?_⟩
       exact (.cons .head (.cons .head (.cons .head (.cons .head .nil))))
      ·refine WP.lx tysOk rfl ⟨⟩ (CellAt.blk (.tail (.tail .head)) rfl) ?_
       refine WP.useF mm13 () True.intro rfl (by kernel_rfl) ?_ ?_
       ·repeat first | exact ⟨⟩ | refine ⟨rfl, ?_⟩
       exact (.cons .head (.cons .head (.cons .head (.cons .head .nil))))
      refine WP.al tysOk rfl rfl rfl rfl rfl rfl ?_
      intro g_o3_11_1
      refine WP.useF mm14 g_o3_11_1 True.intro rfl (by kernel_rfl) ?_ ?_
      ·repeat first | exact ⟨⟩ | refine ⟨rfl, ?_⟩
      exact (.cons .head (.cons .head (.cons .head (.cons .head (.cons .head .nil)))))
     ·refine WP.lx tysOk rfl ⟨⟩ (CellAt.blk (.tail (.tail .head)) rfl) ?_
      refine WP.any4 0 1 5 11 rfl (by kernel_rfl) rfl rfl rfl rfl ?_ ?_ ?_ ?_
      ·refine WP.mx_ tysOk rfl ⟨⟩ (SegAt.blk' (.tail (.tail .head)) rfl) ?_
       refine WP.useF mm11 () True.intro rfl (by kernel_rfl) ?_ ?_
       ·repeat first | exact ⟨⟩ | refine ⟨rfl, ?_⟩
       exact (.cons .head (.cons .head (.cons .head (.cons .head .nil))))
      ·refine WP.mx_ tysOk rfl ⟨⟩ (SegAt.blk' .head rfl) ?_
       refine WP.useF mm13 () True.intro rfl (by kernel_rfl) ?_ ?_
       ·repeat first | exact ⟨⟩ | refine ⟨rfl, ?_⟩
       exact (.cons .head (.cons .head (.cons .head (.cons .head .nil))))
      ·refine WP.ixA tysOk rfl ⟨⟩ rfl rfl rfl rfl rfl rfl rfl rfl hj_o3_5_1 (hs1.ex hj_o3_5_1) ?_
       intro b_o3_5_1 b_o3_5_1v hA_o3_5_1
       refine WP.any4 0 1 6 11 rfl (by kernel_rfl) rfl rfl rfl rfl ?_ ?_ ?_ ?_
       ·refine WP.mx_ tysOk rfl ⟨⟩ (SegAt.blk' (.tail (.tail .head)) rfl) ?_
        refine WP.any3 1 6 11 rfl (by kernel_rfl) rfl rfl rfl ?_ ?_ ?_
        ·refine WP.mx_ tysOk rfl ⟨⟩ (SegAt.blk' .head rfl) ?_
         refine WP.any2 6 11 rfl (by kernel_rfl) rfl rfl ?_ ?_
         ·refine WP.lx tysOk rfl ⟨⟩ (hs1.at0 hA_o3_5_1 (Held.sub (Held.mem (List.Mem.tail _ (List.Mem.tail _ (List.Mem.tail _ (List.Mem.head _))))) hZ) hj_o3_5_1 rfl) ?_
          refine WP.useF mm2 (b_o3_5_1, b_o3_5_1v) hA_o3_5_1 rfl (by kernel_rfl) ?_ ?_
          ·repeat first | exact ⟨⟩ | refine ⟨rfl, ?_⟩
          exact (.cons .head (.cons .head (.cons .head (.cons .head .nil))))
         refine WP.al tysOk rfl rfl rfl rfl rfl rfl ?_
         intro g_o3_11_1
         refine WP.any1 6 rfl (by kernel_rfl) rfl ?_
         refine WP.lx tysOk rfl ⟨⟩ (hs1.at0 hA_o3_5_1 (Held.sub (Held.mem (List.Mem.tail _ (List.Mem.tail _ (List.Mem.tail _ (List.Mem.tail _ (List.Mem.head _)))))) hZ) hj_o3_5_1 rfl) ?_
         refine WP.useF mm1 (b_o3_5_1, b_o3_5_1v, g_o3_11_1) hA_o3_5_1 rfl (by kernel_rfl) ?_ ?_
         ·repeat first | exact ⟨⟩ | refine ⟨rfl, ?_⟩
         exact (.cons .head (.cons .head (.cons .head (.cons .head (.cons .head .nil)))))
        ·refine WP.lx tysOk rfl ⟨⟩ (hs1.at0 hA_o3_5_1 (Held.sub (Held.mem (List.Mem.tail _ (List.Mem.tail _ (List.Mem.tail _ (List.Mem.head _))))) hZ) hj_o3_5_1 rfl) ?_
         refine WP.useF mm4 (b_o3_5_1, b_o3_5_1v) hA_o3_5_1 rfl (by kernel_rfl) ?_ ?_
         ·repeat first | exact ⟨⟩ | refine ⟨rfl, ?_⟩
         exact (.cons .head (.cons .head (.cons .head (.cons .head .nil))))
        refine WP.al tysOk rfl rfl rfl rfl rfl rfl ?_
        intro g_o3_11_1
        refine WP.any2 1 6 rfl (by kernel_rfl) rfl rfl ?_ ?_
        ·refine WP.mx_ tysOk rfl ⟨⟩ (SegAt.blk' (.tail .head) rfl) ?_
         refine WP.any1 6 rfl (by kernel_rfl) rfl ?_
         refine WP.lx tysOk rfl ⟨⟩ (hs1.at0 hA_o3_5_1 (Held.sub (Held.mem (List.Mem.tail _ (List.Mem.tail _ (List.Mem.tail _ (List.Mem.tail _ (List.Mem.head _)))))) hZ) hj_o3_5_1 rfl) ?_
         refine WP.useF mm1 (b_o3_5_1, b_o3_5_1v, g_o3_11_1) hA_o3_5_1 rfl (by kernel_rfl) ?_ ?_
         ·repeat first | exact ⟨⟩ | refine ⟨rfl, ?_⟩
         exact (.cons .head (.cons .head (.cons .head (.cons .head (.cons .head .nil)))))
        refine WP.lx tysOk rfl ⟨⟩ (hs1.at0 hA_o3_5_1 (Held.sub (Held.mem (List.Mem.tail _ (List.Mem.tail _ (List.Mem.tail _ (List.Mem.tail _ (List.Mem.head _)))))) hZ) hj_o3_5_1 rfl) ?_
        refine WP.any1 1 rfl (by kernel_rfl) rfl ?_
        refine WP.mx_ tysOk rfl ⟨⟩ (SegAt.blk' (.tail .head) rfl) ?_
        refine WP.useF mm1 (b_o3_5_1, b_o3_5_1v, g_o3_11_1) hA_o3_5_1 rfl (by kernel_rfl) ?_ ?_
        ·repeat first | exact ⟨⟩ | refine ⟨rfl, ?_⟩
        exact (.cons .head (.cons .head (.cons .head (.cons .head (.cons .head .nil)))))
       ·refine WP.mx_ tysOk rfl ⟨⟩ (SegAt.blk' .head rfl) ?_
        refine WP.any3 0 6 11 rfl (by kernel_rfl) rfl rfl rfl ?_ ?_ ?_
        ·refine WP.mx_ tysOk rfl ⟨⟩ (SegAt.blk' (.tail (.tail .head)) rfl) ?_
         refine WP.any2 6 11 rfl (by kernel_rfl) rfl rfl ?_ ?_
         ·refine WP.lx tysOk rfl ⟨⟩ (hs1.at0 hA_o3_5_1 (Held.sub (Held.mem (List.Mem.tail _ (List.Mem.tail _ (List.Mem.tail _ (List.Mem.head _))))) hZ) hj_o3_5_1 rfl) ?_
          refine WP.useF mm2 (b_o3_5_1, b_o3_5_1v) hA_o3_5_1 rfl (by kernel_rfl) ?_ ?_
          ·repeat first | exact ⟨⟩ | refine ⟨rfl, ?_⟩
          exact (.cons .head (.cons .head (.cons .head (.cons .head .nil))))
         refine WP.al tysOk rfl rfl rfl rfl rfl rfl ?_
         intro g_o3_11_1
         refine WP.any1 6 rfl (by kernel_rfl) rfl ?_
         refine WP.lx tysOk rfl ⟨⟩ (hs1.at0 hA_o3_5_1 (Held.sub (Held.mem (List.Mem.tail _ (List.Mem.tail _ (List.Mem.tail _ (List.Mem.tail _ (List.Mem.head _)))))) hZ) hj_o3_5_1 rfl) ?_
         refine WP.useF mm1 (b_o3_5_1, b_o3_5_1v, g_o3_11_1) hA_o3_5_1 rfl (by kernel_rfl) ?_ ?_
         ·repeat first | exact ⟨⟩ | refine ⟨rfl, ?_⟩
         exact (.cons .head (.cons .head (.cons .head (.cons .head (.cons .head .nil)))))
        ·refine WP.lx tysOk rfl ⟨⟩ (hs1.at0 hA_o3_5_1 (Held.sub (Held.mem (List.Mem.tail _ (List.Mem.tail _ (List.Mem.tail _ (List.Mem.head _))))) hZ) hj_o3_5_1 rfl) ?_
         refine WP.useF mm5 (b_o3_5_1, b_o3_5_1v) hA_o3_5_1 rfl (by kernel_rfl) ?_ ?_
         ·repeat first | exact ⟨⟩ | refine ⟨rfl, ?_⟩
         exact (.cons .head (.cons .head (.cons .head (.cons .head .nil))))
        refine WP.al tysOk rfl rfl rfl rfl rfl rfl ?_
        intro g_o3_11_1
        refine WP.any2 0 6 rfl (by kernel_rfl) rfl rfl ?_ ?_
        ·refine WP.mx_ tysOk rfl ⟨⟩ (SegAt.blk' (.tail (.tail (.tail .head))) rfl) ?_
         refine WP.any1 6 rfl (by kernel_rfl) rfl ?_
         refine WP.lx tysOk rfl ⟨⟩ (hs1.at0 hA_o3_5_1 (Held.sub (Held.mem (List.Mem.tail _ (List.Mem.tail _ (List.Mem.tail _ (List.Mem.tail _ (List.Mem.head _)))))) hZ) hj_o3_5_1 rfl) ?_
         refine WP.useF mm1 (b_o3_5_1, b_o3_5_1v, g_o3_11_1) hA_o3_5_1 rfl (by kernel_rfl) ?_ ?_
         ·repeat first | exact ⟨⟩ | refine ⟨rfl, ?_⟩
         exact (.cons .head (.cons .head (.cons .head (.cons .head (.cons .head .nil)))))
        refine WP.lx tysOk rfl ⟨⟩ (hs1.at0 hA_o3_5_1 (Held.sub (Held.mem (List.Mem.tail _ (List.Mem.tail _ (List.Mem.tail _ (List.Mem.tail _ (List.Mem.head _)))))) hZ) hj_o3_5_1 rfl) ?_
        refine WP.any1 0 rfl (by kernel_rfl) rfl ?_
        refine WP.mx_ tysOk rfl ⟨⟩ (SegAt.blk' (.tail (.tail (.tail .head))) rfl) ?_
        refine WP.useF mm1 (b_o3_5_1, b_o3_5_1v, g_o3_11_1) hA_o3_5_1 rfl (by kernel_rfl) ?_ ?_
        ·repeat first | exact ⟨⟩ | refine ⟨rfl, ?_⟩
        exact (.cons .head (.cons .head (.cons .head (.cons .head (.cons .head .nil)))))
       ·refine WP.lx tysOk rfl ⟨⟩ (hs1.at0 hA_o3_5_1 (Held.sub (Held.mem (List.Mem.tail _ (List.Mem.tail _ (List.Mem.tail _ (List.Mem.head _))))) hZ) hj_o3_5_1 rfl) ?_
        refine WP.any3 0 1 11 rfl (by kernel_rfl) rfl rfl rfl ?_ ?_ ?_
        ·refine WP.mx_ tysOk rfl ⟨⟩ (SegAt.blk' (.tail (.tail .head)) rfl) ?_
         refine WP.useF mm4 (b_o3_5_1, b_o3_5_1v) hA_o3_5_1 rfl (by kernel_rfl) ?_ ?_
         ·repeat first | exact ⟨⟩ | refine ⟨rfl, ?_⟩
         exact (.cons .head (.cons .head (.cons .head (.cons .head .nil))))
        ·refine WP.mx_ tysOk rfl ⟨⟩ (SegAt.blk' .head rfl) ?_
         refine WP.useF mm5 (b_o3_5_1, b_o3_5_1v) hA_o3_5_1 rfl (by kernel_rfl) ?_ ?_
         ·repeat first | exact ⟨⟩ | refine ⟨rfl, ?_⟩
         exact (.cons .head (.cons .head (.cons .head (.cons .head .nil))))
        refine WP.al tysOk rfl rfl rfl rfl rfl rfl ?_
        intro g_o3_11_1
        refine WP.useF mm6 (b_o3_5_1, b_o3_5_1v, g_o3_11_1) hA_o3_5_1 rfl (by kernel_rfl) ?_ ?_
        ·repeat first | exact ⟨⟩ | refine ⟨rfl, ?_⟩
        exact (.cons .head (.cons .head (.cons .head (.cons .head (.cons .head .nil)))))
       refine WP.al tysOk rfl rfl rfl rfl rfl rfl ?_
       intro g_o3_11_1
       refine WP.any3 0 1 6 rfl (by kernel_rfl) rfl rfl rfl ?_ ?_ ?_
       ·refine WP.mx_ tysOk rfl ⟨⟩ (SegAt.blk' (.tail (.tail (.tail .head))) rfl) ?_
        refine WP.any2 1 6 rfl (by kernel_rfl) rfl rfl ?_ ?_
        ·refine WP.mx_ tysOk rfl ⟨⟩ (SegAt.blk' (.tail .head) rfl) ?_
         refine WP.any1 6 rfl (by kernel_rfl) rfl ?_
         refine WP.lx tysOk rfl ⟨⟩ (hs1.at0 hA_o3_5_1 (Held.sub (Held.mem (List.Mem.tail _ (List.Mem.tail _ (List.Mem.tail _ (List.Mem.tail _ (List.Mem.head _)))))) hZ) hj_o3_5_1 rfl) ?_
         refine WP.useF mm1 (b_o3_5_1, b_o3_5_1v, g_o3_11_1) hA_o3_5_1 rfl (by kernel_rfl) ?_ ?_
         ·repeat first | exact ⟨⟩ | refine ⟨rfl, ?_⟩
         exact (.cons .head (.cons .head (.cons .head (.cons .head (.cons .head .nil)))))
        refine WP.lx tysOk rfl ⟨⟩ (hs1.at0 hA_o3_5_1 (Held.sub (Held.mem (List.Mem.tail _ (List.Mem.tail _ (List.Mem.tail _ (List.Mem.tail _ (List.Mem.head _)))))) hZ) hj_o3_5_1 rfl) ?_
        refine WP.any1 1 rfl (by kernel_rfl) rfl ?_
        refine WP.mx_ tysOk rfl ⟨⟩ (SegAt.blk' (.tail .head) rfl) ?_
        refine WP.useF mm1 (b_o3_5_1, b_o3_5_1v, g_o3_11_1) hA_o3_5_1 rfl (by kernel_rfl) ?_ ?_
        ·repeat first | exact ⟨⟩ | refine ⟨rfl, ?_⟩
        exact (.cons .head (.cons .head (.cons .head (.cons .head (.cons .head .nil)))))
       ·refine WP.mx_ tysOk rfl ⟨⟩ (SegAt.blk' (.tail .head) rfl) ?_
        refine WP.any2 0 6 rfl (by kernel_rfl) rfl rfl ?_ ?_
        ·refine WP.mx_ tysOk rfl ⟨⟩ (SegAt.blk' (.tail (.tail (.tail .head))) rfl) ?_
         refine WP.any1 6 rfl (by kernel_rfl) rfl ?_
         refine WP.lx tysOk rfl ⟨⟩ (hs1.at0 hA_o3_5_1 (Held.sub (Held.mem (List.Mem.tail _ (List.Mem.tail _ (List.Mem.tail _ (List.Mem.tail _ (List.Mem.head _)))))) hZ) hj_o3_5_1 rfl) ?_
         refine WP.useF mm1 (b_o3_5_1, b_o3_5_1v, g_o3_11_1) hA_o3_5_1 rfl (by kernel_rfl) ?_ ?_
         ·repeat first | exact ⟨⟩ | refine ⟨rfl, ?_⟩
         exact (.cons .head (.cons .head (.cons .head (.cons .head (.cons .head .nil)))))
        refine WP.lx tysOk rfl ⟨⟩ (hs1.at0 hA_o3_5_1 (Held.sub (Held.mem (List.Mem.tail _ (List.Mem.tail _ (List.Mem.tail _ (List.Mem.tail _ (List.Mem.head _)))))) hZ) hj_o3_5_1 rfl) ?_
        refine WP.any1 0 rfl (by kernel_rfl) rfl ?_
        refine WP.mx_ tysOk rfl ⟨⟩ (SegAt.blk' (.tail (.tail (.tail .head))) rfl) ?_
        refine WP.useF mm1 (b_o3_5_1, b_o3_5_1v, g_o3_11_1) hA_o3_5_1 rfl (by kernel_rfl) ?_ ?_
        ·repeat first | exact ⟨⟩ | refine ⟨rfl, ?_⟩
        exact (.cons .head (.cons .head (.cons .head (.cons .head (.cons .head .nil)))))
       refine WP.lx tysOk rfl ⟨⟩ (hs1.at0 hA_o3_5_1 (Held.sub (Held.mem (List.Mem.tail _ (List.Mem.tail _ (List.Mem.tail _ (List.Mem.tail _ (List.Mem.head _)))))) hZ) hj_o3_5_1 rfl) ?_
       refine WP.useF mm6 (b_o3_5_1, b_o3_5_1v, g_o3_11_1) hA_o3_5_1 rfl (by kernel_rfl) ?_ ?_
       ·repeat first | exact ⟨⟩ | refine ⟨rfl, ?_⟩
       exact (.cons .head (.cons .head (.cons .head (.cons .head (.cons .head .nil)))))
      refine WP.al tysOk rfl rfl rfl rfl rfl rfl ?_
      intro g_o3_11_1
      refine WP.useF mm15 g_o3_11_1 True.intro rfl (by kernel_rfl) ?_ ?_
      ·repeat first | exact ⟨⟩ | refine ⟨rfl, ?_⟩
      exact (.cons .head (.cons .head (.cons .head (.cons .head (.cons .head .nil)))))
     refine WP.al tysOk rfl rfl rfl rfl rfl rfl ?_
     intro g_o3_11_1
     refine WP.any3 0 1 3 rfl (by kernel_rfl) rfl rfl rfl ?_ ?_ ?_
     ·refine WP.mx_ tysOk rfl ⟨⟩ (SegAt.blk' (.tail (.tail (.tail .head))) rfl) ?_
      refine WP.useF mm12 g_o3_11_1 True.intro rfl (by kernel_rfl) ?_ ?_
      ·repeat first | exact ⟨⟩ | refine ⟨rfl, ?_⟩
      exact (.cons .head (.cons .head (.cons .head (.cons .head (.cons .head .nil)))))
     ·refine WP.mx_ tysOk rfl ⟨⟩ (SegAt.blk' (.tail .head) rfl) ?_
      refine WP.useF mm14 g_o3_11_1 True.intro rfl (by kernel_rfl) ?_ ?_
      ·repeat first | exact ⟨⟩ | refine ⟨rfl, ?_⟩
      exact (.cons .head (.cons .head (.cons .head (.cons .head (.cons .head .nil)))))
     refine WP.lx tysOk rfl ⟨⟩ (CellAt.blk (.tail (.tail (.tail .head))) rfl) ?_
     refine WP.useF mm15 g_o3_11_1 True.intro rfl (by kernel_rfl) ?_ ?_
     ·repeat first | exact ⟨⟩ | refine ⟨rfl, ?_⟩
     exact (.cons .head (.cons .head (.cons .head (.cons .head (.cons .head .nil)))))
    rintro ⟨b_o3_5_1, b_o3_5_1v, Zn_o3_7_1, A_o3_7_1, c_o3_7_1, A_o3_7_2, c_o3_7_2, A_o3_7_3, c_o3_7_3, A_o3_7_4, c_o3_7_4, g_o3_11_1⟩ ⟨hA_o3_5_1, hs_o3_7_1, hs_o3_7_2, hs_o3_7_3, hs_o3_7_4⟩
    dsimp only at hA_o3_5_1 hs_o3_7_1 hs_o3_7_2 hs_o3_7_3 hs_o3_7_4 ⊢
    refine WP.mx_ tysOk rfl ⟨⟩ (SegAt.blk' .head rfl) ?_
    refine WP.sx tysOk rfl ⟨⟨⟩, ⟨⟩⟩ ?_
    refine WP.sto' tysOk [.slice A_o3_7_1 r_o3_7_1.1.inst.supply.length c_o3_7_1, .slice A_o3_7_2 r_o3_7_1.1.inst.arcs.length c_o3_7_2, iv r_o3_7_1.1.rcd.pass, .slice A_o3_7_3 r_o3_7_1.1.rcd.was.supply.length c_o3_7_3, .slice A_o3_7_4 r_o3_7_1.1.rcd.was.arcs.length c_o3_7_4, iv r_o3_7_1.1.off.hi, .int .u64 (r_o3_7_1.1.off.lo), .bool (r_o3_7_1.1.did)] rfl rfl rfl rfl rfl rfl rfl rfl rfl (.tail (.tail (.tail .head))) rfl rfl ?_
    refine WP.sx tysOk rfl ⟨⟨⟩, ⟨⟩⟩ ?_
    cases h
    refine WP.retR tysOk rfl rfl ⟨_, _, _, _, rfl, ⟨_, rfl, .inr ⟨rfl, _, rfl, rfl, (SegAt.blk' (z := 8) .head rfl).1⟩⟩, ⟨_, _, rfl, rfl, rfl⟩, rfl⟩ (fun w1 hw1 => ⟨_, _, rfl, ⟨PH.new _ w1, A_o3_7_1, r_o3_7_1.1.inst.supply.length, c_o3_7_1, A_o3_7_2, r_o3_7_1.1.inst.arcs.length, c_o3_7_2, A_o3_7_3, r_o3_7_1.1.rcd.was.supply.length, c_o3_7_3, A_o3_7_4, r_o3_7_1.1.rcd.was.arcs.length, c_o3_7_4, rfl, rfl, rfl, rfl, rfl, hs_o3_7_1.le' (PH.or_le (PH.le_or _ _) ((hw1.fzNew (.cons (.tail (.tail .head)) (.cons (.tail (.tail (.tail (.tail .head)))) .nil))).trans (PH.new_le_or hZ))), hs_o3_7_2.le' (PH.or_le (PH.le_or _ _) ((hw1.fzNew (.cons (.tail (.tail .head)) (.cons (.tail (.tail (.tail (.tail .head)))) .nil))).trans (PH.new_le_or hZ))), hs_o3_7_3.le' (PH.or_le (PH.le_or _ _) ((hw1.fzNew (.cons (.tail (.tail .head)) (.cons (.tail (.tail (.tail (.tail .head)))) .nil))).trans (PH.new_le_or hZ))), hs_o3_7_4.le' (PH.or_le (PH.le_or _ _) ((hw1.fzNew (.cons (.tail (.tail .head)) (.cons (.tail (.tail (.tail (.tail .head)))) .nil))).trans (PH.new_le_or hZ))), rfl⟩, Ret.freeze hw1 (.cons (.tail (.tail (.tail (.tail (.tail .head))))) .nil)⟩)
   rw [if_neg (bneg hh7)] at h
   iterate 3 (refine WP.sx tysOk rfl ⟨⟨⟩, ⟨⟩⟩ ?_)
   refine WP.stop rfl (n3, w64 (n2 + 1)) ⟨h, Nat.lt_succ_self _⟩ ?_ ?_
   ·repeat first | exact ⟨⟩ | refine ⟨rfl, ?_⟩
   exact (.cons (.tail .head) (.cons (.tail .head) (.cons (.tail .head) .nil)))
  rw [if_neg hh6] at h
  refine WP.mx_ tysOk rfl ⟨⟩ (SegAt.blk' (.tail .head) rfl) ?_
  refine WP.bld (cs := [.slice A1 i1.supply.length c1, .slice A2 i1.arcs.length c2, iv 0, .slice none 0 0, .slice none 0 0, iv 0, .int .u64 (0), .bool (false)]) tysOk rfl ⟨⟩ rfl rfl rfl rfl rfl rfl rfl ?_
  refine WP.sto' tysOk [.slice A1 i1.supply.length c1, .slice A2 i1.arcs.length c2, iv 0, .slice none 0 0, .slice none 0 0, iv 0, .int .u64 (0), .bool (false)] rfl rfl rfl rfl rfl rfl rfl rfl rfl .head rfl rfl ?_
  refine WP.sx tysOk rfl ⟨⟨⟩, ⟨⟩⟩ ?_
  cases h
  refine WP.retR tysOk rfl rfl ⟨_, _, _, _, rfl, ⟨_, rfl, .inr ⟨rfl, _, rfl, rfl, (SegAt.blk' (z := 8) .head rfl).1⟩⟩, ⟨_, _, rfl, rfl, rfl⟩, rfl⟩ (fun w1 hw1 => ⟨_, _, rfl, ⟨PH.new _ w1, A1, i1.supply.length, c1, A2, i1.arcs.length, c2, none, 0, 0, none, 0, 0, rfl, rfl, rfl, rfl, rfl, hs1.le' (PH.le_or _ _), hs2.le' (PH.le_or _ _), FzS.nil_, FzS.nil_, rfl⟩, Ret.freeze hw1 (.cons (.tail (.tail .head)) .nil)⟩)
end Go.Proofs.YtpnohbdfgmjdbaaGreat
