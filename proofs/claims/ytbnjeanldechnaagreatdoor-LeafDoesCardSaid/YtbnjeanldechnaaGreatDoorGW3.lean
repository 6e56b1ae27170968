/- The walks: the code computes that. -/
import Derived.Test.YtbnjeanldechnaaGreatDoorGW2
import Derived.Test.YtbnjeanldechnaaGreatDoorTys
import Derived.Test.YtbnjeanldechnaaGreatDoorEngG
import Derived.KernelRfl
namespace Go.Proofs.YtbnjeanldechnaaGreatDoor
open Go.RowKit Go.Qe
abbrev ref17_Dead_S (Z : PH) (r : Step × Int) : Value → Heap → Prop := fun v L => ∃ (Zn : PH) (A1 : Option Addr) (n1 c1 : Nat) (A2 : Option Addr) (n2 c2 : Nat) (A3 : Option Addr) (n3 c3 : Nat) (A4 : Option Addr) (n4 c4 : Nat), v = .tuple #[.agg #[.slice A1 n1 c1, .slice A2 n2 c2, iv r.1.rcd.pass, .slice A3 n3 c3, .slice A4 n4 c4, iv r.1.off.hi, .int .u64 (r.1.off.lo), .bool (r.1.did)], iv r.2] ∧ n1 = r.1.inst.supply.length ∧ n2 = r.1.inst.arcs.length ∧ n3 = r.1.rcd.was.supply.length ∧ n4 = r.1.rcd.was.arcs.length ∧ FzS (fI .i64) (Z.or Zn) A1 c1 r.1.inst.supply ∧ FzS fA (Z.or Zn) A2 c2 r.1.inst.arcs ∧ FzS (fI .i64) (Z.or Zn) A3 c3 r.1.rcd.was.supply ∧ FzS fA (Z.or Zn) A4 c4 r.1.rcd.was.arcs ∧ L = [.fz Zn]
set_option maxRecDepth 20000 in
set_option maxHeartbeats 8000000 in
theorem ref17_Dead_w {w : World} {Z : PH} (hZ : Z.le (PH.of w)) {v0 : Value} {i1 : Inst} {r : Step × Int} (h : ref17_Dead i1 = some r) (p1 : InsZ Z v0 i1) :
    Calls Tryz.prog 32 #[v0] w fun e w' => ∃ v L, e = .returned v ∧ ref17_Dead_S Z r v L ∧ Ret w w' L := by
  obtain ⟨A1, c1, A2, c2, rfl, hs1, hs2⟩ := p1
  unfold ref17_Dead at h
  refine enter_ Tryz.func32 rfl Tryz.ntmps32 rfl ?_
  refine WP.box rfl rfl rfl rfl rfl rfl ?_
  intro g1
  refine WP.al tysOk rfl rfl rfl rfl rfl rfl ?_
  intro g2
  refine WP.sx tysOk rfl ⟨⟨⟩, ⟨⟩⟩ ?_
  refine WP.mx_ tysOk rfl ⟨⟩ (SegAt.blk' (.tail .head) rfl) ?_
  obtain ⟨r1, hg1, h⟩ := bind_some h
  refine WP.callV rfl rfl rfl rfl rfl rfl rfl (by kernel_rfl) (fun w1 hw1 => (ref03_Right_w hg1 (InsZ.mk_ ((hs1.le' ((Held.sub (Held.mem (List.Mem.tail _ (List.Mem.tail _ (List.Mem.head _)))) hZ) _ _ hw1)).of) ((hs2.le' ((Held.sub (Held.mem (List.Mem.tail _ (List.Mem.tail _ (List.Mem.head _)))) hZ) _ _ hw1)).of)) :)) ⟨⟩ ?_
  iterate 3 (refine WP.sx tysOk rfl ⟨⟨⟩, ⟨⟩⟩ ?_)
  refine WP.cond_d rfl rfl (fun hh1 => ?_) (fun hh1 => ?_)
  ·rw [if_pos hh1] at h
   refine WP.bld (cs := [sn, sn, iv 0, sn, sn, iv 0, .int .u64 (0), .bool (false)]) tysOk rfl ⟨⟩ rfl rfl rfl rfl rfl rfl rfl ?_
   refine WP.sx tysOk rfl ⟨⟨⟩, ⟨⟩⟩ ?_
   refine WP.sto' tysOk [sn, sn, iv 0, sn, sn, iv 0, .int .u64 (0), .bool (false)] rfl rfl rfl rfl rfl rfl rfl rfl rfl .head rfl rfl ?_
   refine WP.sx tysOk rfl ⟨⟨⟩, ⟨⟩⟩ ?_
   cases h
   refine WP.retR tysOk rfl rfl ⟨_, _, _, _, rfl, ⟨_, rfl, .inr ⟨rfl, _, rfl, rfl, (SegAt.blk' (z := 8) .head rfl).1⟩⟩, ⟨_, _, rfl, rfl, rfl⟩, rfl⟩ (fun w1 hw1 => ⟨_, _, rfl, ⟨PH.new _ w1, none, 0, 0, none, 0, 0, none, 0, 0, none, 0, 0, rfl, rfl, rfl, rfl, rfl, FzS.nil_, FzS.nil_, FzS.nil_, FzS.nil_, rfl⟩, Ret.freeze hw1 (.cons (.tail (.tail .head)) .nil)⟩)
  rw [if_neg hh1] at h
  refine WP.sx tysOk rfl ⟨⟨⟩, ⟨⟩⟩ ?_
  refine WP.loop (α := Nat × Int) (fun x => lp (ref17_Dead_b1 i1) x.1 x.2 = some r) (fun x => [(1, pt g1), (2, pt g2), (5, iv x.2)]) (fun x => [.blk g2 40 [sn, sn, iv 0, sn, sn, iv 0, .int .u64 (0), .bool (false)], .blk g1 25 [.slice A1 i1.supply.length c1, .slice A2 i1.arcs.length c2], .fz (PH.of w)]) (fun x => x.1) rfl (big, 0) h ?_ ?_ ?_
  ·repeat first|exact ⟨⟩|refine ⟨rfl,?_⟩
  ·exact Pick.all
  rintro ⟨n3, n2⟩ h
  dsimp only at h ⊢
  rcases n3 with _ | n3
  · exact (lp_no h).elim
  replace h := lp_succ h
  unfold ref17_Dead_b1 at h
  try dsimp only at h
  iterate 2 (refine WP.sx tysOk rfl ⟨⟨⟩, ⟨⟩⟩ ?_)
  refine WP.lx tysOk rfl ⟨⟩ (CellAt.blk (.tail .head) rfl) ?_
  iterate 2 (refine WP.sx tysOk rfl ⟨⟨⟩, ⟨⟩⟩ ?_)
  refine WP.cond_d rfl rfl (fun hh6 => ?_) (fun hh6 => ?_)
  ·rw [if_pos hh6] at h
   refine WP.mx_ tysOk rfl ⟨⟩ (SegAt.blk' (.tail .head) rfl) ?_
   refine WP.sx tysOk rfl ⟨⟨⟩, ⟨⟩⟩ ?_
   obtain ⟨r4, hg4, h⟩ := bind_some h
   refine WP.callV rfl rfl rfl rfl rfl rfl rfl (by kernel_rfl) (fun w1 hw1 => (ref17_Shut_w hg4 (InsZ.mk_ ((hs1.le' ((Held.sub (Held.mem (List.Mem.tail _ (List.Mem.tail _ (List.Mem.head _)))) hZ) _ _ hw1)).of) ((hs2.le' ((Held.sub (Held.mem (List.Mem.tail _ (List.Mem.tail _ (List.Mem.head _)))) hZ) _ _ hw1)).of)) :)) ⟨⟩ ?_
   refine WP.cond rfl rfl (fun hh7 => ?_) (fun hh7 => ?_)
   ·rw [if_pos hh7] at h
    obtain ⟨r_o3_6_1, hg_o3_6_1, h⟩ := bind_some h
    obtain ⟨r_o3_7_1, hg_o3_7_1, h⟩ := bind_some h
    obtain ⟨r_o3_9_1, hg_o3_9_1, h⟩ := bind_some h
    refine WP.join (α := (Option Addr) × Nat × Nat × (Option Addr) × Nat × Nat × (Option Addr) × Nat × Nat × PH × PH × PH × (Option Addr) × Nat × (Option Addr) × Nat × (Option Addr) × Nat × (Option Addr) × Nat × Nat) (fun x => OwF x.1 x.2.1 r_o3_6_1 ∧ OwF x.2.2.2.1 x.2.2.2.2.1 r_o3_7_1.supply ∧ OwF x.2.2.2.2.2.2.1 x.2.2.2.2.2.2.2.1 r_o3_7_1.arcs ∧ FzS (fI .i64) x.2.2.2.2.2.2.2.2.2.1 x.2.2.2.1 x.2.2.2.2.2.1 r_o3_7_1.supply ∧ FzS fA x.2.2.2.2.2.2.2.2.2.2.1 x.2.2.2.2.2.2.1 x.2.2.2.2.2.2.2.2.1 r_o3_7_1.arcs ∧ FzS (fI .i64) (PH.or (PH.or (PH.or Z x.2.2.2.2.2.2.2.2.2.1) x.2.2.2.2.2.2.2.2.2.2.1) x.2.2.2.2.2.2.2.2.2.2.2.1) x.2.2.2.2.2.2.2.2.2.2.2.2.1 x.2.2.2.2.2.2.2.2.2.2.2.2.2.1 r_o3_9_1.1.inst.supply ∧ FzS fA (PH.or (PH.or (PH.or Z x.2.2.2.2.2.2.2.2.2.1) x.2.2.2.2.2.2.2.2.2.2.1) x.2.2.2.2.2.2.2.2.2.2.2.1) x.2.2.2.2.2.2.2.2.2.2.2.2.2.2.1 x.2.2.2.2.2.2.2.2.2.2.2.2.2.2.2.1 r_o3_9_1.1.inst.arcs ∧ FzS (fI .i64) (PH.or (PH.or (PH.or Z x.2.2.2.2.2.2.2.2.2.1) x.2.2.2.2.2.2.2.2.2.2.1) x.2.2.2.2.2.2.2.2.2.2.2.1) x.2.2.2.2.2.2.2.2.2.2.2.2.2.2.2.2.1 x.2.2.2.2.2.2.2.2.2.2.2.2.2.2.2.2.2.1 r_o3_9_1.1.rcd.was.supply ∧ FzS fA (PH.or (PH.or (PH.or Z x.2.2.2.2.2.2.2.2.2.1) x.2.2.2.2.2.2.2.2.2.2.1) x.2.2.2.2.2.2.2.2.2.2.2.1) x.2.2.2.2.2.2.2.2.2.2.2.2.2.2.2.2.2.2.1 x.2.2.2.2.2.2.2.2.2.2.2.2.2.2.2.2.2.2.2.1 r_o3_9_1.1.rcd.was.arcs) (fun x => [(2, pt g2), (6, pt x.2.2.2.2.2.2.2.2.2.2.2.2.2.2.2.2.2.2.2.2), (7, iv r_o3_9_1.2)]) (fun x => [.blk x.2.2.2.2.2.2.2.2.2.2.2.2.2.2.2.2.2.2.2.2 40 [.slice x.2.2.2.2.2.2.2.2.2.2.2.2.1 r_o3_9_1.1.inst.supply.length x.2.2.2.2.2.2.2.2.2.2.2.2.2.1, .slice x.2.2.2.2.2.2.2.2.2.2.2.2.2.2.1 r_o3_9_1.1.inst.arcs.length x.2.2.2.2.2.2.2.2.2.2.2.2.2.2.2.1, iv r_o3_9_1.1.rcd.pass, .slice x.2.2.2.2.2.2.2.2.2.2.2.2.2.2.2.2.1 r_o3_9_1.1.rcd.was.supply.length x.2.2.2.2.2.2.2.2.2.2.2.2.2.2.2.2.2.1, .slice x.2.2.2.2.2.2.2.2.2.2.2.2.2.2.2.2.2.2.1 r_o3_9_1.1.rcd.was.arcs.length x.2.2.2.2.2.2.2.2.2.2.2.2.2.2.2.2.2.2.2.1, iv r_o3_9_1.1.off.hi, .int .u64 (r_o3_9_1.1.off.lo), .bool (r_o3_9_1.1.did)], .fz x.2.2.2.2.2.2.2.2.2.2.2.1, .fz x.2.2.2.2.2.2.2.2.2.2.1, .fz x.2.2.2.2.2.2.2.2.2.1, Ow fB 4 x.1 x.2.1 x.2.2.1 r_o3_6_1, .blk g2 40 [sn, sn, iv 0, sn, sn, iv 0, .int .u64 (0), .bool (false)], .blk g1 25 [.slice A1 i1.supply.length c1, .slice A2 i1.arcs.length c2], .fz (PH.of w)]) rfl ?_ ?_
    ·refine WP.drawA rfl (by kernel_rfl) ?_
     refine WP.cutF (α := (Option Addr) × Nat × Nat × (Option Addr) × Nat × Nat × (Option Addr) × Nat × Nat × Nat) (fun x => OwF x.1 x.2.1 r_o3_6_1 ∧ OwF x.2.2.2.1 x.2.2.2.2.1 r_o3_7_1.supply ∧ OwF x.2.2.2.2.2.2.1 x.2.2.2.2.2.2.2.1 r_o3_7_1.arcs) #[true, true, true, true, true, true, true, true, true, false, false, false, false, true, false, false] 6 (fun x => [(2, pt g2), (6, pt x.2.2.2.2.2.2.2.2.2), (25, .agg #[.slice A1 i1.supply.length c1, .slice A2 i1.arcs.length c2]), (32, .agg #[.slice x.2.2.2.1 x.2.2.2.2.1 x.2.2.2.2.2.1, .slice x.2.2.2.2.2.2.1 x.2.2.2.2.2.2.2.1 x.2.2.2.2.2.2.2.2.1]), (33, .agg #[iv 0, .int .u64 (0)])]) (fun x => [.blk x.2.2.2.2.2.2.2.2.2 40 [sn, sn, iv 0, sn, sn, iv 0, .int .u64 (0), .bool (false)], Ow (fI .i64) 2 x.2.2.2.1 x.2.2.2.2.1 x.2.2.2.2.2.1 r_o3_7_1.supply, Ow fA 31 x.2.2.2.2.2.2.1 x.2.2.2.2.2.2.2.1 x.2.2.2.2.2.2.2.2.1 r_o3_7_1.arcs, Ow fB 4 x.1 x.2.1 x.2.2.1 r_o3_6_1, .blk g2 40 [sn, sn, iv 0, sn, sn, iv 0, .int .u64 (0), .bool (false)], .blk g1 25 [.slice A1 i1.supply.length c1, .slice A2 i1.arcs.length c2], .fz (PH.of w)]) rfl ?_ ?_
     ·rintro ⟨A_o3_6_1, n_o3_6_1, c_o3_6_1, A_o3_7_1, n_o3_7_1, c_o3_7_1, A_o3_7_2, n_o3_7_2, c_o3_7_2, g_o3_13_1⟩ ⟨hf_o3_6_1, hf_o3_7_1, hf_o3_7_2⟩
      dsimp only at hf_o3_6_1 hf_o3_7_1 hf_o3_7_2 ⊢
      refine WP.any1 9 rfl (by kernel_rfl) rfl ?_
      refine WP.freezeO (.tail .head) hf_o3_7_1 ?_
      intro Zp_o3_9_1 hz_o3_9_1
      have hl_o3_9_1 := hf_o3_7_1.len
      subst hl_o3_9_1
      refine WP.freezeO (.tail (.tail .head)) hf_o3_7_2 ?_
      intro Zp_o3_9_2 hz_o3_9_2
      have hl_o3_9_2 := hf_o3_7_2.len
      subst hl_o3_9_2
      refine WP.callS (ref15_Done_S (PH.or (PH.or Z Zp_o3_9_1) Zp_o3_9_2) r_o3_9_1) rfl rfl rfl rfl rfl rfl rfl (by kernel_rfl) (fun w1 hw1 => (ref15_Done_w (Z := (PH.or (PH.or Z Zp_o3_9_1) Zp_o3_9_2)) ((Held.or (Held.or (Held.sub (Held.mem (List.Mem.tail _ (List.Mem.tail _ (List.Mem.tail _ (List.Mem.tail _ (List.Mem.tail _ (List.Mem.tail _ (List.Mem.head _)))))))) hZ) (Held.mem (List.Mem.tail _ (List.Mem.head _)))) (Held.mem (List.Mem.head _))) _ _ hw1) hg_o3_9_1 (InsZ.mk_ ((hs1.le' (PH.le.trans (PH.le.trans PH.le.rfl_ (PH.le_or _ _)) (PH.le_or _ _))).of) ((hs2.le' (PH.le.trans (PH.le.trans PH.le.rfl_ (PH.le_or _ _)) (PH.le_or _ _))).of)) (InsZ.mk_ ((hz_o3_9_1.le' (PH.le.trans (PH.ri_or ((Held.sub (Held.mem (List.Mem.tail _ (List.Mem.tail _ (List.Mem.tail _ (List.Mem.tail _ (List.Mem.tail _ (List.Mem.tail _ (List.Mem.head _)))))))) hZ) _ _ hw1) ((Held.mem (List.Mem.tail _ (List.Mem.head _))) _ _ hw1)) (PH.le_or _ _))).of) ((hz_o3_9_2.le' (PH.ri_or ((Held.or (Held.sub (Held.mem (List.Mem.tail _ (List.Mem.tail _ (List.Mem.tail _ (List.Mem.tail _ (List.Mem.tail _ (List.Mem.tail _ (List.Mem.head _)))))))) hZ) (Held.mem (List.Mem.tail _ (List.Mem.head _)))) _ _ hw1) ((Held.mem (List.Mem.head _)) _ _ hw1))).of)) :)) ?_
      rintro _ _ ⟨Zn_o3_9_1, A_o3_9_1, _, c_o3_9_1, A_o3_9_2, _, c_o3_9_2, A_o3_9_3, _, c_o3_9_3, A_o3_9_4, _, c_o3_9_4, rfl, rfl, rfl, rfl, rfl, hs_o3_9_1, hs_o3_9_2, hs_o3_9_3, hs_o3_9_4, rfl⟩
      refine WP.anyP 10 tysOk putInv_body rfl rfl rfl (by kernel_rfl) (by kernel_rfl) rfl rfl rfl rfl rfl True.intro ?_
      refine WP.anyP 11 tysOk putInv_body rfl rfl rfl (by kernel_rfl) (by kernel_rfl) rfl rfl rfl rfl rfl True.intro ?_
      refine WP.anyP 12 tysOk putInv_body rfl rfl rfl (by kernel_rfl) (by kernel_rfl) rfl rfl rfl rfl rfl True.intro ?_
      refine WP.any1 14 rfl (by kernel_rfl) rfl ?_
      refine WP.sto' tysOk [.slice A_o3_9_1 r_o3_9_1.1.inst.supply.length c_o3_9_1, .slice A_o3_9_2 r_o3_9_1.1.inst.arcs.length c_o3_9_2, iv r_o3_9_1.1.rcd.pass, .slice A_o3_9_3 r_o3_9_1.1.rcd.was.supply.length c_o3_9_3, .slice A_o3_9_4 r_o3_9_1.1.rcd.was.arcs.length c_o3_9_4, iv r_o3_9_1.1.off.hi, .int .u64 (r_o3_9_1.1.off.lo), .bool (r_o3_9_1.1.did)] rfl rfl rfl rfl rfl rfl rfl rfl rfl (.tail (.tail (.tail .head))) rfl rfl ?_
      refine WP.anyP 15 tysOk putInv_body rfl rfl rfl (by kernel_rfl) (by kernel_rfl) rfl rfl rfl rfl rfl True.intro ?_
      refine WP.any0 rfl (by kernel_rfl) ?_
      refine WP.stop rfl (A_o3_6_1, n_o3_6_1, c_o3_6_1, A_o3_7_1, (r_o3_7_1.supply.length), c_o3_7_1, A_o3_7_2, (r_o3_7_1.arcs.length), c_o3_7_2, Zp_o3_9_1, Zp_o3_9_2, Zn_o3_9_1, A_o3_9_1, c_o3_9_1, A_o3_9_2, c_o3_9_2, A_o3_9_3, c_o3_9_3, A_o3_9_4, c_o3_9_4, g_o3_13_1) ⟨hf_o3_6_1, hf_o3_7_1, hf_o3_7_2, hz_o3_9_1, hz_o3_9_2, hs_o3_9_1, hs_o3_9_2, hs_o3_9_3, hs_o3_9_4⟩ ?_ ?_
      ·repeat first|exact ⟨⟩|refine ⟨rfl,?_⟩
      exact Pick.all
     intro mm1
     refine WP.cutF (α := (Option Addr) × Nat × Nat × (Option Addr) × Nat × Nat × (Option Addr) × Nat × Nat) (fun x => OwF x.1 x.2.1 r_o3_6_1 ∧ OwF x.2.2.2.1 x.2.2.2.2.1 r_o3_7_1.supply ∧ OwF x.2.2.2.2.2.2.1 x.2.2.2.2.2.2.2.1 r_o3_7_1.arcs) #[true, true, true, true, true, true, true, true, true, false, false, false, false, false, false, false] 7 (fun x => [(2, pt g2), (25, .agg #[.slice A1 i1.supply.length c1, .slice A2 i1.arcs.length c2]), (32, .agg #[.slice x.2.2.2.1 x.2.2.2.2.1 x.2.2.2.2.2.1, .slice x.2.2.2.2.2.2.1 x.2.2.2.2.2.2.2.1 x.2.2.2.2.2.2.2.2]), (33, .agg #[iv 0, .int .u64 (0)])]) (fun x => [Ow (fI .i64) 2 x.2.2.2.1 x.2.2.2.2.1 x.2.2.2.2.2.1 r_o3_7_1.supply, Ow fA 31 x.2.2.2.2.2.2.1 x.2.2.2.2.2.2.2.1 x.2.2.2.2.2.2.2.2 r_o3_7_1.arcs, Ow fB 4 x.1 x.2.1 x.2.2.1 r_o3_6_1, .blk g2 40 [sn, sn, iv 0, sn, sn, iv 0, .int .u64 (0), .bool (false)], .blk g1 25 [.slice A1 i1.supply.length c1, .slice A2 i1.arcs.length c2], .fz (PH.of w)]) rfl ?_ ?_
     ·rintro ⟨A_o3_6_1, n_o3_6_1, c_o3_6_1, A_o3_7_1, n_o3_7_1, c_o3_7_1, A_o3_7_2, n_o3_7_2, c_o3_7_2⟩ ⟨hf_o3_6_1, hf_o3_7_1, hf_o3_7_2⟩
      dsimp only at hf_o3_6_1 hf_o3_7_1 hf_o3_7_2 ⊢
      refine WP.any2 9 13 rfl (by kernel_rfl) rfl rfl ?_ ?_
      ·refine WP.freezeO .head hf_o3_7_1 ?_
       intro Zp_o3_9_1 hz_o3_9_1
       have hl_o3_9_1 := hf_o3_7_1.len
       subst hl_o3_9_1
       refine WP.freezeO (.tail .head) hf_o3_7_2 ?_
       intro Zp_o3_9_2 hz_o3_9_2
       have hl_o3_9_2 := hf_o3_7_2.len
       subst hl_o3_9_2
       refine WP.callS (ref15_Done_S (PH.or (PH.or Z Zp_o3_9_1) Zp_o3_9_2) r_o3_9_1) rfl rfl rfl rfl rfl rfl rfl (by kernel_rfl) (fun w1 hw1 => (ref15_Done_w (Z := (PH.or (PH.or Z Zp_o3_9_1) Zp_o3_9_2)) ((Held.or (Held.or (Held.sub (Held.mem (List.Mem.tail _ (List.Mem.tail _ (List.Mem.tail _ (List.Mem.tail _ (List.Mem.tail _ (List.Mem.head _))))))) hZ) (Held.mem (List.Mem.tail _ (List.Mem.head _)))) (Held.mem (List.Mem.head _))) _ _ hw1) hg_o3_9_1 (InsZ.mk_ ((hs1.le' (PH.le.trans (PH.le.trans PH.le.rfl_ (PH.le_or _ _)) (PH.le_or _ _))).of) ((hs2.le' (PH.le.trans (PH.le.trans PH.le.rfl_ (PH.le_or _ _)) (PH.le_or _ _))).of)) (InsZ.mk_ ((hz_o3_9_1.le' (PH.le.trans (PH.ri_or ((Held.sub (Held.mem (List.Mem.tail _ (List.Mem.tail _ (List.Mem.tail _ (List.Mem.tail _ (List.Mem.tail _ (List.Mem.head _))))))) hZ) _ _ hw1) ((Held.mem (List.Mem.tail _ (List.Mem.head _))) _ _ hw1)) (PH.le_or _ _))).of) ((hz_o3_9_2.le' (PH.ri_or ((Held.or (Held.sub (Held.mem (List.Mem.tail _ (List.Mem.tail _ (List.Mem.tail _ (List.Mem.tail _ (List.Mem.tail _ (List.Mem.head _))))))) hZ) (Held.mem (List.Mem.tail _ (List.Mem.head _)))) _ _ hw1) ((Held.mem (List.Mem.head _)) _ _ hw1))).of)) :)) ?_
       rintro _ _ ⟨Zn_o3_9_1, A_o3_9_1, _, c_o3_9_1, A_o3_9_2, _, c_o3_9_2, A_o3_9_3, _, c_o3_9_3, A_o3_9_4, _, c_o3_9_4, rfl, rfl, rfl, rfl, rfl, hs_o3_9_1, hs_o3_9_2, hs_o3_9_3, hs_o3_9_4, rfl⟩
       refine WP.anyP 10 tysOk putInv_body rfl rfl rfl (by kernel_rfl) (by kernel_rfl) rfl rfl rfl rfl rfl True.intro ?_
       refine WP.anyP 11 tysOk putInv_body rfl rfl rfl (by kernel_rfl) (by kernel_rfl) rfl rfl rfl rfl rfl True.intro ?_
       refine WP.anyP 12 tysOk putInv_body rfl rfl rfl (by kernel_rfl) (by kernel_rfl) rfl rfl rfl rfl rfl True.intro ?_
       refine WP.any1 13 rfl (by kernel_rfl) rfl ?_
       refine WP.al tysOk rfl rfl rfl rfl rfl rfl ?_
       intro g_o3_13_1
       refine WP.any1 14 rfl (by kernel_rfl) rfl ?_
       refine WP.sto' tysOk [.slice A_o3_9_1 r_o3_9_1.1.inst.supply.length c_o3_9_1, .slice A_o3_9_2 r_o3_9_1.1.inst.arcs.length c_o3_9_2, iv r_o3_9_1.1.rcd.pass, .slice A_o3_9_3 r_o3_9_1.1.rcd.was.supply.length c_o3_9_3, .slice A_o3_9_4 r_o3_9_1.1.rcd.was.arcs.length c_o3_9_4, iv r_o3_9_1.1.off.hi, .int .u64 (r_o3_9_1.1.off.lo), .bool (r_o3_9_1.1.did)] rfl rfl rfl rfl rfl rfl rfl rfl rfl .head rfl rfl ?_
       refine WP.anyP 15 tysOk putInv_body rfl rfl rfl (by kernel_rfl) (by kernel_rfl) rfl rfl rfl rfl rfl True.intro ?_
       refine WP.any0 rfl (by kernel_rfl) ?_
       refine WP.stop rfl (A_o3_6_1, n_o3_6_1, c_o3_6_1, A_o3_7_1, (r_o3_7_1.supply.length), c_o3_7_1, A_o3_7_2, (r_o3_7_1.arcs.length), c_o3_7_2, Zp_o3_9_1, Zp_o3_9_2, Zn_o3_9_1, A_o3_9_1, c_o3_9_1, A_o3_9_2, c_o3_9_2, A_o3_9_3, c_o3_9_3, A_o3_9_4, c_o3_9_4, g_o3_13_1) ⟨hf_o3_6_1, hf_o3_7_1, hf_o3_7_2, hz_o3_9_1, hz_o3_9_2, hs_o3_9_1, hs_o3_9_2, hs_o3_9_3, hs_o3_9_4⟩ ?_ ?_
       ·repeat first|exact ⟨⟩|refine ⟨rfl,?_⟩
       exact Pick.all
      refine WP.al tysOk rfl rfl rfl rfl rfl rfl ?_
      intro g_o3_13_1
      refine WP.useF mm1 (A_o3_6_1, n_o3_6_1, c_o3_6_1, A_o3_7_1, n_o3_7_1, c_o3_7_1, A_o3_7_2, n_o3_7_2, c_o3_7_2, g_o3_13_1) ⟨hf_o3_6_1, hf_o3_7_1, hf_o3_7_2⟩ rfl (by kernel_rfl) ?_ ?_
      ·repeat first|exact ⟨⟩|refine ⟨rfl,?_⟩
      exact Pick.all
     intro mm2
     refine WP.cutF (α := (Option Addr) × Nat × Nat × Nat) (fun x => OwF x.1 x.2.1 r_o3_6_1) #[true, true, true, true, true, true, true, false, true, false, false, false, false, true, false, false] 7 (fun x => [(2, pt g2), (6, pt x.2.2.2), (25, .agg #[.slice A1 i1.supply.length c1, .slice A2 i1.arcs.length c2]), (26, .agg #[.slice A1 i1.supply.length c1, .slice A2 i1.arcs.length c2]), (31, .slice x.1 x.2.1 x.2.2.1), (33, .agg #[iv 0, .int .u64 (0)])]) (fun x => [.blk x.2.2.2 40 [sn, sn, iv 0, sn, sn, iv 0, .int .u64 (0), .bool (false)], Ow fB 4 x.1 x.2.1 x.2.2.1 r_o3_6_1, .blk g2 40 [sn, sn, iv 0, sn, sn, iv 0, .int .u64 (0), .bool (false)], .blk g1 25 [.slice A1 i1.supply.length c1, .slice A2 i1.arcs.length c2], .fz (PH.of w)]) rfl ?_ ?_
     ·rintro ⟨A_o3_6_1, n_o3_6_1, c_o3_6_1, g_o3_13_1⟩ hf_o3_6_1
      dsimp only at hf_o3_6_1 ⊢
      refine WP.any1 7 rfl (by kernel_rfl) rfl ?_
      refine WP.callS (ref03_Without_S r_o3_7_1) rfl rfl rfl rfl rfl rfl rfl (by kernel_rfl) (fun w1 hw1 => (ref03_Without_w hg_o3_7_1 (InsZ.mk_ ((hs1.le' ((Held.sub (Held.mem (List.Mem.tail _ (List.Mem.tail _ (List.Mem.tail _ (List.Mem.tail _ (List.Mem.head _)))))) hZ) _ _ hw1)).of) ((hs2.le' ((Held.sub (Held.mem (List.Mem.tail _ (List.Mem.tail _ (List.Mem.tail _ (List.Mem.tail _ (List.Mem.head _)))))) hZ) _ _ hw1)).of)) (hw1.ow (.tail .head) hf_o3_6_1) SlF.nil_ :)) ?_
      rintro _ _ ⟨A_o3_7_1, n_o3_7_1, c_o3_7_1, A_o3_7_2, n_o3_7_2, c_o3_7_2, rfl, hf_o3_7_1, hf_o3_7_2, rfl⟩
      refine WP.useF mm1 (A_o3_6_1, n_o3_6_1, c_o3_6_1, A_o3_7_1, n_o3_7_1, c_o3_7_1, A_o3_7_2, n_o3_7_2, c_o3_7_2, g_o3_13_1) ⟨hf_o3_6_1, hf_o3_7_1, hf_o3_7_2⟩ rfl (by kernel_rfl) ?_ ?_
      ·repeat first|exact ⟨⟩|refine ⟨rfl,?_⟩
      exact (.cons (.tail (.tail .head)) (.cons .head (.cons .head (.cons .head (.cons .head (.cons .head (.cons .head .nil)))))))
     intro mm3
     refine WP.cutF (α := (Option Addr) × Nat × Nat × (Option Addr) × Nat × Nat × (Option Addr) × Nat × Nat) (fun x => OwF x.1 x.2.1 r_o3_6_1 ∧ OwF x.2.2.2.1 x.2.2.2.2.1 r_o3_7_1.supply ∧ OwF x.2.2.2.2.2.2.1 x.2.2.2.2.2.2.2.1 r_o3_7_1.arcs) #[true, true, true, true, true, true, true, true, false, false, false, false, false, false, false, false] 8 (fun x => [(2, pt g2), (25, .agg #[.slice A1 i1.supply.length c1, .slice A2 i1.arcs.length c2]), (32, .agg #[.slice x.2.2.2.1 x.2.2.2.2.1 x.2.2.2.2.2.1, .slice x.2.2.2.2.2.2.1 x.2.2.2.2.2.2.2.1 x.2.2.2.2.2.2.2.2])]) (fun x => [Ow (fI .i64) 2 x.2.2.2.1 x.2.2.2.2.1 x.2.2.2.2.2.1 r_o3_7_1.supply, Ow fA 31 x.2.2.2.2.2.2.1 x.2.2.2.2.2.2.2.1 x.2.2.2.2.2.2.2.2 r_o3_7_1.arcs, Ow fB 4 x.1 x.2.1 x.2.2.1 r_o3_6_1, .blk g2 40 [sn, sn, iv 0, sn, sn, iv 0, .int .u64 (0), .bool (false)], .blk g1 25 [.slice A1 i1.supply.length c1, .slice A2 i1.arcs.length c2], .fz (PH.of w)]) rfl ?_ ?_
     ·rintro ⟨A_o3_6_1, n_o3_6_1, c_o3_6_1, A_o3_7_1, n_o3_7_1, c_o3_7_1, A_o3_7_2, n_o3_7_2, c_o3_7_2⟩ ⟨hf_o3_6_1, hf_o3_7_1, hf_o3_7_2⟩
      dsimp only at hf_o3_6_1 hf_o3_7_1 hf_o3_7_2 ⊢
      refine WP.any2 8 13 rfl (by kernel_rfl) rfl rfl ?_ ?_
      ·refine WP.bld (cs := [iv 0, .int .u64 (0)]) tysOk rfl ⟨⟩ rfl rfl rfl rfl rfl rfl rfl ?_
       refine WP.useF mm2 (A_o3_6_1, n_o3_6_1, c_o3_6_1, A_o3_7_1, n_o3_7_1, c_o3_7_1, A_o3_7_2, n_o3_7_2, c_o3_7_2) ⟨hf_o3_6_1, hf_o3_7_1, hf_o3_7_2⟩ rfl (by kernel_rfl) ?_ ?_
       ·repeat first|exact ⟨⟩|refine ⟨rfl,?_⟩
       exact Pick.all
      refine WP.al tysOk rfl rfl rfl rfl rfl rfl ?_
      intro g_o3_13_1
      refine WP.any1 8 rfl (by kernel_rfl) rfl ?_
      refine WP.bld (cs := [iv 0, .int .u64 (0)]) tysOk rfl ⟨⟩ rfl rfl rfl rfl rfl rfl rfl ?_
      refine WP.useF mm1 (A_o3_6_1, n_o3_6_1, c_o3_6_1, A_o3_7_1, n_o3_7_1, c_o3_7_1, A_o3_7_2, n_o3_7_2, c_o3_7_2, g_o3_13_1) ⟨hf_o3_6_1, hf_o3_7_1, hf_o3_7_2⟩ rfl (by kernel_rfl) ?_ ?_
      ·repeat first|exact ⟨⟩|refine ⟨rfl,?_⟩
      exact Pick.all
     intro mm4
     refine WP.cutF (α := (Option Addr) × Nat × Nat) (fun x => OwF x.1 x.2.1 r_o3_6_1) #[true, true, true, true, true, true, true, false, true, false, false, false, false, false, false, false] 8 (fun x => [(2, pt g2), (25, .agg #[.slice A1 i1.supply.length c1, .slice A2 i1.arcs.length c2]), (26, .agg #[.slice A1 i1.supply.length c1, .slice A2 i1.arcs.length c2]), (31, .slice x.1 x.2.1 x.2.2), (33, .agg #[iv 0, .int .u64 (0)])]) (fun x => [Ow fB 4 x.1 x.2.1 x.2.2 r_o3_6_1, .blk g2 40 [sn, sn, iv 0, sn, sn, iv 0, .int .u64 (0), .bool (false)], .blk g1 25 [.slice A1 i1.supply.length c1, .slice A2 i1.arcs.length c2], .fz (PH.of w)]) rfl ?_ ?_
     ·rintro ⟨A_o3_6_1, n_o3_6_1, c_o3_6_1⟩ hf_o3_6_1
      dsimp only at hf_o3_6_1 ⊢
      refine WP.any2 7 13 rfl (by kernel_rfl) rfl rfl ?_ ?_
      ·refine WP.callS (ref03_Without_S r_o3_7_1) rfl rfl rfl rfl rfl rfl rfl (by kernel_rfl) (fun w1 hw1 => (ref03_Without_w hg_o3_7_1 (InsZ.mk_ ((hs1.le' ((Held.sub (Held.mem (List.Mem.tail _ (List.Mem.tail _ (List.Mem.tail _ (List.Mem.head _))))) hZ) _ _ hw1)).of) ((hs2.le' ((Held.sub (Held.mem (List.Mem.tail _ (List.Mem.tail _ (List.Mem.tail _ (List.Mem.head _))))) hZ) _ _ hw1)).of)) (hw1.ow .head hf_o3_6_1) SlF.nil_ :)) ?_
       rintro _ _ ⟨A_o3_7_1, n_o3_7_1, c_o3_7_1, A_o3_7_2, n_o3_7_2, c_o3_7_2, rfl, hf_o3_7_1, hf_o3_7_2, rfl⟩
       refine WP.useF mm2 (A_o3_6_1, n_o3_6_1, c_o3_6_1, A_o3_7_1, n_o3_7_1, c_o3_7_1, A_o3_7_2, n_o3_7_2, c_o3_7_2) ⟨hf_o3_6_1, hf_o3_7_1, hf_o3_7_2⟩ rfl (by kernel_rfl) ?_ ?_
       ·repeat first|exact ⟨⟩|refine ⟨rfl,?_⟩
       exact Pick.all
      refine WP.al tysOk rfl rfl rfl rfl rfl rfl ?_
      intro g_o3_13_1
      refine WP.useF mm3 (A_o3_6_1, n_o3_6_1, c_o3_6_1, g_o3_13_1) hf_o3_6_1 rfl (by kernel_rfl) ?_ ?_
      ·repeat first|exact ⟨⟩|refine ⟨rfl,?_⟩
      exact Pick.all
     intro mm5
     refine WP.cutF (α := (Option Addr) × Nat × Nat × Nat) (fun x => OwF x.1 x.2.1 r_o3_6_1) #[true, true, true, true, true, true, true, false, false, false, false, false, false, true, false, false] 8 (fun x => [(2, pt g2), (6, pt x.2.2.2), (25, .agg #[.slice A1 i1.supply.length c1, .slice A2 i1.arcs.length c2]), (26, .agg #[.slice A1 i1.supply.length c1, .slice A2 i1.arcs.length c2]), (31, .slice x.1 x.2.1 x.2.2.1)]) (fun x => [.blk x.2.2.2 40 [sn, sn, iv 0, sn, sn, iv 0, .int .u64 (0), .bool (false)], Ow fB 4 x.1 x.2.1 x.2.2.1 r_o3_6_1, .blk g2 40 [sn, sn, iv 0, sn, sn, iv 0, .int .u64 (0), .bool (false)], .blk g1 25 [.slice A1 i1.supply.length c1, .slice A2 i1.arcs.length c2], .fz (PH.of w)]) rfl ?_ ?_
     ·rintro ⟨A_o3_6_1, n_o3_6_1, c_o3_6_1, g_o3_13_1⟩ hf_o3_6_1
      dsimp only at hf_o3_6_1 ⊢
      refine WP.any2 7 8 rfl (by kernel_rfl) rfl rfl ?_ ?_
      ·refine WP.callS (ref03_Without_S r_o3_7_1) rfl rfl rfl rfl rfl rfl rfl (by kernel_rfl) (fun w1 hw1 => (ref03_Without_w hg_o3_7_1 (InsZ.mk_ ((hs1.le' ((Held.sub (Held.mem (List.Mem.tail _ (List.Mem.tail _ (List.Mem.tail _ (List.Mem.tail _ (List.Mem.head _)))))) hZ) _ _ hw1)).of) ((hs2.le' ((Held.sub (Held.mem (List.Mem.tail _ (List.Mem.tail _ (List.Mem.tail _ (List.Mem.tail _ (List.Mem.head _)))))) hZ) _ _ hw1)).of)) (hw1.ow (.tail .head) hf_o3_6_1) SlF.nil_ :)) ?_
       rintro _ _ ⟨A_o3_7_1, n_o3_7_1, c_o3_7_1, A_o3_7_2, n_o3_7_2, c_o3_7_2, rfl, hf_o3_7_1, hf_o3_7_2, rfl⟩
       refine WP.any1 8 rfl (by kernel_rfl) rfl ?_
       refine WP.bld (cs := [iv 0, .int .u64 (0)]) tysOk rfl ⟨⟩ rfl rfl rfl rfl rfl rfl rfl ?_
       refine WP.useF mm1 (A_o3_6_1, n_o3_6_1, c_o3_6_1, A_o3_7_1, n_o3_7_1, c_o3_7_1, A_o3_7_2, n_o3_7_2, c_o3_7_2, g_o3_13_1) ⟨hf_o3_6_1, hf_o3_7_1, hf_o3_7_2⟩ rfl (by kernel_rfl) ?_ ?_
       ·repeat first|exact ⟨⟩|refine ⟨rfl,?_⟩
       exact (.cons (.tail (.tail .head)) (.cons .head (.cons .head (.cons .head (.cons .head (.cons .head (.cons .head .nil)))))))
      refine WP.bld (cs := [iv 0, .int .u64 (0)]) tysOk rfl ⟨⟩ rfl rfl rfl rfl rfl rfl rfl ?_
      refine WP.useF mm3 (A_o3_6_1, n_o3_6_1, c_o3_6_1, g_o3_13_1) hf_o3_6_1 rfl (by kernel_rfl) ?_ ?_
      ·repeat first|exact ⟨⟩|refine ⟨rfl,?_⟩
      exact Pick.all
     intro mm6
     refine WP.cutF (α := Nat) (fun x => True) #[true, true, true, true, true, true, false, false, true, false, false, false, false, true, false, false] 8 (fun x => [(2, pt g2), (6, pt x), (25, .agg #[.slice A1 i1.supply.length c1, .slice A2 i1.arcs.length c2]), (26, .agg #[.slice A1 i1.supply.length c1, .slice A2 i1.arcs.length c2]), (29, iv (i1.supply.length : Int)), (30, iv n2), (33, .agg #[iv 0, .int .u64 (0)])]) (fun x => [.blk x 40 [sn, sn, iv 0, sn, sn, iv 0, .int .u64 (0), .bool (false)], .blk g2 40 [sn, sn, iv 0, sn, sn, iv 0, .int .u64 (0), .bool (false)], .blk g1 25 [.slice A1 i1.supply.length c1, .slice A2 i1.arcs.length c2], .fz (PH.of w)]) rfl ?_ ?_
     ·rintro g_o3_13_1 _
      refine WP.any1 6 rfl (by kernel_rfl) rfl ?_
      refine WP.callS (ref17_one_S r_o3_6_1) rfl rfl rfl rfl rfl rfl rfl (by kernel_rfl) (fun w1 hw1 => (ref17_one_w hg_o3_6_1  :)) ?_
      rintro _ _ ⟨A_o3_6_1, n_o3_6_1, c_o3_6_1, rfl, hf_o3_6_1, rfl⟩
      refine WP.useF mm3 (A_o3_6_1, n_o3_6_1, c_o3_6_1, g_o3_13_1) hf_o3_6_1 rfl (by kernel_rfl) ?_ ?_
      ·repeat first|exact ⟨⟩|refine ⟨rfl,?_⟩
      exact (.cons (.tail .head) (.cons .head (.cons .head (.cons .head (.cons .head .nil)))))
     intro mm7
     refine WP.cutF (α := (Option Addr) × Nat × Nat × Nat) (fun x => OwF x.1 x.2.1 r_o3_6_1) #[true, false, true, true, true, true, true, false, true, false, false, false, false, true, false, false] 8 (fun x => [(1, pt g1), (2, pt g2), (6, pt x.2.2.2), (25, .agg #[.slice A1 i1.supply.length c1, .slice A2 i1.arcs.length c2]), (31, .slice x.1 x.2.1 x.2.2.1), (33, .agg #[iv 0, .int .u64 (0)])]) (fun x => [.blk x.2.2.2 40 [sn, sn, iv 0, sn, sn, iv 0, .int .u64 (0), .bool (false)], Ow fB 4 x.1 x.2.1 x.2.2.1 r_o3_6_1, .blk g2 40 [sn, sn, iv 0, sn, sn, iv 0, .int .u64 (0), .bool (false)], .blk g1 25 [.slice A1 i1.supply.length c1, .slice A2 i1.arcs.length c2], .fz (PH.of w)]) rfl ?_ ?_
     ·rintro ⟨A_o3_6_1, n_o3_6_1, c_o3_6_1, g_o3_13_1⟩ hf_o3_6_1
      dsimp only at hf_o3_6_1 ⊢
      refine WP.any1 1 rfl (by kernel_rfl) rfl ?_
      refine WP.mx_ tysOk rfl ⟨⟩ (SegAt.blk' (.tail (.tail (.tail .head))) rfl) ?_
      refine WP.useF mm3 (A_o3_6_1, n_o3_6_1, c_o3_6_1, g_o3_13_1) hf_o3_6_1 rfl (by kernel_rfl) ?_ ?_
      ·repeat first|exact ⟨⟩|refine ⟨rfl,?_⟩
      exact Pick.all
     intro mm8
     refine WP.cutF (α := (Option Addr) × Nat × Nat × (Option Addr) × Nat × Nat × (Option Addr) × Nat × Nat) (fun x => OwF x.1 x.2.1 r_o3_6_1 ∧ OwF x.2.2.2.1 x.2.2.2.2.1 r_o3_7_1.supply ∧ OwF x.2.2.2.2.2.2.1 x.2.2.2.2.2.2.2.1 r_o3_7_1.arcs) #[false, true, true, true, true, true, true, true, true, false, false, false, false, false, false, false] 8 (fun x => [(1, pt g1), (2, pt g2), (32, .agg #[.slice x.2.2.2.1 x.2.2.2.2.1 x.2.2.2.2.2.1, .slice x.2.2.2.2.2.2.1 x.2.2.2.2.2.2.2.1 x.2.2.2.2.2.2.2.2]), (33, .agg #[iv 0, .int .u64 (0)])]) (fun x => [Ow (fI .i64) 2 x.2.2.2.1 x.2.2.2.2.1 x.2.2.2.2.2.1 r_o3_7_1.supply, Ow fA 31 x.2.2.2.2.2.2.1 x.2.2.2.2.2.2.2.1 x.2.2.2.2.2.2.2.2 r_o3_7_1.arcs, Ow fB 4 x.1 x.2.1 x.2.2.1 r_o3_6_1, .blk g2 40 [sn, sn, iv 0, sn, sn, iv 0, .int .u64 (0), .bool (false)], .blk g1 25 [.slice A1 i1.supply.length c1, .slice A2 i1.arcs.length c2], .fz (PH.of w)]) rfl ?_ ?_
     ·rintro ⟨A_o3_6_1, n_o3_6_1, c_o3_6_1, A_o3_7_1, n_o3_7_1, c_o3_7_1, A_o3_7_2, n_o3_7_2, c_o3_7_2⟩ ⟨hf_o3_6_1, hf_o3_7_1, hf_o3_7_2⟩
      dsimp only at hf_o3_6_1 hf_o3_7_1 hf_o3_7_2 ⊢
      refine WP.any2 0 13 rfl (by kernel_rfl) rfl rfl ?_ ?_
      ·refine WP.mx_ tysOk rfl ⟨⟩ (SegAt.blk' (.tail (.tail (.tail (.tail .head)))) rfl) ?_
       refine WP.useF mm2 (A_o3_6_1, n_o3_6_1, c_o3_6_1, A_o3_7_1, n_o3_7_1, c_o3_7_1, A_o3_7_2, n_o3_7_2, c_o3_7_2) ⟨hf_o3_6_1, hf_o3_7_1, hf_o3_7_2⟩ rfl (by kernel_rfl) ?_ ?_
       ·repeat first|exact ⟨⟩|refine ⟨rfl,?_⟩
       exact Pick.all
      refine WP.al tysOk rfl rfl rfl rfl rfl rfl ?_
      intro g_o3_13_1
      refine WP.any1 0 rfl (by kernel_rfl) rfl ?_
      refine WP.mx_ tysOk rfl ⟨⟩ (SegAt.blk' (.tail (.tail (.tail (.tail (.tail .head))))) rfl) ?_
      refine WP.useF mm1 (A_o3_6_1, n_o3_6_1, c_o3_6_1, A_o3_7_1, n_o3_7_1, c_o3_7_1, A_o3_7_2, n_o3_7_2, c_o3_7_2, g_o3_13_1) ⟨hf_o3_6_1, hf_o3_7_1, hf_o3_7_2⟩ rfl (by kernel_rfl) ?_ ?_
      ·repeat first|exact ⟨⟩|refine ⟨rfl,?_⟩
      exact Pick.all
     intro mm9
     refine WP.cutF (α := (Option Addr) × Nat × Nat × (Option Addr) × Nat × Nat × (Option Addr) × Nat × Nat × Nat) (fun x => OwF x.1 x.2.1 r_o3_6_1 ∧ OwF x.2.2.2.1 x.2.2.2.2.1 r_o3_7_1.supply ∧ OwF x.2.2.2.2.2.2.1 x.2.2.2.2.2.2.2.1 r_o3_7_1.arcs) #[false, true, true, true, true, true, true, true, false, false, false, false, false, true, false, false] 8 (fun x => [(1, pt g1), (2, pt g2), (6, pt x.2.2.2.2.2.2.2.2.2), (32, .agg #[.slice x.2.2.2.1 x.2.2.2.2.1 x.2.2.2.2.2.1, .slice x.2.2.2.2.2.2.1 x.2.2.2.2.2.2.2.1 x.2.2.2.2.2.2.2.2.1])]) (fun x => [.blk x.2.2.2.2.2.2.2.2.2 40 [sn, sn, iv 0, sn, sn, iv 0, .int .u64 (0), .bool (false)], Ow (fI .i64) 2 x.2.2.2.1 x.2.2.2.2.1 x.2.2.2.2.2.1 r_o3_7_1.supply, Ow fA 31 x.2.2.2.2.2.2.1 x.2.2.2.2.2.2.2.1 x.2.2.2.2.2.2.2.2.1 r_o3_7_1.arcs, Ow fB 4 x.1 x.2.1 x.2.2.1 r_o3_6_1, .blk g2 40 [sn, sn, iv 0, sn, sn, iv 0, .int .u64 (0), .bool (false)], .blk g1 25 [.slice A1 i1.supply.length c1, .slice A2 i1.arcs.length c2], .fz (PH.of w)]) rfl ?_ ?_
     ·rintro ⟨A_o3_6_1, n_o3_6_1, c_o3_6_1, A_o3_7_1, n_o3_7_1, c_o3_7_1, A_o3_7_2, n_o3_7_2, c_o3_7_2, g_o3_13_1⟩ ⟨hf_o3_6_1, hf_o3_7_1, hf_o3_7_2⟩
      dsimp only at hf_o3_6_1 hf_o3_7_1 hf_o3_7_2 ⊢
      refine WP.any2 0 8 rfl (by kernel_rfl) rfl rfl ?_ ?_
      ·refine WP.mx_ tysOk rfl ⟨⟩ (SegAt.blk' (.tail (.tail (.tail (.tail (.tail .head))))) rfl) ?_
       refine WP.any1 8 rfl (by kernel_rfl) rfl ?_
       refine WP.bld (cs := [iv 0, .int .u64 (0)]) tysOk rfl ⟨⟩ rfl rfl rfl rfl rfl rfl rfl ?_
       refine WP.useF mm1 (A_o3_6_1, n_o3_6_1, c_o3_6_1, A_o3_7_1, n_o3_7_1, c_o3_7_1, A_o3_7_2, n_o3_7_2, c_o3_7_2, g_o3_13_1) ⟨hf_o3_6_1, hf_o3_7_1, hf_o3_7_2⟩ rfl (by kernel_rfl) ?_ ?_
       ·repeat first|exact ⟨⟩|refine ⟨rfl,?_⟩
       exact Pick.all
      refine WP.bld (cs := [iv 0, .int .u64 (0)]) tysOk rfl ⟨⟩ rfl rfl rfl rfl rfl rfl rfl ?_
      refine WP.any1 0 rfl (by kernel_rfl) rfl ?_
      refine WP.mx_ tysOk rfl ⟨⟩ (SegAt.blk' (.tail (.tail (.tail (.tail (.tail .head))))) rfl) ?_
      refine WP.useF mm1 (A_o3_6_1, n_o3_6_1, c_o3_6_1, A_o3_7_1, n_o3_7_1, c_o3_7_1, A_o3_7_2, n_o3_7_2, c_o3_7_2, g_o3_13_1) ⟨hf_o3_6_1, hf_o3_7_1, hf_o3_7_2⟩ rfl (by kernel_rfl) ?_ ?_
      ·repeat first|exact ⟨⟩|refine ⟨rfl,?_⟩
      exact Pick.all
     intro mm10
     refine WP.cutF (α := (Option Addr) × Nat × Nat × Nat) (fun x => OwF x.1 x.2.1 r_o3_6_1) #[false, true, true, true, true, true, true, false, true, false, false, false, false, true, false, false] 8 (fun x => [(1, pt g1), (2, pt g2), (6, pt x.2.2.2), (26, .agg #[.slice A1 i1.supply.length c1, .slice A2 i1.arcs.length c2]), (31, .slice x.1 x.2.1 x.2.2.1), (33, .agg #[iv 0, .int .u64 (0)])]) (fun x => [.blk x.2.2.2 40 [sn, sn, iv 0, sn, sn, iv 0, .int .u64 (0), .bool (false)], Ow fB 4 x.1 x.2.1 x.2.2.1 r_o3_6_1, .blk g2 40 [sn, sn, iv 0, sn, sn, iv 0, .int .u64 (0), .bool (false)], .blk g1 25 [.slice A1 i1.supply.length c1, .slice A2 i1.arcs.length c2], .fz (PH.of w)]) rfl ?_ ?_
     ·rintro ⟨A_o3_6_1, n_o3_6_1, c_o3_6_1, g_o3_13_1⟩ hf_o3_6_1
      dsimp only at hf_o3_6_1 ⊢
      refine WP.any2 0 7 rfl (by kernel_rfl) rfl rfl ?_ ?_
      ·refine WP.mx_ tysOk rfl ⟨⟩ (SegAt.blk' (.tail (.tail (.tail .head))) rfl) ?_
       refine WP.useF mm3 (A_o3_6_1, n_o3_6_1, c_o3_6_1, g_o3_13_1) hf_o3_6_1 rfl (by kernel_rfl) ?_ ?_
       ·repeat first|exact ⟨⟩|refine ⟨rfl,?_⟩
       exact Pick.all
      refine WP.callS (ref03_Without_S r_o3_7_1) rfl rfl rfl rfl rfl rfl rfl (by kernel_rfl) (fun w1 hw1 => (ref03_Without_w hg_o3_7_1 (InsZ.mk_ ((hs1.le' ((Held.sub (Held.mem (List.Mem.tail _ (List.Mem.tail _ (List.Mem.tail _ (List.Mem.tail _ (List.Mem.head _)))))) hZ) _ _ hw1)).of) ((hs2.le' ((Held.sub (Held.mem (List.Mem.tail _ (List.Mem.tail _ (List.Mem.tail _ (List.Mem.tail _ (List.Mem.head _)))))) hZ) _ _ hw1)).of)) (hw1.ow (.tail .head) hf_o3_6_1) SlF.nil_ :)) ?_
      rintro _ _ ⟨A_o3_7_1, n_o3_7_1, c_o3_7_1, A_o3_7_2, n_o3_7_2, c_o3_7_2, rfl, hf_o3_7_1, hf_o3_7_2, rfl⟩
      refine WP.any1 0 rfl (by kernel_rfl) rfl ?_
      refine WP.mx_ tysOk rfl ⟨⟩ (SegAt.blk' (.tail (.tail (.tail (.tail (.tail .head))))) rfl) ?_
      refine WP.useF mm1 (A_o3_6_1, n_o3_6_1, c_o3_6_1, A_o3_7_1, n_o3_7_1, c_o3_7_1, A_o3_7_2, n_o3_7_2, c_o3_7_2, g_o3_13_1) ⟨hf_o3_6_1, hf_o3_7_1, hf_o3_7_2⟩ rfl (by kernel_rfl) ?_ ?_
      ·repeat first|exact ⟨⟩|refine ⟨rfl,?_⟩
      exact (.cons (.tail (.tail .head)) (.cons .head (.cons .head (.cons .head (.cons .head (.cons .head (.cons .head .nil)))))))
     intro mm11
     refine WP.cutF (α := (Option Addr) × Nat × Nat) (fun x => OwF x.1 x.2.1 r_o3_6_1) #[true, true, true, true, true, true, true, false, false, false, false, false, false, false, false, false] 9 (fun x => [(2, pt g2), (25, .agg #[.slice A1 i1.supply.length c1, .slice A2 i1.arcs.length c2]), (26, .agg #[.slice A1 i1.supply.length c1, .slice A2 i1.arcs.length c2]), (31, .slice x.1 x.2.1 x.2.2)]) (fun x => [Ow fB 4 x.1 x.2.1 x.2.2 r_o3_6_1, .blk g2 40 [sn, sn, iv 0, sn, sn, iv 0, .int .u64 (0), .bool (false)], .blk g1 25 [.slice A1 i1.supply.length c1, .slice A2 i1.arcs.length c2], .fz (PH.of w)]) rfl ?_ ?_
     ·rintro ⟨A_o3_6_1, n_o3_6_1, c_o3_6_1⟩ hf_o3_6_1
      dsimp only at hf_o3_6_1 ⊢
      refine WP.any3 7 8 13 rfl (by kernel_rfl) rfl rfl rfl ?_ ?_ ?_
      ·refine WP.callS (ref03_Without_S r_o3_7_1) rfl rfl rfl rfl rfl rfl rfl (by kernel_rfl) (fun w1 hw1 => (ref03_Without_w hg_o3_7_1 (InsZ.mk_ ((hs1.le' ((Held.sub (Held.mem (List.Mem.tail _ (List.Mem.tail _ (List.Mem.tail _ (List.Mem.head _))))) hZ) _ _ hw1)).of) ((hs2.le' ((Held.sub (Held.mem (List.Mem.tail _ (List.Mem.tail _ (List.Mem.tail _ (List.Mem.head _))))) hZ) _ _ hw1)).of)) (hw1.ow .head hf_o3_6_1) SlF.nil_ :)) ?_
       rintro _ _ ⟨A_o3_7_1, n_o3_7_1, c_o3_7_1, A_o3_7_2, n_o3_7_2, c_o3_7_2, rfl, hf_o3_7_1, hf_o3_7_2, rfl⟩
       refine WP.useF mm4 (A_o3_6_1, n_o3_6_1, c_o3_6_1, A_o3_7_1, n_o3_7_1, c_o3_7_1, A_o3_7_2, n_o3_7_2, c_o3_7_2) ⟨hf_o3_6_1, hf_o3_7_1, hf_o3_7_2⟩ rfl (by kernel_rfl) ?_ ?_
       ·repeat first|exact ⟨⟩|refine ⟨rfl,?_⟩
       exact Pick.all
      ·refine WP.bld (cs := [iv 0, .int .u64 (0)]) tysOk rfl ⟨⟩ rfl rfl rfl rfl rfl rfl rfl ?_
       refine WP.useF mm5 (A_o3_6_1, n_o3_6_1, c_o3_6_1) hf_o3_6_1 rfl (by kernel_rfl) ?_ ?_
       ·repeat first|exact ⟨⟩|refine ⟨rfl,?_⟩
       exact Pick.all
      refine WP.al tysOk rfl rfl rfl rfl rfl rfl ?_
      intro g_o3_13_1
      refine WP.useF mm6 (A_o3_6_1, n_o3_6_1, c_o3_6_1, g_o3_13_1) hf_o3_6_1 rfl (by kernel_rfl) ?_ ?_
      ·repeat first|exact ⟨⟩|refine ⟨rfl,?_⟩
      exact Pick.all
     intro mm12
     refine WP.cutF (α := Unit) (fun x => True) #[true, true, true, true, true, true, false, false, true, false, false, false, false, false, false, false] 9 (fun x => [(2, pt g2), (25, .agg #[.slice A1 i1.supply.length c1, .slice A2 i1.arcs.length c2]), (26, .agg #[.slice A1 i1.supply.length c1, .slice A2 i1.arcs.length c2]), (29, iv (i1.supply.length : Int)), (30, iv n2), (33, .agg #[iv 0, .int .u64 (0)])]) (fun x => [.blk g2 40 [sn, sn, iv 0, sn, sn, iv 0, .int .u64 (0), .bool (false)], .blk g1 25 [.slice A1 i1.supply.length c1, .slice A2 i1.arcs.length c2], .fz (PH.of w)]) rfl ?_ ?_
     ·rintro _ _
      refine WP.any2 6 13 rfl (by kernel_rfl) rfl rfl ?_ ?_
      ·refine WP.callS (ref17_one_S r_o3_6_1) rfl rfl rfl rfl rfl rfl rfl (by kernel_rfl) (fun w1 hw1 => (ref17_one_w hg_o3_6_1  :)) ?_
       rintro _ _ ⟨A_o3_6_1, n_o3_6_1, c_o3_6_1, rfl, hf_o3_6_1, rfl⟩
       refine WP.useF mm5 (A_o3_6_1, n_o3_6_1, c_o3_6_1) hf_o3_6_1 rfl (by kernel_rfl) ?_ ?_
       ·repeat first|exact ⟨⟩|refine ⟨rfl,?_⟩
       exact Pick.all
      refine WP.al tysOk rfl rfl rfl rfl rfl rfl ?_
      intro g_o3_13_1
      refine WP.useF mm7 g_o3_13_1 True.intro rfl (by kernel_rfl) ?_ ?_
      ·repeat first|exact ⟨⟩|refine ⟨rfl,?_⟩
      exact Pick.all
     intro mm13
     refine WP.cutF (α := Nat) (fun x => True) #[true, true, true, true, true, true, false, false, false, false, false, false, false, true, false, false] 9 (fun x => [(2, pt g2), (6, pt x), (25, .agg #[.slice A1 i1.supply.length c1, .slice A2 i1.arcs.length c2]), (26, .agg #[.slice A1 i1.supply.length c1, .slice A2 i1.arcs.length c2]), (29, iv (i1.supply.length : Int)), (30, iv n2)]) (fun x => [.blk x 40 [sn, sn, iv 0, sn, sn, iv 0, .int .u64 (0), .bool (false)], .blk g2 40 [sn, sn, iv 0, sn, sn, iv 0, .int .u64 (0), .bool (false)], .blk g1 25 [.slice A1 i1.supply.length c1, .slice A2 i1.arcs.length c2], .fz (PH.of w)]) rfl ?_ ?_
     ·rintro g_o3_13_1 _
      refine WP.any2 6 8 rfl (by kernel_rfl) rfl rfl ?_ ?_
      ·refine WP.callS (ref17_one_S r_o3_6_1) rfl rfl rfl rfl rfl rfl rfl (by kernel_rfl) (fun w1 hw1 => (ref17_one_w hg_o3_6_1  :)) ?_
       rintro _ _ ⟨A_o3_6_1, n_o3_6_1, c_o3_6_1, rfl, hf_o3_6_1, rfl⟩
       refine WP.useF mm6 (A_o3_6_1, n_o3_6_1, c_o3_6_1, g_o3_13_1) hf_o3_6_1 rfl (by kernel_rfl) ?_ ?_
       ·repeat first|exact ⟨⟩|refine ⟨rfl,?_⟩
       exact (.cons (.tail .head) (.cons .head (.cons .head (.cons .head (.cons .head .nil)))))
      refine WP.bld (cs := [iv 0, .int .u64 (0)]) tysOk rfl ⟨⟩ rfl rfl rfl rfl rfl rfl rfl ?_
      refine WP.useF mm7 g_o3_13_1 True.intro rfl (by kernel_rfl) ?_ ?_
      ·repeat first|exact ⟨⟩|refine ⟨rfl,?_⟩
      exact Pick.all
     intro mm14
     refine WP.cutF (α := Nat) (fun x => True) #[true, true, true, true, false, true, false, false, true, false, false, false, false, true, false, false] 9 (fun x => [(2, pt g2), (6, pt x), (25, .agg #[.slice A1 i1.supply.length c1, .slice A2 i1.arcs.length c2]), (26, .agg #[.slice A1 i1.supply.length c1, .slice A2 i1.arcs.length c2]), (28, .slice A1 i1.supply.length c1), (30, iv n2), (33, .agg #[iv 0, .int .u64 (0)])]) (fun x => [.blk x 40 [sn, sn, iv 0, sn, sn, iv 0, .int .u64 (0), .bool (false)], .blk g2 40 [sn, sn, iv 0, sn, sn, iv 0, .int .u64 (0), .bool (false)], .blk g1 25 [.slice A1 i1.supply.length c1, .slice A2 i1.arcs.length c2], .fz (PH.of w)]) rfl ?_ ?_
     ·rintro g_o3_13_1 _
      refine WP.any1 4 rfl (by kernel_rfl) rfl ?_
      refine WP.sx tysOk rfl ⟨⟨⟩, ⟨⟩⟩ ?_
      refine WP.useF mm7 g_o3_13_1 True.intro rfl (by kernel_rfl) ?_ ?_
      ·repeat first|exact ⟨⟩|refine ⟨rfl,?_⟩
      exact Pick.all
     intro mm15
     refine WP.cutF (α := (Option Addr) × Nat × Nat) (fun x => OwF x.1 x.2.1 r_o3_6_1) #[true, false, true, true, true, true, true, false, true, false, false, false, false, false, false, false] 9 (fun x => [(1, pt g1), (2, pt g2), (25, .agg #[.slice A1 i1.supply.length c1, .slice A2 i1.arcs.length c2]), (31, .slice x.1 x.2.1 x.2.2), (33, .agg #[iv 0, .int .u64 (0)])]) (fun x => [Ow fB 4 x.1 x.2.1 x.2.2 r_o3_6_1, .blk g2 40 [sn, sn, iv 0, sn, sn, iv 0, .int .u64 (0), .bool (false)], .blk g1 25 [.slice A1 i1.supply.length c1, .slice A2 i1.arcs.length c2], .fz (PH.of w)]) rfl ?_ ?_
     ·rintro ⟨A_o3_6_1, n_o3_6_1, c_o3_6_1⟩ hf_o3_6_1
      dsimp only at hf_o3_6_1 ⊢
      refine WP.any2 1 13 rfl (by kernel_rfl) rfl rfl ?_ ?_
      ·refine WP.mx_ tysOk rfl ⟨⟩ (SegAt.blk' (.tail (.tail .head)) rfl) ?_
       refine WP.useF mm5 (A_o3_6_1, n_o3_6_1, c_o3_6_1) hf_o3_6_1 rfl (by kernel_rfl) ?_ ?_
       ·repeat first|exact ⟨⟩|refine ⟨rfl,?_⟩
       exact Pick.all
      refine WP.al tysOk rfl rfl rfl rfl rfl rfl ?_
      intro g_o3_13_1
      refine WP.useF mm8 (A_o3_6_1, n_o3_6_1, c_o3_6_1, g_o3_13_1) hf_o3_6_1 rfl (by kernel_rfl) ?_ ?_
      ·repeat first|exact ⟨⟩|refine ⟨rfl,?_⟩
      exact Pick.all
     intro mm16
     refine WP.cutF (α := (Option Addr) × Nat × Nat × Nat) (fun x => OwF x.1 x.2.1 r_o3_6_1) #[true, false, true, true, true, true, true, false, false, false, false, false, false, true, false, false] 9 (fun x => [(1, pt g1), (2, pt g2), (6, pt x.2.2.2), (25, .agg #[.slice A1 i1.supply.length c1, .slice A2 i1.arcs.length c2]), (31, .slice x.1 x.2.1 x.2.2.1)]) (fun x => [.blk x.2.2.2 40 [sn, sn, iv 0, sn, sn, iv 0, .int .u64 (0), .bool (false)], Ow fB 4 x.1 x.2.1 x.2.2.1 r_o3_6_1, .blk g2 40 [sn, sn, iv 0, sn, sn, iv 0, .int .u64 (0), .bool (false)], .blk g1 25 [.slice A1 i1.supply.length c1, .slice A2 i1.arcs.length c2], .fz (PH.of w)]) rfl ?_ ?_
     ·rintro ⟨A_o3_6_1, n_o3_6_1, c_o3_6_1, g_o3_13_1⟩ hf_o3_6_1
      dsimp only at hf_o3_6_1 ⊢
      refine WP.any2 1 8 rfl (by kernel_rfl) rfl rfl ?_ ?_
      ·refine WP.mx_ tysOk rfl ⟨⟩ (SegAt.blk' (.tail (.tail (.tail .head))) rfl) ?_
       refine WP.useF mm6 (A_o3_6_1, n_o3_6_1, c_o3_6_1, g_o3_13_1) hf_o3_6_1 rfl (by kernel_rfl) ?_ ?_
       ·repeat first|exact ⟨⟩|refine ⟨rfl,?_⟩
       exact Pick.all
      refine WP.bld (cs := [iv 0, .int .u64 (0)]) tysOk rfl ⟨⟩ rfl rfl rfl rfl rfl rfl rfl ?_
      refine WP.useF mm8 (A_o3_6_1, n_o3_6_1, c_o3_6_1, g_o3_13_1) hf_o3_6_1 rfl (by kernel_rfl) ?_ ?_
      ·repeat first|exact ⟨⟩|refine ⟨rfl,?_⟩
      exact Pick.all
     intro mm17
     refine WP.cutF (α := Nat) (fun x => True) #[true, false, true, true, true, true, false, false, true, false, false, false, false, true, false, false] 9 (fun x => [(1, pt g1), (2, pt g2), (6, pt x), (25, .agg #[.slice A1 i1.supply.length c1, .slice A2 i1.arcs.length c2]), (29, iv (i1.supply.length : Int)), (30, iv n2), (33, .agg #[iv 0, .int .u64 (0)])]) (fun x => [.blk x 40 [sn, sn, iv 0, sn, sn, iv 0, .int .u64 (0), .bool (false)], .blk g2 40 [sn, sn, iv 0, sn, sn, iv 0, .int .u64 (0), .bool (false)], .blk g1 25 [.slice A1 i1.supply.length c1, .slice A2 i1.arcs.length c2], .fz (PH.of w)]) rfl ?_ ?_
     ·rintro g_o3_13_1 _
      refine WP.any2 1 6 rfl (by kernel_rfl) rfl rfl ?_ ?_
      ·refine WP.mx_ tysOk rfl ⟨⟩ (SegAt.blk' (.tail (.tail .head)) rfl) ?_
       refine WP.useF mm7 g_o3_13_1 True.intro rfl (by kernel_rfl) ?_ ?_
       ·repeat first|exact ⟨⟩|refine ⟨rfl,?_⟩
       exact Pick.all
      refine WP.callS (ref17_one_S r_o3_6_1) rfl rfl rfl rfl rfl rfl rfl (by kernel_rfl) (fun w1 hw1 => (ref17_one_w hg_o3_6_1  :)) ?_
      rintro _ _ ⟨A_o3_6_1, n_o3_6_1, c_o3_6_1, rfl, hf_o3_6_1, rfl⟩
      refine WP.useF mm8 (A_o3_6_1, n_o3_6_1, c_o3_6_1, g_o3_13_1) hf_o3_6_1 rfl (by kernel_rfl) ?_ ?_
      ·repeat first|exact ⟨⟩|refine ⟨rfl,?_⟩
      exact (.cons (.tail .head) (.cons .head (.cons .head (.cons .head (.cons .head .nil)))))
     intro mm18
     refine WP.cutF (α := (Option Addr) × Nat × Nat) (fun x => OwF x.1 x.2.1 r_o3_6_1) #[false, true, true, true, true, true, true, false, true, false, false, false, false, false, false, false] 9 (fun x => [(1, pt g1), (2, pt g2), (26, .agg #[.slice A1 i1.supply.length c1, .slice A2 i1.arcs.length c2]), (31, .slice x.1 x.2.1 x.2.2), (33, .agg #[iv 0, .int .u64 (0)])]) (fun x => [Ow fB 4 x.1 x.2.1 x.2.2 r_o3_6_1, .blk g2 40 [sn, sn, iv 0, sn, sn, iv 0, .int .u64 (0), .bool (false)], .blk g1 25 [.slice A1 i1.supply.length c1, .slice A2 i1.arcs.length c2], .fz (PH.of w)]) rfl ?_ ?_
     ·rintro ⟨A_o3_6_1, n_o3_6_1, c_o3_6_1⟩ hf_o3_6_1
      dsimp only at hf_o3_6_1 ⊢
      refine WP.any3 0 7 13 rfl (by kernel_rfl) rfl rfl rfl ?_ ?_ ?_
      ·refine WP.mx_ tysOk rfl ⟨⟩ (SegAt.blk' (.tail (.tail .head)) rfl) ?_
       refine WP.useF mm5 (A_o3_6_1, n_o3_6_1, c_o3_6_1) hf_o3_6_1 rfl (by kernel_rfl) ?_ ?_
       ·repeat first|exact ⟨⟩|refine ⟨rfl,?_⟩
       exact Pick.all
      ·refine WP.callS (ref03_Without_S r_o3_7_1) rfl rfl rfl rfl rfl rfl rfl (by kernel_rfl) (fun w1 hw1 => (ref03_Without_w hg_o3_7_1 (InsZ.mk_ ((hs1.le' ((Held.sub (Held.mem (List.Mem.tail _ (List.Mem.tail _ (List.Mem.tail _ (List.Mem.head _))))) hZ) _ _ hw1)).of) ((hs2.le' ((Held.sub (Held.mem (List.Mem.tail _ (List.Mem.tail _ (List.Mem.tail _ (List.Mem.head _))))) hZ) _ _ hw1)).of)) (hw1.ow .head hf_o3_6_1) SlF.nil_ :)) ?_
       rintro _ _ ⟨A_o3_7_1, n_o3_7_1, c_o3_7_1, A_o3_7_2, n_o3_7_2, c_o3_7_2, rfl, hf_o3_7_1, hf_o3_7_2, rfl⟩
       refine WP.useF mm9 (A_o3_6_1, n_o3_6_1, c_o3_6_1, A_o3_7_1, n_o3_7_1, c_o3_7_1, A_o3_7_2, n_o3_7_2, c_o3_7_2) ⟨hf_o3_6_1, hf_o3_7_1, hf_o3_7_2⟩ rfl (by kernel_rfl) ?_ ?_
       ·repeat first|exact ⟨⟩|refine ⟨rfl,?_⟩
       exact Pick.all
      refine WP.al tysOk rfl rfl rfl rfl rfl rfl ?_
      intro g_o3_13_1
      refine WP.useF mm11 (A_o3_6_1, n_o3_6_1, c_o3_6_1, g_o3_13_1) hf_o3_6_1 rfl (by kernel_rfl) ?_ ?_
      ·repeat first|exact ⟨⟩|refine ⟨rfl,?_⟩
      exact Pick.all
     intro mm19
     refine WP.cutF (α := (Option Addr) × Nat × Nat × Nat) (fun x => OwF x.1 x.2.1 r_o3_6_1) #[false, true, true, true, true, true, true, false, false, false, false, false, false, true, false, false] 9 (fun x => [(1, pt g1), (2, pt g2), (6, pt x.2.2.2), (26, .agg #[.slice A1 i1.supply.length c1, .slice A2 i1.arcs.length c2]), (31, .slice x.1 x.2.1 x.2.2.1)]) (fun x => [.blk x.2.2.2 40 [sn, sn, iv 0, sn, sn, iv 0, .int .u64 (0), .bool (false)], Ow fB 4 x.1 x.2.1 x.2.2.1 r_o3_6_1, .blk g2 40 [sn, sn, iv 0, sn, sn, iv 0, .int .u64 (0), .bool (false)], .blk g1 25 [.slice A1 i1.supply.length c1, .slice A2 i1.arcs.length c2], .fz (PH.of w)]) rfl ?_ ?_
     ·rintro ⟨A_o3_6_1, n_o3_6_1, c_o3_6_1, g_o3_13_1⟩ hf_o3_6_1
      dsimp only at hf_o3_6_1 ⊢
      refine WP.any3 0 7 8 rfl (by kernel_rfl) rfl rfl rfl ?_ ?_ ?_
      ·refine WP.mx_ tysOk rfl ⟨⟩ (SegAt.blk' (.tail (.tail (.tail .head))) rfl) ?_
       refine WP.useF mm6 (A_o3_6_1, n_o3_6_1, c_o3_6_1, g_o3_13_1) hf_o3_6_1 rfl (by kernel_rfl) ?_ ?_
       ·repeat first|exact ⟨⟩|refine ⟨rfl,?_⟩
       exact Pick.all
      ·refine WP.callS (ref03_Without_S r_o3_7_1) rfl rfl rfl rfl rfl rfl rfl (by kernel_rfl) (fun w1 hw1 => (ref03_Without_w hg_o3_7_1 (InsZ.mk_ ((hs1.le' ((Held.sub (Held.mem (List.Mem.tail _ (List.Mem.tail _ (List.Mem.tail _ (List.Mem.tail _ (List.Mem.head _)))))) hZ) _ _ hw1)).of) ((hs2.le' ((Held.sub (Held.mem (List.Mem.tail _ (List.Mem.tail _ (List.Mem.tail _ (List.Mem.tail _ (List.Mem.head _)))))) hZ) _ _ hw1)).of)) (hw1.ow (.tail .head) hf_o3_6_1) SlF.nil_ :)) ?_
       rintro _ _ ⟨A_o3_7_1, n_o3_7_1, c_o3_7_1, A_o3_7_2, n_o3_7_2, c_o3_7_2, rfl, hf_o3_7_1, hf_o3_7_2, rfl⟩
       refine WP.useF mm10 (A_o3_6_1, n_o3_6_1, c_o3_6_1, A_o3_7_1, n_o3_7_1, c_o3_7_1, A_o3_7_2, n_o3_7_2, c_o3_7_2, g_o3_13_1) ⟨hf_o3_6_1, hf_o3_7_1, hf_o3_7_2⟩ rfl (by kernel_rfl) ?_ ?_
       ·repeat first|exact ⟨⟩|refine ⟨rfl,?_⟩
       exact (.cons (.tail (.tail .head)) (.cons .head (.cons .head (.cons .head (.cons .head (.cons .head (.cons .head .nil)))))))
      refine WP.bld (cs := [iv 0, .int .u64 (0)]) tysOk rfl ⟨⟩ rfl rfl rfl rfl rfl rfl rfl ?_
      refine WP.useF mm11 (A_o3_6_1, n_o3_6_1, c_o3_6_1, g_o3_13_1) hf_o3_6_1 rfl (by kernel_rfl) ?_ ?_
      ·repeat first|exact ⟨⟩|refine ⟨rfl,?_⟩
      exact Pick.all
     intro mm20
     refine WP.cutF (α := Nat) (fun x => True) #[false, true, true, true, true, true, false, false, true, false, false, false, false, true, false, false] 9 (fun x => [(1, pt g1), (2, pt g2), (6, pt x), (26, .agg #[.slice A1 i1.supply.length c1, .slice A2 i1.arcs.length c2]), (29, iv (i1.supply.length : Int)), (30, iv n2), (33, .agg #[iv 0, .int .u64 (0)])]) (fun x => [.blk x 40 [sn, sn, iv 0, sn, sn, iv 0, .int .u64 (0), .bool (false)], .blk g2 40 [sn, sn, iv 0, sn, sn, iv 0, .int .u64 (0), .bool (false)], .blk g1 25 [.slice A1 i1.supply.length c1, .slice A2 i1.arcs.length c2], .fz (PH.of w)]) rfl ?_ ?_
     ·rintro g_o3_13_1 _
      refine WP.any2 0 6 rfl (by kernel_rfl) rfl rfl ?_ ?_
      ·refine WP.mx_ tysOk rfl ⟨⟩ (SegAt.blk' (.tail (.tail .head)) rfl) ?_
       refine WP.useF mm7 g_o3_13_1 True.intro rfl (by kernel_rfl) ?_ ?_
       ·repeat first|exact ⟨⟩|refine ⟨rfl,?_⟩
       exact Pick.all
      refine WP.callS (ref17_one_S r_o3_6_1) rfl rfl rfl rfl rfl rfl rfl (by kernel_rfl) (fun w1 hw1 => (ref17_one_w hg_o3_6_1  :)) ?_
      rintro _ _ ⟨A_o3_6_1, n_o3_6_1, c_o3_6_1, rfl, hf_o3_6_1, rfl⟩
      refine WP.useF mm11 (A_o3_6_1, n_o3_6_1, c_o3_6_1, g_o3_13_1) hf_o3_6_1 rfl (by kernel_rfl) ?_ ?_
      ·repeat first|exact ⟨⟩|refine ⟨rfl,?_⟩
      exact (.cons (.tail .head) (.cons .head (.cons .head (.cons .head (.cons .head .nil)))))
     intro mm21
     refine WP.cutF (α := (Option Addr) × Nat × Nat × Nat) (fun x => OwF x.1 x.2.1 r_o3_6_1) #[false, false, true, true, true, true, true, false, true, false, false, false, false, true, false, false] 9 (fun x => [(1, pt g1), (2, pt g2), (6, pt x.2.2.2), (31, .slice x.1 x.2.1 x.2.2.1), (33, .agg #[iv 0, .int .u64 (0)])]) (fun x => [.blk x.2.2.2 40 [sn, sn, iv 0, sn, sn, iv 0, .int .u64 (0), .bool (false)], Ow fB 4 x.1 x.2.1 x.2.2.1 r_o3_6_1, .blk g2 40 [sn, sn, iv 0, sn, sn, iv 0, .int .u64 (0), .bool (false)], .blk g1 25 [.slice A1 i1.supply.length c1, .slice A2 i1.arcs.length c2], .fz (PH.of w)]) rfl ?_ ?_
     ·rintro ⟨A_o3_6_1, n_o3_6_1, c_o3_6_1, g_o3_13_1⟩ hf_o3_6_1
      dsimp only at hf_o3_6_1 ⊢
      refine WP.any2 0 1 rfl (by kernel_rfl) rfl rfl ?_ ?_
      ·refine WP.mx_ tysOk rfl ⟨⟩ (SegAt.blk' (.tail (.tail (.tail .head))) rfl) ?_
       refine WP.useF mm8 (A_o3_6_1, n_o3_6_1, c_o3_6_1, g_o3_13_1) hf_o3_6_1 rfl (by kernel_rfl) ?_ ?_
       ·repeat first|exact ⟨⟩|refine ⟨rfl,?_⟩
       exact Pick.all
      refine WP.mx_ tysOk rfl ⟨⟩ (SegAt.blk' (.tail (.tail (.tail .head))) rfl) ?_
      refine WP.useF mm11 (A_o3_6_1, n_o3_6_1, c_o3_6_1, g_o3_13_1) hf_o3_6_1 rfl (by kernel_rfl) ?_ ?_
      ·repeat first|exact ⟨⟩|refine ⟨rfl,?_⟩
      exact Pick.all
     intro mm22
     refine WP.cutF (α := Unit) (fun x => True) #[true, true, true, true, true, true, false, false, false, false, false, false, false, false, false, false] 10 (fun x => [(2, pt g2), (25, .agg #[.slice A1 i1.supply.length c1, .slice A2 i1.arcs.length c2]), (26, .agg #[.slice A1 i1.supply.length c1, .slice A2 i1.arcs.length c2]), (29, iv (i1.supply.length : Int)), (30, iv n2)]) (fun x => [.blk g2 40 [sn, sn, iv 0, sn, sn, iv 0, .int .u64 (0), .bool (false)], .blk g1 25 [.slice A1 i1.supply.length c1, .slice A2 i1.arcs.length c2], .fz (PH.of w)]) rfl ?_ ?_
     ·rintro _ _
      refine WP.any3 6 8 13 rfl (by kernel_rfl) rfl rfl rfl ?_ ?_ ?_
      ·refine WP.callS (ref17_one_S r_o3_6_1) rfl rfl rfl rfl rfl rfl rfl (by kernel_rfl) (fun w1 hw1 => (ref17_one_w hg_o3_6_1  :)) ?_
       rintro _ _ ⟨A_o3_6_1, n_o3_6_1, c_o3_6_1, rfl, hf_o3_6_1, rfl⟩
       refine WP.useF mm12 (A_o3_6_1, n_o3_6_1, c_o3_6_1) hf_o3_6_1 rfl (by kernel_rfl) ?_ ?_
       ·repeat first|exact ⟨⟩|refine ⟨rfl,?_⟩
       exact Pick.all
      ·refine WP.bld (cs := [iv 0, .int .u64 (0)]) tysOk rfl ⟨⟩ rfl rfl rfl rfl rfl rfl rfl ?_
       refine WP.useF mm13 () True.intro rfl (by kernel_rfl) ?_ ?_
       ·repeat first|exact ⟨⟩|refine ⟨rfl,?_⟩
       exact Pick.all
      refine WP.al tysOk rfl rfl rfl rfl rfl rfl ?_
      intro g_o3_13_1
      refine WP.useF mm14 g_o3_13_1 True.intro rfl (by kernel_rfl) ?_ ?_
      ·repeat first|exact ⟨⟩|refine ⟨rfl,?_⟩
      exact Pick.all
     intro mm23
     refine WP.cutF (α := Unit) (fun x => True) #[true, true, true, true, false, true, false, false, true, false, false, false, false, false, false, false] 10 (fun x => [(2, pt g2), (25, .agg #[.slice A1 i1.supply.length c1, .slice A2 i1.arcs.length c2]), (26, .agg #[.slice A1 i1.supply.length c1, .slice A2 i1.arcs.length c2]), (28, .slice A1 i1.supply.length c1), (30, iv n2), (33, .agg #[iv 0, .int .u64 (0)])]) (fun x => [.blk g2 40 [sn, sn, iv 0, sn, sn, iv 0, .int .u64 (0), .bool (false)], .blk g1 25 [.slice A1 i1.supply.length c1, .slice A2 i1.arcs.length c2], .fz (PH.of w)]) rfl ?_ ?_
     ·rintro _ _
      refine WP.any2 4 13 rfl (by kernel_rfl) rfl rfl ?_ ?_
      ·refine WP.sx tysOk rfl ⟨⟨⟩, ⟨⟩⟩ ?_
       refine WP.useF mm13 () True.intro rfl (by kernel_rfl) ?_ ?_
       ·repeat first|exact ⟨⟩|refine ⟨rfl,?_⟩
       exact Pick.all
      refine WP.al tysOk rfl rfl rfl rfl rfl rfl ?_
      intro g_o3_13_1
      refine WP.useF mm15 g_o3_13_1 True.intro rfl (by kernel_rfl) ?_ ?_
      ·repeat first|exact ⟨⟩|refine ⟨rfl,?_⟩
      exact Pick.all
     intro mm24
     refine WP.cutF (α := Nat) (fun x => True) #[true, true, true, true, false, true, false, false, false, false, false, false, false, true, false, false] 10 (fun x => [(2, pt g2), (6, pt x), (25, .agg #[.slice A1 i1.supply.length c1, .slice A2 i1.arcs.length c2]), (26, .agg #[.slice A1 i1.supply.length c1, .slice A2 i1.arcs.length c2]), (28, .slice A1 i1.supply.length c1), (30, iv n2)]) (fun x => [.blk x 40 [sn, sn, iv 0, sn, sn, iv 0, .int .u64 (0), .bool (false)], .blk g2 40 [sn, sn, iv 0, sn, sn, iv 0, .int .u64 (0), .bool (false)], .blk g1 25 [.slice A1 i1.supply.length c1, .slice A2 i1.arcs.length c2], .fz (PH.of w)]) rfl ?_ ?_
     ·rintro g_o3_13_1 _
      refine WP.any2 4 8 rfl (by kernel_rfl) rfl rfl ?_ ?_
      ·refine WP.sx tysOk rfl ⟨⟨⟩, ⟨⟩⟩ ?_
       refine WP.useF mm14 g_o3_13_1 True.intro rfl (by kernel_rfl) ?_ ?_
       ·repeat first|exact ⟨⟩|refine ⟨rfl,?_⟩
       exact Pick.all
      refine WP.bld (cs := [iv 0, .int .u64 (0)]) tysOk rfl ⟨⟩ rfl rfl rfl rfl rfl rfl rfl ?_
      refine WP.useF mm15 g_o3_13_1 True.intro rfl (by kernel_rfl) ?_ ?_
      ·repeat first|exact ⟨⟩|refine ⟨rfl,?_⟩
      exact Pick.all
     intro mm25
     refine WP.cutF (α := Nat) (fun x => True) #[true, true, true, false, false, true, false, false, true, false, false, false, false, true, false, false] 10 (fun x => [(2, pt g2), (6, pt x), (25, .agg #[.slice A1 i1.supply.length c1, .slice A2 i1.arcs.length c2]), (26, .agg #[.slice A1 i1.supply.length c1, .slice A2 i1.arcs.length c2]), (27, pt g1), (30, iv n2), (33, .agg #[iv 0, .int .u64 (0)])]) (fun x => [.blk x 40 [sn, sn, iv 0, sn, sn, iv 0, .int .u64 (0), .bool (false)], .blk g2 40 [sn, sn, iv 0, sn, sn, iv 0, .int .u64 (0), .bool (false)], .blk g1 25 [.slice A1 i1.supply.length c1, .slice A2 i1.arcs.length c2], .fz (PH.of w)]) rfl ?_ ?_
     ·rintro g_o3_13_1 _
      refine WP.any1 3 rfl (by kernel_rfl) rfl ?_
      refine WP.lx tysOk rfl ⟨⟩ (CellAt.blk (.tail (.tail .head)) rfl) ?_
      refine WP.useF mm15 g_o3_13_1 True.intro rfl (by kernel_rfl) ?_ ?_
      ·repeat first|exact ⟨⟩|refine ⟨rfl,?_⟩
      exact Pick.all
     intro mm26
     refine WP.cutF (α := (Option Addr) × Nat × Nat) (fun x => OwF x.1 x.2.1 r_o3_6_1) #[true, false, true, true, true, true, true, false, false, false, false, false, false, false, false, false] 10 (fun x => [(1, pt g1), (2, pt g2), (25, .agg #[.slice A1 i1.supply.length c1, .slice A2 i1.arcs.length c2]), (31, .slice x.1 x.2.1 x.2.2)]) (fun x => [Ow fB 4 x.1 x.2.1 x.2.2 r_o3_6_1, .blk g2 40 [sn, sn, iv 0, sn, sn, iv 0, .int .u64 (0), .bool (false)], .blk g1 25 [.slice A1 i1.supply.length c1, .slice A2 i1.arcs.length c2], .fz (PH.of w)]) rfl ?_ ?_
     ·rintro ⟨A_o3_6_1, n_o3_6_1, c_o3_6_1⟩ hf_o3_6_1
      dsimp only at hf_o3_6_1 ⊢
      refine WP.any3 1 8 13 rfl (by kernel_rfl) rfl rfl rfl ?_ ?_ ?_
      ·refine WP.mx_ tysOk rfl ⟨⟩ (SegAt.blk' (.tail (.tail .head)) rfl) ?_
       refine WP.useF mm12 (A_o3_6_1, n_o3_6_1, c_o3_6_1) hf_o3_6_1 rfl (by kernel_rfl) ?_ ?_
       ·repeat first|exact ⟨⟩|refine ⟨rfl,?_⟩
       exact Pick.all
      ·refine WP.bld (cs := [iv 0, .int .u64 (0)]) tysOk rfl ⟨⟩ rfl rfl rfl rfl rfl rfl rfl ?_
       refine WP.useF mm16 (A_o3_6_1, n_o3_6_1, c_o3_6_1) hf_o3_6_1 rfl (by kernel_rfl) ?_ ?_
       ·repeat first|exact ⟨⟩|refine ⟨rfl,?_⟩
       exact Pick.all
      refine WP.al tysOk rfl rfl rfl rfl rfl rfl ?_
      intro g_o3_13_1
      refine WP.useF mm17 (A_o3_6_1, n_o3_6_1, c_o3_6_1, g_o3_13_1) hf_o3_6_1 rfl (by kernel_rfl) ?_ ?_
      ·repeat first|exact ⟨⟩|refine ⟨rfl,?_⟩
      exact Pick.all
     intro mm27
     refine WP.cutF (α := Unit) (fun x => True) #[true, false, true, true, true, true, false, false, true, false, false, false, false, false, false, false] 10 (fun x => [(1, pt g1), (2, pt g2), (25, .agg #[.slice A1 i1.supply.length c1, .slice A2 i1.arcs.length c2]), (29, iv (i1.supply.length : Int)), (30, iv n2), (33, .agg #[iv 0, .int .u64 (0)])]) (fun x => [.blk g2 40 [sn, sn, iv 0, sn, sn, iv 0, .int .u64 (0), .bool (false)], .blk g1 25 [.slice A1 i1.supply.length c1, .slice A2 i1.arcs.length c2], .fz (PH.of w)]) rfl ?_ ?_
     ·rintro _ _
      refine WP.any3 1 6 13 rfl (by kernel_rfl) rfl rfl rfl ?_ ?_ ?_
      ·refine WP.mx_ tysOk rfl ⟨⟩ (SegAt.blk' (.tail .head) rfl) ?_
       refine WP.useF mm13 () True.intro rfl (by kernel_rfl) ?_ ?_
       ·repeat first|exact ⟨⟩|refine ⟨rfl,?_⟩
       exact Pick.all
      ·refine WP.callS (ref17_one_S r_o3_6_1) rfl rfl rfl rfl rfl rfl rfl (by kernel_rfl) (fun w1 hw1 => (ref17_one_w hg_o3_6_1  :)) ?_
       rintro _ _ ⟨A_o3_6_1, n_o3_6_1, c_o3_6_1, rfl, hf_o3_6_1, rfl⟩
       refine WP.useF mm16 (A_o3_6_1, n_o3_6_1, c_o3_6_1) hf_o3_6_1 rfl (by kernel_rfl) ?_ ?_
       ·repeat first|exact ⟨⟩|refine ⟨rfl,?_⟩
       exact Pick.all
      refine WP.al tysOk rfl rfl rfl rfl rfl rfl ?_
      intro g_o3_13_1
      refine WP.useF mm18 g_o3_13_1 True.intro rfl (by kernel_rfl) ?_ ?_
      ·repeat first|exact ⟨⟩|refine ⟨rfl,?_⟩
      exact Pick.all
     intro mm28
     refine WP.cutF (α := Nat) (fun x => True) #[true, false, true, true, true, true, false, false, false, false, false, false, false, true, false, false] 10 (fun x => [(1, pt g1), (2, pt g2), (6, pt x), (25, .agg #[.slice A1 i1.supply.length c1, .slice A2 i1.arcs.length c2]), (29, iv (i1.supply.length : Int)), (30, iv n2)]) (fun x => [.blk x 40 [sn, sn, iv 0, sn, sn, iv 0, .int .u64 (0), .bool (false)], .blk g2 40 [sn, sn, iv 0, sn, sn, iv 0, .int .u64 (0), .bool (false)], .blk g1 25 [.slice A1 i1.supply.length c1, .slice A2 i1.arcs.length c2], .fz (PH.of w)]) rfl ?_ ?_
     ·rintro g_o3_13_1 _
      refine WP.any3 1 6 8 rfl (by kernel_rfl) rfl rfl rfl ?_ ?_ ?_
      ·refine WP.mx_ tysOk rfl ⟨⟩ (SegAt.blk' (.tail (.tail .head)) rfl) ?_
       refine WP.useF mm14 g_o3_13_1 True.intro rfl (by kernel_rfl) ?_ ?_
       ·repeat first|exact ⟨⟩|refine ⟨rfl,?_⟩
       exact Pick.all
      ·refine WP.callS (ref17_one_S r_o3_6_1) rfl rfl rfl rfl rfl rfl rfl (by kernel_rfl) (fun w1 hw1 => (ref17_one_w hg_o3_6_1  :)) ?_
       rintro _ _ ⟨A_o3_6_1, n_o3_6_1, c_o3_6_1, rfl, hf_o3_6_1, rfl⟩
       refine WP.useF mm17 (A_o3_6_1, n_o3_6_1, c_o3_6_1, g_o3_13_1) hf_o3_6_1 rfl (by kernel_rfl) ?_ ?_
       ·repeat first|exact ⟨⟩|refine ⟨rfl,?_⟩
       exact (.cons (.tail .head) (.cons .head (.cons .head (.cons .head (.cons .head .nil)))))
      refine WP.bld (cs := [iv 0, .int .u64 (0)]) tysOk rfl ⟨⟩ rfl rfl rfl rfl rfl rfl rfl ?_
      refine WP.useF mm18 g_o3_13_1 True.intro rfl (by kernel_rfl) ?_ ?_
      ·repeat first|exact ⟨⟩|refine ⟨rfl,?_⟩
      exact Pick.all
     intro mm29
     refine WP.cutF (α := Nat) (fun x => True) #[true, false, true, true, false, true, false, false, true, false, false, false, false, true, false, false] 10 (fun x => [(1, pt g1), (2, pt g2), (6, pt x), (25, .agg #[.slice A1 i1.supply.length c1, .slice A2 i1.arcs.length c2]), (28, .slice A1 i1.supply.length c1), (30, iv n2), (33, .agg #[iv 0, .int .u64 (0)])]) (fun x => [.blk x 40 [sn, sn, iv 0, sn, sn, iv 0, .int .u64 (0), .bool (false)], .blk g2 40 [sn, sn, iv 0, sn, sn, iv 0, .int .u64 (0), .bool (false)], .blk g1 25 [.slice A1 i1.supply.length c1, .slice A2 i1.arcs.length c2], .fz (PH.of w)]) rfl ?_ ?_
     ·rintro g_o3_13_1 _
      refine WP.any2 1 4 rfl (by kernel_rfl) rfl rfl ?_ ?_
      ·refine WP.mx_ tysOk rfl ⟨⟩ (SegAt.blk' (.tail (.tail .head)) rfl) ?_
       refine WP.useF mm15 g_o3_13_1 True.intro rfl (by kernel_rfl) ?_ ?_
       ·repeat first|exact ⟨⟩|refine ⟨rfl,?_⟩
       exact Pick.all
      refine WP.sx tysOk rfl ⟨⟨⟩, ⟨⟩⟩ ?_
      refine WP.useF mm18 g_o3_13_1 True.intro rfl (by kernel_rfl) ?_ ?_
      ·repeat first|exact ⟨⟩|refine ⟨rfl,?_⟩
      exact Pick.all
     intro mm30
     refine WP.cutF (α := (Option Addr) × Nat × Nat) (fun x => OwF x.1 x.2.1 r_o3_6_1) #[false, true, true, true, true, true, true, false, false, false, false, false, false, false, false, false] 10 (fun x => [(1, pt g1), (2, pt g2), (26, .agg #[.slice A1 i1.supply.length c1, .slice A2 i1.arcs.length c2]), (31, .slice x.1 x.2.1 x.2.2)]) (fun x => [Ow fB 4 x.1 x.2.1 x.2.2 r_o3_6_1, .blk g2 40 [sn, sn, iv 0, sn, sn, iv 0, .int .u64 (0), .bool (false)], .blk g1 25 [.slice A1 i1.supply.length c1, .slice A2 i1.arcs.length c2], .fz (PH.of w)]) rfl ?_ ?_
     ·rintro ⟨A_o3_6_1, n_o3_6_1, c_o3_6_1⟩ hf_o3_6_1
      dsimp only at hf_o3_6_1 ⊢
      refine WP.any4 0 7 8 13 rfl (by kernel_rfl) rfl rfl rfl rfl ?_ ?_ ?_ ?_
      ·refine WP.mx_ tysOk rfl ⟨⟩ (SegAt.blk' (.tail (.tail .head)) rfl) ?_
       refine WP.useF mm12 (A_o3_6_1, n_o3_6_1, c_o3_6_1) hf_o3_6_1 rfl (by kernel_rfl) ?_ ?_
       ·repeat first|exact ⟨⟩|refine ⟨rfl,?_⟩
       exact Pick.all
      ·refine WP.callS (ref03_Without_S r_o3_7_1) rfl rfl rfl rfl rfl rfl rfl (by kernel_rfl) (fun w1 hw1 => (ref03_Without_w hg_o3_7_1 (InsZ.mk_ ((hs1.le' ((Held.sub (Held.mem (List.Mem.tail _ (List.Mem.tail _ (List.Mem.tail _ (List.Mem.head _))))) hZ) _ _ hw1)).of) ((hs2.le' ((Held.sub (Held.mem (List.Mem.tail _ (List.Mem.tail _ (List.Mem.tail _ (List.Mem.head _))))) hZ) _ _ hw1)).of)) (hw1.ow .head hf_o3_6_1) SlF.nil_ :)) ?_
       rintro _ _ ⟨A_o3_7_1, n_o3_7_1, c_o3_7_1, A_o3_7_2, n_o3_7_2, c_o3_7_2, rfl, hf_o3_7_1, hf_o3_7_2, rfl⟩
       refine WP.any3 0 8 13 rfl (by kernel_rfl) rfl rfl rfl ?_ ?_ ?_
       ·refine WP.mx_ tysOk rfl ⟨⟩ (SegAt.blk' (.tail (.tail (.tail (.tail .head)))) rfl) ?_
        refine WP.useF mm4 (A_o3_6_1, n_o3_6_1, c_o3_6_1, A_o3_7_1, n_o3_7_1, c_o3_7_1, A_o3_7_2, n_o3_7_2, c_o3_7_2) ⟨hf_o3_6_1, hf_o3_7_1, hf_o3_7_2⟩ rfl (by kernel_rfl) ?_ ?_
        ·repeat first|exact ⟨⟩|refine ⟨rfl,?_⟩
        exact Pick.all
       ·refine WP.bld (cs := [iv 0, .int .u64 (0)]) tysOk rfl ⟨⟩ rfl rfl rfl rfl rfl rfl rfl ?_
        refine WP.useF mm9 (A_o3_6_1, n_o3_6_1, c_o3_6_1, A_o3_7_1, n_o3_7_1, c_o3_7_1, A_o3_7_2, n_o3_7_2, c_o3_7_2) ⟨hf_o3_6_1, hf_o3_7_1, hf_o3_7_2⟩ rfl (by kernel_rfl) ?_ ?_
        ·repeat first|exact ⟨⟩|refine ⟨rfl,?_⟩
        exact Pick.all
       refine WP.al tysOk rfl rfl rfl rfl rfl rfl ?_
       intro g_o3_13_1
       refine WP.useF mm10 (A_o3_6_1, n_o3_6_1, c_o3_6_1, A_o3_7_1, n_o3_7_1, c_o3_7_1, A_o3_7_2, n_o3_7_2, c_o3_7_2, g_o3_13_1) ⟨hf_o3_6_1, hf_o3_7_1, hf_o3_7_2⟩ rfl (by kernel_rfl) ?_ ?_
       ·repeat first|exact ⟨⟩|refine ⟨rfl,?_⟩
       exact Pick.all
      ·refine WP.bld (cs := [iv 0, .int .u64 (0)]) tysOk rfl ⟨⟩ rfl rfl rfl rfl rfl rfl rfl ?_
       refine WP.useF mm19 (A_o3_6_1, n_o3_6_1, c_o3_6_1) hf_o3_6_1 rfl (by kernel_rfl) ?_ ?_
       ·repeat first|exact ⟨⟩|refine ⟨rfl,?_⟩
       exact Pick.all
      refine WP.al tysOk rfl rfl rfl rfl rfl rfl ?_
      intro g_o3_13_1
      refine WP.useF mm20 (A_o3_6_1, n_o3_6_1, c_o3_6_1, g_o3_13_1) hf_o3_6_1 rfl (by kernel_rfl) ?_ ?_
      ·repeat first|exact ⟨⟩|refine ⟨rfl,?_⟩
      exact Pick.all
     intro mm31
     refine WP.cutF (α := Unit) (fun x => True) #[false, true, true, true, true, true, false, false, true, false, false, false, false, false, false, false] 10 (fun x => [(1, pt g1), (2, pt g2), (26, .agg #[.slice A1 i1.supply.length c1, .slice A2 i1.arcs.length c2]), (29, iv (i1.supply.length : Int)), (30, iv n2), (33, .agg #[iv 0, .int .u64 (0)])]) (fun x => [.blk g2 40 [sn, sn, iv 0, sn, sn, iv 0, .int .u64 (0), .bool (false)], .blk g1 25 [.slice A1 i1.supply.length c1, .slice A2 i1.arcs.length c2], .fz (PH.of w)]) rfl ?_ ?_
     ·rintro _ _
      refine WP.any3 0 6 13 rfl (by kernel_rfl) rfl rfl rfl ?_ ?_ ?_
      ·refine WP.mx_ tysOk rfl ⟨⟩ (SegAt.blk' (.tail .head) rfl) ?_
       refine WP.useF mm13 () True.intro rfl (by kernel_rfl) ?_ ?_
       ·repeat first|exact ⟨⟩|refine ⟨rfl,?_⟩
       exact Pick.all
      ·refine WP.callS (ref17_one_S r_o3_6_1) rfl rfl rfl rfl rfl rfl rfl (by kernel_rfl) (fun w1 hw1 => (ref17_one_w hg_o3_6_1  :)) ?_
       rintro _ _ ⟨A_o3_6_1, n_o3_6_1, c_o3_6_1, rfl, hf_o3_6_1, rfl⟩
       refine WP.useF mm19 (A_o3_6_1, n_o3_6_1, c_o3_6_1) hf_o3_6_1 rfl (by kernel_rfl) ?_ ?_
       ·repeat first|exact ⟨⟩|refine ⟨rfl,?_⟩
       exact Pick.all
      refine WP.al tysOk rfl rfl rfl rfl rfl rfl ?_
      intro g_o3_13_1
      refine WP.useF mm21 g_o3_13_1 True.intro rfl (by kernel_rfl) ?_ ?_
      ·repeat first|exact ⟨⟩|refine ⟨rfl,?_⟩
      exact Pick.all
     intro mm32
     refine WP.cutF (α := Nat) (fun x => True) #[false, true, true, true, true, true, false, false, false, false, false, false, false, true, false, false] 10 (fun x => [(1, pt g1), (2, pt g2), (6, pt x), (26, .agg #[.slice A1 i1.supply.length c1, .slice A2 i1.arcs.length c2]), (29, iv (i1.supply.length : Int)), (30, iv n2)]) (fun x => [.blk x 40 [sn, sn, iv 0, sn, sn, iv 0, .int .u64 (0), .bool (false)], .blk g2 40 [sn, sn, iv 0, sn, sn, iv 0, .int .u64 (0), .bool (false)], .blk g1 25 [.slice A1 i1.supply.length c1, .slice A2 i1.arcs.length c2], .fz (PH.of w)]) rfl ?_ ?_
     ·rintro g_o3_13_1 _
      refine WP.any3 0 6 8 rfl (by kernel_rfl) rfl rfl rfl ?_ ?_ ?_
      ·refine WP.mx_ tysOk rfl ⟨⟩ (SegAt.blk' (.tail (.tail .head)) rfl) ?_
       refine WP.useF mm14 g_o3_13_1 True.intro rfl (by kernel_rfl) ?_ ?_
       ·repeat first|exact ⟨⟩|refine ⟨rfl,?_⟩
       exact Pick.all
      ·refine WP.callS (ref17_one_S r_o3_6_1) rfl rfl rfl rfl rfl rfl rfl (by kernel_rfl) (fun w1 hw1 => (ref17_one_w hg_o3_6_1  :)) ?_
       rintro _ _ ⟨A_o3_6_1, n_o3_6_1, c_o3_6_1, rfl, hf_o3_6_1, rfl⟩
       refine WP.useF mm20 (A_o3_6_1, n_o3_6_1, c_o3_6_1, g_o3_13_1) hf_o3_6_1 rfl (by kernel_rfl) ?_ ?_
       ·repeat first|exact ⟨⟩|refine ⟨rfl,?_⟩
       exact (.cons (.tail .head) (.cons .head (.cons .head (.cons .head (.cons .head .nil)))))
      refine WP.bld (cs := [iv 0, .int .u64 (0)]) tysOk rfl ⟨⟩ rfl rfl rfl rfl rfl rfl rfl ?_
      refine WP.useF mm21 g_o3_13_1 True.intro rfl (by kernel_rfl) ?_ ?_
      ·repeat first|exact ⟨⟩|refine ⟨rfl,?_⟩
      exact Pick.all
     intro mm33
     refine WP.cutF (α := Nat) (fun x => True) #[false, true, true, true, false, true, false, false, true, false, false, false, false, true, false, false] 10 (fun x => [(1, pt g1), (2, pt g2), (6, pt x), (26, .agg #[.slice A1 i1.supply.length c1, .slice A2 i1.arcs.length c2]), (28, .slice A1 i1.supply.length c1), (30, iv n2), (33, .agg #[iv 0, .int .u64 (0)])]) (fun x => [.blk x 40 [sn, sn, iv 0, sn, sn, iv 0, .int .u64 (0), .bool (false)], .blk g2 40 [sn, sn, iv 0, sn, sn, iv 0, .int .u64 (0), .bool (false)], .blk g1 25 [.slice A1 i1.supply.length c1, .slice A2 i1.arcs.length c2], .fz (PH.of w)]) rfl ?_ ?_
     ·rintro g_o3_13_1 _
      refine WP.any2 0 4 rfl (by kernel_rfl) rfl rfl ?_ ?_
      ·refine WP.mx_ tysOk rfl ⟨⟩ (SegAt.blk' (.tail (.tail .head)) rfl) ?_
       refine WP.useF mm15 g_o3_13_1 True.intro rfl (by kernel_rfl) ?_ ?_
       ·repeat first|exact ⟨⟩|refine ⟨rfl,?_⟩
       exact Pick.all
      refine WP.sx tysOk rfl ⟨⟨⟩, ⟨⟩⟩ ?_
      refine WP.useF mm21 g_o3_13_1 True.intro rfl (by kernel_rfl) ?_ ?_
      ·repeat first|exact ⟨⟩|refine ⟨rfl,?_⟩
      exact Pick.all
     intro mm34
     refine WP.cutF (α := (Option Addr) × Nat × Nat) (fun x => OwF x.1 x.2.1 r_o3_6_1) #[false, false, true, true, true, true, true, false, true, false, false, false, false, false, false, false] 10 (fun x => [(1, pt g1), (2, pt g2), (31, .slice x.1 x.2.1 x.2.2), (33, .agg #[iv 0, .int .u64 (0)])]) (fun x => [Ow fB 4 x.1 x.2.1 x.2.2 r_o3_6_1, .blk g2 40 [sn, sn, iv 0, sn, sn, iv 0, .int .u64 (0), .bool (false)], .blk g1 25 [.slice A1 i1.supply.length c1, .slice A2 i1.arcs.length c2], .fz (PH.of w)]) rfl ?_ ?_
     ·rintro ⟨A_o3_6_1, n_o3_6_1, c_o3_6_1⟩ hf_o3_6_1
      dsimp only at hf_o3_6_1 ⊢
      refine WP.any3 0 1 13 rfl (by kernel_rfl) rfl rfl rfl ?_ ?_ ?_
      ·refine WP.mx_ tysOk rfl ⟨⟩ (SegAt.blk' (.tail (.tail .head)) rfl) ?_
       refine WP.useF mm16 (A_o3_6_1, n_o3_6_1, c_o3_6_1) hf_o3_6_1 rfl (by kernel_rfl) ?_ ?_
       ·repeat first|exact ⟨⟩|refine ⟨rfl,?_⟩
       exact Pick.all
      ·refine WP.mx_ tysOk rfl ⟨⟩ (SegAt.blk' (.tail (.tail .head)) rfl) ?_
       refine WP.useF mm19 (A_o3_6_1, n_o3_6_1, c_o3_6_1) hf_o3_6_1 rfl (by kernel_rfl) ?_ ?_
       ·repeat first|exact ⟨⟩|refine ⟨rfl,?_⟩
       exact Pick.all
      refine WP.al tysOk rfl rfl rfl rfl rfl rfl ?_
      intro g_o3_13_1
      refine WP.useF mm22 (A_o3_6_1, n_o3_6_1, c_o3_6_1, g_o3_13_1) hf_o3_6_1 rfl (by kernel_rfl) ?_ ?_
      ·repeat first|exact ⟨⟩|refine ⟨rfl,?_⟩
      exact Pick.all
     intro mm35
     refine WP.cutF (α := (Option Addr) × Nat × Nat × Nat) (fun x => OwF x.1 x.2.1 r_o3_6_1) #[false, false, true, true, true, true, true, false, false, false, false, false, false, true, false, false] 10 (fun x => [(1, pt g1), (2, pt g2), (6, pt x.2.2.2), (31, .slice x.1 x.2.1 x.2.2.1)]) (fun x => [.blk x.2.2.2 40 [sn, sn, iv 0, sn, sn, iv 0, .int .u64 (0), .bool (false)], Ow fB 4 x.1 x.2.1 x.2.2.1 r_o3_6_1, .blk g2 40 [sn, sn, iv 0, sn, sn, iv 0, .int .u64 (0), .bool (false)], .blk g1 25 [.slice A1 i1.supply.length c1, .slice A2 i1.arcs.length c2], .fz (PH.of w)]) rfl ?_ ?_
     ·rintro ⟨A_o3_6_1, n_o3_6_1, c_o3_6_1, g_o3_13_1⟩ hf_o3_6_1
      dsimp only at hf_o3_6_1 ⊢
      refine WP.any3 0 1 8 rfl (by kernel_rfl) rfl rfl rfl ?_ ?_ ?_
      ·refine WP.mx_ tysOk rfl ⟨⟩ (SegAt.blk' (.tail (.tail (.tail .head))) rfl) ?_
       refine WP.useF mm17 (A_o3_6_1, n_o3_6_1, c_o3_6_1, g_o3_13_1) hf_o3_6_1 rfl (by kernel_rfl) ?_ ?_
       ·repeat first|exact ⟨⟩|refine ⟨rfl,?_⟩
       exact Pick.all
      ·refine WP.mx_ tysOk rfl ⟨⟩ (SegAt.blk' (.tail (.tail (.tail .head))) rfl) ?_
       refine WP.useF mm20 (A_o3_6_1, n_o3_6_1, c_o3_6_1, g_o3_13_1) hf_o3_6_1 rfl (by kernel_rfl) ?_ ?_
       ·repeat first|exact ⟨⟩|refine ⟨rfl,?_⟩
       exact Pick.all
      refine WP.bld (cs := [iv 0, .int .u64 (0)]) tysOk rfl ⟨⟩ rfl rfl rfl rfl rfl rfl rfl ?_
      refine WP.useF mm22 (A_o3_6_1, n_o3_6_1, c_o3_6_1, g_o3_13_1) hf_o3_6_1 rfl (by kernel_rfl) ?_ ?_
      ·repeat first|exact ⟨⟩|refine ⟨rfl,?_⟩
      exact Pick.all
     intro mm36
     refine WP.cutF (α := Nat) (fun x => True) #[false, false, true, true, true, true, false, false, true, false, false, false, false, true, false, false] 10 (fun x => [(1, pt g1), (2, pt g2), (6, pt x), (29, iv (i1.supply.length : Int)), (30, iv n2), (33, .agg #[iv 0, .int .u64 (0)])]) (fun x => [.blk x 40 [sn, sn, iv 0, sn, sn, iv 0, .int .u64 (0), .bool (false)], .blk g2 40 [sn, sn, iv 0, sn, sn, iv 0, .int .u64 (0), .bool (false)], .blk g1 25 [.slice A1 i1.supply.length c1, .slice A2 i1.arcs.length c2], .fz (PH.of w)]) rfl ?_ ?_
     ·rintro g_o3_13_1 _
      refine WP.any3 0 1 6 rfl (by kernel_rfl) rfl rfl rfl ?_ ?_ ?_
      ·refine WP.mx_ tysOk rfl ⟨⟩ (SegAt.blk' (.tail (.tail .head)) rfl) ?_
       refine WP.useF mm18 g_o3_13_1 True.intro rfl (by kernel_rfl) ?_ ?_
       ·repeat first|exact ⟨⟩|refine ⟨rfl,?_⟩
       exact Pick.all
      ·refine WP.mx_ tysOk rfl ⟨⟩ (SegAt.blk' (.tail (.tail .head)) rfl) ?_
       refine WP.useF mm21 g_o3_13_1 True.intro rfl (by kernel_rfl) ?_ ?_
       ·repeat first|exact ⟨⟩|refine ⟨rfl,?_⟩
       exact Pick.all
      refine WP.callS (ref17_one_S r_o3_6_1) rfl rfl rfl rfl rfl rfl rfl (by kernel_rfl) (fun w1 hw1 => (ref17_one_w hg_o3_6_1  :)) ?_
      rintro _ _ ⟨A_o3_6_1, n_o3_6_1, c_o3_6_1, rfl, hf_o3_6_1, rfl⟩
      refine WP.useF mm22 (A_o3_6_1, n_o3_6_1, c_o3_6_1, g_o3_13_1) hf_o3_6_1 rfl (by kernel_rfl) ?_ ?_
      ·repeat first|exact ⟨⟩|refine ⟨rfl,?_⟩
      exact (.cons (.tail .head) (.cons .head (.cons .head (.cons .head (.cons .head .nil)))))
     intro mm37
     refine WP.cutF (α := Unit) (fun x => True) #[true, true, true, true, false, true, false, false, false, false, false, false, false, false, false, false] 11 (fun x => [(2, pt g2), (25, .agg #[.slice A1 i1.supply.length c1, .slice A2 i1.arcs.length c2]), (26, .agg #[.slice A1 i1.supply.length c1, .slice A2 i1.arcs.length c2]), (28, .slice A1 i1.supply.length c1), (30, iv n2)]) (fun x => [.blk g2 40 [sn, sn, iv 0, sn, sn, iv 0, .int .u64 (0), .bool (false)], .blk g1 25 [.slice A1 i1.supply.length c1, .slice A2 i1.arcs.length c2], .fz (PH.of w)]) rfl ?_ ?_
     ·rintro _ _
      refine WP.any3 4 8 13 rfl (by kernel_rfl) rfl rfl rfl ?_ ?_ ?_
      ·refine WP.sx tysOk rfl ⟨⟨⟩, ⟨⟩⟩ ?_
       refine WP.useF mm23 () True.intro rfl (by kernel_rfl) ?_ ?_
       ·repeat first|exact ⟨⟩|refine ⟨rfl,?_⟩
       exact Pick.all
      ·refine WP.bld (cs := [iv 0, .int .u64 (0)]) tysOk rfl ⟨⟩ rfl rfl rfl rfl rfl rfl rfl ?_
       refine WP.useF mm24 () True.intro rfl (by kernel_rfl) ?_ ?_
       ·repeat first|exact ⟨⟩|refine ⟨rfl,?_⟩
       exact Pick.all
      refine WP.al tysOk rfl rfl rfl rfl rfl rfl ?_
      intro g_o3_13_1
      refine WP.useF mm25 g_o3_13_1 True.intro rfl (by kernel_rfl) ?_ ?_
      ·repeat first|exact ⟨⟩|refine ⟨rfl,?_⟩
      exact Pick.all
     intro mm38
     refine WP.cutF (α := Unit) (fun x => True) #[true, true, true, false, false, true, false, false, true, false, false, false, false, false, false, false] 11 (fun x => [(2, pt g2), (25, .agg #[.slice A1 i1.supply.length c1, .slice A2 i1.arcs.length c2]), (26, .agg #[.slice A1 i1.supply.length c1, .slice A2 i1.arcs.length c2]), (27, pt g1), (30, iv n2), (33, .agg #[iv 0, .int .u64 (0)])]) (fun x => [.blk g2 40 [sn, sn, iv 0, sn, sn, iv 0, .int .u64 (0), .bool (false)], .blk g1 25 [.slice A1 i1.supply.length c1, .slice A2 i1.arcs.length c2], .fz (PH.of w)]) rfl ?_ ?_
     ·rintro _ _
      refine WP.any2 3 13 rfl (by kernel_rfl) rfl rfl ?_ ?_
      ·refine WP.lx tysOk rfl ⟨⟩ (CellAt.blk (.tail .head) rfl) ?_
       refine WP.useF mm24 () True.intro rfl (by kernel_rfl) ?_ ?_
       ·repeat first|exact ⟨⟩|refine ⟨rfl,?_⟩
       exact Pick.all
      refine WP.al tysOk rfl rfl rfl rfl rfl rfl ?_
      intro g_o3_13_1
      refine WP.useF mm26 g_o3_13_1 True.intro rfl (by kernel_rfl) ?_ ?_
      ·repeat first|exact ⟨⟩|refine ⟨rfl,?_⟩
      exact Pick.all
     intro mm39
     refine WP.cutF (α := Nat) (fun x => True) #[true, true, true, false, false, true, false, false, false, false, false, false, false, true, false, false] 11 (fun x => [(2, pt g2), (6, pt x), (25, .agg #[.slice A1 i1.supply.length c1, .slice A2 i1.arcs.length c2]), (26, .agg #[.slice A1 i1.supply.length c1, .slice A2 i1.arcs.length c2]), (27, pt g1), (30, iv n2)]) (fun x => [.blk x 40 [sn, sn, iv 0, sn, sn, iv 0, .int .u64 (0), .bool (false)], .blk g2 40 [sn, sn, iv 0, sn, sn, iv 0, .int .u64 (0), .bool (false)], .blk g1 25 [.slice A1 i1.supply.length c1, .slice A2 i1.arcs.length c2], .fz (PH.of w)]) rfl ?_ ?_
     ·rintro g_o3_13_1 _
      refine WP.any2 3 8 rfl (by kernel_rfl) rfl rfl ?_ ?_
      ·refine WP.lx tysOk rfl ⟨⟩ (CellAt.blk (.tail (.tail .head)) rfl) ?_
       refine WP.useF mm25 g_o3_13_1 True.intro rfl (by kernel_rfl) ?_ ?_
       ·repeat first|exact ⟨⟩|refine ⟨rfl,?_⟩
       exact Pick.all
      refine WP.bld (cs := [iv 0, .int .u64 (0)]) tysOk rfl ⟨⟩ rfl rfl rfl rfl rfl rfl rfl ?_
      refine WP.useF mm26 g_o3_13_1 True.intro rfl (by kernel_rfl) ?_ ?_
      ·repeat first|exact ⟨⟩|refine ⟨rfl,?_⟩
      exact Pick.all
     intro mm40
     refine WP.cutF (α := Unit) (fun x => True) #[true, false, true, true, true, true, false, false, false, false, false, false, false, false, false, false] 11 (fun x => [(1, pt g1), (2, pt g2), (25, .agg #[.slice A1 i1.supply.length c1, .slice A2 i1.arcs.length c2]), (29, iv (i1.supply.length : Int)), (30, iv n2)]) (fun x => [.blk g2 40 [sn, sn, iv 0, sn, sn, iv 0, .int .u64 (0), .bool (false)], .blk g1 25 [.slice A1 i1.supply.length c1, .slice A2 i1.arcs.length c2], .fz (PH.of w)]) rfl ?_ ?_
     ·rintro _ _
      refine WP.any4 1 6 8 13 rfl (by kernel_rfl) rfl rfl rfl rfl ?_ ?_ ?_ ?_
      ·refine WP.mx_ tysOk rfl ⟨⟩ (SegAt.blk' (.tail .head) rfl) ?_
       refine WP.useF mm23 () True.intro rfl (by kernel_rfl) ?_ ?_
       ·repeat first|exact ⟨⟩|refine ⟨rfl,?_⟩
       exact Pick.all
      ·refine WP.callS (ref17_one_S r_o3_6_1) rfl rfl rfl rfl rfl rfl rfl (by kernel_rfl) (fun w1 hw1 => (ref17_one_w hg_o3_6_1  :)) ?_
       rintro _ _ ⟨A_o3_6_1, n_o3_6_1, c_o3_6_1, rfl, hf_o3_6_1, rfl⟩
       refine WP.useF mm27 (A_o3_6_1, n_o3_6_1, c_o3_6_1) hf_o3_6_1 rfl (by kernel_rfl) ?_ ?_
       ·repeat first|exact ⟨⟩|refine ⟨rfl,?_⟩
       exact Pick.all
      ·refine WP.bld (cs := [iv 0, .int .u64 (0)]) tysOk rfl ⟨⟩ rfl rfl rfl rfl rfl rfl rfl ?_
       refine WP.useF mm28 () True.intro rfl (by kernel_rfl) ?_ ?_
       ·repeat first|exact ⟨⟩|refine ⟨rfl,?_⟩
       exact Pick.all
      refine WP.al tysOk rfl rfl rfl rfl rfl rfl ?_
      intro g_o3_13_1
      refine WP.useF mm29 g_o3_13_1 True.intro rfl (by kernel_rfl) ?_ ?_
      ·repeat first|exact ⟨⟩|refine ⟨rfl,?_⟩
      exact Pick.all
     intro mm41
     refine WP.cutF (α := Unit) (fun x => True) #[true, false, true, true, false, true, false, false, true, false, false, false, false, false, false, false] 11 (fun x => [(1, pt g1), (2, pt g2), (25, .agg #[.slice A1 i1.supply.length c1, .slice A2 i1.arcs.length c2]), (28, .slice A1 i1.supply.length c1), (30, iv n2), (33, .agg #[iv 0, .int .u64 (0)])]) (fun x => [.blk g2 40 [sn, sn, iv 0, sn, sn, iv 0, .int .u64 (0), .bool (false)], .blk g1 25 [.slice A1 i1.supply.length c1, .slice A2 i1.arcs.length c2], .fz (PH.of w)]) rfl ?_ ?_
     ·rintro _ _
      refine WP.any3 1 4 13 rfl (by kernel_rfl) rfl rfl rfl ?_ ?_ ?_
      ·refine WP.mx_ tysOk rfl ⟨⟩ (SegAt.blk' (.tail .head) rfl) ?_
       refine WP.useF mm24 () True.intro rfl (by kernel_rfl) ?_ ?_
       ·repeat first|exact ⟨⟩|refine ⟨rfl,?_⟩
       exact Pick.all
      ·refine WP.sx tysOk rfl ⟨⟨⟩, ⟨⟩⟩ ?_
       refine WP.useF mm28 () True.intro rfl (by kernel_rfl) ?_ ?_
       ·repeat first|exact ⟨⟩|refine ⟨rfl,?_⟩
       exact Pick.all
      refine WP.al tysOk rfl rfl rfl rfl rfl rfl ?_
      intro g_o3_13_1
      refine WP.useF mm30 g_o3_13_1 True.intro rfl (by kernel_rfl) ?_ ?_
      ·repeat first|exact ⟨⟩|refine ⟨rfl,?_⟩
      exact Pick.all
     intro mm42
     refine WP.cutF (α := Nat) (fun x => True) #[true, false, true, true, false, true, false, false, false, false, false, false, false, true, false, false] 11 (fun x => [(1, pt g1), (2, pt g2), (6, pt x), (25, .agg #[.slice A1 i1.supply.length c1, .slice A2 i1.arcs.length c2]), (28, .slice A1 i1.supply.length c1), (30, iv n2)]) (fun x => [.blk x 40 [sn, sn, iv 0, sn, sn, iv 0, .int .u64 (0), .bool (false)], .blk g2 40 [sn, sn, iv 0, sn, sn, iv 0, .int .u64 (0), .bool (false)], .blk g1 25 [.slice A1 i1.supply.length c1, .slice A2 i1.arcs.length c2], .fz (PH.of w)]) rfl ?_ ?_
     ·rintro g_o3_13_1 _
      refine WP.any3 1 4 8 rfl (by kernel_rfl) rfl rfl rfl ?_ ?_ ?_
      ·refine WP.mx_ tysOk rfl ⟨⟩ (SegAt.blk' (.tail (.tail .head)) rfl) ?_
       refine WP.useF mm25 g_o3_13_1 True.intro rfl (by kernel_rfl) ?_ ?_
       ·repeat first|exact ⟨⟩|refine ⟨rfl,?_⟩
       exact Pick.all
      ·refine WP.sx tysOk rfl ⟨⟨⟩, ⟨⟩⟩ ?_
       refine WP.useF mm29 g_o3_13_1 True.intro rfl (by kernel_rfl) ?_ ?_
       ·repeat first|exact ⟨⟩|refine ⟨rfl,?_⟩
       exact Pick.all
      refine WP.bld (cs := [iv 0, .int .u64 (0)]) tysOk rfl ⟨⟩ rfl rfl rfl rfl rfl rfl rfl ?_
      refine WP.useF mm30 g_o3_13_1 True.intro rfl (by kernel_rfl) ?_ ?_
      ·repeat first|exact ⟨⟩|refine ⟨rfl,?_⟩
      exact Pick.all
     intro mm43
     refine WP.cutF (α := Nat) (fun x => True) #[true, false, true, false, false, true, false, false, true, false, false, false, false, true, false, false] 11 (fun x => [(1, pt g1), (2, pt g2), (6, pt x), (25, .agg #[.slice A1 i1.supply.length c1, .slice A2 i1.arcs.length c2]), (27, pt g1), (30, iv n2), (33, .agg #[iv 0, .int .u64 (0)])]) (fun x => [.blk x 40 [sn, sn, iv 0, sn, sn, iv 0, .int .u64 (0), .bool (false)], .blk g2 40 [sn, sn, iv 0, sn, sn, iv 0, .int .u64 (0), .bool (false)], .blk g1 25 [.slice A1 i1.supply.length c1, .slice A2 i1.arcs.length c2], .fz (PH.of w)]) rfl ?_ ?_
     ·rintro g_o3_13_1 _
      refine WP.any2 1 3 rfl (by kernel_rfl) rfl rfl ?_ ?_
      ·refine WP.mx_ tysOk rfl ⟨⟩ (SegAt.blk' (.tail (.tail .head)) rfl) ?_
       refine WP.useF mm26 g_o3_13_1 True.intro rfl (by kernel_rfl) ?_ ?_
       ·repeat first|exact ⟨⟩|refine ⟨rfl,?_⟩
       exact Pick.all
      refine WP.lx tysOk rfl ⟨⟩ (CellAt.blk (.tail (.tail .head)) rfl) ?_
      refine WP.useF mm30 g_o3_13_1 True.intro rfl (by kernel_rfl) ?_ ?_
      ·repeat first|exact ⟨⟩|refine ⟨rfl,?_⟩
      exact Pick.all
     intro mm44
     refine WP.cutF (α := Unit) (fun x => True) #[false, true, true, true, true, true, false, false, false, false, false, false, false, false, false, false] 11 (fun x => [(1, pt g1), (2, pt g2), (26, .agg #[.slice A1 i1.supply.length c1, .slice A2 i1.arcs.length c2]), (29, iv (i1.supply.length : Int)), (30, iv n2)]) (fun x => [.blk g2 40 [sn, sn, iv 0, sn, sn, iv 0, .int .u64 (0), .bool (false)], .blk g1 25 [.slice A1 i1.supply.length c1, .slice A2 i1.arcs.length c2], .fz (PH.of w)]) rfl ?_ ?_
     ·rintro _ _
      refine WP.any4 0 6 8 13 rfl (by kernel_rfl) rfl rfl rfl rfl ?_ ?_ ?_ ?_
      ·refine WP.mx_ tysOk rfl ⟨⟩ (SegAt.blk' (.tail .head) rfl) ?_
       refine WP.useF mm23 () True.intro rfl (by kernel_rfl) ?_ ?_
       ·repeat first|exact ⟨⟩|refine ⟨rfl,?_⟩
       exact Pick.all
      ·refine WP.callS (ref17_one_S r_o3_6_1) rfl rfl rfl rfl rfl rfl rfl (by kernel_rfl) (fun w1 hw1 => (ref17_one_w hg_o3_6_1  :)) ?_
       rintro _ _ ⟨A_o3_6_1, n_o3_6_1, c_o3_6_1, rfl, hf_o3_6_1, rfl⟩
       refine WP.useF mm31 (A_o3_6_1, n_o3_6_1, c_o3_6_1) hf_o3_6_1 rfl (by kernel_rfl) ?_ ?_
       ·repeat first|exact ⟨⟩|refine ⟨rfl,?_⟩
       exact Pick.all
      ·refine WP.bld (cs := [iv 0, .int .u64 (0)]) tysOk rfl ⟨⟩ rfl rfl rfl rfl rfl rfl rfl ?_
       refine WP.useF mm32 () True.intro rfl (by kernel_rfl) ?_ ?_
       ·repeat first|exact ⟨⟩|refine ⟨rfl,?_⟩
       exact Pick.all
      refine WP.al tysOk rfl rfl rfl rfl rfl rfl ?_
      intro g_o3_13_1
      refine WP.useF mm33 g_o3_13_1 True.intro rfl (by kernel_rfl) ?_ ?_
      ·repeat first|exact ⟨⟩|refine ⟨rfl,?_⟩
      exact Pick.all
     intro mm45
     refine WP.cutF (α := Unit) (fun x => True) #[false, true, true, true, false, true, false, false, true, false, false, false, false, false, false, false] 11 (fun x => [(1, pt g1), (2, pt g2), (26, .agg #[.slice A1 i1.supply.length c1, .slice A2 i1.arcs.length c2]), (28, .slice A1 i1.supply.length c1), (30, iv n2), (33, .agg #[iv 0, .int .u64 (0)])]) (fun x => [.blk g2 40 [sn, sn, iv 0, sn, sn, iv 0, .int .u64 (0), .bool (false)], .blk g1 25 [.slice A1 i1.supply.length c1, .slice A2 i1.arcs.length c2], .fz (PH.of w)]) rfl ?_ ?_
     ·rintro _ _
      refine WP.any3 0 4 13 rfl (by kernel_rfl) rfl rfl rfl ?_ ?_ ?_
      ·refine WP.mx_ tysOk rfl ⟨⟩ (SegAt.blk' (.tail .head) rfl) ?_
       refine WP.useF mm24 () True.intro rfl (by kernel_rfl) ?_ ?_
       ·repeat first|exact ⟨⟩|refine ⟨rfl,?_⟩
       exact Pick.all
      ·refine WP.sx tysOk rfl ⟨⟨⟩, ⟨⟩⟩ ?_
       refine WP.useF mm32 () True.intro rfl (by kernel_rfl) ?_ ?_
       ·repeat first|exact ⟨⟩|refine ⟨rfl,?_⟩
       exact Pick.all
      refine WP.al tysOk rfl rfl rfl rfl rfl rfl ?_
      intro g_o3_13_1
      refine WP.useF mm34 g_o3_13_1 True.intro rfl (by kernel_rfl) ?_ ?_
      ·repeat first|exact ⟨⟩|refine ⟨rfl,?_⟩
      exact Pick.all
     intro mm46
     refine WP.cutF (α := Nat) (fun x => True) #[false, true, true, true, false, true, false, false, false, false, false, false, false, true, false, false] 11 (fun x => [(1, pt g1), (2, pt g2), (6, pt x), (26, .agg #[.slice A1 i1.supply.length c1, .slice A2 i1.arcs.length c2]), (28, .slice A1 i1.supply.length c1), (30, iv n2)]) (fun x => [.blk x 40 [sn, sn, iv 0, sn, sn, iv 0, .int .u64 (0), .bool (false)], .blk g2 40 [sn, sn, iv 0, sn, sn, iv 0, .int .u64 (0), .bool (false)], .blk g1 25 [.slice A1 i1.supply.length c1, .slice A2 i1.arcs.length c2], .fz (PH.of w)]) rfl ?_ ?_
     ·rintro g_o3_13_1 _
      refine WP.any3 0 4 8 rfl (by kernel_rfl) rfl rfl rfl ?_ ?_ ?_
      ·refine WP.mx_ tysOk rfl ⟨⟩ (SegAt.blk' (.tail (.tail .head)) rfl) ?_
       refine WP.useF mm25 g_o3_13_1 True.intro rfl (by kernel_rfl) ?_ ?_
       ·repeat first|exact ⟨⟩|refine ⟨rfl,?_⟩
       exact Pick.all
      ·refine WP.sx tysOk rfl ⟨⟨⟩, ⟨⟩⟩ ?_
       refine WP.useF mm33 g_o3_13_1 True.intro rfl (by kernel_rfl) ?_ ?_
       ·repeat first|exact ⟨⟩|refine ⟨rfl,?_⟩
       exact Pick.all
      refine WP.bld (cs := [iv 0, .int .u64 (0)]) tysOk rfl ⟨⟩ rfl rfl rfl rfl rfl rfl rfl ?_
      refine WP.useF mm34 g_o3_13_1 True.intro rfl (by kernel_rfl) ?_ ?_
      ·repeat first|exact ⟨⟩|refine ⟨rfl,?_⟩
      exact Pick.all
     intro mm47
     refine WP.cutF (α := Nat) (fun x => True) #[false, true, true, false, false, true, false, false, true, false, false, false, false, true, false, false] 11 (fun x => [(1, pt g1), (2, pt g2), (6, pt x), (26, .agg #[.slice A1 i1.supply.length c1, .slice A2 i1.arcs.length c2]), (27, pt g1), (30, iv n2), (33, .agg #[iv 0, .int .u64 (0)])]) (fun x => [.blk x 40 [sn, sn, iv 0, sn, sn, iv 0, .int .u64 (0), .bool (false)], .blk g2 40 [sn, sn, iv 0, sn, sn, iv 0, .int .u64 (0), .bool (false)], .blk g1 25 [.slice A1 i1.supply.length c1, .slice A2 i1.arcs.length c2], .fz (PH.of w)]) rfl ?_ ?_
     ·rintro g_o3_13_1 _
      refine WP.any2 0 3 rfl (by kernel_rfl) rfl rfl ?_ ?_
      ·refine WP.mx_ tysOk rfl ⟨⟩ (SegAt.blk' (.tail (.tail .head)) rfl) ?_
       refine WP.useF mm26 g_o3_13_1 True.intro rfl (by kernel_rfl) ?_ ?_
       ·repeat first|exact ⟨⟩|refine ⟨rfl,?_⟩
       exact Pick.all
      refine WP.lx tysOk rfl ⟨⟩ (CellAt.blk (.tail (.tail .head)) rfl) ?_
      refine WP.useF mm34 g_o3_13_1 True.intro rfl (by kernel_rfl) ?_ ?_
      ·repeat first|exact ⟨⟩|refine ⟨rfl,?_⟩
      exact Pick.all
     intro mm48
     refine WP.cutF (α := Unit) (fun x => True) #[false, false, true, true, true, true, false, false, true, false, false, false, false, false, false, false] 11 (fun x => [(1, pt g1), (2, pt g2), (29, iv (i1.supply.length : Int)), (30, iv n2), (33, .agg #[iv 0, .int .u64 (0)])]) (fun x => [.blk g2 40 [sn, sn, iv 0, sn, sn, iv 0, .int .u64 (0), .bool (false)], .blk g1 25 [.slice A1 i1.supply.length c1, .slice A2 i1.arcs.length c2], .fz (PH.of w)]) rfl ?_ ?_
     ·rintro _ _
      refine WP.any4 0 1 6 13 rfl (by kernel_rfl) rfl rfl rfl rfl ?_ ?_ ?_ ?_
      ·refine WP.mx_ tysOk rfl ⟨⟩ (SegAt.blk' (.tail .head) rfl) ?_
       refine WP.useF mm28 () True.intro rfl (by kernel_rfl) ?_ ?_
       ·repeat first|exact ⟨⟩|refine ⟨rfl,?_⟩
       exact Pick.all
      ·refine WP.mx_ tysOk rfl ⟨⟩ (SegAt.blk' (.tail .head) rfl) ?_
       refine WP.useF mm32 () True.intro rfl (by kernel_rfl) ?_ ?_
       ·repeat first|exact ⟨⟩|refine ⟨rfl,?_⟩
       exact Pick.all
      ·refine WP.callS (ref17_one_S r_o3_6_1) rfl rfl rfl rfl rfl rfl rfl (by kernel_rfl) (fun w1 hw1 => (ref17_one_w hg_o3_6_1  :)) ?_
       rintro _ _ ⟨A_o3_6_1, n_o3_6_1, c_o3_6_1, rfl, hf_o3_6_1, rfl⟩
       refine WP.useF mm35 (A_o3_6_1, n_o3_6_1, c_o3_6_1) hf_o3_6_1 rfl (by kernel_rfl) ?_ ?_
       ·repeat first|exact ⟨⟩|refine ⟨rfl,?_⟩
       exact Pick.all
      refine WP.al tysOk rfl rfl rfl rfl rfl rfl ?_
      intro g_o3_13_1
      refine WP.useF mm37 g_o3_13_1 True.intro rfl (by kernel_rfl) ?_ ?_
      ·repeat first|exact ⟨⟩|refine ⟨rfl,?_⟩
      exact Pick.all
     intro mm49
     refine WP.cutF (α := Nat) (fun x => True) #[false, false, true, true, true, true, false, false, false, false, false, false, false, true, false, false] 11 (fun x => [(1, pt g1), (2, pt g2), (6, pt x), (29, iv (i1.supply.length : Int)), (30, iv n2)]) (fun x => [.blk x 40 [sn, sn, iv 0, sn, sn, iv 0, .int .u64 (0), .bool (false)], .blk g2 40 [sn, sn, iv 0, sn, sn, iv 0, .int .u64 (0), .bool (false)], .blk g1 25 [.slice A1 i1.supply.length c1, .slice A2 i1.arcs.length c2], .fz (PH.of w)]) rfl ?_ ?_
     ·rintro g_o3_13_1 _
      refine WP.any4 0 1 6 8 rfl (by kernel_rfl) rfl rfl rfl rfl ?_ ?_ ?_ ?_
      ·refine WP.mx_ tysOk rfl ⟨⟩ (SegAt.blk' (.tail (.tail .head)) rfl) ?_
       refine WP.useF mm29 g_o3_13_1 True.intro rfl (by kernel_rfl) ?_ ?_
       ·repeat first|exact ⟨⟩|refine ⟨rfl,?_⟩
       exact Pick.all
      ·refine WP.mx_ tysOk rfl ⟨⟩ (SegAt.blk' (.tail (.tail .head)) rfl) ?_
       refine WP.useF mm33 g_o3_13_1 True.intro rfl (by kernel_rfl) ?_ ?_
       ·repeat first|exact ⟨⟩|refine ⟨rfl,?_⟩
       exact Pick.all
      ·refine WP.callS (ref17_one_S r_o3_6_1) rfl rfl rfl rfl rfl rfl rfl (by kernel_rfl) (fun w1 hw1 => (ref17_one_w hg_o3_6_1  :)) ?_
       rintro _ _ ⟨A_o3_6_1, n_o3_6_1, c_o3_6_1, rfl, hf_o3_6_1, rfl⟩
       refine WP.useF mm36 (A_o3_6_1, n_o3_6_1, c_o3_6_1, g_o3_13_1) hf_o3_6_1 rfl (by kernel_rfl) ?_ ?_
       ·repeat first|exact ⟨⟩|refine ⟨rfl,?_⟩
       exact (.cons (.tail .head) (.cons .head (.cons .head (.cons .head (.cons .head .nil)))))
      refine WP.bld (cs := [iv 0, .int .u64 (0)]) tysOk rfl ⟨⟩ rfl rfl rfl rfl rfl rfl rfl ?_
      refine WP.useF mm37 g_o3_13_1 True.intro rfl (by kernel_rfl) ?_ ?_
      ·repeat first|exact ⟨⟩|refine ⟨rfl,?_⟩
      exact Pick.all
     intro mm50
     refine WP.cutF (α := Nat) (fun x => True) #[false, false, true, true, false, true, false, false, true, false, false, false, false, true, false, false] 11 (fun x => [(1, pt g1), (2, pt g2), (6, pt x), (28, .slice A1 i1.supply.length c1), (30, iv n2), (33, .agg #[iv 0, .int .u64 (0)])]) (fun x => [.blk x 40 [sn, sn, iv 0, sn, sn, iv 0, .int .u64 (0), .bool (false)], .blk g2 40 [sn, sn, iv 0, sn, sn, iv 0, .int .u64 (0), .bool (false)], .blk g1 25 [.slice A1 i1.supply.length c1, .slice A2 i1.arcs.length c2], .fz (PH.of w)]) rfl ?_ ?_
     ·rintro g_o3_13_1 _
      refine WP.any3 0 1 4 rfl (by kernel_rfl) rfl rfl rfl ?_ ?_ ?_
      ·refine WP.mx_ tysOk rfl ⟨⟩ (SegAt.blk' (.tail (.tail .head)) rfl) ?_
       refine WP.useF mm30 g_o3_13_1 True.intro rfl (by kernel_rfl) ?_ ?_
       ·repeat first|exact ⟨⟩|refine ⟨rfl,?_⟩
       exact Pick.all
      ·refine WP.mx_ tysOk rfl ⟨⟩ (SegAt.blk' (.tail (.tail .head)) rfl) ?_
       refine WP.useF mm34 g_o3_13_1 True.intro rfl (by kernel_rfl) ?_ ?_
       ·repeat first|exact ⟨⟩|refine ⟨rfl,?_⟩
       exact Pick.all
      refine WP.sx tysOk rfl ⟨⟨⟩, ⟨⟩⟩ ?_
      refine WP.useF mm37 g_o3_13_1 True.intro rfl (by kernel_rfl) ?_ ?_
      ·repeat first|exact ⟨⟩|refine ⟨rfl,?_⟩
      exact Pick.all
     intro mm51
     refine WP.cutF (α := Unit) (fun x => True) #[true, true, true, false, false, true, false, false, false, false, false, false, false, false, false, false] 12 (fun x => [(2, pt g2), (25, .agg #[.slice A1 i1.supply.length c1, .slice A2 i1.arcs.length c2]), (26, .agg #[.slice A1 i1.supply.length c1, .slice A2 i1.arcs.length c2]), (27, pt g1), (30, iv n2)]) (fun x => [.blk g2 40 [sn, sn, iv 0, sn, sn, iv 0, .int .u64 (0), .bool (false)], .blk g1 25 [.slice A1 i1.supply.length c1, .slice A2 i1.arcs.length c2], .fz (PH.of w)]) rfl ?_ ?_
     ·rintro _ _
      refine WP.any3 3 8 13 rfl (by kernel_rfl) rfl rfl rfl ?_ ?_ ?_
      ·refine WP.lx tysOk rfl ⟨⟩ (CellAt.blk (.tail .head) rfl) ?_
       refine WP.useF mm38 () True.intro rfl (by kernel_rfl) ?_ ?_
       ·repeat first|exact ⟨⟩|refine ⟨rfl,?_⟩
       exact Pick.all
      ·refine WP.bld (cs := [iv 0, .int .u64 (0)]) tysOk rfl ⟨⟩ rfl rfl rfl rfl rfl rfl rfl ?_
       refine WP.useF mm39 () True.intro rfl (by kernel_rfl) ?_ ?_
       ·repeat first|exact ⟨⟩|refine ⟨rfl,?_⟩
       exact Pick.all
      refine WP.al tysOk rfl rfl rfl rfl rfl rfl ?_
      intro g_o3_13_1
      refine WP.useF mm40 g_o3_13_1 True.intro rfl (by kernel_rfl) ?_ ?_
      ·repeat first|exact ⟨⟩|refine ⟨rfl,?_⟩
      exact Pick.all
     intro mm52
     refine WP.cutF (α := Unit) (fun x => True) #[true, false, true, true, false, true, false, false, false, false, false, false, false, false, false, false] 12 (fun x => [(1, pt g1), (2, pt g2), (25, .agg #[.slice A1 i1.supply.length c1, .slice A2 i1.arcs.length c2]), (28, .slice A1 i1.supply.length c1), (30, iv n2)]) (fun x => [.blk g2 40 [sn, sn, iv 0, sn, sn, iv 0, .int .u64 (0), .bool (false)], .blk g1 25 [.slice A1 i1.supply.length c1, .slice A2 i1.arcs.length c2], .fz (PH.of w)]) rfl ?_ ?_
     ·rintro _ _
      refine WP.any4 1 4 8 13 rfl (by kernel_rfl) rfl rfl rfl rfl ?_ ?_ ?_ ?_
      ·refine WP.mx_ tysOk rfl ⟨⟩ (SegAt.blk' (.tail .head) rfl) ?_
       refine WP.useF mm38 () True.intro rfl (by kernel_rfl) ?_ ?_
       ·repeat first|exact ⟨⟩|refine ⟨rfl,?_⟩
       exact Pick.all
      ·refine WP.sx tysOk rfl ⟨⟨⟩, ⟨⟩⟩ ?_
       refine WP.useF mm41 () True.intro rfl (by kernel_rfl) ?_ ?_
       ·repeat first|exact ⟨⟩|refine ⟨rfl,?_⟩
       exact Pick.all
      ·refine WP.bld (cs := [iv 0, .int .u64 (0)]) tysOk rfl ⟨⟩ rfl rfl rfl rfl rfl rfl rfl ?_
       refine WP.useF mm42 () True.intro rfl (by kernel_rfl) ?_ ?_
       ·repeat first|exact ⟨⟩|refine ⟨rfl,?_⟩
       exact Pick.all
      refine WP.al tysOk rfl rfl rfl rfl rfl rfl ?_
      intro g_o3_13_1
      refine WP.useF mm43 g_o3_13_1 True.intro rfl (by kernel_rfl) ?_ ?_
      ·repeat first|exact ⟨⟩|refine ⟨rfl,?_⟩
      exact Pick.all
     intro mm53
     refine WP.cutF (α := Unit) (fun x => True) #[true, false, true, false, false, true, false, false, true, false, false, false, false, false, false, false] 12 (fun x => [(1, pt g1), (2, pt g2), (25, .agg #[.slice A1 i1.supply.length c1, .slice A2 i1.arcs.length c2]), (27, pt g1), (30, iv n2), (33, .agg #[iv 0, .int .u64 (0)])]) (fun x => [.blk g2 40 [sn, sn, iv 0, sn, sn, iv 0, .int .u64 (0), .bool (false)], .blk g1 25 [.slice A1 i1.supply.length c1, .slice A2 i1.arcs.length c2], .fz (PH.of w)]) rfl ?_ ?_
     ·rintro _ _
      refine WP.any3 1 3 13 rfl (by kernel_rfl) rfl rfl rfl ?_ ?_ ?_
      ·refine WP.mx_ tysOk rfl ⟨⟩ (SegAt.blk' (.tail .head) rfl) ?_
       refine WP.useF mm39 () True.intro rfl (by kernel_rfl) ?_ ?_
       ·repeat first|exact ⟨⟩|refine ⟨rfl,?_⟩
       exact Pick.all
      ·refine WP.lx tysOk rfl ⟨⟩ (CellAt.blk (.tail .head) rfl) ?_
       refine WP.useF mm42 () True.intro rfl (by kernel_rfl) ?_ ?_
       ·repeat first|exact ⟨⟩|refine ⟨rfl,?_⟩
       exact Pick.all
      refine WP.al tysOk rfl rfl rfl rfl rfl rfl ?_
      intro g_o3_13_1
      refine WP.useF mm44 g_o3_13_1 True.intro rfl (by kernel_rfl) ?_ ?_
      ·repeat first|exact ⟨⟩|refine ⟨rfl,?_⟩
      exact Pick.all
     intro mm54
     refine WP.cutF (α := Nat) (fun x => True) #[true, false, true, false, false, true, false, false, false, false, false, false, false, true, false, false] 12 (fun x => [(1, pt g1), (2, pt g2), (6, pt x), (25, .agg #[.slice A1 i1.supply.length c1, .slice A2 i1.arcs.length c2]), (27, pt g1), (30, iv n2)]) (fun x => [.blk x 40 [sn, sn, iv 0, sn, sn, iv 0, .int .u64 (0), .bool (false)], .blk g2 40 [sn, sn, iv 0, sn, sn, iv 0, .int .u64 (0), .bool (false)], .blk g1 25 [.slice A1 i1.supply.length c1, .slice A2 i1.arcs.length c2], .fz (PH.of w)]) rfl ?_ ?_
     ·rintro g_o3_13_1 _
      refine WP.any3 1 3 8 rfl (by kernel_rfl) rfl rfl rfl ?_ ?_ ?_
      ·refine WP.mx_ tysOk rfl ⟨⟩ (SegAt.blk' (.tail (.tail .head)) rfl) ?_
       refine WP.useF mm40 g_o3_13_1 True.intro rfl (by kernel_rfl) ?_ ?_
       ·repeat first|exact ⟨⟩|refine ⟨rfl,?_⟩
       exact Pick.all
      ·refine WP.lx tysOk rfl ⟨⟩ (CellAt.blk (.tail (.tail .head)) rfl) ?_
       refine WP.useF mm43 g_o3_13_1 True.intro rfl (by kernel_rfl) ?_ ?_
       ·repeat first|exact ⟨⟩|refine ⟨rfl,?_⟩
       exact Pick.all
      refine WP.bld (cs := [iv 0, .int .u64 (0)]) tysOk rfl ⟨⟩ rfl rfl rfl rfl rfl rfl rfl ?_
      refine WP.useF mm44 g_o3_13_1 True.intro rfl (by kernel_rfl) ?_ ?_
      ·repeat first|exact ⟨⟩|refine ⟨rfl,?_⟩
      exact Pick.all
     intro mm55
     refine WP.cutF (α := Unit) (fun x => True) #[false, true, true, true, false, true, false, false, false, false, false, false, false, false, false, false] 12 (fun x => [(1, pt g1), (2, pt g2), (26, .agg #[.slice A1 i1.supply.length c1, .slice A2 i1.arcs.length c2]), (28, .slice A1 i1.supply.length c1), (30, iv n2)]) (fun x => [.blk g2 40 [sn, sn, iv 0, sn, sn, iv 0, .int .u64 (0), .bool (false)], .blk g1 25 [.slice A1 i1.supply.length c1, .slice A2 i1.arcs.length c2], .fz (PH.of w)]) rfl ?_ ?_
     ·rintro _ _
      refine WP.any4 0 4 8 13 rfl (by kernel_rfl) rfl rfl rfl rfl ?_ ?_ ?_ ?_
      ·refine WP.mx_ tysOk rfl ⟨⟩ (SegAt.blk' (.tail .head) rfl) ?_
       refine WP.useF mm38 () True.intro rfl (by kernel_rfl) ?_ ?_
       ·repeat first|exact ⟨⟩|refine ⟨rfl,?_⟩
       exact Pick.all
      ·refine WP.sx tysOk rfl ⟨⟨⟩, ⟨⟩⟩ ?_
       refine WP.useF mm45 () True.intro rfl (by kernel_rfl) ?_ ?_
       ·repeat first|exact ⟨⟩|refine ⟨rfl,?_⟩
       exact Pick.all
      ·refine WP.bld (cs := [iv 0, .int .u64 (0)]) tysOk rfl ⟨⟩ rfl rfl rfl rfl rfl rfl rfl ?_
       refine WP.useF mm46 () True.intro rfl (by kernel_rfl) ?_ ?_
       ·repeat first|exact ⟨⟩|refine ⟨rfl,?_⟩
       exact Pick.all
      refine WP.al tysOk rfl rfl rfl rfl rfl rfl ?_
      intro g_o3_13_1
      refine WP.useF mm47 g_o3_13_1 True.intro rfl (by kernel_rfl) ?_ ?_
      ·repeat first|exact ⟨⟩|refine ⟨rfl,?_⟩
      exact Pick.all
     intro mm56
     refine WP.cutF (α := Unit) (fun x => True) #[false, true, true, false, false, true, false, false, true, false, false, false, false, false, false, false] 12 (fun x => [(1, pt g1), (2, pt g2), (26, .agg #[.slice A1 i1.supply.length c1, .slice A2 i1.arcs.length c2]), (27, pt g1), (30, iv n2), (33, .agg #[iv 0, .int .u64 (0)])]) (fun x => [.blk g2 40 [sn, sn, iv 0, sn, sn, iv 0, .int .u64 (0), .bool (false)], .blk g1 25 [.slice A1 i1.supply.length c1, .slice A2 i1.arcs.length c2], .fz (PH.of w)]) rfl ?_ ?_
     ·rintro _ _
      refine WP.any3 0 3 13 rfl (by kernel_rfl) rfl rfl rfl ?_ ?_ ?_
      ·refine WP.mx_ tysOk rfl ⟨⟩ (SegAt.blk' (.tail .head) rfl) ?_
       refine WP.useF mm39 () True.intro rfl (by kernel_rfl) ?_ ?_
       ·repeat first|exact ⟨⟩|refine ⟨rfl,?_⟩
       exact Pick.all
      ·refine WP.lx tysOk rfl ⟨⟩ (CellAt.blk (.tail .head) rfl) ?_
       refine WP.useF mm46 () True.intro rfl (by kernel_rfl) ?_ ?_
       ·repeat first|exact ⟨⟩|refine ⟨rfl,?_⟩
       exact Pick.all
      refine WP.al tysOk rfl rfl rfl rfl rfl rfl ?_
      intro g_o3_13_1
      refine WP.useF mm48 g_o3_13_1 True.intro rfl (by kernel_rfl) ?_ ?_
      ·repeat first|exact ⟨⟩|refine ⟨rfl,?_⟩
      exact Pick.all
     intro mm57
     refine WP.cutF (α := Nat) (fun x => True) #[false, true, true, false, false, true, false, false, false, false, false, false, false, true, false, false] 12 (fun x => [(1, pt g1), (2, pt g2), (6, pt x), (26, .agg #[.slice A1 i1.supply.length c1, .slice A2 i1.arcs.length c2]), (27, pt g1), (30, iv n2)]) (fun x => [.blk x 40 [sn, sn, iv 0, sn, sn, iv 0, .int .u64 (0), .bool (false)], .blk g2 40 [sn, sn, iv 0, sn, sn, iv 0, .int .u64 (0), .bool (false)], .blk g1 25 [.slice A1 i1.supply.length c1, .slice A2 i1.arcs.length c2], .fz (PH.of w)]) rfl ?_ ?_
     ·rintro g_o3_13_1 _
      refine WP.any3 0 3 8 rfl (by kernel_rfl) rfl rfl rfl ?_ ?_ ?_
      ·refine WP.mx_ tysOk rfl ⟨⟩ (SegAt.blk' (.tail (.tail .head)) rfl) ?_
       refine WP.useF mm40 g_o3_13_1 True.intro rfl (by kernel_rfl) ?_ ?_
       ·repeat first|exact ⟨⟩|refine ⟨rfl,?_⟩
       exact Pick.all
      ·refine WP.lx tysOk rfl ⟨⟩ (CellAt.blk (.tail (.tail .head)) rfl) ?_
       refine WP.useF mm47 g_o3_13_1 True.intro rfl (by kernel_rfl) ?_ ?_
       ·repeat first|exact ⟨⟩|refine ⟨rfl,?_⟩
       exact Pick.all
      refine WP.bld (cs := [iv 0, .int .u64 (0)]) tysOk rfl ⟨⟩ rfl rfl rfl rfl rfl rfl rfl ?_
      refine WP.useF mm48 g_o3_13_1 True.intro rfl (by kernel_rfl) ?_ ?_
      ·repeat first|exact ⟨⟩|refine ⟨rfl,?_⟩
      exact Pick.all
     intro mm58
     refine WP.cutF (α := Unit) (fun x => True) #[false, false, true, true, false, true, false, false, true, false, false, false, false, false, false, false] 12 (fun x => [(1, pt g1), (2, pt g2), (28, .slice A1 i1.supply.length c1), (30, iv n2), (33, .agg #[iv 0, .int .u64 (0)])]) (fun x => [.blk g2 40 [sn, sn, iv 0, sn, sn, iv 0, .int .u64 (0), .bool (false)], .blk g1 25 [.slice A1 i1.supply.length c1, .slice A2 i1.arcs.length c2], .fz (PH.of w)]) rfl ?_ ?_
     ·rintro _ _
      refine WP.any4 0 1 4 13 rfl (by kernel_rfl) rfl rfl rfl rfl ?_ ?_ ?_ ?_
      ·refine WP.mx_ tysOk rfl ⟨⟩ (SegAt.blk' (.tail .head) rfl) ?_
       refine WP.useF mm42 () True.intro rfl (by kernel_rfl) ?_ ?_
       ·repeat first|exact ⟨⟩|refine ⟨rfl,?_⟩
       exact Pick.all
      ·refine WP.mx_ tysOk rfl ⟨⟩ (SegAt.blk' (.tail .head) rfl) ?_
       refine WP.useF mm46 () True.intro rfl (by kernel_rfl) ?_ ?_
       ·repeat first|exact ⟨⟩|refine ⟨rfl,?_⟩
       exact Pick.all
      ·refine WP.sx tysOk rfl ⟨⟨⟩, ⟨⟩⟩ ?_
       refine WP.useF mm49 () True.intro rfl (by kernel_rfl) ?_ ?_
       ·repeat first|exact ⟨⟩|refine ⟨rfl,?_⟩
       exact Pick.all
      refine WP.al tysOk rfl rfl rfl rfl rfl rfl ?_
      intro g_o3_13_1
      refine WP.useF mm51 g_o3_13_1 True.intro rfl (by kernel_rfl) ?_ ?_
      ·repeat first|exact ⟨⟩|refine ⟨rfl,?_⟩
      exact Pick.all
     intro mm59
     refine WP.cutF (α := Nat) (fun x => True) #[false, false, true, true, false, true, false, false, false, false, false, false, false, true, false, false] 12 (fun x => [(1, pt g1), (2, pt g2), (6, pt x), (28, .slice A1 i1.supply.length c1), (30, iv n2)]) (fun x => [.blk x 40 [sn, sn, iv 0, sn, sn, iv 0, .int .u64 (0), .bool (false)], .blk g2 40 [sn, sn, iv 0, sn, sn, iv 0, .int .u64 (0), .bool (false)], .blk g1 25 [.slice A1 i1.supply.length c1, .slice A2 i1.arcs.length c2], .fz (PH.of w)]) rfl ?_ ?_
     ·rintro g_o3_13_1 _
      refine WP.any4 0 1 4 8 rfl (by kernel_rfl) rfl rfl rfl rfl ?_ ?_ ?_ ?_
      ·refine WP.mx_ tysOk rfl ⟨⟩ (SegAt.blk' (.tail (.tail .head)) rfl) ?_
       refine WP.useF mm43 g_o3_13_1 True.intro rfl (by kernel_rfl) ?_ ?_
       ·repeat first|exact ⟨⟩|refine ⟨rfl,?_⟩
       exact Pick.all
      ·refine WP.mx_ tysOk rfl ⟨⟩ (SegAt.blk' (.tail (.tail .head)) rfl) ?_
       refine WP.useF mm47 g_o3_13_1 True.intro rfl (by kernel_rfl) ?_ ?_
       ·repeat first|exact ⟨⟩|refine ⟨rfl,?_⟩
       exact Pick.all
      ·refine WP.sx tysOk rfl ⟨⟨⟩, ⟨⟩⟩ ?_
       refine WP.useF mm50 g_o3_13_1 True.intro rfl (by kernel_rfl) ?_ ?_
       ·repeat first|exact ⟨⟩|refine ⟨rfl,?_⟩
       exact Pick.all
      refine WP.bld (cs := [iv 0, .int .u64 (0)]) tysOk rfl ⟨⟩ rfl rfl rfl rfl rfl rfl rfl ?_
      refine WP.useF mm51 g_o3_13_1 True.intro rfl (by kernel_rfl) ?_ ?_
      ·repeat first|exact ⟨⟩|refine ⟨rfl,?_⟩
      exact Pick.all
     intro mm60
     refine WP.cutF (α := Nat) (fun x => True) #[false, false, true, false, false, true, false, false, true, false, false, false, false, true, false, false] 12 (fun x => [(1, pt g1), (2, pt g2), (6, pt x), (27, pt g1), (30, iv n2), (33, .agg #[iv 0, .int .u64 (0)])]) (fun x => [.blk x 40 [sn, sn, iv 0, sn, sn, iv 0, .int .u64 (0), .bool (false)], .blk g2 40 [sn, sn, iv 0, sn, sn, iv 0, .int .u64 (0), .bool (false)], .blk g1 25 [.slice A1 i1.supply.length c1, .slice A2 i1.arcs.length c2], .fz (PH.of w)]) rfl ?_ ?_
     ·rintro g_o3_13_1 _
      refine WP.any3 0 1 3 rfl (by kernel_rfl) rfl rfl rfl ?_ ?_ ?_
      ·refine WP.mx_ tysOk rfl ⟨⟩ (SegAt.blk' (.tail (.tail .head)) rfl) ?_
       refine WP.useF mm44 g_o3_13_1 True.intro rfl (by kernel_rfl) ?_ ?_
       ·repeat first|exact ⟨⟩|refine ⟨rfl,?_⟩
       exact Pick.all
      ·refine WP.mx_ tysOk rfl ⟨⟩ (SegAt.blk' (.tail (.tail .head)) rfl) ?_
       refine WP.useF mm48 g_o3_13_1 True.intro rfl (by kernel_rfl) ?_ ?_
       ·repeat first|exact ⟨⟩|refine ⟨rfl,?_⟩
       exact Pick.all
      refine WP.lx tysOk rfl ⟨⟩ (CellAt.blk (.tail (.tail .head)) rfl) ?_
      refine WP.useF mm51 g_o3_13_1 True.intro rfl (by kernel_rfl) ?_ ?_
      ·repeat first|exact ⟨⟩|refine ⟨rfl,?_⟩
      exact Pick.all
     intro mm61
     refine WP.anyP 2 tysOk putInv_body rfl rfl rfl (by kernel_rfl) (by kernel_rfl) rfl rfl rfl rfl rfl True.intro ?_
     refine WP.anyP 5 tysOk putInv_body rfl rfl rfl (by kernel_rfl) (by kernel_rfl) rfl rfl rfl rfl rfl True.intro ?_
     refine WP.any5 0 1 3 8 13 rfl (by kernel_rfl) rfl rfl rfl rfl rfl ?_ ?_ ?_ ?_ ?_
     ·refine WP.mx_ tysOk rfl ⟨⟩ (SegAt.blk' (.tail .head) rfl) ?_
      refine WP.any4 1 3 8 13 rfl (by kernel_rfl) rfl rfl rfl rfl ?_ ?_ ?_ ?_
      ·refine WP.mx_ tysOk rfl ⟨⟩ (SegAt.blk' (.tail .head) rfl) ?_
       refine WP.useF mm52 () True.intro rfl (by kernel_rfl) ?_ ?_
       ·repeat first|exact ⟨⟩|refine ⟨rfl,?_⟩
       exact Pick.all
      ·refine WP.lx tysOk rfl ⟨⟩ (CellAt.blk (.tail .head) rfl) ?_
       refine WP.useF mm53 () True.intro rfl (by kernel_rfl) ?_ ?_
       ·repeat first|exact ⟨⟩|refine ⟨rfl,?_⟩
       exact Pick.all
      ·refine WP.bld (cs := [iv 0, .int .u64 (0)]) tysOk rfl ⟨⟩ rfl rfl rfl rfl rfl rfl rfl ?_
       refine WP.useF mm54 () True.intro rfl (by kernel_rfl) ?_ ?_
       ·repeat first|exact ⟨⟩|refine ⟨rfl,?_⟩
       exact Pick.all
      refine WP.al tysOk rfl rfl rfl rfl rfl rfl ?_
      intro g_o3_13_1
      refine WP.useF mm55 g_o3_13_1 True.intro rfl (by kernel_rfl) ?_ ?_
      ·repeat first|exact ⟨⟩|refine ⟨rfl,?_⟩
      exact Pick.all
     ·refine WP.mx_ tysOk rfl ⟨⟩ (SegAt.blk' (.tail .head) rfl) ?_
      refine WP.any4 0 3 8 13 rfl (by kernel_rfl) rfl rfl rfl rfl ?_ ?_ ?_ ?_
      ·refine WP.mx_ tysOk rfl ⟨⟩ (SegAt.blk' (.tail .head) rfl) ?_
       refine WP.useF mm52 () True.intro rfl (by kernel_rfl) ?_ ?_
       ·repeat first|exact ⟨⟩|refine ⟨rfl,?_⟩
       exact Pick.all
      ·refine WP.lx tysOk rfl ⟨⟩ (CellAt.blk (.tail .head) rfl) ?_
       refine WP.useF mm56 () True.intro rfl (by kernel_rfl) ?_ ?_
       ·repeat first|exact ⟨⟩|refine ⟨rfl,?_⟩
       exact Pick.all
      ·refine WP.bld (cs := [iv 0, .int .u64 (0)]) tysOk rfl ⟨⟩ rfl rfl rfl rfl rfl rfl rfl ?_
       refine WP.useF mm57 () True.intro rfl (by kernel_rfl) ?_ ?_
       ·repeat first|exact ⟨⟩|refine ⟨rfl,?_⟩
       exact Pick.all
      refine WP.al tysOk rfl rfl rfl rfl rfl rfl ?_
      intro g_o3_13_1
      refine WP.useF mm58 g_o3_13_1 True.intro rfl (by kernel_rfl) ?_ ?_
      ·repeat first|exact ⟨⟩|refine ⟨rfl,?_⟩
      exact Pick.all
     ·refine WP.lx tysOk rfl ⟨⟩ (CellAt.blk (.tail .head) rfl) ?_
      refine WP.any5 0 1 4 8 13 rfl (by kernel_rfl) rfl rfl rfl rfl rfl ?_ ?_ ?_ ?_ ?_
      ·refine WP.mx_ tysOk rfl ⟨⟩ (SegAt.blk' (.tail .head) rfl) ?_
       refine WP.useF mm53 () True.intro rfl (by kernel_rfl) ?_ ?_
       ·repeat first|exact ⟨⟩|refine ⟨rfl,?_⟩
       exact Pick.all
      ·refine WP.mx_ tysOk rfl ⟨⟩ (SegAt.blk' (.tail .head) rfl) ?_
       refine WP.useF mm56 () True.intro rfl (by kernel_rfl) ?_ ?_
       ·repeat first|exact ⟨⟩|refine ⟨rfl,?_⟩
       exact Pick.all
      ·refine WP.sx tysOk rfl ⟨⟨⟩, ⟨⟩⟩ ?_
       refine WP.any5 0 1 6 8 13 rfl (by kernel_rfl) rfl rfl rfl rfl rfl ?_ ?_ ?_ ?_ ?_
       ·refine WP.mx_ tysOk rfl ⟨⟩ (SegAt.blk' (.tail .head) rfl) ?_
        refine WP.useF mm41 () True.intro rfl (by kernel_rfl) ?_ ?_
        ·repeat first|exact ⟨⟩|refine ⟨rfl,?_⟩
        exact Pick.all
       ·refine WP.mx_ tysOk rfl ⟨⟩ (SegAt.blk' (.tail .head) rfl) ?_
        refine WP.useF mm45 () True.intro rfl (by kernel_rfl) ?_ ?_
        ·repeat first|exact ⟨⟩|refine ⟨rfl,?_⟩
        exact Pick.all
       ·refine WP.callS (ref17_one_S r_o3_6_1) rfl rfl rfl rfl rfl rfl rfl (by kernel_rfl) (fun w1 hw1 => (ref17_one_w hg_o3_6_1  :)) ?_
        rintro _ _ ⟨A_o3_6_1, n_o3_6_1, c_o3_6_1, rfl, hf_o3_6_1, rfl⟩
        refine WP.any4 0 1 8 13 rfl (by kernel_rfl) rfl rfl rfl rfl ?_ ?_ ?_ ?_
        ·refine WP.mx_ tysOk rfl ⟨⟩ (SegAt.blk' (.tail (.tail .head)) rfl) ?_
         refine WP.useF mm27 (A_o3_6_1, n_o3_6_1, c_o3_6_1) hf_o3_6_1 rfl (by kernel_rfl) ?_ ?_
         ·repeat first|exact ⟨⟩|refine ⟨rfl,?_⟩
         exact Pick.all
        ·refine WP.mx_ tysOk rfl ⟨⟩ (SegAt.blk' (.tail (.tail .head)) rfl) ?_
         refine WP.useF mm31 (A_o3_6_1, n_o3_6_1, c_o3_6_1) hf_o3_6_1 rfl (by kernel_rfl) ?_ ?_
         ·repeat first|exact ⟨⟩|refine ⟨rfl,?_⟩
         exact Pick.all
        ·refine WP.bld (cs := [iv 0, .int .u64 (0)]) tysOk rfl ⟨⟩ rfl rfl rfl rfl rfl rfl rfl ?_
         refine WP.useF mm35 (A_o3_6_1, n_o3_6_1, c_o3_6_1) hf_o3_6_1 rfl (by kernel_rfl) ?_ ?_
         ·repeat first|exact ⟨⟩|refine ⟨rfl,?_⟩
         exact Pick.all
        refine WP.al tysOk rfl rfl rfl rfl rfl rfl ?_
        intro g_o3_13_1
        refine WP.useF mm36 (A_o3_6_1, n_o3_6_1, c_o3_6_1, g_o3_13_1) hf_o3_6_1 rfl (by kernel_rfl) ?_ ?_
        ·repeat first|exact ⟨⟩|refine ⟨rfl,?_⟩
        exact Pick.all
       ·refine WP.bld (cs := [iv 0, .int .u64 (0)]) tysOk rfl ⟨⟩ rfl rfl rfl rfl rfl rfl rfl ?_
        refine WP.useF mm49 () True.intro rfl (by kernel_rfl) ?_ ?_
        ·repeat first|exact ⟨⟩|refine ⟨rfl,?_⟩
        exact Pick.all
       refine WP.al tysOk rfl rfl rfl rfl rfl rfl ?_
       intro g_o3_13_1
       refine WP.useF mm50 g_o3_13_1 True.intro rfl (by kernel_rfl) ?_ ?_
       ·repeat first|exact ⟨⟩|refine ⟨rfl,?_⟩
       exact Pick.all
      ·refine WP.bld (cs := [iv 0, .int .u64 (0)]) tysOk rfl ⟨⟩ rfl rfl rfl rfl rfl rfl rfl ?_
       refine WP.useF mm59 () True.intro rfl (by kernel_rfl) ?_ ?_
       ·repeat first|exact ⟨⟩|refine ⟨rfl,?_⟩
       exact Pick.all
      refine WP.al tysOk rfl rfl rfl rfl rfl rfl ?_
      intro g_o3_13_1
      refine WP.useF mm60 g_o3_13_1 True.intro rfl (by kernel_rfl) ?_ ?_
      ·repeat first|exact ⟨⟩|refine ⟨rfl,?_⟩
      exact Pick.all
     ·refine WP.bld (cs := [iv 0, .int .u64 (0)]) tysOk rfl ⟨⟩ rfl rfl rfl rfl rfl rfl rfl ?_
      refine WP.any4 0 1 3 13 rfl (by kernel_rfl) rfl rfl rfl rfl ?_ ?_ ?_ ?_
      ·refine WP.mx_ tysOk rfl ⟨⟩ (SegAt.blk' (.tail .head) rfl) ?_
       refine WP.useF mm54 () True.intro rfl (by kernel_rfl) ?_ ?_
       ·repeat first|exact ⟨⟩|refine ⟨rfl,?_⟩
       exact Pick.all
      ·refine WP.mx_ tysOk rfl ⟨⟩ (SegAt.blk' (.tail .head) rfl) ?_
       refine WP.useF mm57 () True.intro rfl (by kernel_rfl) ?_ ?_
       ·repeat first|exact ⟨⟩|refine ⟨rfl,?_⟩
       exact Pick.all
      ·refine WP.lx tysOk rfl ⟨⟩ (CellAt.blk (.tail .head) rfl) ?_
       refine WP.useF mm59 () True.intro rfl (by kernel_rfl) ?_ ?_
       ·repeat first|exact ⟨⟩|refine ⟨rfl,?_⟩
       exact Pick.all
      refine WP.al tysOk rfl rfl rfl rfl rfl rfl ?_
      intro g_o3_13_1
      refine WP.useF mm61 g_o3_13_1 True.intro rfl (by kernel_rfl) ?_ ?_
      ·repeat first|exact ⟨⟩|refine ⟨rfl,?_⟩
      exact Pick.all
     refine WP.al tysOk rfl rfl rfl rfl rfl rfl ?_
     intro g_o3_13_1
     refine WP.any4 0 1 3 8 rfl (by kernel_rfl) rfl rfl rfl rfl ?_ ?_ ?_ ?_
     ·refine WP.mx_ tysOk rfl ⟨⟩ (SegAt.blk' (.tail (.tail .head)) rfl) ?_
      refine WP.useF mm55 g_o3_13_1 True.intro rfl (by kernel_rfl) ?_ ?_
      ·repeat first|exact ⟨⟩|refine ⟨rfl,?_⟩
      exact Pick.all
     ·refine WP.mx_ tysOk rfl ⟨⟩ (SegAt.blk' (.tail (.tail .head)) rfl) ?_
      refine WP.useF mm58 g_o3_13_1 True.intro rfl (by kernel_rfl) ?_ ?_
      ·repeat first|exact ⟨⟩|refine ⟨rfl,?_⟩
      exact Pick.all
     ·refine WP.lx tysOk rfl ⟨⟩ (CellAt.blk (.tail (.tail .head)) rfl) ?_
      refine WP.useF mm60 g_o3_13_1 True.intro rfl (by kernel_rfl) ?_ ?_
      ·repeat first|exact ⟨⟩|refine ⟨rfl,?_⟩
      exact Pick.all
     refine WP.bld (cs := [iv 0, .int .u64 (0)]) tysOk rfl ⟨⟩ rfl rfl rfl rfl rfl rfl rfl ?_
     refine WP.useF mm61 g_o3_13_1 True.intro rfl (by kernel_rfl) ?_ ?_
     ·repeat first|exact ⟨⟩|refine ⟨rfl,?_⟩
     exact Pick.all
    rintro ⟨A_o3_6_1, n_o3_6_1, c_o3_6_1, A_o3_7_1, n_o3_7_1, c_o3_7_1, A_o3_7_2, n_o3_7_2, c_o3_7_2, Zp_o3_9_1, Zp_o3_9_2, Zn_o3_9_1, A_o3_9_1, c_o3_9_1, A_o3_9_2, c_o3_9_2, A_o3_9_3, c_o3_9_3, A_o3_9_4, c_o3_9_4, g_o3_13_1⟩ ⟨hf_o3_6_1, hf_o3_7_1, hf_o3_7_2, hz_o3_9_1, hz_o3_9_2, hs_o3_9_1, hs_o3_9_2, hs_o3_9_3, hs_o3_9_4⟩
    dsimp only at hf_o3_6_1 hf_o3_7_1 hf_o3_7_2 hz_o3_9_1 hz_o3_9_2 hs_o3_9_1 hs_o3_9_2 hs_o3_9_3 hs_o3_9_4 ⊢
    refine WP.mx_ tysOk rfl ⟨⟩ (SegAt.blk' .head rfl) ?_
    refine WP.sx tysOk rfl ⟨⟨⟩, ⟨⟩⟩ ?_
    refine WP.sto' tysOk [.slice A_o3_9_1 r_o3_9_1.1.inst.supply.length c_o3_9_1, .slice A_o3_9_2 r_o3_9_1.1.inst.arcs.length c_o3_9_2, iv r_o3_9_1.1.rcd.pass, .slice A_o3_9_3 r_o3_9_1.1.rcd.was.supply.length c_o3_9_3, .slice A_o3_9_4 r_o3_9_1.1.rcd.was.arcs.length c_o3_9_4, iv r_o3_9_1.1.off.hi, .int .u64 (r_o3_9_1.1.off.lo), .bool (r_o3_9_1.1.did)] rfl rfl rfl rfl rfl rfl rfl rfl rfl (.tail (.tail (.tail (.tail (.tail .head))))) rfl rfl ?_
    refine WP.sx tysOk rfl ⟨⟨⟩, ⟨⟩⟩ ?_
    cases h
    refine WP.retR tysOk rfl rfl ⟨_, _, _, _, rfl, ⟨_, rfl, .inr ⟨rfl, _, rfl, rfl, (SegAt.blk' (z := 8) .head rfl).1⟩⟩, ⟨_, _, rfl, rfl, rfl⟩, rfl⟩ (fun w1 hw1 => ⟨_, _, rfl, ⟨PH.new _ w1, A_o3_9_1, r_o3_9_1.1.inst.supply.length, c_o3_9_1, A_o3_9_2, r_o3_9_1.1.inst.arcs.length, c_o3_9_2, A_o3_9_3, r_o3_9_1.1.rcd.was.supply.length, c_o3_9_3, A_o3_9_4, r_o3_9_1.1.rcd.was.arcs.length, c_o3_9_4, rfl, rfl, rfl, rfl, rfl, hs_o3_9_1.le' (PH.or_le (PH.or_le (PH.or_le (PH.le_or _ _) ((hw1.fzNew (.cons (.tail (.tail (.tail (.tail .head)))) (.cons (.tail (.tail (.tail (.tail (.tail (.tail .head)))))) .nil))).trans (PH.new_le_or hZ))) ((hw1.fzNew (.cons (.tail (.tail (.tail .head))) (.cons (.tail (.tail (.tail (.tail (.tail (.tail .head)))))) .nil))).trans (PH.new_le_or hZ))) ((hw1.fzNew (.cons (.tail (.tail .head)) (.cons (.tail (.tail (.tail (.tail (.tail (.tail .head)))))) .nil))).trans (PH.new_le_or hZ))), hs_o3_9_2.le' (PH.or_le (PH.or_le (PH.or_le (PH.le_or _ _) ((hw1.fzNew (.cons (.tail (.tail (.tail (.tail .head)))) (.cons (.tail (.tail (.tail (.tail (.tail (.tail .head)))))) .nil))).trans (PH.new_le_or hZ))) ((hw1.fzNew (.cons (.tail (.tail (.tail .head))) (.cons (.tail (.tail (.tail (.tail (.tail (.tail .head)))))) .nil))).trans (PH.new_le_or hZ))) ((hw1.fzNew (.cons (.tail (.tail .head)) (.cons (.tail (.tail (.tail (.tail (.tail (.tail .head)))))) .nil))).trans (PH.new_le_or hZ))), hs_o3_9_3.le' (PH.or_le (PH.or_le (PH.or_le (PH.le_or _ _) ((hw1.fzNew (.cons (.tail (.tail (.tail (.tail .head)))) (.cons (.tail (.tail (.tail (.tail (.tail (.tail .head)))))) .nil))).trans (PH.new_le_or hZ))) ((hw1.fzNew (.cons (.tail (.tail (.tail .head))) (.cons (.tail (.tail (.tail (.tail (.tail (.tail .head)))))) .nil))).trans (PH.new_le_or hZ))) ((hw1.fzNew (.cons (.tail (.tail .head)) (.cons (.tail (.tail (.tail (.tail (.tail (.tail .head)))))) .nil))).trans (PH.new_le_or hZ))), hs_o3_9_4.le' (PH.or_le (PH.or_le (PH.or_le (PH.le_or _ _) ((hw1.fzNew (.cons (.tail (.tail (.tail (.tail .head)))) (.cons (.tail (.tail (.tail (.tail (.tail (.tail .head)))))) .nil))).trans (PH.new_le_or hZ))) ((hw1.fzNew (.cons (.tail (.tail (.tail .head))) (.cons (.tail (.tail (.tail (.tail (.tail (.tail .head)))))) .nil))).trans (PH.new_le_or hZ))) ((hw1.fzNew (.cons (.tail (.tail .head)) (.cons (.tail (.tail (.tail (.tail (.tail (.tail .head)))))) .nil))).trans (PH.new_le_or hZ))), rfl⟩, Ret.freeze hw1 (.cons (.tail (.tail (.tail (.tail (.tail (.tail (.tail .head))))))) .nil)⟩)
   rw [if_neg (bneg hh7)] at h
   iterate 3 (refine WP.sx tysOk rfl ⟨⟨⟩, ⟨⟩⟩ ?_)
   refine WP.stop rfl (n3, w64 (n2 + 1)) ⟨h, Nat.lt_succ_self _⟩ ?_ ?_
   ·repeat first|exact ⟨⟩|refine ⟨rfl,?_⟩
   exact Pick.all
  rw [if_neg hh6] at h
  refine WP.mx_ tysOk rfl ⟨⟩ (SegAt.blk' (.tail .head) rfl) ?_
  refine WP.bld (cs := [.slice A1 i1.supply.length c1, .slice A2 i1.arcs.length c2, iv 0, sn, sn, iv 0, .int .u64 (0), .bool (false)]) tysOk rfl ⟨⟩ rfl rfl rfl rfl rfl rfl rfl ?_
  refine WP.sto' tysOk [.slice A1 i1.supply.length c1, .slice A2 i1.arcs.length c2, iv 0, sn, sn, iv 0, .int .u64 (0), .bool (false)] rfl rfl rfl rfl rfl rfl rfl rfl rfl .head rfl rfl ?_
  refine WP.sx tysOk rfl ⟨⟨⟩, ⟨⟩⟩ ?_
  cases h
  refine WP.retR tysOk rfl rfl ⟨_, _, _, _, rfl, ⟨_, rfl, .inr ⟨rfl, _, rfl, rfl, (SegAt.blk' (z := 8) .head rfl).1⟩⟩, ⟨_, _, rfl, rfl, rfl⟩, rfl⟩ (fun w1 hw1 => ⟨_, _, rfl, ⟨PH.new _ w1, A1, i1.supply.length, c1, A2, i1.arcs.length, c2, none, 0, 0, none, 0, 0, rfl, rfl, rfl, rfl, rfl, hs1.le' (PH.le_or _ _), hs2.le' (PH.le_or _ _), FzS.nil_, FzS.nil_, rfl⟩, Ret.freeze hw1 (.cons (.tail (.tail .head)) .nil)⟩)

set_option maxRecDepth 20000 in
set_option maxHeartbeats 8000000 in
theorem ref15_Same_w {w : World} {v0 : Value} {v1 : Value} {a1 : Step} {b1 : Step} {r : Bool} (h : ref15_Same a1 b1 = some r) (p1 : StepZ (PH.of w) v0 a1) (p2 : StepZ (PH.of w) v1 b1) :
    Calls Tryz.prog 36 #[v0, v1] w fun e w' => e = .returned (.bool (r)) ∧ Below w.heap.size w w' := by
  obtain ⟨A1, c1, A2, c2, A3, c3, A4, c4, rfl, hs1, hs2, hs3, hs4⟩ := p1
  obtain ⟨A5, c5, A6, c6, A7, c7, A8, c8, rfl, hs5, hs6, hs7, hs8⟩ := p2
  unfold ref15_Same at h
  refine enter_ Tryz.func36 rfl Tryz.ntmps36 rfl ?_
  refine WP.box rfl rfl rfl rfl rfl rfl ?_
  intro g1
  refine WP.box rfl rfl rfl rfl rfl rfl ?_
  intro g2
  iterate 2 (refine WP.sx tysOk rfl ⟨⟨⟩, ⟨⟩⟩ ?_)
  refine WP.lx tysOk rfl ⟨⟩ (CellAt.blk (.tail .head) rfl) ?_
  refine WP.sx tysOk rfl ⟨⟨⟩, ⟨⟩⟩ ?_
  refine WP.lx tysOk rfl ⟨⟩ (CellAt.blk .head rfl) ?_
  iterate 2 (refine WP.sx tysOk rfl ⟨⟨⟩, ⟨⟩⟩ ?_)
  by_cases hh1 : (a1.did == b1.did) = true
  ·rw [if_pos hh1] at h
   refine WP.yes rfl rfl hh1 ?_
   refine WP.sx tysOk rfl ⟨⟨⟩, ⟨⟩⟩ ?_
   refine WP.yes rfl rfl rfl ?_
   refine WP.mx_ tysOk rfl ⟨⟩ (SegAt.blk' (.tail .head) rfl) ?_
   refine WP.yes rfl rfl rfl ?_
   refine WP.sx tysOk rfl ⟨⟨⟩, ⟨⟩⟩ ?_
   refine WP.yes rfl rfl rfl ?_
   refine WP.mx_ tysOk rfl ⟨⟩ (SegAt.blk' .head rfl) ?_
   refine WP.yes rfl rfl rfl ?_
   refine WP.eqS rfl ⟨⟩ rfl rfl rfl rfl rfl rfl (by kernel_rfl) (eq38 a1.off b1.off) ?_
   iterate 2 (refine WP.sx tysOk rfl ⟨⟨⟩, ⟨⟩⟩ ?_)
   by_cases hh2 : a1.off = b1.off
   ·rw [if_pos hh2] at h
    refine WP.yes rfl rfl (decide_eq_true hh2) ?_
    iterate 2 (refine WP.sx tysOk rfl ⟨⟨⟩, ⟨⟩⟩ ?_; refine WP.yes rfl rfl rfl ?_)
    refine WP.lx tysOk rfl ⟨⟩ (CellAt.blk (.tail .head) rfl) ?_
    iterate 2 (refine WP.yes rfl rfl rfl ?_; refine WP.sx tysOk rfl ⟨⟨⟩, ⟨⟩⟩ ?_)
    refine WP.yes rfl rfl rfl ?_
    refine WP.lx tysOk rfl ⟨⟩ (CellAt.blk .head rfl) ?_
    refine WP.yes rfl rfl rfl ?_
    iterate 3 (refine WP.sx tysOk rfl ⟨⟨⟩, ⟨⟩⟩ ?_)
    by_cases hh3 : a1.rcd.pass = b1.rcd.pass
    ·rw [if_pos hh3] at h
     refine WP.yes rfl rfl (decide_eq_true hh3) ?_
     refine WP.sx tysOk rfl ⟨⟨⟩, ⟨⟩⟩ ?_
     refine WP.yes rfl rfl rfl ?_
     refine WP.mx_ tysOk rfl ⟨⟩ (SegAt.blk' (.tail .head) rfl) ?_
     refine WP.yes rfl rfl rfl ?_
     refine WP.sx tysOk rfl ⟨⟨⟩, ⟨⟩⟩ ?_
     refine WP.yes rfl rfl rfl ?_
     refine WP.mx_ tysOk rfl ⟨⟩ (SegAt.blk' .head rfl) ?_
     refine WP.yes rfl rfl rfl ?_
     obtain ⟨r1, hg1, h⟩ := bind_some h
     refine WP.callV rfl rfl rfl rfl rfl rfl rfl (by kernel_rfl) (fun w1 hw1 => (ref03_Same_w hg1 (InsZ.mk_ ((hs1.le' ((Held.mem (List.Mem.tail _ (List.Mem.tail _ (List.Mem.head _)))) _ _ hw1)).of) ((hs2.le' ((Held.mem (List.Mem.tail _ (List.Mem.tail _ (List.Mem.head _)))) _ _ hw1)).of)) (InsZ.mk_ ((hs5.le' ((Held.mem (List.Mem.tail _ (List.Mem.tail _ (List.Mem.head _)))) _ _ hw1)).of) ((hs6.le' ((Held.mem (List.Mem.tail _ (List.Mem.tail _ (List.Mem.head _)))) _ _ hw1)).of)) :)) ⟨⟩ ?_
     iterate 2 (refine WP.sx tysOk rfl ⟨⟨⟩, ⟨⟩⟩ ?_)
     by_cases hh4 : r1 = true
     ·rw [if_pos hh4] at h
      refine WP.yes rfl rfl hh4 ?_
      iterate 2 (refine WP.sx tysOk rfl ⟨⟨⟩, ⟨⟩⟩ ?_; refine WP.yes rfl rfl rfl ?_)
      refine WP.mx_ tysOk rfl ⟨⟩ (SegAt.blk' (.tail .head) rfl) ?_
      iterate 2 (refine WP.yes rfl rfl rfl ?_; refine WP.sx tysOk rfl ⟨⟨⟩, ⟨⟩⟩ ?_)
      refine WP.yes rfl rfl rfl ?_
      refine WP.mx_ tysOk rfl ⟨⟩ (SegAt.blk' .head rfl) ?_
      refine WP.yes rfl rfl rfl ?_
      obtain ⟨r2, hg2, h⟩ := bind_some h
      refine WP.callV rfl rfl rfl rfl rfl rfl rfl (by kernel_rfl) (fun w1 hw1 => (ref03_Same_w hg2 (InsZ.mk_ ((hs3.le' ((Held.mem (List.Mem.tail _ (List.Mem.tail _ (List.Mem.head _)))) _ _ hw1)).of) ((hs4.le' ((Held.mem (List.Mem.tail _ (List.Mem.tail _ (List.Mem.head _)))) _ _ hw1)).of)) (InsZ.mk_ ((hs7.le' ((Held.mem (List.Mem.tail _ (List.Mem.tail _ (List.Mem.head _)))) _ _ hw1)).of) ((hs8.le' ((Held.mem (List.Mem.tail _ (List.Mem.tail _ (List.Mem.head _)))) _ _ hw1)).of)) :)) ⟨⟩ ?_
      iterate 2 (refine WP.sx tysOk rfl ⟨⟨⟩, ⟨⟩⟩ ?_)
      cases h
      refine WP.retR tysOk rfl rfl ⟨_, _, rfl, rfl, rfl⟩ (fun w1 hw1 => ⟨rfl, Ret.below_ hw1 (.cons (.tail (.tail .head)) .nil)⟩)
     rw [if_neg hh4] at h
     refine WP.no rfl rfl (bfalse hh4) rfl rfl ?_
     iterate 6 (refine WP.no rfl rfl rfl rfl rfl ?_)
     iterate 2 (refine WP.sx tysOk rfl ⟨⟨⟩, ⟨⟩⟩ ?_)
     cases h
     refine WP.retR tysOk rfl rfl ⟨_, _, rfl, rfl, rfl⟩ (fun w1 hw1 => ⟨rfl, Ret.below_ hw1 (.cons (.tail (.tail .head)) .nil)⟩)
    rw [if_neg hh3] at h
    refine WP.no rfl rfl (decide_eq_false hh3) rfl rfl ?_
    iterate 4 (refine WP.no rfl rfl rfl rfl rfl ?_)
    iterate 2 (refine WP.sx tysOk rfl ⟨⟨⟩, ⟨⟩⟩ ?_)
    iterate 7 (refine WP.no rfl rfl rfl rfl rfl ?_)
    iterate 2 (refine WP.sx tysOk rfl ⟨⟨⟩, ⟨⟩⟩ ?_)
    cases h
    refine WP.retR tysOk rfl rfl ⟨_, _, rfl, rfl, rfl⟩ (fun w1 hw1 => ⟨rfl, Ret.below_ hw1 (.cons (.tail (.tail .head)) .nil)⟩)
   rw [if_neg hh2] at h
   refine WP.no rfl rfl (decide_eq_false hh2) rfl rfl ?_
   iterate 6 (refine WP.no rfl rfl rfl rfl rfl ?_)
   iterate 2 (refine WP.sx tysOk rfl ⟨⟨⟩, ⟨⟩⟩ ?_)
   iterate 5 (refine WP.no rfl rfl rfl rfl rfl ?_)
   iterate 2 (refine WP.sx tysOk rfl ⟨⟨⟩, ⟨⟩⟩ ?_)
   iterate 7 (refine WP.no rfl rfl rfl rfl rfl ?_)
   iterate 2 (refine WP.sx tysOk rfl ⟨⟨⟩, ⟨⟩⟩ ?_)
   cases h
   refine WP.retR tysOk rfl rfl ⟨_, _, rfl, rfl, rfl⟩ (fun w1 hw1 => ⟨rfl, Ret.below_ hw1 (.cons (.tail (.tail .head)) .nil)⟩)
  rw [if_neg hh1] at h
  refine WP.no rfl rfl (bfalse hh1) rfl rfl ?_
  iterate 4 (refine WP.no rfl rfl rfl rfl rfl ?_)
  iterate 2 (refine WP.sx tysOk rfl ⟨⟨⟩, ⟨⟩⟩ ?_)
  iterate 7 (refine WP.no rfl rfl rfl rfl rfl ?_)
  iterate 2 (refine WP.sx tysOk rfl ⟨⟨⟩, ⟨⟩⟩ ?_)
  iterate 5 (refine WP.no rfl rfl rfl rfl rfl ?_)
  iterate 2 (refine WP.sx tysOk rfl ⟨⟨⟩, ⟨⟩⟩ ?_)
  iterate 7 (refine WP.no rfl rfl rfl rfl rfl ?_)
  iterate 2 (refine WP.sx tysOk rfl ⟨⟨⟩, ⟨⟩⟩ ?_)
  cases h
  refine WP.retR tysOk rfl rfl ⟨_, _, rfl, rfl, rfl⟩ (fun w1 hw1 => ⟨rfl, Ret.below_ hw1 (.cons (.tail (.tail .head)) .nil)⟩)

set_option maxRecDepth 20000 in
set_option maxHeartbeats 8000000 in
theorem law17_does_w {w : World} {v0 : Value} {d1 : Inst} {i1 : Int} {r : Bool} (h : law17_does d1 i1 = some r) (p1 : InsZ (PH.of w) v0 d1) (pg : GlobE (PH.of w)) :
    Calls Tryz.prog 11 #[v0, iv i1] w fun e w' => e = .returned (.bool (r)) ∧ Below w.heap.size w w' := by
  obtain ⟨A1, c1, A2, c2, rfl, hs1, hs2⟩ := p1
  unfold law17_does at h
  refine enter_ Tryz.func11 rfl Tryz.ntmps11 rfl ?_
  refine WP.box rfl rfl rfl rfl rfl rfl ?_
  intro g1
  refine WP.sx tysOk rfl ⟨⟨⟩, ⟨⟩⟩ ?_
  refine WP.mx_ tysOk rfl ⟨⟩ (SegAt.blk' .head rfl) ?_
  obtain ⟨r1, hg1, h⟩ := bind_some h
  refine WP.callS (leaf_Leaf_S (PH.of w) r1) rfl rfl rfl rfl rfl rfl rfl (by kernel_rfl) (fun w1 hw1 => (leaf_Leaf_w (Z := (PH.of w)) ((Held.mem (List.Mem.tail _ (List.Mem.head _))) _ _ hw1) hg1 (InsZ.mk_ ((hs1.le' PH.le.rfl_).of) ((hs2.le' PH.le.rfl_).of)) (pg.le ((Held.mem (List.Mem.tail _ (List.Mem.head _))) _ _ hw1)) :)) ?_
  rintro _ _ ⟨Zn1, A3, _, c3, A4, _, c4, A5, _, c5, A6, _, c6, rfl, rfl, rfl, rfl, rfl, hs3, hs4, hs5, hs6, rfl⟩
  iterate 3 (refine WP.sx tysOk rfl ⟨⟨⟩, ⟨⟩⟩ ?_)
  refine WP.al tysOk rfl rfl rfl rfl rfl rfl ?_
  intro g2
  refine WP.sto' tysOk [.slice A3 r1.1.inst.supply.length c3, .slice A4 r1.1.inst.arcs.length c4, iv r1.1.rcd.pass, .slice A5 r1.1.rcd.was.supply.length c5, .slice A6 r1.1.rcd.was.arcs.length c6, iv r1.1.off.hi, .int .u64 (r1.1.off.lo), .bool (r1.1.did)] rfl rfl rfl rfl rfl rfl rfl rfl rfl .head rfl rfl ?_
  refine WP.sx tysOk rfl ⟨⟨⟩, ⟨⟩⟩ ?_
  refine WP.mx_ tysOk rfl ⟨⟩ (SegAt.blk' (.tail (.tail .head)) rfl) ?_
  obtain ⟨r2, hg2, h⟩ := bind_some h
  refine WP.callS (ref17_Leaf_S (PH.of w) r2) rfl rfl rfl rfl rfl rfl rfl (by kernel_rfl) (fun w1 hw1 => (ref17_Leaf_w (Z := (PH.of w)) ((Held.mem (List.Mem.tail _ (List.Mem.tail _ (List.Mem.tail _ (List.Mem.head _))))) _ _ hw1) hg2 (InsZ.mk_ ((hs1.le' PH.le.rfl_).of) ((hs2.le' PH.le.rfl_).of)) :)) ?_
  rintro _ _ ⟨Zn2, A7, _, c7, A8, _, c8, A9, _, c9, A10, _, c10, rfl, rfl, rfl, rfl, rfl, hs7, hs8, hs9, hs10, rfl⟩
  iterate 3 (refine WP.sx tysOk rfl ⟨⟨⟩, ⟨⟩⟩ ?_)
  refine WP.al tysOk rfl rfl rfl rfl rfl rfl ?_
  intro g3
  refine WP.sto' tysOk [.slice A7 r2.1.inst.supply.length c7, .slice A8 r2.1.inst.arcs.length c8, iv r2.1.rcd.pass, .slice A9 r2.1.rcd.was.supply.length c9, .slice A10 r2.1.rcd.was.arcs.length c10, iv r2.1.off.hi, .int .u64 (r2.1.off.lo), .bool (r2.1.did)] rfl rfl rfl rfl rfl rfl rfl rfl rfl .head rfl rfl ?_
  refine WP.sx tysOk rfl ⟨⟨⟩, ⟨⟩⟩ ?_
  refine WP.mx_ tysOk rfl ⟨⟩ (SegAt.blk' (.tail (.tail (.tail (.tail .head)))) rfl) ?_
  obtain ⟨r3, hg3, h⟩ := bind_some h
  refine WP.callS (leaf_Dead_S (PH.of w) r3) rfl rfl rfl rfl rfl rfl rfl (by kernel_rfl) (fun w1 hw1 => (leaf_Dead_w (Z := (PH.of w)) ((Held.mem (List.Mem.tail _ (List.Mem.tail _ (List.Mem.tail _ (List.Mem.tail _ (List.Mem.tail _ (List.Mem.head _))))))) _ _ hw1) hg3 (InsZ.mk_ ((hs1.le' PH.le.rfl_).of) ((hs2.le' PH.le.rfl_).of)) (pg.le ((Held.mem (List.Mem.tail _ (List.Mem.tail _ (List.Mem.tail _ (List.Mem.tail _ (List.Mem.tail _ (List.Mem.head _))))))) _ _ hw1)) :)) ?_
  rintro _ _ ⟨Zn3, A11, _, c11, A12, _, c12, A13, _, c13, A14, _, c14, rfl, rfl, rfl, rfl, rfl, hs11, hs12, hs13, hs14, rfl⟩
  iterate 3 (refine WP.sx tysOk rfl ⟨⟨⟩, ⟨⟩⟩ ?_)
  refine WP.al tysOk rfl rfl rfl rfl rfl rfl ?_
  intro g4
  refine WP.sto' tysOk [.slice A11 r3.1.inst.supply.length c11, .slice A12 r3.1.inst.arcs.length c12, iv r3.1.rcd.pass, .slice A13 r3.1.rcd.was.supply.length c13, .slice A14 r3.1.rcd.was.arcs.length c14, iv r3.1.off.hi, .int .u64 (r3.1.off.lo), .bool (r3.1.did)] rfl rfl rfl rfl rfl rfl rfl rfl rfl .head rfl rfl ?_
  refine WP.sx tysOk rfl ⟨⟨⟩, ⟨⟩⟩ ?_
  refine WP.mx_ tysOk rfl ⟨⟩ (SegAt.blk' (.tail (.tail (.tail (.tail (.tail (.tail .head)))))) rfl) ?_
  obtain ⟨r4, hg4, h⟩ := bind_some h
  refine WP.callS (ref17_Dead_S (PH.of w) r4) rfl rfl rfl rfl rfl rfl rfl (by kernel_rfl) (fun w1 hw1 => (ref17_Dead_w (Z := (PH.of w)) ((Held.mem (List.Mem.tail _ (List.Mem.tail _ (List.Mem.tail _ (List.Mem.tail _ (List.Mem.tail _ (List.Mem.tail _ (List.Mem.tail _ (List.Mem.head _))))))))) _ _ hw1) hg4 (InsZ.mk_ ((hs1.le' PH.le.rfl_).of) ((hs2.le' PH.le.rfl_).of)) :)) ?_
  rintro _ _ ⟨Zn4, A15, _, c15, A16, _, c16, A17, _, c17, A18, _, c18, rfl, rfl, rfl, rfl, rfl, hs15, hs16, hs17, hs18, rfl⟩
  iterate 3 (refine WP.sx tysOk rfl ⟨⟨⟩, ⟨⟩⟩ ?_)
  refine WP.al tysOk rfl rfl rfl rfl rfl rfl ?_
  intro g5
  refine WP.sto' tysOk [.slice A15 r4.1.inst.supply.length c15, .slice A16 r4.1.inst.arcs.length c16, iv r4.1.rcd.pass, .slice A17 r4.1.rcd.was.supply.length c17, .slice A18 r4.1.rcd.was.arcs.length c18, iv r4.1.off.hi, .int .u64 (r4.1.off.lo), .bool (r4.1.did)] rfl rfl rfl rfl rfl rfl rfl rfl rfl .head rfl rfl ?_
  refine WP.sx tysOk rfl ⟨⟨⟩, ⟨⟩⟩ ?_
  refine WP.mx_ tysOk rfl ⟨⟩ (SegAt.blk' (.tail (.tail (.tail (.tail (.tail (.tail (.tail (.tail .head)))))))) rfl) ?_
  obtain ⟨r5, hg5, h⟩ := bind_some h
  refine WP.callV rfl rfl rfl rfl rfl rfl rfl (by kernel_rfl) (fun w1 hw1 => (ref03_Right_w hg5 (InsZ.mk_ ((hs1.le' ((Held.mem (List.Mem.tail _ (List.Mem.tail _ (List.Mem.tail _ (List.Mem.tail _ (List.Mem.tail _ (List.Mem.tail _ (List.Mem.tail _ (List.Mem.tail _ (List.Mem.tail _ (List.Mem.head _))))))))))) _ _ hw1)).of) ((hs2.le' ((Held.mem (List.Mem.tail _ (List.Mem.tail _ (List.Mem.tail _ (List.Mem.tail _ (List.Mem.tail _ (List.Mem.tail _ (List.Mem.tail _ (List.Mem.tail _ (List.Mem.tail _ (List.Mem.head _))))))))))) _ _ hw1)).of)) :)) ⟨⟩ ?_
  refine WP.sx tysOk rfl ⟨⟨⟩, ⟨⟩⟩ ?_
  obtain ⟨k1, hk1, h⟩ := lt_some h
  refine WP.join (α := Unit) (fun x => k1 () = some r) (fun x => [(5, pt g2), (6, .int .u16 (r1.2)), (7, pt g3), (8, iv r2.2), (9, pt g4), (10, .int .u16 (r3.2)), (11, pt g5), (12, iv r4.2)]) (fun x => [.blk g5 40 [.slice A15 r4.1.inst.supply.length c15, .slice A16 r4.1.inst.arcs.length c16, iv r4.1.rcd.pass, .slice A17 r4.1.rcd.was.supply.length c17, .slice A18 r4.1.rcd.was.arcs.length c18, iv r4.1.off.hi, .int .u64 (r4.1.off.lo), .bool (r4.1.did)], .fz Zn4, .blk g4 40 [.slice A11 r3.1.inst.supply.length c11, .slice A12 r3.1.inst.arcs.length c12, iv r3.1.rcd.pass, .slice A13 r3.1.rcd.was.supply.length c13, .slice A14 r3.1.rcd.was.arcs.length c14, iv r3.1.off.hi, .int .u64 (r3.1.off.lo), .bool (r3.1.did)], .fz Zn3, .blk g3 40 [.slice A7 r2.1.inst.supply.length c7, .slice A8 r2.1.inst.arcs.length c8, iv r2.1.rcd.pass, .slice A9 r2.1.rcd.was.supply.length c9, .slice A10 r2.1.rcd.was.arcs.length c10, iv r2.1.off.hi, .int .u64 (r2.1.off.lo), .bool (r2.1.did)], .fz Zn2, .blk g2 40 [.slice A3 r1.1.inst.supply.length c3, .slice A4 r1.1.inst.arcs.length c4, iv r1.1.rcd.pass, .slice A5 r1.1.rcd.was.supply.length c5, .slice A6 r1.1.rcd.was.arcs.length c6, iv r1.1.off.hi, .int .u64 (r1.1.off.lo), .bool (r1.1.did)], .fz Zn1, .fz (PH.of w)]) rfl ?_ ?_
  ·refine WP.cond_d rfl rfl (fun hh9 => ?_) (fun hh9 => ?_)
   ·rw [if_pos hh9] at h
    refine WP.mx_ tysOk rfl ⟨⟩ (SegAt.blk' (.tail (.tail (.tail (.tail (.tail (.tail (.tail (.tail .head)))))))) rfl) ?_
    refine WP.sx tysOk rfl ⟨⟨⟩, ⟨⟩⟩ ?_
    obtain ⟨r12, hg12, h⟩ := bind_some h
    refine WP.callV rfl rfl rfl rfl rfl rfl rfl (by kernel_rfl) (fun w1 hw1 => (leaf_Tip_w hg12 (InsZ.mk_ ((hs1.le' ((Held.mem (List.Mem.tail _ (List.Mem.tail _ (List.Mem.tail _ (List.Mem.tail _ (List.Mem.tail _ (List.Mem.tail _ (List.Mem.tail _ (List.Mem.tail _ (List.Mem.tail _ (List.Mem.head _))))))))))) _ _ hw1)).of) ((hs2.le' ((Held.mem (List.Mem.tail _ (List.Mem.tail _ (List.Mem.tail _ (List.Mem.tail _ (List.Mem.tail _ (List.Mem.tail _ (List.Mem.tail _ (List.Mem.tail _ (List.Mem.tail _ (List.Mem.head _))))))))))) _ _ hw1)).of)) :)) ⟨⟩ ?_
    iterate 7 (refine WP.sx tysOk rfl ⟨⟨⟩, ⟨⟩⟩ ?_)
    refine WP.mx_ tysOk rfl ⟨⟩ (SegAt.blk' (.tail (.tail (.tail (.tail (.tail (.tail (.tail (.tail .head)))))))) rfl) ?_
    refine WP.sx tysOk rfl ⟨⟨⟩, ⟨⟩⟩ ?_
    obtain ⟨r13, hg13, h⟩ := bind_some h
    refine WP.callV rfl rfl rfl rfl rfl rfl rfl (by kernel_rfl) (fun w1 hw1 => (ref17_Tip_w hg13 (InsZ.mk_ ((hs1.le' ((Held.mem (List.Mem.tail _ (List.Mem.tail _ (List.Mem.tail _ (List.Mem.tail _ (List.Mem.tail _ (List.Mem.tail _ (List.Mem.tail _ (List.Mem.tail _ (List.Mem.tail _ (List.Mem.head _))))))))))) _ _ hw1)).of) ((hs2.le' ((Held.mem (List.Mem.tail _ (List.Mem.tail _ (List.Mem.tail _ (List.Mem.tail _ (List.Mem.tail _ (List.Mem.tail _ (List.Mem.tail _ (List.Mem.tail _ (List.Mem.tail _ (List.Mem.head _))))))))))) _ _ hw1)).of)) :)) ⟨⟩ ?_
    iterate 7 (refine WP.sx tysOk rfl ⟨⟨⟩, ⟨⟩⟩ ?_)
    refine WP.draw rfl (by kernel_rfl) (by kernel_rfl) ?_
    iterate 4 (refine WP.sx tysOk rfl ⟨rfl, ⟨⟩⟩ ?_)
    by_cases hh10 : ¬ r12.1 = r13.1
    ·rw [if_pos hh10] at h
     refine WP.no rfl rfl (decide_eq_true hh10) rfl rfl ?_
     iterate 2 (refine WP.no rfl rfl rfl rfl rfl ?_; refine WP.no rfl rfl rfl rfl rfl ?_; (iterate 2 (refine WP.sx tysOk rfl ⟨rfl, ⟨⟩⟩ ?_)); refine WP.no rfl rfl rfl rfl rfl ?_)
     iterate 6 (refine WP.no rfl rfl rfl rfl rfl ?_)
     refine WP.sx tysOk rfl ⟨rfl, ⟨⟩⟩ ?_
     refine WP.qend rfl ?_
     refine WP.condT rfl rfl ?_
     refine WP.sx tysOk rfl ⟨⟨⟩, ⟨⟩⟩ ?_
     cases h
     refine WP.retR tysOk rfl rfl ⟨_, _, rfl, rfl, rfl⟩ (fun w1 hw1 => ⟨rfl, Ret.below_ hw1 (.cons (.tail (.tail (.tail (.tail (.tail (.tail (.tail (.tail (.tail .head))))))))) .nil)⟩)
    rw [if_neg hh10] at h
    refine WP.yes rfl rfl (decide_eq_false hh10) ?_
    iterate 2 (refine WP.sx tysOk rfl ⟨rfl, ⟨⟩⟩ ?_; refine WP.yes rfl rfl rfl ?_)
    iterate 3 (refine WP.sx tysOk rfl ⟨rfl, ⟨⟩⟩ ?_)
    by_cases hh11 : ¬ r12.2.1 = r13.2.1
    ·rw [if_pos hh11] at h
     refine WP.no rfl rfl (decide_eq_true hh11) rfl rfl ?_
     iterate 2 (refine WP.no rfl rfl rfl rfl rfl ?_)
     iterate 2 (refine WP.sx tysOk rfl ⟨rfl, ⟨⟩⟩ ?_)
     iterate 7 (refine WP.no rfl rfl rfl rfl rfl ?_)
     refine WP.sx tysOk rfl ⟨rfl, ⟨⟩⟩ ?_
     refine WP.qend rfl ?_
     refine WP.condT rfl rfl ?_
     refine WP.sx tysOk rfl ⟨⟨⟩, ⟨⟩⟩ ?_
     cases h
     refine WP.retR tysOk rfl rfl ⟨_, _, rfl, rfl, rfl⟩ (fun w1 hw1 => ⟨rfl, Ret.below_ hw1 (.cons (.tail (.tail (.tail (.tail (.tail (.tail (.tail (.tail (.tail .head))))))))) .nil)⟩)
    rw [if_neg hh11] at h
    refine WP.yes rfl rfl (decide_eq_false hh11) ?_
    iterate 2 (refine WP.sx tysOk rfl ⟨rfl, ⟨⟩⟩ ?_; refine WP.yes rfl rfl rfl ?_)
    iterate 3 (refine WP.sx tysOk rfl ⟨rfl, ⟨⟩⟩ ?_)
    by_cases hh12 : (r12.2.2 == r13.2.2) = true
    ·rw [if_pos hh12] at h
     refine WP.yes rfl rfl (by simp [hh12]) ?_
     refine WP.mx_ tysOk rfl rfl (SegAt.blk' (.tail (.tail (.tail (.tail (.tail (.tail (.tail (.tail .head)))))))) rfl) ?_
     refine WP.yes rfl rfl rfl ?_
     refine WP.sx tysOk rfl ⟨rfl, ⟨⟩⟩ ?_
     refine WP.yes rfl rfl rfl ?_
     obtain ⟨r14, hg14, h⟩ := bind_some h
     refine WP.callV rfl rfl rfl rfl rfl rfl rfl (by kernel_rfl) (fun w1 hw1 => (leaf_Shut_w hg14 (InsZ.mk_ ((hs1.le' ((Held.mem (List.Mem.tail _ (List.Mem.tail _ (List.Mem.tail _ (List.Mem.tail _ (List.Mem.tail _ (List.Mem.tail _ (List.Mem.tail _ (List.Mem.tail _ (List.Mem.tail _ (List.Mem.head _))))))))))) _ _ hw1)).of) ((hs2.le' ((Held.mem (List.Mem.tail _ (List.Mem.tail _ (List.Mem.tail _ (List.Mem.tail _ (List.Mem.tail _ (List.Mem.tail _ (List.Mem.tail _ (List.Mem.tail _ (List.Mem.tail _ (List.Mem.head _))))))))))) _ _ hw1)).of)) :)) rfl ?_
     refine WP.yes rfl rfl rfl ?_
     refine WP.mx_ tysOk rfl rfl (SegAt.blk' (.tail (.tail (.tail (.tail (.tail (.tail (.tail (.tail .head)))))))) rfl) ?_
     refine WP.yes rfl rfl rfl ?_
     refine WP.sx tysOk rfl ⟨rfl, ⟨⟩⟩ ?_
     refine WP.yes rfl rfl rfl ?_
     obtain ⟨r15, hg15, h⟩ := bind_some h
     refine WP.callV rfl rfl rfl rfl rfl rfl rfl (by kernel_rfl) (fun w1 hw1 => (ref17_Shut_w hg15 (InsZ.mk_ ((hs1.le' ((Held.mem (List.Mem.tail _ (List.Mem.tail _ (List.Mem.tail _ (List.Mem.tail _ (List.Mem.tail _ (List.Mem.tail _ (List.Mem.tail _ (List.Mem.tail _ (List.Mem.tail _ (List.Mem.head _))))))))))) _ _ hw1)).of) ((hs2.le' ((Held.mem (List.Mem.tail _ (List.Mem.tail _ (List.Mem.tail _ (List.Mem.tail _ (List.Mem.tail _ (List.Mem.tail _ (List.Mem.tail _ (List.Mem.tail _ (List.Mem.tail _ (List.Mem.head _))))))))))) _ _ hw1)).of)) :)) rfl ?_
     refine WP.yes rfl rfl rfl ?_
     iterate 2 (refine WP.sx tysOk rfl ⟨rfl, ⟨⟩⟩ ?_)
     refine WP.qend rfl ?_
     refine WP.cond_n rfl rfl (fun hh13 => ?_) (fun hh13 => ?_)
     ·rw [if_neg (bneg hh13)] at h
      refine WP.sx tysOk rfl ⟨⟨⟩, ⟨⟩⟩ ?_
      cases h
      refine WP.retR tysOk rfl rfl ⟨_, _, rfl, rfl, rfl⟩ (fun w1 hw1 => ⟨rfl, Ret.below_ hw1 (.cons (.tail (.tail (.tail (.tail (.tail (.tail (.tail (.tail (.tail .head))))))))) .nil)⟩)
     rw [if_pos hh13] at h
     refine WP.stop rfl () h ?_ ?_
     ·repeat first|exact ⟨⟩|refine ⟨rfl,?_⟩
     exact (.cons .head (.cons .head (.cons .head (.cons .head (.cons .head (.cons .head (.cons .head (.cons .head (.cons (.tail .head) .nil)))))))))
    rw [if_neg hh12] at h
    refine WP.no rfl rfl (by simp [hh12]) rfl rfl ?_
    iterate 6 (refine WP.no rfl rfl rfl rfl rfl ?_)
    refine WP.sx tysOk rfl ⟨rfl, ⟨⟩⟩ ?_
    refine WP.qend rfl ?_
    refine WP.condT rfl rfl ?_
    refine WP.sx tysOk rfl ⟨⟨⟩, ⟨⟩⟩ ?_
    cases h
    refine WP.retR tysOk rfl rfl ⟨_, _, rfl, rfl, rfl⟩ (fun w1 hw1 => ⟨rfl, Ret.below_ hw1 (.cons (.tail (.tail (.tail (.tail (.tail (.tail (.tail (.tail (.tail .head))))))))) .nil)⟩)
   rw [if_neg hh9] at h
   refine WP.stop rfl () h ?_ ?_
   ·repeat first|exact ⟨⟩|refine ⟨rfl,?_⟩
   exact (.cons .head (.cons .head (.cons .head (.cons .head (.cons .head (.cons .head (.cons .head (.cons .head (.cons (.tail .head) .nil)))))))))
  rintro _ h
  skip
  subst hk1
  try dsimp only at h
  iterate 5 (refine WP.sx tysOk rfl ⟨⟨⟩, ⟨⟩⟩ ?_)
  by_cases hh6 : (w64 (r1.2)) = r2.2
  ·rw [if_pos hh6] at h
   refine WP.yes rfl rfl (decide_eq_true hh6) ?_
   refine WP.mx_ tysOk rfl ⟨⟩ (SegAt.blk' (.tail (.tail (.tail (.tail (.tail (.tail .head)))))) rfl) ?_
   refine WP.yes rfl rfl rfl ?_
   refine WP.mx_ tysOk rfl ⟨⟩ (SegAt.blk' (.tail (.tail (.tail (.tail .head)))) rfl) ?_
   refine WP.yes rfl rfl rfl ?_
   obtain ⟨r10, hg10, h⟩ := bind_some h
   refine WP.callV rfl rfl rfl rfl rfl rfl rfl (by kernel_rfl) (fun w1 hw1 => (ref15_Same_w hg10 (StepZ.mk_ ((hs3.le' ((Held.or (Held.mem (List.Mem.tail _ (List.Mem.tail _ (List.Mem.tail _ (List.Mem.tail _ (List.Mem.tail _ (List.Mem.tail _ (List.Mem.tail _ (List.Mem.tail _ (List.Mem.head _)))))))))) (Held.mem (List.Mem.tail _ (List.Mem.tail _ (List.Mem.tail _ (List.Mem.tail _ (List.Mem.tail _ (List.Mem.tail _ (List.Mem.tail _ (List.Mem.head _)))))))))) _ _ hw1)).of) ((hs4.le' ((Held.or (Held.mem (List.Mem.tail _ (List.Mem.tail _ (List.Mem.tail _ (List.Mem.tail _ (List.Mem.tail _ (List.Mem.tail _ (List.Mem.tail _ (List.Mem.tail _ (List.Mem.head _)))))))))) (Held.mem (List.Mem.tail _ (List.Mem.tail _ (List.Mem.tail _ (List.Mem.tail _ (List.Mem.tail _ (List.Mem.tail _ (List.Mem.tail _ (List.Mem.head _)))))))))) _ _ hw1)).of) ((hs5.le' ((Held.or (Held.mem (List.Mem.tail _ (List.Mem.tail _ (List.Mem.tail _ (List.Mem.tail _ (List.Mem.tail _ (List.Mem.tail _ (List.Mem.tail _ (List.Mem.tail _ (List.Mem.head _)))))))))) (Held.mem (List.Mem.tail _ (List.Mem.tail _ (List.Mem.tail _ (List.Mem.tail _ (List.Mem.tail _ (List.Mem.tail _ (List.Mem.tail _ (List.Mem.head _)))))))))) _ _ hw1)).of) ((hs6.le' ((Held.or (Held.mem (List.Mem.tail _ (List.Mem.tail _ (List.Mem.tail _ (List.Mem.tail _ (List.Mem.tail _ (List.Mem.tail _ (List.Mem.tail _ (List.Mem.tail _ (List.Mem.head _)))))))))) (Held.mem (List.Mem.tail _ (List.Mem.tail _ (List.Mem.tail _ (List.Mem.tail _ (List.Mem.tail _ (List.Mem.tail _ (List.Mem.tail _ (List.Mem.head _)))))))))) _ _ hw1)).of)) (StepZ.mk_ ((hs7.le' ((Held.or (Held.mem (List.Mem.tail _ (List.Mem.tail _ (List.Mem.tail _ (List.Mem.tail _ (List.Mem.tail _ (List.Mem.tail _ (List.Mem.tail _ (List.Mem.tail _ (List.Mem.head _)))))))))) (Held.mem (List.Mem.tail _ (List.Mem.tail _ (List.Mem.tail _ (List.Mem.tail _ (List.Mem.tail _ (List.Mem.head _)))))))) _ _ hw1)).of) ((hs8.le' ((Held.or (Held.mem (List.Mem.tail _ (List.Mem.tail _ (List.Mem.tail _ (List.Mem.tail _ (List.Mem.tail _ (List.Mem.tail _ (List.Mem.tail _ (List.Mem.tail _ (List.Mem.head _)))))))))) (Held.mem (List.Mem.tail _ (List.Mem.tail _ (List.Mem.tail _ (List.Mem.tail _ (List.Mem.tail _ (List.Mem.head _)))))))) _ _ hw1)).of) ((hs9.le' ((Held.or (Held.mem (List.Mem.tail _ (List.Mem.tail _ (List.Mem.tail _ (List.Mem.tail _ (List.Mem.tail _ (List.Mem.tail _ (List.Mem.tail _ (List.Mem.tail _ (List.Mem.head _)))))))))) (Held.mem (List.Mem.tail _ (List.Mem.tail _ (List.Mem.tail _ (List.Mem.tail _ (List.Mem.tail _ (List.Mem.head _)))))))) _ _ hw1)).of) ((hs10.le' ((Held.or (Held.mem (List.Mem.tail _ (List.Mem.tail _ (List.Mem.tail _ (List.Mem.tail _ (List.Mem.tail _ (List.Mem.tail _ (List.Mem.tail _ (List.Mem.tail _ (List.Mem.head _)))))))))) (Held.mem (List.Mem.tail _ (List.Mem.tail _ (List.Mem.tail _ (List.Mem.tail _ (List.Mem.tail _ (List.Mem.head _)))))))) _ _ hw1)).of)) :)) ⟨⟩ ?_
   iterate 2 (refine WP.sx tysOk rfl ⟨⟨⟩, ⟨⟩⟩ ?_)
   by_cases hh7 : r10 = true
   ·rw [if_pos hh7] at h
    refine WP.yes rfl rfl hh7 ?_
    iterate 3 (refine WP.sx tysOk rfl ⟨⟨⟩, ⟨⟩⟩ ?_; refine WP.yes rfl rfl rfl ?_)
    iterate 3 (refine WP.sx tysOk rfl ⟨⟨⟩, ⟨⟩⟩ ?_)
    by_cases hh8 : (w64 (r3.2)) = r4.2
    ·rw [if_pos hh8] at h
     refine WP.yes rfl rfl (decide_eq_true hh8) ?_
     refine WP.mx_ tysOk rfl ⟨⟩ (SegAt.blk' (.tail (.tail .head)) rfl) ?_
     refine WP.yes rfl rfl rfl ?_
     refine WP.mx_ tysOk rfl ⟨⟩ (SegAt.blk' .head rfl) ?_
     refine WP.yes rfl rfl rfl ?_
     obtain ⟨r11, hg11, h⟩ := bind_some h
     refine WP.callV rfl rfl rfl rfl rfl rfl rfl (by kernel_rfl) (fun w1 hw1 => (ref15_Same_w hg11 (StepZ.mk_ ((hs11.le' ((Held.or (Held.mem (List.Mem.tail _ (List.Mem.tail _ (List.Mem.tail _ (List.Mem.tail _ (List.Mem.tail _ (List.Mem.tail _ (List.Mem.tail _ (List.Mem.tail _ (List.Mem.head _)))))))))) (Held.mem (List.Mem.tail _ (List.Mem.tail _ (List.Mem.tail _ (List.Mem.head _)))))) _ _ hw1)).of) ((hs12.le' ((Held.or (Held.mem (List.Mem.tail _ (List.Mem.tail _ (List.Mem.tail _ (List.Mem.tail _ (List.Mem.tail _ (List.Mem.tail _ (List.Mem.tail _ (List.Mem.tail _ (List.Mem.head _)))))))))) (Held.mem (List.Mem.tail _ (List.Mem.tail _ (List.Mem.tail _ (List.Mem.head _)))))) _ _ hw1)).of) ((hs13.le' ((Held.or (Held.mem (List.Mem.tail _ (List.Mem.tail _ (List.Mem.tail _ (List.Mem.tail _ (List.Mem.tail _ (List.Mem.tail _ (List.Mem.tail _ (List.Mem.tail _ (List.Mem.head _)))))))))) (Held.mem (List.Mem.tail _ (List.Mem.tail _ (List.Mem.tail _ (List.Mem.head _)))))) _ _ hw1)).of) ((hs14.le' ((Held.or (Held.mem (List.Mem.tail _ (List.Mem.tail _ (List.Mem.tail _ (List.Mem.tail _ (List.Mem.tail _ (List.Mem.tail _ (List.Mem.tail _ (List.Mem.tail _ (List.Mem.head _)))))))))) (Held.mem (List.Mem.tail _ (List.Mem.tail _ (List.Mem.tail _ (List.Mem.head _)))))) _ _ hw1)).of)) (StepZ.mk_ ((hs15.le' ((Held.or (Held.mem (List.Mem.tail _ (List.Mem.tail _ (List.Mem.tail _ (List.Mem.tail _ (List.Mem.tail _ (List.Mem.tail _ (List.Mem.tail _ (List.Mem.tail _ (List.Mem.head _)))))))))) (Held.mem (List.Mem.tail _ (List.Mem.head _)))) _ _ hw1)).of) ((hs16.le' ((Held.or (Held.mem (List.Mem.tail _ (List.Mem.tail _ (List.Mem.tail _ (List.Mem.tail _ (List.Mem.tail _ (List.Mem.tail _ (List.Mem.tail _ (List.Mem.tail _ (List.Mem.head _)))))))))) (Held.mem (List.Mem.tail _ (List.Mem.head _)))) _ _ hw1)).of) ((hs17.le' ((Held.or (Held.mem (List.Mem.tail _ (List.Mem.tail _ (List.Mem.tail _ (List.Mem.tail _ (List.Mem.tail _ (List.Mem.tail _ (List.Mem.tail _ (List.Mem.tail _ (List.Mem.head _)))))))))) (Held.mem (List.Mem.tail _ (List.Mem.head _)))) _ _ hw1)).of) ((hs18.le' ((Held.or (Held.mem (List.Mem.tail _ (List.Mem.tail _ (List.Mem.tail _ (List.Mem.tail _ (List.Mem.tail _ (List.Mem.tail _ (List.Mem.tail _ (List.Mem.tail _ (List.Mem.head _)))))))))) (Held.mem (List.Mem.tail _ (List.Mem.head _)))) _ _ hw1)).of)) :)) ⟨⟩ ?_
     iterate 2 (refine WP.sx tysOk rfl ⟨⟨⟩, ⟨⟩⟩ ?_)
     cases h
     refine WP.retR tysOk rfl rfl ⟨_, _, rfl, rfl, rfl⟩ (fun w1 hw1 => ⟨rfl, Ret.below_ hw1 (.cons (.tail (.tail (.tail (.tail (.tail (.tail (.tail (.tail .head)))))))) .nil)⟩)
    rw [if_neg hh8] at h
    refine WP.no rfl rfl (decide_eq_false hh8) rfl rfl ?_
    iterate 2 (refine WP.no rfl rfl rfl rfl rfl ?_)
    iterate 2 (refine WP.sx tysOk rfl ⟨⟨⟩, ⟨⟩⟩ ?_)
    cases h
    refine WP.retR tysOk rfl rfl ⟨_, _, rfl, rfl, rfl⟩ (fun w1 hw1 => ⟨rfl, Ret.below_ hw1 (.cons (.tail (.tail (.tail (.tail (.tail (.tail (.tail (.tail .head)))))))) .nil)⟩)
   rw [if_neg hh7] at h
   refine WP.no rfl rfl (bfalse hh7) rfl rfl ?_
   iterate 2 (refine WP.no rfl rfl rfl rfl rfl ?_; refine WP.no rfl rfl rfl rfl rfl ?_; refine WP.no rfl rfl rfl rfl rfl ?_; (iterate 2 (refine WP.sx tysOk rfl ⟨⟨⟩, ⟨⟩⟩ ?_)))
   cases h
   refine WP.retR tysOk rfl rfl ⟨_, _, rfl, rfl, rfl⟩ (fun w1 hw1 => ⟨rfl, Ret.below_ hw1 (.cons (.tail (.tail (.tail (.tail (.tail (.tail (.tail (.tail .head)))))))) .nil)⟩)
  rw [if_neg hh6] at h
  refine WP.no rfl rfl (decide_eq_false hh6) rfl rfl ?_
  iterate 2 (refine WP.no rfl rfl rfl rfl rfl ?_)
  iterate 2 (refine WP.sx tysOk rfl ⟨⟨⟩, ⟨⟩⟩ ?_)
  iterate 4 (refine WP.no rfl rfl rfl rfl rfl ?_)
  iterate 2 (refine WP.sx tysOk rfl ⟨⟨⟩, ⟨⟩⟩ ?_)
  iterate 3 (refine WP.no rfl rfl rfl rfl rfl ?_)
  iterate 2 (refine WP.sx tysOk rfl ⟨⟨⟩, ⟨⟩⟩ ?_)
  cases h
  refine WP.retR tysOk rfl rfl ⟨_, _, rfl, rfl, rfl⟩ (fun w1 hw1 => ⟨rfl, Ret.below_ hw1 (.cons (.tail (.tail (.tail (.tail (.tail (.tail (.tail (.tail .head)))))))) .nil)⟩)

abbrev law17_Still_S (r : Inst) : Value → Heap → Prop := fun v L => ∃ (A1 : Option Addr) (n1 c1 : Nat) (A2 : Option Addr) (n2 c2 : Nat), v = .agg #[.slice A1 n1 c1, .slice A2 n2 c2] ∧ OwF A1 n1 r.supply ∧ OwF A2 n2 r.arcs ∧ L = [Ow (fI .i64) 2 A1 n1 c1 r.supply, Ow fA 31 A2 n2 c2 r.arcs]
set_option maxRecDepth 20000 in
set_option maxHeartbeats 8000000 in
theorem law17_Still_w {w : World} {v0 : Value} {v1 : Value} {d1 : List Int} {i1 : List Int} {r : Inst} (h : law17_Still d1 i1 = some r) (p1 : SlF (fI .u8) (PH.of w) v0 d1) (p2 : SlF (fI .u8) (PH.of w) v1 i1) :
    Calls Tryz.prog 12 #[v0, v1] w fun e w' => ∃ v L, e = .returned v ∧ law17_Still_S r v L ∧ Ret w w' L := by
  obtain ⟨A1, c1, rfl, hs1⟩ := p1
  obtain ⟨A2, c2, rfl, hs2⟩ := p2
  unfold law17_Still at h
  refine enter_ Tryz.func12 rfl Tryz.ntmps12 rfl ?_
  refine WP.al tysOk rfl rfl rfl rfl rfl rfl ?_
  intro g1
  refine WP.sx tysOk rfl ⟨⟨⟩, ⟨⟩⟩ ?_
  obtain ⟨r1, hg1, h⟩ := bind_some h
  refine WP.callS (law07_Thin_S r1) rfl rfl rfl rfl rfl rfl rfl (by kernel_rfl) (fun w1 hw1 => (law07_Thin_w hg1 (hs1.le' ((Held.mem (List.Mem.tail _ (List.Mem.head _))) _ _ hw1)).of :)) ?_
  rintro _ _ ⟨A3, n1, c3, A4, n2, c4, rfl, hf1, hf2, rfl⟩
  refine WP.al tysOk rfl rfl rfl rfl rfl rfl ?_
  intro g2
  refine WP.sto' tysOk [.slice A3 n1 c3, .slice A4 n2 c4] rfl rfl rfl rfl rfl rfl rfl rfl rfl .head rfl rfl ?_
  refine WP.sx tysOk rfl ⟨⟨⟩, ⟨⟩⟩ ?_
  refine WP.loop (α := Nat × Int × (List Arc) × (Option Addr) × Nat × Nat) (fun x => lp (law17_Still_b1 i1 r1) x.1 (x.2.1, x.2.2.1) = some r ∧ OwF x.2.2.2.1 x.2.2.2.2.1 x.2.2.1) (fun x => [(1, .slice A2 i1.length c2), (4, pt g1), (5, pt g2), (6, iv x.2.1)]) (fun x => [.blk g2 25 [.slice A3 n1 c3, .slice x.2.2.2.1 x.2.2.2.2.1 x.2.2.2.2.2], Ow (fI .i64) 2 A3 n1 c3 r1.supply, Ow fA 31 x.2.2.2.1 x.2.2.2.2.1 x.2.2.2.2.2 x.2.2.1, .blk g1 25 [sn, sn], .fz (PH.of w)]) (fun x => x.1) rfl (big, 0, r1.arcs, A4, n2, c4) ⟨h, hf2⟩ ?_ ?_ ?_
  ·repeat first|exact ⟨⟩|refine ⟨rfl,?_⟩
  ·exact Pick.all
  rintro ⟨n3, s3, xs14, A6, m2, c6⟩ ⟨h, hf16⟩
  dsimp only at h hf16 ⊢
  rcases n3 with _ | n3
  · exact (lp_no h).elim
  replace h := lp_succ h
  unfold law17_Still_b1 at h
  try dsimp only at h
  iterate 2 (refine WP.sx tysOk rfl ⟨⟨⟩, ⟨⟩⟩ ?_)
  refine WP.lx tysOk rfl ⟨⟩ (CellAt.blk .head rfl) ?_
  refine WP.lenO (xs := xs14) tysOk rfl ⟨⟩ rfl rfl rfl rfl rfl rfl hf16 ?_
  refine WP.sx tysOk rfl ⟨⟨⟩, ⟨⟩⟩ ?_
  refine WP.cond_d rfl rfl (fun hh16 => ?_) (fun hh16 => ?_)
  ·rw [if_pos hh16] at h
   iterate 5 (refine WP.sx tysOk rfl ⟨⟨⟩, ⟨⟩⟩ ?_)
   by_cases hh17 : s3 < (i1.length : Int)
   ·rw [if_pos hh17] at h
    refine WP.yes rfl rfl (decide_eq_true hh17) ?_
    iterate 2 (refine WP.sx tysOk rfl ⟨⟨⟩, ⟨⟩⟩ ?_; refine WP.yes rfl rfl rfl ?_)
    obtain ⟨hj19, h⟩ := ck_some h
    refine WP.ixA tysOk rfl ⟨⟩ rfl rfl rfl rfl rfl rfl rfl rfl hj19 (hs2.ex hj19) ?_
    intro b31 b31v hA31
    refine WP.yes rfl rfl rfl ?_
    refine WP.lx tysOk rfl ⟨⟩ (hs2.at0 hA31 (Held.mem (List.Mem.tail _ (List.Mem.tail _ (List.Mem.tail _ (List.Mem.tail _ (List.Mem.head _)))))) hj19 rfl) ?_
    refine WP.yes rfl rfl rfl ?_
    refine WP.sx tysOk rfl ⟨⟨⟩, (by decide)⟩ ?_
    refine WP.yes rfl rfl rfl ?_
    iterate 2 (refine WP.sx tysOk rfl ⟨⟨⟩, ⟨⟩⟩ ?_)
    refine WP.cond_d rfl rfl (fun hh18 => ?_) (fun hh18 => ?_)
    ·rw [if_pos hh18] at h
     refine WP.sx tysOk rfl ⟨⟨⟩, ⟨⟩⟩ ?_
     refine WP.lx tysOk rfl ⟨⟩ (CellAt.blk .head rfl) ?_
     refine WP.sx tysOk rfl ⟨⟨⟩, ⟨⟩⟩ ?_
     obtain ⟨hj20, h⟩ := ck_some h
     refine WP.ixO tysOk rfl ⟨⟩ rfl rfl rfl rfl rfl rfl rfl rfl hf16 hj20 ?_
     intro b32 hA32
     refine WP.sx tysOk rfl ⟨⟨⟩, ⟨⟩⟩ ?_
     obtain ⟨xs15, hx13, h⟩ := lt_some h
     refine WP.stoO (f := fA) 2 (Arc.mk ((gt xs14 s3).src) ((gt xs14 s3).dst) 1 ((gt xs14 s3).cap) ((gt xs14 s3).cost)) tysOk rfl rfl rfl rfl rfl rfl rfl rfl rfl (.tail (.tail .head)) hA32 hf16 hj20 rfl rfl rfl hx13 ?_
     intro hf17
     refine WP.sx tysOk rfl ⟨⟨⟩, ⟨⟩⟩ ?_
     refine WP.lx tysOk rfl ⟨⟩ (CellAt.blk (.tail .head) rfl) ?_
     refine WP.sx tysOk rfl ⟨⟨⟩, ⟨⟩⟩ ?_
     obtain ⟨hj21, h⟩ := ck_some h
     refine WP.ixO tysOk rfl ⟨⟩ rfl rfl rfl rfl rfl rfl rfl rfl hf17 hj21 ?_
     intro b33 hA33
     refine WP.sx tysOk rfl ⟨⟨⟩, ⟨⟩⟩ ?_
     obtain ⟨xs16, hx14, h⟩ := lt_some h
     refine WP.stoO (f := fA) 3 (Arc.mk ((gt xs15 s3).src) ((gt xs15 s3).dst) ((gt xs15 s3).low) 4611686018427387904 ((gt xs15 s3).cost)) tysOk rfl rfl rfl rfl rfl rfl rfl rfl rfl .head hA33 hf17 hj21 rfl rfl rfl hx14 ?_
     intro hf18
     iterate 3 (refine WP.sx tysOk rfl ⟨⟨⟩, ⟨⟩⟩ ?_)
     refine WP.stop rfl (n3, w64 (s3 + 1), xs16, A6, m2, c6) ⟨⟨h, hf18⟩, Nat.lt_succ_self _⟩ ?_ ?_
     ·repeat first|exact ⟨⟩|refine ⟨rfl,?_⟩
     exact (.cons (.tail .head) (.cons (.tail .head) (.cons .head (.cons .head (.cons .head .nil)))))
    rw [if_neg hh18] at h
    iterate 3 (refine WP.sx tysOk rfl ⟨⟨⟩, ⟨⟩⟩ ?_)
    refine WP.stop rfl (n3, w64 (s3 + 1), xs14, A6, m2, c6) ⟨⟨h, hf16⟩, Nat.lt_succ_self _⟩ ?_ ?_
    ·repeat first|exact ⟨⟩|refine ⟨rfl,?_⟩
    exact Pick.all
   rw [if_neg hh17] at h
   refine WP.no rfl rfl (decide_eq_false hh17) rfl rfl ?_
   iterate 5 (refine WP.no rfl rfl rfl rfl rfl ?_)
   refine WP.sx tysOk rfl ⟨⟨⟩, ⟨⟩⟩ ?_
   refine WP.condF rfl rfl ?_
   iterate 3 (refine WP.sx tysOk rfl ⟨⟨⟩, ⟨⟩⟩ ?_)
   refine WP.stop rfl (n3, w64 (s3 + 1), xs14, A6, m2, c6) ⟨⟨h, hf16⟩, Nat.lt_succ_self _⟩ ?_ ?_
   ·repeat first|exact ⟨⟩|refine ⟨rfl,?_⟩
   exact Pick.all
  rw [if_neg hh16] at h
  iterate 4 (refine WP.sx tysOk rfl ⟨⟨⟩, ⟨⟩⟩ ?_)
  by_cases hh19 : 0 < (i1.length : Int)
  ·rw [if_pos hh19] at h
   refine WP.yes rfl rfl (decide_eq_true hh19) ?_
   refine WP.sx tysOk rfl ⟨⟨⟩, ⟨⟩⟩ ?_
   refine WP.yes rfl rfl rfl ?_
   obtain ⟨hj22, h⟩ := ck_some h
   refine WP.ixA tysOk rfl ⟨⟩ rfl rfl rfl rfl rfl rfl rfl rfl hj22 (hs2.ex hj22) ?_
   intro b34 b34v hA34
   refine WP.yes rfl rfl rfl ?_
   refine WP.lx tysOk rfl ⟨⟩ (hs2.at0 hA34 (Held.mem (List.Mem.tail _ (List.Mem.tail _ (List.Mem.tail _ (List.Mem.tail _ (List.Mem.head _)))))) hj22 rfl) ?_
   refine WP.yes rfl rfl rfl ?_
   refine WP.sx tysOk rfl ⟨⟨⟩, (by decide)⟩ ?_
   refine WP.yes rfl rfl rfl ?_
   iterate 2 (refine WP.sx tysOk rfl ⟨⟨⟩, ⟨⟩⟩ ?_)
   refine WP.cond_d rfl rfl (fun hh20 => ?_) (fun hh20 => ?_)
   ·rw [if_pos hh20] at h
    obtain ⟨hj23, h⟩ := ck_some h
    refine WP.drawL 11 [] rfl (by kernel_rfl) (by kernel_rfl) (by kernel_rfl) ?_
    refine WP.sx tysOk rfl ⟨⟨⟨rfl, rfl⟩, rfl⟩, ⟨⟩⟩ ?_
    refine WP.lx tysOk rfl ⟨⟨rfl, rfl⟩, rfl⟩ (CellAt.blk .head rfl) ?_
    refine WP.ixO tysOk rfl ⟨⟨rfl, rfl⟩, rfl⟩ rfl rfl rfl rfl rfl rfl rfl rfl hf1 hj23 ?_
    intro b35 hA35
    refine WP.lx tysOk rfl ⟨⟨rfl, rfl⟩, rfl⟩ (OwS.at0 (.tail .head) hA35 hj23 rfl) ?_
    refine WP.sx tysOk rfl ⟨⟨⟨rfl, rfl⟩, rfl⟩, ⟨⟩⟩ ?_
    refine WP.ixA tysOk rfl ⟨⟨rfl, rfl⟩, rfl⟩ rfl rfl rfl rfl rfl rfl rfl rfl hj22 (hs2.ex hj22) ?_
    intro b36 b36v hA36
    refine WP.lx tysOk rfl ⟨⟨rfl, rfl⟩, rfl⟩ (hs2.at0 hA36 (Held.mem (List.Mem.tail _ (List.Mem.tail _ (List.Mem.tail _ (List.Mem.tail _ (List.Mem.head _)))))) hj22 rfl) ?_
    refine WP.sx tysOk rfl ⟨⟨⟨rfl, rfl⟩, rfl⟩, (by decide)⟩ ?_
    iterate 2 (refine WP.sx tysOk rfl ⟨⟨⟨rfl, rfl⟩, rfl⟩, ⟨⟩⟩ ?_)
    refine WP.ixO tysOk rfl ⟨⟨rfl, rfl⟩, rfl⟩ rfl rfl rfl rfl rfl rfl rfl rfl hf1 hj23 ?_
    intro b37 hA37
    refine WP.lend rfl ⟨rfl, rfl⟩ ?_
    obtain ⟨xs17, hx15, h⟩ := lt_some h
    refine WP.stoO (f := (fI .i64)) 0 (w64 ((gt r1.supply 0) + (w64 ((gt i1 0).tmod 3)))) tysOk rfl rfl rfl rfl rfl rfl rfl rfl rfl (.tail .head) hA37 hf1 hj23 rfl rfl rfl hx15 ?_
    intro hf19
    obtain ⟨hj24, h⟩ := ck_some h
    refine WP.drawL 15 [] rfl (by kernel_rfl) (by kernel_rfl) (by kernel_rfl) ?_
    refine WP.sx tysOk rfl ⟨⟨⟨rfl, rfl⟩, rfl⟩, ⟨⟩⟩ ?_
    refine WP.lx tysOk rfl ⟨⟨rfl, rfl⟩, rfl⟩ (CellAt.blk (.tail .head) rfl) ?_
    refine WP.sx tysOk rfl ⟨⟨⟨rfl, rfl⟩, rfl⟩, ⟨⟩⟩ ?_
    refine WP.lx tysOk rfl ⟨⟨rfl, rfl⟩, rfl⟩ (CellAt.blk (.tail .head) rfl) ?_
    refine WP.lenO (xs := xs17) tysOk rfl ⟨⟨rfl, rfl⟩, rfl⟩ rfl rfl rfl rfl rfl rfl hf19 ?_
    refine WP.sx tysOk rfl ⟨⟨⟨rfl, rfl⟩, rfl⟩, ⟨⟩⟩ ?_
    refine WP.ixO tysOk rfl ⟨⟨rfl, rfl⟩, rfl⟩ rfl rfl rfl rfl rfl rfl rfl rfl hf19 hj24 ?_
    intro b38 hA38
    refine WP.lx tysOk rfl ⟨⟨rfl, rfl⟩, rfl⟩ (OwS.at0 .head hA38 hj24 rfl) ?_
    refine WP.sx tysOk rfl ⟨⟨⟨rfl, rfl⟩, rfl⟩, ⟨⟩⟩ ?_
    refine WP.ixA tysOk rfl ⟨⟨rfl, rfl⟩, rfl⟩ rfl rfl rfl rfl rfl rfl rfl rfl hj22 (hs2.ex hj22) ?_
    intro b39 b39v hA39
    refine WP.lx tysOk rfl ⟨⟨rfl, rfl⟩, rfl⟩ (hs2.at0 hA39 (Held.mem (List.Mem.tail _ (List.Mem.tail _ (List.Mem.tail _ (List.Mem.tail _ (List.Mem.head _)))))) hj22 rfl) ?_
    refine WP.sx tysOk rfl ⟨⟨⟨rfl, rfl⟩, rfl⟩, (by decide)⟩ ?_
    iterate 2 (refine WP.sx tysOk rfl ⟨⟨⟨rfl, rfl⟩, rfl⟩, ⟨⟩⟩ ?_)
    refine WP.ixO tysOk rfl ⟨⟨rfl, rfl⟩, rfl⟩ rfl rfl rfl rfl rfl rfl rfl rfl hf19 hj24 ?_
    intro b40 hA40
    refine WP.lend rfl ⟨rfl, rfl⟩ ?_
    obtain ⟨xs18, hx16, h⟩ := lt_some h
    refine WP.stoO (f := (fI .i64)) 0 (w64 ((gt xs17 (w64 ((xs17.length : Int) - 1))) - (w64 ((gt i1 0).tmod 3)))) tysOk rfl rfl rfl rfl rfl rfl rfl rfl rfl .head hA40 hf19 hj24 rfl rfl rfl hx16 ?_
    intro hf20
    refine WP.mx_ tysOk rfl ⟨⟩ (SegAt.blk' (.tail .head) rfl) ?_
    refine WP.sto' tysOk [.slice A3 n1 c3, .slice A6 m2 c6] rfl rfl rfl rfl rfl rfl rfl rfl rfl (.tail (.tail (.tail .head))) rfl rfl ?_
    cases h
    refine WP.retR tysOk rfl rfl ⟨_, _, _, _, rfl, ⟨_, rfl, .inr ⟨rfl, _, rfl, rfl, (SegAt.blk' (z := 2) .head rfl).1⟩⟩, rfl, rfl⟩ (fun w1 hw1 => ⟨_, _, rfl, ⟨A3, n1, c3, A6, m2, c6, rfl, hf20, hf16, rfl⟩, Ret.of_KH hw1 (.cons (.tail .head) (.cons (.tail (.tail .head)) (.cons (.tail (.tail .head)) .nil)))⟩)
   rw [if_neg hh20] at h
   refine WP.mx_ tysOk rfl ⟨⟩ (SegAt.blk' .head rfl) ?_
   refine WP.sto' tysOk [.slice A3 n1 c3, .slice A6 m2 c6] rfl rfl rfl rfl rfl rfl rfl rfl rfl (.tail (.tail (.tail .head))) rfl rfl ?_
   cases h
   refine WP.retR tysOk rfl rfl ⟨_, _, _, _, rfl, ⟨_, rfl, .inr ⟨rfl, _, rfl, rfl, (SegAt.blk' (z := 2) .head rfl).1⟩⟩, rfl, rfl⟩ (fun w1 hw1 => ⟨_, _, rfl, ⟨A3, n1, c3, A6, m2, c6, rfl, hf1, hf16, rfl⟩, Ret.of_KH hw1 (.cons (.tail (.tail .head)) (.cons (.tail (.tail .head)) (.cons (.tail (.tail .head)) .nil)))⟩)
  rw [if_neg hh19] at h
  refine WP.no rfl rfl (decide_eq_false hh19) rfl rfl ?_
  iterate 4 (refine WP.no rfl rfl rfl rfl rfl ?_)
  refine WP.sx tysOk rfl ⟨⟨⟩, ⟨⟩⟩ ?_
  refine WP.condF rfl rfl ?_
  refine WP.mx_ tysOk rfl ⟨⟩ (SegAt.blk' .head rfl) ?_
  refine WP.sto' tysOk [.slice A3 n1 c3, .slice A6 m2 c6] rfl rfl rfl rfl rfl rfl rfl rfl rfl (.tail (.tail (.tail .head))) rfl rfl ?_
  cases h
  refine WP.retR tysOk rfl rfl ⟨_, _, _, _, rfl, ⟨_, rfl, .inr ⟨rfl, _, rfl, rfl, (SegAt.blk' (z := 2) .head rfl).1⟩⟩, rfl, rfl⟩ (fun w1 hw1 => ⟨_, _, rfl, ⟨A3, n1, c3, A6, m2, c6, rfl, hf1, hf16, rfl⟩, Ret.of_KH hw1 (.cons (.tail (.tail .head)) (.cons (.tail (.tail .head)) (.cons (.tail (.tail .head)) .nil)))⟩)

abbrev law03_Arcs_S (r : (List Arc)) : Value → Heap → Prop := fun v L => ∃ (A1 : Option Addr) (n1 c1 : Nat), v = .slice A1 n1 c1 ∧ OwF A1 n1 r ∧ L = [Ow fA 31 A1 n1 c1 r]
set_option maxRecDepth 20000 in
set_option maxHeartbeats 8000000 in
theorem law03_Arcs_w {w : World} {v0 : Value} {d1 : List Int} {i1 : Int} {r : (List Arc)} (h : law03_Arcs d1 i1 = some r) (p1 : SlF (fI .u8) (PH.of w) v0 d1) :
    Calls Tryz.prog 37 #[v0, iv i1] w fun e w' => ∃ v L, e = .returned v ∧ law03_Arcs_S r v L ∧ Ret w w' L := by
  obtain ⟨A1, c1, rfl, hs1⟩ := p1
  unfold law03_Arcs at h
  refine enter_ Tryz.func37 rfl Tryz.ntmps37 rfl ?_
  iterate 3 (refine WP.sx tysOk rfl ⟨⟨⟩, ⟨⟩⟩ ?_)
  refine WP.own_nil 31 fA.z ?_
  refine WP.loop (α := Nat × Int × (List Arc) × (Option Addr) × Nat × Nat) (fun x => lp (law03_Arcs_b1 d1 i1) x.1 (x.2.1, x.2.2.1) = some r ∧ OwF x.2.2.2.1 x.2.2.2.2.1 x.2.2.1) (fun x => [(0, .slice A1 d1.length c1), (1, iv i1), (5, .slice x.2.2.2.1 x.2.2.2.2.1 x.2.2.2.2.2), (6, iv x.2.1)]) (fun x => [Ow fA 31 x.2.2.2.1 x.2.2.2.2.1 x.2.2.2.2.2 x.2.2.1, .fz (PH.of w)]) (fun x => x.1) rfl (big, 0, ([] : List Arc), none, 0, 0) ⟨h, OwF.nil_⟩ ?_ ?_ ?_
  ·repeat first|exact ⟨⟩|refine ⟨rfl,?_⟩
  ·exact Pick.all
  rintro ⟨n1, s3, xs18, A19, m2, c19⟩ ⟨h, hf34⟩
  dsimp only at h hf34 ⊢
  rcases n1 with _ | n1
  · exact (lp_no h).elim
  replace h := lp_succ h
  unfold law03_Arcs_b1 at h
  try dsimp only at h
  iterate 6 (refine WP.sx tysOk rfl ⟨⟨⟩, ⟨⟩⟩ ?_)
  by_cases hh21 : (w64 (s3 + 3)) < (d1.length : Int)
  ·rw [if_pos hh21] at h
   refine WP.yes rfl rfl (decide_eq_true hh21) ?_
   refine WP.sx tysOk rfl ⟨⟨⟩, ⟨⟩⟩ ?_
   refine WP.yes rfl rfl rfl ?_
   iterate 2 (refine WP.sx tysOk rfl ⟨⟨⟩, ⟨⟩⟩ ?_)
   refine WP.cond_d rfl rfl (fun hh22 => ?_) (fun hh22 => ?_)
   ·rw [if_pos hh22] at h
    obtain ⟨hj17, h⟩ := ck_some h
    obtain ⟨hz25, h⟩ := ck_some h
    obtain ⟨hz26, h⟩ := ck_some h
    obtain ⟨hj18, h⟩ := ck_some h
    obtain ⟨hj19, h⟩ := ck_some h
    refine WP.drawL 32 [(31, [], fun _ => blkSpec 31 [iv 0, iv 0, iv 0, iv 0, iv 0])] rfl (by kernel_rfl) (by kernel_rfl) (by kernel_rfl) ?_
    iterate 2 (refine WP.sx tysOk rfl ⟨⟨⟨rfl, rfl⟩, rfl⟩, ⟨⟩⟩ ?_)
    refine WP.ixA tysOk rfl ⟨⟨rfl, rfl⟩, rfl⟩ rfl rfl rfl rfl rfl rfl rfl rfl hj17 (hs1.ex hj17) ?_
    intro b25 b25v hA25
    refine WP.lx tysOk rfl ⟨⟨rfl, rfl⟩, rfl⟩ (hs1.at0 hA25 (Held.mem (List.Mem.tail _ (List.Mem.head _))) hj17 rfl) ?_
    iterate 2 (refine WP.sx tysOk rfl ⟨⟨⟨rfl, rfl⟩, rfl⟩, ⟨⟩⟩ ?_)
    refine WP.sx tysOk rfl ⟨⟨⟨rfl, rfl⟩, rfl⟩, hz25⟩ ?_
    iterate 2 (refine WP.sx tysOk rfl ⟨⟨⟨rfl, rfl⟩, rfl⟩, ⟨⟩⟩ ?_)
    refine WP.ixA tysOk rfl ⟨⟨rfl, rfl⟩, rfl⟩ rfl rfl rfl rfl rfl rfl rfl rfl hj17 (hs1.ex hj17) ?_
    intro b26 b26v hA26
    refine WP.lx tysOk rfl ⟨⟨rfl, rfl⟩, rfl⟩ (hs1.at0 hA26 (Held.mem (List.Mem.tail _ (List.Mem.head _))) hj17 rfl) ?_
    refine WP.sx tysOk rfl ⟨⟨⟨rfl, rfl⟩, rfl⟩, (by decide)⟩ ?_
    iterate 2 (refine WP.sx tysOk rfl ⟨⟨⟨rfl, rfl⟩, rfl⟩, ⟨⟩⟩ ?_)
    refine WP.sx tysOk rfl ⟨⟨⟨rfl, rfl⟩, rfl⟩, hz26⟩ ?_
    iterate 3 (refine WP.sx tysOk rfl ⟨⟨⟨rfl, rfl⟩, rfl⟩, ⟨⟩⟩ ?_)
    refine WP.ixA tysOk rfl ⟨⟨rfl, rfl⟩, rfl⟩ rfl rfl rfl rfl rfl rfl rfl rfl hj18 (hs1.ex hj18) ?_
    intro b27 b27v hA27
    refine WP.lx tysOk rfl ⟨⟨rfl, rfl⟩, rfl⟩ (hs1.at0 hA27 (Held.mem (List.Mem.tail _ (List.Mem.head _))) hj18 rfl) ?_
    refine WP.sx tysOk rfl ⟨⟨⟨rfl, rfl⟩, rfl⟩, (by decide)⟩ ?_
    iterate 4 (refine WP.sx tysOk rfl ⟨⟨⟨rfl, rfl⟩, rfl⟩, ⟨⟩⟩ ?_)
    refine WP.ixA tysOk rfl ⟨⟨rfl, rfl⟩, rfl⟩ rfl rfl rfl rfl rfl rfl rfl rfl hj19 (hs1.ex hj19) ?_
    intro b28 b28v hA28
    refine WP.lx tysOk rfl ⟨⟨rfl, rfl⟩, rfl⟩ (hs1.at0 hA28 (Held.mem (List.Mem.tail _ (List.Mem.head _))) hj19 rfl) ?_
    refine WP.sx tysOk rfl ⟨⟨⟨rfl, rfl⟩, rfl⟩, (by decide)⟩ ?_
    iterate 2 (refine WP.sx tysOk rfl ⟨⟨⟨rfl, rfl⟩, rfl⟩, ⟨⟩⟩ ?_)
    refine WP.bld (cs := [iv ((w64 ((gt d1 s3))).tmod i1), iv ((w64 (IntKind.wrap .u8 ((gt d1 s3).tdiv 16))).tmod i1), iv (w64 ((gt d1 (w64 (s3 + 1))).tmod 3)), iv 0, iv (w64 ((w64 ((gt d1 (w64 (s3 + 2))).tmod 21)) - 8))]) tysOk rfl ⟨⟨rfl, rfl⟩, rfl⟩ rfl rfl rfl rfl rfl rfl rfl ?_
    refine WP.lal tysOk rfl ⟨rfl, rfl⟩ rfl rfl rfl rfl rfl rfl rfl ?_
    intro g21
    refine WP.lend rfl ⟨rfl, rfl⟩ ?_
    refine WP.sto' tysOk [iv ((w64 ((gt d1 s3))).tmod i1), iv ((w64 (IntKind.wrap .u8 ((gt d1 s3).tdiv 16))).tmod i1), iv (w64 ((gt d1 (w64 (s3 + 1))).tmod 3)), iv 0, iv (w64 ((w64 ((gt d1 (w64 (s3 + 2))).tmod 21)) - 8))] rfl rfl rfl rfl rfl rfl rfl rfl rfl .head rfl rfl ?_
    refine WP.drawL 12 [] rfl (by kernel_rfl) (by kernel_rfl) (by kernel_rfl) ?_
    refine WP.sx tysOk rfl ⟨⟨⟨rfl, rfl⟩, rfl⟩, ⟨⟩⟩ ?_
    refine WP.lx tysOk rfl ⟨⟨rfl, rfl⟩, rfl⟩ (CellAt.blk .head rfl) ?_
    iterate 3 (refine WP.sx tysOk rfl ⟨⟨⟨rfl, rfl⟩, rfl⟩, ⟨⟩⟩ ?_)
    refine WP.ixA tysOk rfl ⟨⟨rfl, rfl⟩, rfl⟩ rfl rfl rfl rfl rfl rfl rfl rfl hj18 (hs1.ex hj18) ?_
    intro b29 b29v hA29
    refine WP.lx tysOk rfl ⟨⟨rfl, rfl⟩, rfl⟩ (hs1.at0 hA29 (Held.mem (List.Mem.tail _ (List.Mem.tail _ (List.Mem.head _)))) hj18 rfl) ?_
    iterate 2 (refine WP.sx tysOk rfl ⟨⟨⟨rfl, rfl⟩, rfl⟩, (by decide)⟩ ?_)
    iterate 3 (refine WP.sx tysOk rfl ⟨⟨⟨rfl, rfl⟩, rfl⟩, ⟨⟩⟩ ?_)
    refine WP.lend rfl ⟨rfl, rfl⟩ ?_
    refine WP.sto' tysOk [iv ((w64 ((gt d1 s3))).tmod i1), iv ((w64 (IntKind.wrap .u8 ((gt d1 s3).tdiv 16))).tmod i1), iv (w64 ((gt d1 (w64 (s3 + 1))).tmod 3)), iv (w64 ((w64 ((gt d1 (w64 (s3 + 1))).tmod 3)) + (w64 ((IntKind.wrap .u8 ((gt d1 (w64 (s3 + 1))).tdiv 3)).tmod 6)))), iv (w64 ((w64 ((gt d1 (w64 (s3 + 2))).tmod 21)) - 8))] rfl rfl rfl rfl rfl rfl rfl rfl rfl .head rfl rfl ?_
    iterate 3 (refine WP.sx tysOk rfl ⟨⟨⟩, ⟨⟩⟩ ?_)
    obtain ⟨hj20, h⟩ := ck_some h
    refine WP.ixA tysOk rfl ⟨⟩ rfl rfl rfl rfl rfl rfl rfl rfl hj20 (hs1.ex hj20) ?_
    intro b30 b30v hA30
    refine WP.lx tysOk rfl ⟨⟩ (hs1.at0 hA30 (Held.mem (List.Mem.tail _ (List.Mem.tail _ (List.Mem.head _)))) hj20 rfl) ?_
    refine WP.sx tysOk rfl ⟨⟨⟩, (by decide)⟩ ?_
    iterate 2 (refine WP.sx tysOk rfl ⟨⟨⟩, ⟨⟩⟩ ?_)
    refine WP.cond_d rfl rfl (fun hh23 => ?_) (fun hh23 => ?_)
    ·rw [if_pos hh23] at h
     refine WP.sx tysOk rfl ⟨⟨⟩, ⟨⟩⟩ ?_
     refine WP.sto' tysOk [iv ((w64 ((gt d1 s3))).tmod i1), iv ((w64 (IntKind.wrap .u8 ((gt d1 s3).tdiv 16))).tmod i1), iv (w64 ((gt d1 (w64 (s3 + 1))).tmod 3)), iv 4611686018427387904, iv (w64 ((w64 ((gt d1 (w64 (s3 + 2))).tmod 21)) - 8))] rfl rfl rfl rfl rfl rfl rfl rfl rfl .head rfl rfl ?_
     refine WP.sx tysOk rfl ⟨⟨⟩, ⟨⟩⟩ ?_
     refine WP.mx_ tysOk rfl ⟨⟩ (SegAt.blk' .head rfl) ?_
     refine WP.bsO (f := fA) [(Arc.mk ((w64 ((gt d1 s3))).tmod i1) ((w64 (IntKind.wrap .u8 ((gt d1 s3).tdiv 16))).tmod i1) (w64 ((gt d1 (w64 (s3 + 1))).tmod 3)) 4611686018427387904 (w64 ((w64 ((gt d1 (w64 (s3 + 2))).tmod 21)) - 8)))] tysOk rfl rfl rfl rfl rfl rfl rfl rfl rfl rfl rfl rfl rfl rfl ?_
     intro g22 hf35
     obtain ⟨hl17, h⟩ := ck_some h
     obtain ⟨xs19, hz27, h⟩ := lt_some h
     refine WP.appO (f := fA) (xs := xs18) (ys := [(Arc.mk ((w64 ((gt d1 s3))).tmod i1) ((w64 (IntKind.wrap .u8 ((gt d1 s3).tdiv 16))).tmod i1) (w64 ((gt d1 (w64 (s3 + 1))).tmod 3)) 4611686018427387904 (w64 ((w64 ((gt d1 (w64 (s3 + 2))).tmod 21)) - 8)))]) tysOk rfl rfl rfl rfl rfl rfl rfl rfl rfl rfl rfl rfl (.tail (.tail .head)) hf34 hf35.len (OwS.app .head hf35) hl17 hz27 ?_
     intro A20 c20 hf36
     iterate 4 (refine WP.sx tysOk rfl ⟨⟨⟩, ⟨⟩⟩ ?_)
     refine WP.stop rfl (n1, w64 (s3 + 4), xs19, A20, xs19.length, c20) ⟨⟨h, hf36⟩, Nat.lt_succ_self _⟩ ?_ ?_
     ·repeat first|exact ⟨⟩|refine ⟨rfl,?_⟩
     exact (.cons .head (.cons (.tail (.tail .head)) .nil))
    rw [if_neg hh23] at h
    iterate 2 (refine WP.sx tysOk rfl ⟨⟨⟩, ⟨⟩⟩ ?_)
    refine WP.cond_d rfl rfl (fun hh24 => ?_) (fun hh24 => ?_)
    ·rw [if_pos hh24] at h
     refine WP.sx tysOk rfl ⟨⟨⟩, ⟨⟩⟩ ?_
     refine WP.sto' tysOk [iv ((w64 ((gt d1 s3))).tmod i1), iv ((w64 (IntKind.wrap .u8 ((gt d1 s3).tdiv 16))).tmod i1), iv 0, iv (w64 ((w64 ((gt d1 (w64 (s3 + 1))).tmod 3)) + (w64 ((IntKind.wrap .u8 ((gt d1 (w64 (s3 + 1))).tdiv 3)).tmod 6)))), iv (w64 ((w64 ((gt d1 (w64 (s3 + 2))).tmod 21)) - 8))] rfl rfl rfl rfl rfl rfl rfl rfl rfl .head rfl rfl ?_
     refine WP.sx tysOk rfl ⟨⟨⟩, ⟨⟩⟩ ?_
     refine WP.mx_ tysOk rfl ⟨⟩ (SegAt.blk' .head rfl) ?_
     refine WP.bsO (f := fA) [(Arc.mk ((w64 ((gt d1 s3))).tmod i1) ((w64 (IntKind.wrap .u8 ((gt d1 s3).tdiv 16))).tmod i1) 0 (w64 ((w64 ((gt d1 (w64 (s3 + 1))).tmod 3)) + (w64 ((IntKind.wrap .u8 ((gt d1 (w64 (s3 + 1))).tdiv 3)).tmod 6)))) (w64 ((w64 ((gt d1 (w64 (s3 + 2))).tmod 21)) - 8)))] tysOk rfl rfl rfl rfl rfl rfl rfl rfl rfl rfl rfl rfl rfl rfl ?_
     intro g23 hf37
     obtain ⟨hl18, h⟩ := ck_some h
     obtain ⟨xs20, hz28, h⟩ := lt_some h
     refine WP.appO (f := fA) (xs := xs18) (ys := [(Arc.mk ((w64 ((gt d1 s3))).tmod i1) ((w64 (IntKind.wrap .u8 ((gt d1 s3).tdiv 16))).tmod i1) 0 (w64 ((w64 ((gt d1 (w64 (s3 + 1))).tmod 3)) + (w64 ((IntKind.wrap .u8 ((gt d1 (w64 (s3 + 1))).tdiv 3)).tmod 6)))) (w64 ((w64 ((gt d1 (w64 (s3 + 2))).tmod 21)) - 8)))]) tysOk rfl rfl rfl rfl rfl rfl rfl rfl rfl rfl rfl rfl (.tail (.tail .head)) hf34 hf37.len (OwS.app .head hf37) hl18 hz28 ?_
     intro A21 c21 hf38
     iterate 4 (refine WP.sx tysOk rfl ⟨⟨⟩, ⟨⟩⟩ ?_)
     refine WP.stop rfl (n1, w64 (s3 + 4), xs20, A21, xs20.length, c21) ⟨⟨h, hf38⟩, Nat.lt_succ_self _⟩ ?_ ?_
     ·repeat first|exact ⟨⟩|refine ⟨rfl,?_⟩
     exact (.cons .head (.cons (.tail (.tail .head)) .nil))
    rw [if_neg hh24] at h
    iterate 2 (refine WP.sx tysOk rfl ⟨⟨⟩, ⟨⟩⟩ ?_)
    refine WP.cond_d rfl rfl (fun hh25 => ?_) (fun hh25 => ?_)
    ·rw [if_pos hh25] at h
     refine WP.sx tysOk rfl ⟨⟨⟩, ⟨⟩⟩ ?_
     refine WP.sto' tysOk [iv ((w64 ((gt d1 s3))).tmod i1), iv ((w64 (IntKind.wrap .u8 ((gt d1 s3).tdiv 16))).tmod i1), iv (w64 ((gt d1 (w64 (s3 + 1))).tmod 3)), iv (w64 ((w64 ((gt d1 (w64 (s3 + 1))).tmod 3)) + (w64 ((IntKind.wrap .u8 ((gt d1 (w64 (s3 + 1))).tdiv 3)).tmod 6)))), iv 0] rfl rfl rfl rfl rfl rfl rfl rfl rfl .head rfl rfl ?_
     refine WP.sx tysOk rfl ⟨⟨⟩, ⟨⟩⟩ ?_
     refine WP.mx_ tysOk rfl ⟨⟩ (SegAt.blk' .head rfl) ?_
     refine WP.bsO (f := fA) [(Arc.mk ((w64 ((gt d1 s3))).tmod i1) ((w64 (IntKind.wrap .u8 ((gt d1 s3).tdiv 16))).tmod i1) (w64 ((gt d1 (w64 (s3 + 1))).tmod 3)) (w64 ((w64 ((gt d1 (w64 (s3 + 1))).tmod 3)) + (w64 ((IntKind.wrap .u8 ((gt d1 (w64 (s3 + 1))).tdiv 3)).tmod 6)))) 0)] tysOk rfl rfl rfl rfl rfl rfl rfl rfl rfl rfl rfl rfl rfl rfl ?_
     intro g24 hf39
     obtain ⟨hl19, h⟩ := ck_some h
     obtain ⟨xs21, hz29, h⟩ := lt_some h
     refine WP.appO (f := fA) (xs := xs18) (ys := [(Arc.mk ((w64 ((gt d1 s3))).tmod i1) ((w64 (IntKind.wrap .u8 ((gt d1 s3).tdiv 16))).tmod i1) (w64 ((gt d1 (w64 (s3 + 1))).tmod 3)) (w64 ((w64 ((gt d1 (w64 (s3 + 1))).tmod 3)) + (w64 ((IntKind.wrap .u8 ((gt d1 (w64 (s3 + 1))).tdiv 3)).tmod 6)))) 0)]) tysOk rfl rfl rfl rfl rfl rfl rfl rfl rfl rfl rfl rfl (.tail (.tail .head)) hf34 hf39.len (OwS.app .head hf39) hl19 hz29 ?_
     intro A22 c22 hf40
     iterate 4 (refine WP.sx tysOk rfl ⟨⟨⟩, ⟨⟩⟩ ?_)
     refine WP.stop rfl (n1, w64 (s3 + 4), xs21, A22, xs21.length, c22) ⟨⟨h, hf40⟩, Nat.lt_succ_self _⟩ ?_ ?_
     ·repeat first|exact ⟨⟩|refine ⟨rfl,?_⟩
     exact (.cons .head (.cons (.tail (.tail .head)) .nil))
    rw [if_neg hh25] at h
    refine WP.sx tysOk rfl ⟨⟨⟩, ⟨⟩⟩ ?_
    refine WP.mx_ tysOk rfl ⟨⟩ (SegAt.blk' .head rfl) ?_
    refine WP.bsO (f := fA) [(Arc.mk ((w64 ((gt d1 s3))).tmod i1) ((w64 (IntKind.wrap .u8 ((gt d1 s3).tdiv 16))).tmod i1) (w64 ((gt d1 (w64 (s3 + 1))).tmod 3)) (w64 ((w64 ((gt d1 (w64 (s3 + 1))).tmod 3)) + (w64 ((IntKind.wrap .u8 ((gt d1 (w64 (s3 + 1))).tdiv 3)).tmod 6)))) (w64 ((w64 ((gt d1 (w64 (s3 + 2))).tmod 21)) - 8)))] tysOk rfl rfl rfl rfl rfl rfl rfl rfl rfl rfl rfl rfl rfl rfl ?_
    intro g25 hf41
    obtain ⟨hl20, h⟩ := ck_some h
    obtain ⟨xs22, hz30, h⟩ := lt_some h
    refine WP.appO (f := fA) (xs := xs18) (ys := [(Arc.mk ((w64 ((gt d1 s3))).tmod i1) ((w64 (IntKind.wrap .u8 ((gt d1 s3).tdiv 16))).tmod i1) (w64 ((gt d1 (w64 (s3 + 1))).tmod 3)) (w64 ((w64 ((gt d1 (w64 (s3 + 1))).tmod 3)) + (w64 ((IntKind.wrap .u8 ((gt d1 (w64 (s3 + 1))).tdiv 3)).tmod 6)))) (w64 ((w64 ((gt d1 (w64 (s3 + 2))).tmod 21)) - 8)))]) tysOk rfl rfl rfl rfl rfl rfl rfl rfl rfl rfl rfl rfl (.tail (.tail .head)) hf34 hf41.len (OwS.app .head hf41) hl20 hz30 ?_
    intro A23 c23 hf42
    iterate 4 (refine WP.sx tysOk rfl ⟨⟨⟩, ⟨⟩⟩ ?_)
    refine WP.stop rfl (n1, w64 (s3 + 4), xs22, A23, xs22.length, c23) ⟨⟨h, hf42⟩, Nat.lt_succ_self _⟩ ?_ ?_
    ·repeat first|exact ⟨⟩|refine ⟨rfl,?_⟩
    exact (.cons .head (.cons (.tail (.tail .head)) .nil))
   rw [if_neg hh22] at h
   iterate 2 (refine WP.sx tysOk rfl ⟨⟨⟩, ⟨⟩⟩ ?_)
   cases h
   refine WP.retR tysOk rfl rfl ⟨_, _, rfl, rfl, rfl⟩ (fun w1 hw1 => ⟨_, _, rfl, ⟨A19, m2, c19, rfl, hf34, rfl⟩, Ret.of_KH hw1 (.cons .head (.cons .head .nil))⟩)
  rw [if_neg hh21] at h
  refine WP.no rfl rfl (decide_eq_false hh21) rfl rfl ?_
  refine WP.no rfl rfl rfl rfl rfl ?_
  refine WP.sx tysOk rfl ⟨⟨⟩, ⟨⟩⟩ ?_
  refine WP.condF rfl rfl ?_
  iterate 2 (refine WP.sx tysOk rfl ⟨⟨⟩, ⟨⟩⟩ ?_)
  cases h
  refine WP.retR tysOk rfl rfl ⟨_, _, rfl, rfl, rfl⟩ (fun w1 hw1 => ⟨_, _, rfl, ⟨A19, m2, c19, rfl, hf34, rfl⟩, Ret.of_KH hw1 (.cons .head (.cons .head .nil))⟩)

abbrev law03_Inst_S (r : Inst) : Value → Heap → Prop := fun v L => ∃ (A1 : Option Addr) (n1 c1 : Nat) (A2 : Option Addr) (n2 c2 : Nat), v = .agg #[.slice A1 n1 c1, .slice A2 n2 c2] ∧ OwF A1 n1 r.supply ∧ OwF A2 n2 r.arcs ∧ L = [Ow (fI .i64) 2 A1 n1 c1 r.supply, Ow fA 31 A2 n2 c2 r.arcs]
set_option maxRecDepth 20000 in
set_option maxHeartbeats 8000000 in
theorem law03_Inst_w {w : World} {v0 : Value} {v1 : Value} {d1 : List Int} {i1 : List Int} {r : Inst} (h : law03_Inst d1 i1 = some r) (p1 : SlF (fI .u8) (PH.of w) v0 d1) (p2 : SlF (fI .u8) (PH.of w) v1 i1) :
    Calls Tryz.prog 13 #[v0, v1] w fun e w' => ∃ v L, e = .returned v ∧ law03_Inst_S r v L ∧ Ret w w' L := by
  obtain ⟨A1, c1, rfl, hs1⟩ := p1
  obtain ⟨A2, c2, rfl, hs2⟩ := p2
  unfold law03_Inst at h
  refine enter_ Tryz.func13 rfl Tryz.ntmps13 rfl ?_
  refine WP.al tysOk rfl rfl rfl rfl rfl rfl ?_
  intro g1
  iterate 4 (refine WP.sx tysOk rfl ⟨⟨⟩, ⟨⟩⟩ ?_)
  refine WP.cond_d rfl rfl (fun hh1 => ?_) (fun hh1 => ?_)
  ·rw [if_pos hh1] at h
   refine WP.sx tysOk rfl ⟨⟨⟩, ⟨⟩⟩ ?_
   obtain ⟨hj1, h⟩ := ck_some h
   refine WP.ixA tysOk rfl ⟨⟩ rfl rfl rfl rfl rfl rfl rfl rfl hj1 (hs2.ex hj1) ?_
   intro b1 b1v hA1
   refine WP.lx tysOk rfl ⟨⟩ (hs2.at0 hA1 (Held.mem (List.Mem.tail _ (List.Mem.head _))) hj1 rfl) ?_
   refine WP.sx tysOk rfl ⟨⟨⟩, (by decide)⟩ ?_
   iterate 3 (refine WP.sx tysOk rfl ⟨⟨⟩, ⟨⟩⟩ ?_)
   obtain ⟨hm1, h⟩ := ck_some h
   obtain ⟨r1, hg1, h⟩ := bind_some h
   refine WP.drawL 7 [(1, [], fun _ => mkSpec 2 (w64 (1 + (w64 ((gt i1 0).tmod 7)))).toNat (iv 0)), (4, [], fun _ => law03_Arcs_S r1), (6, [], fun _ => blkSpec 25 [sn, sn])] rfl (by kernel_rfl) (by kernel_rfl) (by kernel_rfl) ?_
   refine WP.sx tysOk rfl ⟨⟨⟨rfl, rfl⟩, rfl⟩, ⟨⟩⟩ ?_
   refine WP.lmO tysOk rfl ⟨rfl, rfl⟩ rfl rfl rfl rfl rfl rfl rfl rfl rfl rfl hm1 ?_
   intro g2
   iterate 2 (refine WP.sx tysOk rfl ⟨⟨⟨rfl, rfl⟩, rfl⟩, ⟨⟩⟩ ?_)
   refine WP.lcall rfl ⟨rfl, rfl⟩ rfl rfl rfl rfl rfl rfl rfl (by kernel_rfl) (fun w1 hw1 => (law03_Arcs_w hg1 (hs1.le' ((Held.mem (List.Mem.tail _ (List.Mem.head _))) _ _ hw1)).of :)) ?_
   rintro _ _ ⟨A3, n1, c3, rfl, hf2, rfl⟩
   refine WP.bld (cs := [.slice (some ⟨g2, 0, none⟩) ((w64 (1 + (w64 ((gt i1 0).tmod 7)))).toNat) ((w64 (1 + (w64 ((gt i1 0).tmod 7)))).toNat), .slice A3 n1 c3]) tysOk rfl ⟨⟨rfl, rfl⟩, rfl⟩ rfl rfl rfl rfl rfl rfl rfl ?_
   refine WP.lal tysOk rfl ⟨rfl, rfl⟩ rfl rfl rfl rfl rfl rfl rfl ?_
   intro g3
   refine WP.lend rfl ⟨rfl, rfl⟩ ?_
   refine WP.shutM (f := (fI .i64)) 0 (.tail (.tail .head)) rfl rfl hm1 ?_
   intro hf1
   refine WP.sto' tysOk [.slice (some ⟨g2, 0, none⟩) ((w64 (1 + (w64 ((gt i1 0).tmod 7)))).toNat) ((w64 (1 + (w64 ((gt i1 0).tmod 7)))).toNat), .slice A3 n1 c3] rfl rfl rfl rfl rfl rfl rfl rfl rfl (.tail .head) rfl rfl ?_
   refine WP.sx tysOk rfl ⟨⟨⟩, ⟨⟩⟩ ?_
   refine WP.loop (α := Nat × Int × (List Int) × (Option Addr) × Nat × Nat) (fun x => lp (law03_Inst_b1 i1 r1) x.1 (x.2.1, x.2.2.1) = some r ∧ OwF x.2.2.2.1 x.2.2.2.2.1 x.2.2.1) (fun x => [(1, .slice A2 i1.length c2), (4, pt g1), (5, iv (w64 (1 + (w64 ((gt i1 0).tmod 7))))), (6, pt g3), (7, iv x.2.1)]) (fun x => [.blk g3 25 [.slice x.2.2.2.1 x.2.2.2.2.1 x.2.2.2.2.2, .slice A3 n1 c3], Ow (fI .i64) 2 x.2.2.2.1 x.2.2.2.2.1 x.2.2.2.2.2 x.2.2.1, Ow fA 31 A3 n1 c3 r1, .blk g1 25 [sn, sn], .fz (PH.of w)]) (fun x => x.1) rfl (big, 0, (List.replicate (w64 (1 + (w64 ((gt i1 0).tmod 7)))).toNat 0), (some ⟨g2, 0, none⟩), (w64 (1 + (w64 ((gt i1 0).tmod 7)))).toNat, (w64 (1 + (w64 ((gt i1 0).tmod 7)))).toNat) ⟨h, hf1⟩ ?_ ?_ ?_
   ·repeat first|exact ⟨⟩|refine ⟨rfl,?_⟩
   ·exact Pick.all
   rintro ⟨n2, s3, xs20, A5, m2, c5⟩ ⟨h, hf22⟩
   dsimp only at h hf22 ⊢
   rcases n2 with _ | n2
   · exact (lp_no h).elim
   replace h := lp_succ h
   unfold law03_Inst_b1 at h
   try dsimp only at h
   iterate 2 (refine WP.sx tysOk rfl ⟨⟨⟩, ⟨⟩⟩ ?_)
   refine WP.lx tysOk rfl ⟨⟩ (CellAt.blk .head rfl) ?_
   refine WP.lenO (xs := r1) tysOk rfl ⟨⟩ rfl rfl rfl rfl rfl rfl hf2 ?_
   refine WP.sx tysOk rfl ⟨⟨⟩, ⟨⟩⟩ ?_
   refine WP.cond_d rfl rfl (fun hh14 => ?_) (fun hh14 => ?_)
   ·rw [if_pos hh14] at h
    refine WP.sx tysOk rfl ⟨⟨⟩, ⟨⟩⟩ ?_
    refine WP.lx tysOk rfl ⟨⟩ (CellAt.blk .head rfl) ?_
    refine WP.sx tysOk rfl ⟨⟨⟩, ⟨⟩⟩ ?_
    obtain ⟨hj32, h⟩ := ck_some h
    refine WP.ixO tysOk rfl ⟨⟩ rfl rfl rfl rfl rfl rfl rfl rfl hf2 hj32 ?_
    intro b50 hA50
    refine WP.mx_ tysOk rfl ⟨⟩ (OwS.seg (.tail (.tail .head)) hA50 hj32) ?_
    refine WP.al tysOk rfl rfl rfl rfl rfl rfl ?_
    intro g7
    refine WP.sto' tysOk [iv ((gt r1 s3).src), iv ((gt r1 s3).dst), iv ((gt r1 s3).low), iv ((gt r1 s3).cap), iv ((gt r1 s3).cost)] rfl rfl rfl rfl rfl rfl rfl rfl rfl .head rfl rfl ?_
    refine WP.sx tysOk rfl ⟨⟨⟩, ⟨⟩⟩ ?_
    refine WP.lx tysOk rfl ⟨⟩ (CellAt.blk .head rfl) ?_
    iterate 6 (refine WP.sx tysOk rfl ⟨⟨⟩, ⟨⟩⟩ ?_)
    refine WP.cond_d rfl rfl (fun hh15 => ?_) (fun hh15 => ?_)
    ·rw [if_pos hh15] at h
     refine WP.draw rfl (by kernel_rfl) (by kernel_rfl) ?_
     refine WP.sx tysOk rfl ⟨rfl, ⟨⟩⟩ ?_
     refine WP.lx tysOk rfl rfl (CellAt.blk .head rfl) ?_
     iterate 3 (refine WP.sx tysOk rfl ⟨rfl, ⟨⟩⟩ ?_)
     obtain ⟨hj33, h⟩ := ck_some h
     refine WP.ixA tysOk rfl rfl rfl rfl rfl rfl rfl rfl rfl rfl hj33 (hs2.ex hj33) ?_
     intro b51 b51v hA51
     refine WP.lx tysOk rfl rfl (hs2.at0 hA51 (Held.mem (List.Mem.tail _ (List.Mem.tail _ (List.Mem.tail _ (List.Mem.tail _ (List.Mem.tail _ (List.Mem.head _))))))) hj33 rfl) ?_
     refine WP.sx tysOk rfl ⟨rfl, (by decide)⟩ ?_
     iterate 3 (refine WP.sx tysOk rfl ⟨rfl, ⟨⟩⟩ ?_)
     refine WP.lx tysOk rfl rfl (CellAt.blk .head rfl) ?_
     refine WP.mn rfl rfl rfl rfl rfl rfl rfl rfl ?_
     refine WP.sx tysOk rfl ⟨rfl, ⟨⟩⟩ ?_
     refine WP.qend rfl ?_
     refine WP.sx tysOk rfl ⟨⟨⟩, ⟨⟩⟩ ?_
     refine WP.lx tysOk rfl ⟨⟩ (CellAt.blk (.tail .head) rfl) ?_
     refine WP.sx tysOk rfl ⟨⟨⟩, ⟨⟩⟩ ?_
     refine WP.lx tysOk rfl ⟨⟩ (CellAt.blk .head rfl) ?_
     obtain ⟨hj34, h⟩ := ck_some h
     refine WP.ixO tysOk rfl ⟨⟩ rfl rfl rfl rfl rfl rfl rfl rfl hf22 hj34 ?_
     intro b52 hA52
     refine WP.lx tysOk rfl ⟨⟩ (OwS.at0 (.tail (.tail .head)) hA52 hj34 rfl) ?_
     iterate 2 (refine WP.sx tysOk rfl ⟨⟨⟩, ⟨⟩⟩ ?_)
     refine WP.ixO tysOk rfl ⟨⟩ rfl rfl rfl rfl rfl rfl rfl rfl hf22 hj34 ?_
     intro b53 hA53
     obtain ⟨xs21, hx19, h⟩ := lt_some h
     refine WP.stoO (f := (fI .i64)) 0 (w64 ((gt xs20 ((gt r1 s3).src)) + (if ((gt r1 s3).cap) < (w64 (((gt r1 s3).low) + (w64 ((gt i1 (w64 (s3 + 1))).tmod 4)))) then (gt r1 s3).cap else w64 (((gt r1 s3).low) + (w64 ((gt i1 (w64 (s3 + 1))).tmod 4)))))) tysOk rfl rfl rfl rfl rfl rfl rfl rfl rfl (.tail (.tail .head)) hA53 hf22 hj34 rfl rfl rfl hx19 ?_
     intro hf23
     refine WP.sx tysOk rfl ⟨⟨⟩, ⟨⟩⟩ ?_
     refine WP.lx tysOk rfl ⟨⟩ (CellAt.blk (.tail (.tail .head)) rfl) ?_
     refine WP.sx tysOk rfl ⟨⟨⟩, ⟨⟩⟩ ?_
     refine WP.lx tysOk rfl ⟨⟩ (CellAt.blk (.tail .head) rfl) ?_
     obtain ⟨hj35, h⟩ := ck_some h
     refine WP.ixO tysOk rfl ⟨⟩ rfl rfl rfl rfl rfl rfl rfl rfl hf23 hj35 ?_
     intro b54 hA54
     refine WP.lx tysOk rfl ⟨⟩ (OwS.at0 .head hA54 hj35 rfl) ?_
     iterate 2 (refine WP.sx tysOk rfl ⟨⟨⟩, ⟨⟩⟩ ?_)
     refine WP.ixO tysOk rfl ⟨⟩ rfl rfl rfl rfl rfl rfl rfl rfl hf23 hj35 ?_
     intro b55 hA55
     obtain ⟨xs22, hx20, h⟩ := lt_some h
     refine WP.stoO (f := (fI .i64)) 0 (w64 ((gt xs21 ((gt r1 s3).dst)) - (if ((gt r1 s3).cap) < (w64 (((gt r1 s3).low) + (w64 ((gt i1 (w64 (s3 + 1))).tmod 4)))) then (gt r1 s3).cap else w64 (((gt r1 s3).low) + (w64 ((gt i1 (w64 (s3 + 1))).tmod 4)))))) tysOk rfl rfl rfl rfl rfl rfl rfl rfl rfl .head hA55 hf23 hj35 rfl rfl rfl hx20 ?_
     intro hf24
     iterate 3 (refine WP.sx tysOk rfl ⟨⟨⟩, ⟨⟩⟩ ?_)
     refine WP.stop rfl (n2, w64 (s3 + 1), xs22, A5, m2, c5) ⟨⟨h, hf24⟩, Nat.lt_succ_self _⟩ ?_ ?_
     ·repeat first|exact ⟨⟩|refine ⟨rfl,?_⟩
     exact (.cons (.tail (.tail .head)) (.cons .head (.cons (.tail .head) (.cons (.tail .head) (.cons (.tail .head) .nil)))))
    rw [if_neg hh15] at h
    refine WP.sx tysOk rfl ⟨⟨⟩, ⟨⟩⟩ ?_
    refine WP.lx tysOk rfl ⟨⟩ (CellAt.blk (.tail .head) rfl) ?_
    refine WP.sx tysOk rfl ⟨⟨⟩, ⟨⟩⟩ ?_
    refine WP.lx tysOk rfl ⟨⟩ (CellAt.blk .head rfl) ?_
    obtain ⟨hj36, h⟩ := ck_some h
    refine WP.ixO tysOk rfl ⟨⟩ rfl rfl rfl rfl rfl rfl rfl rfl hf22 hj36 ?_
    intro b56 hA56
    refine WP.lx tysOk rfl ⟨⟩ (OwS.at0 (.tail (.tail .head)) hA56 hj36 rfl) ?_
    iterate 2 (refine WP.sx tysOk rfl ⟨⟨⟩, ⟨⟩⟩ ?_)
    refine WP.ixO tysOk rfl ⟨⟩ rfl rfl rfl rfl rfl rfl rfl rfl hf22 hj36 ?_
    intro b57 hA57
    obtain ⟨xs23, hx21, h⟩ := lt_some h
    refine WP.stoO (f := (fI .i64)) 0 (w64 ((gt xs20 ((gt r1 s3).src)) + ((gt r1 s3).low))) tysOk rfl rfl rfl rfl rfl rfl rfl rfl rfl (.tail (.tail .head)) hA57 hf22 hj36 rfl rfl rfl hx21 ?_
    intro hf25
    refine WP.sx tysOk rfl ⟨⟨⟩, ⟨⟩⟩ ?_
    refine WP.lx tysOk rfl ⟨⟩ (CellAt.blk (.tail (.tail .head)) rfl) ?_
    refine WP.sx tysOk rfl ⟨⟨⟩, ⟨⟩⟩ ?_
    refine WP.lx tysOk rfl ⟨⟩ (CellAt.blk (.tail .head) rfl) ?_
    obtain ⟨hj37, h⟩ := ck_some h
    refine WP.ixO tysOk rfl ⟨⟩ rfl rfl rfl rfl rfl rfl rfl rfl hf25 hj37 ?_
    intro b58 hA58
    refine WP.lx tysOk rfl ⟨⟩ (OwS.at0 .head hA58 hj37 rfl) ?_
    iterate 2 (refine WP.sx tysOk rfl ⟨⟨⟩, ⟨⟩⟩ ?_)
    refine WP.ixO tysOk rfl ⟨⟩ rfl rfl rfl rfl rfl rfl rfl rfl hf25 hj37 ?_
    intro b59 hA59
    obtain ⟨xs24, hx22, h⟩ := lt_some h
    refine WP.stoO (f := (fI .i64)) 0 (w64 ((gt xs23 ((gt r1 s3).dst)) - ((gt r1 s3).low))) tysOk rfl rfl rfl rfl rfl rfl rfl rfl rfl .head hA59 hf25 hj37 rfl rfl rfl hx22 ?_
    intro hf26
    iterate 3 (refine WP.sx tysOk rfl ⟨⟨⟩, ⟨⟩⟩ ?_)
    refine WP.stop rfl (n2, w64 (s3 + 1), xs24, A5, m2, c5) ⟨⟨h, hf26⟩, Nat.lt_succ_self _⟩ ?_ ?_
    ·repeat first|exact ⟨⟩|refine ⟨rfl,?_⟩
    exact (.cons (.tail (.tail .head)) (.cons .head (.cons (.tail .head) (.cons (.tail .head) (.cons (.tail .head) .nil)))))
   rw [if_neg hh14] at h
   iterate 4 (refine WP.sx tysOk rfl ⟨⟨⟩, ⟨⟩⟩ ?_)
   by_cases hh16 : 1 < (i1.length : Int)
   ·rw [if_pos hh16] at h
    refine WP.yes rfl rfl (decide_eq_true hh16) ?_
    iterate 4 (refine WP.sx tysOk rfl ⟨⟨⟩, ⟨⟩⟩ ?_; refine WP.yes rfl rfl rfl ?_)
    obtain ⟨hj38, h⟩ := ck_some h
    refine WP.ixA tysOk rfl ⟨⟩ rfl rfl rfl rfl rfl rfl rfl rfl hj38 (hs2.ex hj38) ?_
    intro b60 b60v hA60
    refine WP.yes rfl rfl rfl ?_
    refine WP.lx tysOk rfl ⟨⟩ (hs2.at0 hA60 (Held.mem (List.Mem.tail _ (List.Mem.tail _ (List.Mem.tail _ (List.Mem.tail _ (List.Mem.head _)))))) hj38 rfl) ?_
    refine WP.yes rfl rfl rfl ?_
    refine WP.sx tysOk rfl ⟨⟨⟩, (by decide)⟩ ?_
    refine WP.yes rfl rfl rfl ?_
    iterate 2 (refine WP.sx tysOk rfl ⟨⟨⟩, ⟨⟩⟩ ?_)
    refine WP.cond_d rfl rfl (fun hh17 => ?_) (fun hh17 => ?_)
    ·rw [if_pos hh17] at h
     refine WP.sx tysOk rfl ⟨⟨⟩, ⟨⟩⟩ ?_
     obtain ⟨hj39, h⟩ := ck_some h
     refine WP.ixA tysOk rfl ⟨⟩ rfl rfl rfl rfl rfl rfl rfl rfl hj39 (hs2.ex hj39) ?_
     intro b61 b61v hA61
     refine WP.lx tysOk rfl ⟨⟩ (hs2.at0 hA61 (Held.mem (List.Mem.tail _ (List.Mem.tail _ (List.Mem.tail _ (List.Mem.tail _ (List.Mem.head _)))))) hj39 rfl) ?_
     refine WP.sx tysOk rfl ⟨⟨⟩, (by decide)⟩ ?_
     iterate 3 (refine WP.sx tysOk rfl ⟨⟨⟩, ⟨⟩⟩ ?_)
     refine WP.lx tysOk rfl ⟨⟩ (CellAt.blk .head rfl) ?_
     obtain ⟨hj40, h⟩ := ck_some h
     refine WP.ixO tysOk rfl ⟨⟩ rfl rfl rfl rfl rfl rfl rfl rfl hf22 hj40 ?_
     intro b62 hA62
     refine WP.lx tysOk rfl ⟨⟩ (OwS.at0 (.tail .head) hA62 hj40 rfl) ?_
     iterate 2 (refine WP.sx tysOk rfl ⟨⟨⟩, ⟨⟩⟩ ?_)
     refine WP.ixO tysOk rfl ⟨⟩ rfl rfl rfl rfl rfl rfl rfl rfl hf22 hj40 ?_
     intro b63 hA63
     obtain ⟨xs25, hx23, h⟩ := lt_some h
     refine WP.stoO (f := (fI .i64)) 0 (w64 ((gt xs20 0) + (w64 ((gt i1 1).tmod 3)))) tysOk rfl rfl rfl rfl rfl rfl rfl rfl rfl (.tail .head) hA63 hf22 hj40 rfl rfl rfl hx23 ?_
     intro hf27
     refine WP.sx tysOk rfl ⟨⟨⟩, ⟨⟩⟩ ?_
     refine WP.lx tysOk rfl ⟨⟩ (CellAt.blk (.tail .head) rfl) ?_
     iterate 2 (refine WP.sx tysOk rfl ⟨⟨⟩, ⟨⟩⟩ ?_)
     obtain ⟨hj41, h⟩ := ck_some h
     refine WP.ixO tysOk rfl ⟨⟩ rfl rfl rfl rfl rfl rfl rfl rfl hf27 hj41 ?_
     intro b64 hA64
     refine WP.lx tysOk rfl ⟨⟩ (OwS.at0 .head hA64 hj41 rfl) ?_
     iterate 2 (refine WP.sx tysOk rfl ⟨⟨⟩, ⟨⟩⟩ ?_)
     refine WP.ixO tysOk rfl ⟨⟩ rfl rfl rfl rfl rfl rfl rfl rfl hf27 hj41 ?_
     intro b65 hA65
     obtain ⟨xs26, hx24, h⟩ := lt_some h
     refine WP.stoO (f := (fI .i64)) 0 (w64 ((gt xs25 (w64 ((w64 (1 + (w64 ((gt i1 0).tmod 7)))) - 1))) - (w64 ((gt i1 1).tmod 3)))) tysOk rfl rfl rfl rfl rfl rfl rfl rfl rfl .head hA65 hf27 hj41 rfl rfl rfl hx24 ?_
     intro hf28
     refine WP.mx_ tysOk rfl ⟨⟩ (SegAt.blk' (.tail .head) rfl) ?_
     refine WP.sto' tysOk [.slice A5 m2 c5, .slice A3 n1 c3] rfl rfl rfl rfl rfl rfl rfl rfl rfl (.tail (.tail (.tail .head))) rfl rfl ?_
     cases h
     refine WP.retR tysOk rfl rfl ⟨_, _, _, _, rfl, ⟨_, rfl, .inr ⟨rfl, _, rfl, rfl, (SegAt.blk' (z := 2) .head rfl).1⟩⟩, rfl, rfl⟩ (fun w1 hw1 => ⟨_, _, rfl, ⟨A5, m2, c5, A3, n1, c3, rfl, hf28, hf2, rfl⟩, Ret.of_KH hw1 (.cons (.tail .head) (.cons (.tail (.tail .head)) (.cons (.tail (.tail .head)) .nil)))⟩)
    rw [if_neg hh17] at h
    refine WP.mx_ tysOk rfl ⟨⟩ (SegAt.blk' .head rfl) ?_
    refine WP.sto' tysOk [.slice A5 m2 c5, .slice A3 n1 c3] rfl rfl rfl rfl rfl rfl rfl rfl rfl (.tail (.tail (.tail .head))) rfl rfl ?_
    cases h
    refine WP.retR tysOk rfl rfl ⟨_, _, _, _, rfl, ⟨_, rfl, .inr ⟨rfl, _, rfl, rfl, (SegAt.blk' (z := 2) .head rfl).1⟩⟩, rfl, rfl⟩ (fun w1 hw1 => ⟨_, _, rfl, ⟨A5, m2, c5, A3, n1, c3, rfl, hf22, hf2, rfl⟩, Ret.of_KH hw1 (.cons (.tail (.tail .head)) (.cons (.tail (.tail .head)) (.cons (.tail (.tail .head)) .nil)))⟩)
   rw [if_neg hh16] at h
   refine WP.no rfl rfl (decide_eq_false hh16) rfl rfl ?_
   iterate 7 (refine WP.no rfl rfl rfl rfl rfl ?_)
   refine WP.sx tysOk rfl ⟨⟨⟩, ⟨⟩⟩ ?_
   refine WP.condF rfl rfl ?_
   refine WP.mx_ tysOk rfl ⟨⟩ (SegAt.blk' .head rfl) ?_
   refine WP.sto' tysOk [.slice A5 m2 c5, .slice A3 n1 c3] rfl rfl rfl rfl rfl rfl rfl rfl rfl (.tail (.tail (.tail .head))) rfl rfl ?_
   cases h
   refine WP.retR tysOk rfl rfl ⟨_, _, _, _, rfl, ⟨_, rfl, .inr ⟨rfl, _, rfl, rfl, (SegAt.blk' (z := 2) .head rfl).1⟩⟩, rfl, rfl⟩ (fun w1 hw1 => ⟨_, _, rfl, ⟨A5, m2, c5, A3, n1, c3, rfl, hf22, hf2, rfl⟩, Ret.of_KH hw1 (.cons (.tail (.tail .head)) (.cons (.tail (.tail .head)) (.cons (.tail (.tail .head)) .nil)))⟩)
  rw [if_neg hh1] at h
  obtain ⟨hm2, h⟩ := ck_some h
  obtain ⟨r2, hg2, h⟩ := bind_some h
  refine WP.drawL 7 [(1, [], fun _ => mkSpec 2 (1 : Int).toNat (iv 0)), (4, [], fun _ => law03_Arcs_S r2), (6, [], fun _ => blkSpec 25 [sn, sn])] rfl (by kernel_rfl) (by kernel_rfl) (by kernel_rfl) ?_
  refine WP.sx tysOk rfl ⟨⟨⟨rfl, rfl⟩, rfl⟩, ⟨⟩⟩ ?_
  refine WP.lmO tysOk rfl ⟨rfl, rfl⟩ rfl rfl rfl rfl rfl rfl rfl rfl rfl rfl hm2 ?_
  intro g8
  iterate 2 (refine WP.sx tysOk rfl ⟨⟨⟨rfl, rfl⟩, rfl⟩, ⟨⟩⟩ ?_)
  refine WP.lcall rfl ⟨rfl, rfl⟩ rfl rfl rfl rfl rfl rfl rfl (by kernel_rfl) (fun w1 hw1 => (law03_Arcs_w hg2 (hs1.le' ((Held.mem (List.Mem.tail _ (List.Mem.head _))) _ _ hw1)).of :)) ?_
  rintro _ _ ⟨A6, n3, c6, rfl, hf30, rfl⟩
  refine WP.bld (cs := [.slice (some ⟨g8, 0, none⟩) ((1 : Int).toNat) ((1 : Int).toNat), .slice A6 n3 c6]) tysOk rfl ⟨⟨rfl, rfl⟩, rfl⟩ rfl rfl rfl rfl rfl rfl rfl ?_
  refine WP.lal tysOk rfl ⟨rfl, rfl⟩ rfl rfl rfl rfl rfl rfl rfl ?_
  intro g9
  refine WP.lend rfl ⟨rfl, rfl⟩ ?_
  refine WP.shutM (f := (fI .i64)) 0 (.tail (.tail .head)) rfl rfl hm2 ?_
  intro hf29
  refine WP.sto' tysOk [.slice (some ⟨g8, 0, none⟩) ((1 : Int).toNat) ((1 : Int).toNat), .slice A6 n3 c6] rfl rfl rfl rfl rfl rfl rfl rfl rfl (.tail .head) rfl rfl ?_
  refine WP.sx tysOk rfl ⟨⟨⟩, ⟨⟩⟩ ?_
  refine WP.loop (α := Nat × Int × (List Int) × (Option Addr) × Nat × Nat) (fun x => lp (law03_Inst_b2 i1 r2) x.1 (x.2.1, x.2.2.1) = some r ∧ OwF x.2.2.2.1 x.2.2.2.2.1 x.2.2.1) (fun x => [(1, .slice A2 i1.length c2), (4, pt g1), (5, iv 1), (6, pt g9), (7, iv x.2.1)]) (fun x => [.blk g9 25 [.slice x.2.2.2.1 x.2.2.2.2.1 x.2.2.2.2.2, .slice A6 n3 c6], Ow (fI .i64) 2 x.2.2.2.1 x.2.2.2.2.1 x.2.2.2.2.2 x.2.2.1, Ow fA 31 A6 n3 c6 r2, .blk g1 25 [sn, sn], .fz (PH.of w)]) (fun x => x.1) rfl (big, 0, (List.replicate (1 : Int).toNat 0), (some ⟨g8, 0, none⟩), (1 : Int).toNat, (1 : Int).toNat) ⟨h, hf29⟩ ?_ ?_ ?_
  ·repeat first|exact ⟨⟩|refine ⟨rfl,?_⟩
  ·exact Pick.all
  rintro ⟨n4, s6, xs46, A8, m4, c8⟩ ⟨h, hf50⟩
  dsimp only at h hf50 ⊢
  rcases n4 with _ | n4
  · exact (lp_no h).elim
  replace h := lp_succ h
  unfold law03_Inst_b2 at h
  try dsimp only at h
  iterate 2 (refine WP.sx tysOk rfl ⟨⟨⟩, ⟨⟩⟩ ?_)
  refine WP.lx tysOk rfl ⟨⟩ (CellAt.blk .head rfl) ?_
  refine WP.lenO (xs := r2) tysOk rfl ⟨⟩ rfl rfl rfl rfl rfl rfl hf30 ?_
  refine WP.sx tysOk rfl ⟨⟨⟩, ⟨⟩⟩ ?_
  refine WP.cond_d rfl rfl (fun hh30 => ?_) (fun hh30 => ?_)
  ·rw [if_pos hh30] at h
   refine WP.sx tysOk rfl ⟨⟨⟩, ⟨⟩⟩ ?_
   refine WP.lx tysOk rfl ⟨⟩ (CellAt.blk .head rfl) ?_
   refine WP.sx tysOk rfl ⟨⟨⟩, ⟨⟩⟩ ?_
   obtain ⟨hj72, h⟩ := ck_some h
   refine WP.ixO tysOk rfl ⟨⟩ rfl rfl rfl rfl rfl rfl rfl rfl hf30 hj72 ?_
   intro b114 hA114
   refine WP.mx_ tysOk rfl ⟨⟩ (OwS.seg (.tail (.tail .head)) hA114 hj72) ?_
   refine WP.al tysOk rfl rfl rfl rfl rfl rfl ?_
   intro g13
   refine WP.sto' tysOk [iv ((gt r2 s6).src), iv ((gt r2 s6).dst), iv ((gt r2 s6).low), iv ((gt r2 s6).cap), iv ((gt r2 s6).cost)] rfl rfl rfl rfl rfl rfl rfl rfl rfl .head rfl rfl ?_
   refine WP.sx tysOk rfl ⟨⟨⟩, ⟨⟩⟩ ?_
   refine WP.lx tysOk rfl ⟨⟩ (CellAt.blk .head rfl) ?_
   iterate 6 (refine WP.sx tysOk rfl ⟨⟨⟩, ⟨⟩⟩ ?_)
   refine WP.cond_d rfl rfl (fun hh31 => ?_) (fun hh31 => ?_)
   ·rw [if_pos hh31] at h
    refine WP.draw rfl (by kernel_rfl) (by kernel_rfl) ?_
    refine WP.sx tysOk rfl ⟨rfl, ⟨⟩⟩ ?_
    refine WP.lx tysOk rfl rfl (CellAt.blk .head rfl) ?_
    iterate 3 (refine WP.sx tysOk rfl ⟨rfl, ⟨⟩⟩ ?_)
    obtain ⟨hj73, h⟩ := ck_some h
    refine WP.ixA tysOk rfl rfl rfl rfl rfl rfl rfl rfl rfl rfl hj73 (hs2.ex hj73) ?_
    intro b115 b115v hA115
    refine WP.lx tysOk rfl rfl (hs2.at0 hA115 (Held.mem (List.Mem.tail _ (List.Mem.tail _ (List.Mem.tail _ (List.Mem.tail _ (List.Mem.tail _ (List.Mem.head _))))))) hj73 rfl) ?_
    refine WP.sx tysOk rfl ⟨rfl, (by decide)⟩ ?_
    iterate 3 (refine WP.sx tysOk rfl ⟨rfl, ⟨⟩⟩ ?_)
    refine WP.lx tysOk rfl rfl (CellAt.blk .head rfl) ?_
    refine WP.mn rfl rfl rfl rfl rfl rfl rfl rfl ?_
    refine WP.sx tysOk rfl ⟨rfl, ⟨⟩⟩ ?_
    refine WP.qend rfl ?_
    refine WP.sx tysOk rfl ⟨⟨⟩, ⟨⟩⟩ ?_
    refine WP.lx tysOk rfl ⟨⟩ (CellAt.blk (.tail .head) rfl) ?_
    refine WP.sx tysOk rfl ⟨⟨⟩, ⟨⟩⟩ ?_
    refine WP.lx tysOk rfl ⟨⟩ (CellAt.blk .head rfl) ?_
    obtain ⟨hj74, h⟩ := ck_some h
    refine WP.ixO tysOk rfl ⟨⟩ rfl rfl rfl rfl rfl rfl rfl rfl hf50 hj74 ?_
    intro b116 hA116
    refine WP.lx tysOk rfl ⟨⟩ (OwS.at0 (.tail (.tail .head)) hA116 hj74 rfl) ?_
    iterate 2 (refine WP.sx tysOk rfl ⟨⟨⟩, ⟨⟩⟩ ?_)
    refine WP.ixO tysOk rfl ⟨⟩ rfl rfl rfl rfl rfl rfl rfl rfl hf50 hj74 ?_
    intro b117 hA117
    obtain ⟨xs47, hx43, h⟩ := lt_some h
    refine WP.stoO (f := (fI .i64)) 0 (w64 ((gt xs46 ((gt r2 s6).src)) + (if ((gt r2 s6).cap) < (w64 (((gt r2 s6).low) + (w64 ((gt i1 (w64 (s6 + 1))).tmod 4)))) then (gt r2 s6).cap else w64 (((gt r2 s6).low) + (w64 ((gt i1 (w64 (s6 + 1))).tmod 4)))))) tysOk rfl rfl rfl rfl rfl rfl rfl rfl rfl (.tail (.tail .head)) hA117 hf50 hj74 rfl rfl rfl hx43 ?_
    intro hf51
    refine WP.sx tysOk rfl ⟨⟨⟩, ⟨⟩⟩ ?_
    refine WP.lx tysOk rfl ⟨⟩ (CellAt.blk (.tail (.tail .head)) rfl) ?_
    refine WP.sx tysOk rfl ⟨⟨⟩, ⟨⟩⟩ ?_
    refine WP.lx tysOk rfl ⟨⟩ (CellAt.blk (.tail .head) rfl) ?_
    obtain ⟨hj75, h⟩ := ck_some h
    refine WP.ixO tysOk rfl ⟨⟩ rfl rfl rfl rfl rfl rfl rfl rfl hf51 hj75 ?_
    intro b118 hA118
    refine WP.lx tysOk rfl ⟨⟩ (OwS.at0 .head hA118 hj75 rfl) ?_
    iterate 2 (refine WP.sx tysOk rfl ⟨⟨⟩, ⟨⟩⟩ ?_)
    refine WP.ixO tysOk rfl ⟨⟩ rfl rfl rfl rfl rfl rfl rfl rfl hf51 hj75 ?_
    intro b119 hA119
    obtain ⟨xs48, hx44, h⟩ := lt_some h
    refine WP.stoO (f := (fI .i64)) 0 (w64 ((gt xs47 ((gt r2 s6).dst)) - (if ((gt r2 s6).cap) < (w64 (((gt r2 s6).low) + (w64 ((gt i1 (w64 (s6 + 1))).tmod 4)))) then (gt r2 s6).cap else w64 (((gt r2 s6).low) + (w64 ((gt i1 (w64 (s6 + 1))).tmod 4)))))) tysOk rfl rfl rfl rfl rfl rfl rfl rfl rfl .head hA119 hf51 hj75 rfl rfl rfl hx44 ?_
    intro hf52
    iterate 3 (refine WP.sx tysOk rfl ⟨⟨⟩, ⟨⟩⟩ ?_)
    refine WP.stop rfl (n4, w64 (s6 + 1), xs48, A8, m4, c8) ⟨⟨h, hf52⟩, Nat.lt_succ_self _⟩ ?_ ?_
    ·repeat first|exact ⟨⟩|refine ⟨rfl,?_⟩
    exact (.cons (.tail (.tail .head)) (.cons .head (.cons (.tail .head) (.cons (.tail .head) (.cons (.tail .head) .nil)))))
   rw [if_neg hh31] at h
   refine WP.sx tysOk rfl ⟨⟨⟩, ⟨⟩⟩ ?_
   refine WP.lx tysOk rfl ⟨⟩ (CellAt.blk (.tail .head) rfl) ?_
   refine WP.sx tysOk rfl ⟨⟨⟩, ⟨⟩⟩ ?_
   refine WP.lx tysOk rfl ⟨⟩ (CellAt.blk .head rfl) ?_
   obtain ⟨hj76, h⟩ := ck_some h
   refine WP.ixO tysOk rfl ⟨⟩ rfl rfl rfl rfl rfl rfl rfl rfl hf50 hj76 ?_
   intro b120 hA120
   refine WP.lx tysOk rfl ⟨⟩ (OwS.at0 (.tail (.tail .head)) hA120 hj76 rfl) ?_
   iterate 2 (refine WP.sx tysOk rfl ⟨⟨⟩, ⟨⟩⟩ ?_)
   refine WP.ixO tysOk rfl ⟨⟩ rfl rfl rfl rfl rfl rfl rfl rfl hf50 hj76 ?_
   intro b121 hA121
   obtain ⟨xs49, hx45, h⟩ := lt_some h
   refine WP.stoO (f := (fI .i64)) 0 (w64 ((gt xs46 ((gt r2 s6).src)) + ((gt r2 s6).low))) tysOk rfl rfl rfl rfl rfl rfl rfl rfl rfl (.tail (.tail .head)) hA121 hf50 hj76 rfl rfl rfl hx45 ?_
   intro hf53
   refine WP.sx tysOk rfl ⟨⟨⟩, ⟨⟩⟩ ?_
   refine WP.lx tysOk rfl ⟨⟩ (CellAt.blk (.tail (.tail .head)) rfl) ?_
   refine WP.sx tysOk rfl ⟨⟨⟩, ⟨⟩⟩ ?_
   refine WP.lx tysOk rfl ⟨⟩ (CellAt.blk (.tail .head) rfl) ?_
   obtain ⟨hj77, h⟩ := ck_some h
   refine WP.ixO tysOk rfl ⟨⟩ rfl rfl rfl rfl rfl rfl rfl rfl hf53 hj77 ?_
   intro b122 hA122
   refine WP.lx tysOk rfl ⟨⟩ (OwS.at0 .head hA122 hj77 rfl) ?_
   iterate 2 (refine WP.sx tysOk rfl ⟨⟨⟩, ⟨⟩⟩ ?_)
   refine WP.ixO tysOk rfl ⟨⟩ rfl rfl rfl rfl rfl rfl rfl rfl hf53 hj77 ?_
   intro b123 hA123
   obtain ⟨xs50, hx46, h⟩ := lt_some h
   refine WP.stoO (f := (fI .i64)) 0 (w64 ((gt xs49 ((gt r2 s6).dst)) - ((gt r2 s6).low))) tysOk rfl rfl rfl rfl rfl rfl rfl rfl rfl .head hA123 hf53 hj77 rfl rfl rfl hx46 ?_
   intro hf54
   iterate 3 (refine WP.sx tysOk rfl ⟨⟨⟩, ⟨⟩⟩ ?_)
   refine WP.stop rfl (n4, w64 (s6 + 1), xs50, A8, m4, c8) ⟨⟨h, hf54⟩, Nat.lt_succ_self _⟩ ?_ ?_
   ·repeat first|exact ⟨⟩|refine ⟨rfl,?_⟩
   exact (.cons (.tail (.tail .head)) (.cons .head (.cons (.tail .head) (.cons (.tail .head) (.cons (.tail .head) .nil)))))
  rw [if_neg hh30] at h
  iterate 4 (refine WP.sx tysOk rfl ⟨⟨⟩, ⟨⟩⟩ ?_)
  by_cases hh32 : 1 < (i1.length : Int)
  ·rw [if_pos hh32] at h
   refine WP.yes rfl rfl (decide_eq_true hh32) ?_
   iterate 4 (refine WP.sx tysOk rfl ⟨⟨⟩, ⟨⟩⟩ ?_; refine WP.yes rfl rfl rfl ?_)
   obtain ⟨hj78, h⟩ := ck_some h
   refine WP.ixA tysOk rfl ⟨⟩ rfl rfl rfl rfl rfl rfl rfl rfl hj78 (hs2.ex hj78) ?_
   intro b124 b124v hA124
   refine WP.yes rfl rfl rfl ?_
   refine WP.lx tysOk rfl ⟨⟩ (hs2.at0 hA124 (Held.mem (List.Mem.tail _ (List.Mem.tail _ (List.Mem.tail _ (List.Mem.tail _ (List.Mem.head _)))))) hj78 rfl) ?_
   refine WP.yes rfl rfl rfl ?_
   refine WP.sx tysOk rfl ⟨⟨⟩, (by decide)⟩ ?_
   refine WP.yes rfl rfl rfl ?_
   iterate 2 (refine WP.sx tysOk rfl ⟨⟨⟩, ⟨⟩⟩ ?_)
   refine WP.cond_d rfl rfl (fun hh33 => ?_) (fun hh33 => ?_)
   ·rw [if_pos hh33] at h
    refine WP.sx tysOk rfl ⟨⟨⟩, ⟨⟩⟩ ?_
    obtain ⟨hj79, h⟩ := ck_some h
    refine WP.ixA tysOk rfl ⟨⟩ rfl rfl rfl rfl rfl rfl rfl rfl hj79 (hs2.ex hj79) ?_
    intro b125 b125v hA125
    refine WP.lx tysOk rfl ⟨⟩ (hs2.at0 hA125 (Held.mem (List.Mem.tail _ (List.Mem.tail _ (List.Mem.tail _ (List.Mem.tail _ (List.Mem.head _)))))) hj79 rfl) ?_
    refine WP.sx tysOk rfl ⟨⟨⟩, (by decide)⟩ ?_
    iterate 3 (refine WP.sx tysOk rfl ⟨⟨⟩, ⟨⟩⟩ ?_)
    refine WP.lx tysOk rfl ⟨⟩ (CellAt.blk .head rfl) ?_
    obtain ⟨hj80, h⟩ := ck_some h
    refine WP.ixO tysOk rfl ⟨⟩ rfl rfl rfl rfl rfl rfl rfl rfl hf50 hj80 ?_
    intro b126 hA126
    refine WP.lx tysOk rfl ⟨⟩ (OwS.at0 (.tail .head) hA126 hj80 rfl) ?_
    iterate 2 (refine WP.sx tysOk rfl ⟨⟨⟩, ⟨⟩⟩ ?_)
    refine WP.ixO tysOk rfl ⟨⟩ rfl rfl rfl rfl rfl rfl rfl rfl hf50 hj80 ?_
    intro b127 hA127
    obtain ⟨xs51, hx47, h⟩ := lt_some h
    refine WP.stoO (f := (fI .i64)) 0 (w64 ((gt xs46 0) + (w64 ((gt i1 1).tmod 3)))) tysOk rfl rfl rfl rfl rfl rfl rfl rfl rfl (.tail .head) hA127 hf50 hj80 rfl rfl rfl hx47 ?_
    intro hf55
    refine WP.sx tysOk rfl ⟨⟨⟩, ⟨⟩⟩ ?_
    refine WP.lx tysOk rfl ⟨⟩ (CellAt.blk (.tail .head) rfl) ?_
    iterate 2 (refine WP.sx tysOk rfl ⟨⟨⟩, ⟨⟩⟩ ?_)
    obtain ⟨hj81, h⟩ := ck_some h
    refine WP.ixO tysOk rfl ⟨⟩ rfl rfl rfl rfl rfl rfl rfl rfl hf55 hj81 ?_
    intro b128 hA128
    refine WP.lx tysOk rfl ⟨⟩ (OwS.at0 .head hA128 hj81 rfl) ?_
    iterate 2 (refine WP.sx tysOk rfl ⟨⟨⟩, ⟨⟩⟩ ?_)
    refine WP.ixO tysOk rfl ⟨⟩ rfl rfl rfl rfl rfl rfl rfl rfl hf55 hj81 ?_
    intro b129 hA129
    obtain ⟨xs52, hx48, h⟩ := lt_some h
    refine WP.stoO (f := (fI .i64)) 0 (w64 ((gt xs51 (w64 (1 - 1))) - (w64 ((gt i1 1).tmod 3)))) tysOk rfl rfl rfl rfl rfl rfl rfl rfl rfl .head hA129 hf55 hj81 rfl rfl rfl hx48 ?_
    intro hf56
    refine WP.mx_ tysOk rfl ⟨⟩ (SegAt.blk' (.tail .head) rfl) ?_
    refine WP.sto' tysOk [.slice A8 m4 c8, .slice A6 n3 c6] rfl rfl rfl rfl rfl rfl rfl rfl rfl (.tail (.tail (.tail .head))) rfl rfl ?_
    cases h
    refine WP.retR tysOk rfl rfl ⟨_, _, _, _, rfl, ⟨_, rfl, .inr ⟨rfl, _, rfl, rfl, (SegAt.blk' (z := 2) .head rfl).1⟩⟩, rfl, rfl⟩ (fun w1 hw1 => ⟨_, _, rfl, ⟨A8, m4, c8, A6, n3, c6, rfl, hf56, hf30, rfl⟩, Ret.of_KH hw1 (.cons (.tail .head) (.cons (.tail (.tail .head)) (.cons (.tail (.tail .head)) .nil)))⟩)
   rw [if_neg hh33] at h
   refine WP.mx_ tysOk rfl ⟨⟩ (SegAt.blk' .head rfl) ?_
   refine WP.sto' tysOk [.slice A8 m4 c8, .slice A6 n3 c6] rfl rfl rfl rfl rfl rfl rfl rfl rfl (.tail (.tail (.tail .head))) rfl rfl ?_
   cases h
   refine WP.retR tysOk rfl rfl ⟨_, _, _, _, rfl, ⟨_, rfl, .inr ⟨rfl, _, rfl, rfl, (SegAt.blk' (z := 2) .head rfl).1⟩⟩, rfl, rfl⟩ (fun w1 hw1 => ⟨_, _, rfl, ⟨A8, m4, c8, A6, n3, c6, rfl, hf50, hf30, rfl⟩, Ret.of_KH hw1 (.cons (.tail (.tail .head)) (.cons (.tail (.tail .head)) (.cons (.tail (.tail .head)) .nil)))⟩)
  rw [if_neg hh32] at h
  refine WP.no rfl rfl (decide_eq_false hh32) rfl rfl ?_
  iterate 7 (refine WP.no rfl rfl rfl rfl rfl ?_)
  refine WP.sx tysOk rfl ⟨⟨⟩, ⟨⟩⟩ ?_
  refine WP.condF rfl rfl ?_
  refine WP.mx_ tysOk rfl ⟨⟩ (SegAt.blk' .head rfl) ?_
  refine WP.sto' tysOk [.slice A8 m4 c8, .slice A6 n3 c6] rfl rfl rfl rfl rfl rfl rfl rfl rfl (.tail (.tail (.tail .head))) rfl rfl ?_
  cases h
  refine WP.retR tysOk rfl rfl ⟨_, _, _, _, rfl, ⟨_, rfl, .inr ⟨rfl, _, rfl, rfl, (SegAt.blk' (z := 2) .head rfl).1⟩⟩, rfl, rfl⟩ (fun w1 hw1 => ⟨_, _, rfl, ⟨A8, m4, c8, A6, n3, c6, rfl, hf50, hf30, rfl⟩, Ret.of_KH hw1 (.cons (.tail (.tail .head)) (.cons (.tail (.tail .head)) (.cons (.tail (.tail .head)) .nil)))⟩)

set_option maxRecDepth 20000 in
set_option maxHeartbeats 8000000 in
theorem law17_LeafDoes_w {w : World} {v0 : Value} {v1 : Value} {v2 : Value} {d1 : Inst} {i1 : Int} {x1 : List Int} {x2 : List Int} {x3 : Int} {x4 : Int} {r : Bool} (h : law17_LeafDoes d1 i1 x1 x2 x3 x4 = some r) (p1 : InsZ (PH.of w) v0 d1) (p2 : SlF (fI .u8) (PH.of w) v1 x1) (p3 : SlF (fI .u8) (PH.of w) v2 x2) (pg : GlobE (PH.of w)) :
    Calls Tryz.prog 3 #[v0, iv i1, v1, v2, .int .u8 (x3), iv x4] w fun e w' => e = .returned (.bool (r)) ∧ Below w.heap.size w w' := by
  obtain ⟨A1, c1, A2, c2, rfl, hs1, hs2⟩ := p1
  obtain ⟨A3, c3, rfl, hs3⟩ := p2
  obtain ⟨A4, c4, rfl, hs4⟩ := p3
  unfold law17_LeafDoes at h
  refine enter_ Tryz.func3 rfl Tryz.ntmps3 rfl ?_
  refine WP.box rfl rfl rfl rfl rfl rfl ?_
  intro g1
  refine WP.sx tysOk rfl ⟨⟨⟩, ⟨⟩⟩ ?_
  refine WP.mx_ tysOk rfl ⟨⟩ (SegAt.blk' .head rfl) ?_
  obtain ⟨r1, hg1, h⟩ := bind_some h
  refine WP.callV rfl rfl rfl rfl rfl rfl rfl (by kernel_rfl) (fun w1 hw1 => (law03_Size_w hg1 (InsZ.mk_ ((hs1.le' ((Held.mem (List.Mem.tail _ (List.Mem.head _))) _ _ hw1)).of) ((hs2.le' ((Held.mem (List.Mem.tail _ (List.Mem.head _))) _ _ hw1)).of)) :)) ⟨⟩ ?_
  iterate 2 (refine WP.sx tysOk rfl ⟨⟨⟩, ⟨⟩⟩ ?_)
  by_cases hh1 : 120 < r1
  ·rw [if_pos hh1] at h
   refine WP.no rfl rfl (decide_eq_true hh1) rfl rfl ?_
   refine WP.no rfl rfl rfl rfl rfl ?_
   refine WP.sx tysOk rfl ⟨⟨⟩, ⟨⟩⟩ ?_
   refine WP.condT rfl rfl ?_
   obtain ⟨r2, hg2, h⟩ := bind_some h
   refine WP.callV rfl rfl rfl rfl rfl rfl rfl (by kernel_rfl) (fun w1 hw1 => (law17_known_w hg2 (pg.le ((Held.mem (List.Mem.tail _ (List.Mem.head _))) _ _ hw1)) :)) ⟨⟩ ?_
   refine WP.sx tysOk rfl ⟨⟨⟩, ⟨⟩⟩ ?_
   cases h
   refine WP.retR tysOk rfl rfl ⟨_, _, rfl, rfl, rfl⟩ (fun w1 hw1 => ⟨rfl, Ret.below_ hw1 (.cons (.tail .head) .nil)⟩)
  rw [if_neg hh1] at h
  refine WP.yes rfl rfl (decide_eq_false hh1) ?_
  obtain ⟨r3, hg3, h⟩ := bind_some h
  refine WP.callV rfl rfl rfl rfl rfl rfl rfl (by kernel_rfl) (fun w1 hw1 => (law17_known_w hg3 (pg.le ((Held.mem (List.Mem.tail _ (List.Mem.head _))) _ _ hw1)) :)) ⟨⟩ ?_
  refine WP.yes rfl rfl rfl ?_
  iterate 2 (refine WP.sx tysOk rfl ⟨⟨⟩, ⟨⟩⟩ ?_)
  refine WP.cond_n rfl rfl (fun hh2 => ?_) (fun hh2 => ?_)
  ·rw [if_neg (bneg hh2)] at h
   obtain ⟨r4, hg4, h⟩ := bind_some h
   refine WP.callV rfl rfl rfl rfl rfl rfl rfl (by kernel_rfl) (fun w1 hw1 => (law17_known_w hg4 (pg.le ((Held.mem (List.Mem.tail _ (List.Mem.head _))) _ _ hw1)) :)) ⟨⟩ ?_
   refine WP.sx tysOk rfl ⟨⟨⟩, ⟨⟩⟩ ?_
   cases h
   refine WP.retR tysOk rfl rfl ⟨_, _, rfl, rfl, rfl⟩ (fun w1 hw1 => ⟨rfl, Ret.below_ hw1 (.cons (.tail .head) .nil)⟩)
  rw [if_pos hh2] at h
  iterate 2 (refine WP.sx tysOk rfl ⟨⟨⟩, ⟨⟩⟩ ?_)
  obtain ⟨r5, hg5, h⟩ := bind_some h
  refine WP.callS (law17_Tree_S r5) rfl rfl rfl rfl rfl rfl rfl (by kernel_rfl) (fun w1 hw1 => (law17_Tree_w hg5 (hs3.le' ((Held.mem (List.Mem.tail _ (List.Mem.head _))) _ _ hw1)).of (hs4.le' ((Held.mem (List.Mem.tail _ (List.Mem.head _))) _ _ hw1)).of :)) ?_
  rintro _ _ ⟨A5, n1, c5, A6, n2, c6, rfl, hf1, hf2, rfl⟩
  refine WP.al tysOk rfl rfl rfl rfl rfl rfl ?_
  intro g2
  refine WP.sto' tysOk [.slice A5 n1 c5, .slice A6 n2 c6] rfl rfl rfl rfl rfl rfl rfl rfl rfl .head rfl rfl ?_
  obtain ⟨hz1, h⟩ := ck_some h
  refine WP.drawL 12 [(11, [], litSpec 31 1)] rfl (by kernel_rfl) (by kernel_rfl) (by kernel_rfl) ?_
  refine WP.sx tysOk rfl ⟨⟨⟨rfl, rfl⟩, rfl⟩, ⟨⟩⟩ ?_
  refine WP.lx tysOk rfl ⟨⟨rfl, rfl⟩, rfl⟩ (CellAt.blk .head rfl) ?_
  iterate 3 (refine WP.sx tysOk rfl ⟨⟨⟨rfl, rfl⟩, rfl⟩, ⟨⟩⟩ ?_)
  refine WP.lx tysOk rfl ⟨⟨rfl, rfl⟩, rfl⟩ (CellAt.blk .head rfl) ?_
  refine WP.lenO (xs := r5.supply) tysOk rfl ⟨⟨rfl, rfl⟩, rfl⟩ rfl rfl rfl rfl rfl rfl hf1 ?_
  refine WP.sx tysOk rfl ⟨⟨⟨rfl, rfl⟩, rfl⟩, hz1⟩ ?_
  refine WP.sx tysOk rfl ⟨⟨⟨rfl, rfl⟩, rfl⟩, ⟨⟩⟩ ?_
  refine WP.sx tysOk rfl ⟨⟨⟨rfl, rfl⟩, rfl⟩, (by decide)⟩ ?_
  refine WP.bld (cs := [iv ((w64 (x3)).tmod (r5.supply.length : Int)), iv 0, iv 0, iv 4398046511104, iv (x4.tmod 4398046511104)]) tysOk rfl ⟨⟨rfl, rfl⟩, rfl⟩ rfl rfl rfl rfl rfl rfl rfl ?_
  refine WP.lbs tysOk rfl ⟨rfl, rfl⟩ rfl rfl rfl rfl rfl rfl rfl rfl rfl rfl rfl rfl ?_
  intro g3
  refine WP.lend rfl ⟨rfl, rfl⟩ ?_
  refine WP.repiece (p' := .blk g3 31 (cl fA [(Arc.mk ((w64 (x3)).tmod (r5.supply.length : Int)) 0 0 4398046511104 (x4.tmod 4398046511104))])) .head rfl ?_
  refine WP.shut0 (n := 1) (z := fA.z) .head (by decide) rfl ?_
  have hf3 : OwF (some ⟨g3, 0, none⟩) 1 [(Arc.mk ((w64 (x3)).tmod (r5.supply.length : Int)) 0 0 4398046511104 (x4.tmod 4398046511104))] := ⟨rfl, fun _ => ⟨g3, rfl⟩⟩
  obtain ⟨hl1, h⟩ := ck_some h
  obtain ⟨xs1, hz2, h⟩ := lt_some h
  refine WP.appO (f := fA) (xs := r5.arcs) (ys := [(Arc.mk ((w64 (x3)).tmod (r5.supply.length : Int)) 0 0 4398046511104 (x4.tmod 4398046511104))]) tysOk rfl rfl rfl rfl rfl rfl rfl rfl rfl rfl rfl rfl (.tail (.tail (.tail .head))) hf2 hf3.len (OwS.app .head hf3) hl1 hz2 ?_
  intro A7 c7 hf4
  refine WP.sx tysOk rfl ⟨⟨⟩, ⟨⟩⟩ ?_
  refine WP.sto' tysOk [.slice A5 n1 c5, .slice A7 xs1.length c7] rfl rfl rfl rfl rfl rfl rfl rfl rfl (.tail (.tail .head)) rfl rfl ?_
  refine WP.mx_ tysOk rfl ⟨⟩ (SegAt.blk' (.tail (.tail (.tail (.tail .head)))) rfl) ?_
  refine WP.sx tysOk rfl ⟨⟨⟩, ⟨⟩⟩ ?_
  obtain ⟨r6, hg6, h⟩ := bind_some h
  refine WP.callV rfl rfl rfl rfl rfl rfl rfl (by kernel_rfl) (fun w1 hw1 => (law17_does_w hg6 (InsZ.mk_ ((hs1.le' ((Held.mem (List.Mem.tail _ (List.Mem.tail _ (List.Mem.tail _ (List.Mem.tail _ (List.Mem.tail _ (List.Mem.head _))))))) _ _ hw1)).of) ((hs2.le' ((Held.mem (List.Mem.tail _ (List.Mem.tail _ (List.Mem.tail _ (List.Mem.tail _ (List.Mem.tail _ (List.Mem.head _))))))) _ _ hw1)).of)) (pg.le ((Held.mem (List.Mem.tail _ (List.Mem.tail _ (List.Mem.tail _ (List.Mem.tail _ (List.Mem.tail _ (List.Mem.head _))))))) _ _ hw1)) :)) ⟨⟩ ?_
  refine WP.sx tysOk rfl ⟨⟨⟩, ⟨⟩⟩ ?_
  by_cases hh3 : r6 = true
  ·rw [if_pos hh3] at h
   refine WP.yes rfl rfl hh3 ?_
   iterate 2 (refine WP.sx tysOk rfl ⟨⟨⟩, ⟨⟩⟩ ?_; refine WP.yes rfl rfl rfl ?_)
   obtain ⟨r7, hg7, h⟩ := bind_some h
   refine WP.callS (law17_Tree_S r7) rfl rfl rfl rfl rfl rfl rfl (by kernel_rfl) (fun w1 hw1 => (law17_Tree_w hg7 (hs3.le' ((Held.mem (List.Mem.tail _ (List.Mem.tail _ (List.Mem.tail _ (List.Mem.tail _ (List.Mem.tail _ (List.Mem.head _))))))) _ _ hw1)).of (hs4.le' ((Held.mem (List.Mem.tail _ (List.Mem.tail _ (List.Mem.tail _ (List.Mem.tail _ (List.Mem.tail _ (List.Mem.head _))))))) _ _ hw1)).of :)) ?_
   rintro _ _ ⟨A8, n3, c8, A9, n4, c9, rfl, hf5, hf6, rfl⟩
   refine WP.yes rfl rfl rfl ?_
   refine WP.sx tysOk rfl ⟨⟨⟩, ⟨⟩⟩ ?_
   refine WP.yes rfl rfl rfl ?_
   refine WP.sx tysOk rfl ⟨⟨⟩, (by decide)⟩ ?_
   refine WP.yes rfl rfl rfl ?_
   refine WP.sx tysOk rfl ⟨⟨⟩, ⟨⟩⟩ ?_
   refine WP.yes rfl rfl rfl ?_
   obtain ⟨r8, hg8, h⟩ := bind_some h
   refine WP.callV rfl rfl rfl rfl rfl rfl rfl (by kernel_rfl) (fun w1 hw1 => (law17_does_w hg8 (InsZ.mk_ (hw1.ow .head hf5) (hw1.ow (.tail .head) hf6)) (pg.le ((Held.mem (List.Mem.tail _ (List.Mem.tail _ (List.Mem.tail _ (List.Mem.tail _ (List.Mem.tail _ (List.Mem.tail _ (List.Mem.tail _ (List.Mem.head _))))))))) _ _ hw1)) :)) ⟨⟩ ?_
   iterate 2 (refine WP.sx tysOk rfl ⟨⟨⟩, ⟨⟩⟩ ?_)
   by_cases hh4 : r8 = true
   ·rw [if_pos hh4] at h
    refine WP.yes rfl rfl hh4 ?_
    iterate 2 (refine WP.sx tysOk rfl ⟨⟨⟩, ⟨⟩⟩ ?_; refine WP.yes rfl rfl rfl ?_)
    obtain ⟨r9, hg9, h⟩ := bind_some h
    refine WP.callS (law17_Still_S r9) rfl rfl rfl rfl rfl rfl rfl (by kernel_rfl) (fun w1 hw1 => (law17_Still_w hg9 (hs3.le' ((Held.mem (List.Mem.tail _ (List.Mem.tail _ (List.Mem.tail _ (List.Mem.tail _ (List.Mem.tail _ (List.Mem.tail _ (List.Mem.tail _ (List.Mem.head _))))))))) _ _ hw1)).of (hs4.le' ((Held.mem (List.Mem.tail _ (List.Mem.tail _ (List.Mem.tail _ (List.Mem.tail _ (List.Mem.tail _ (List.Mem.tail _ (List.Mem.tail _ (List.Mem.head _))))))))) _ _ hw1)).of :)) ?_
    rintro _ _ ⟨A10, n5, c10, A11, n6, c11, rfl, hf7, hf8, rfl⟩
    refine WP.yes rfl rfl rfl ?_
    refine WP.sx tysOk rfl ⟨⟨⟩, ⟨⟩⟩ ?_
    refine WP.yes rfl rfl rfl ?_
    refine WP.sx tysOk rfl ⟨⟨⟩, (by decide)⟩ ?_
    refine WP.yes rfl rfl rfl ?_
    refine WP.sx tysOk rfl ⟨⟨⟩, ⟨⟩⟩ ?_
    refine WP.yes rfl rfl rfl ?_
    obtain ⟨r10, hg10, h⟩ := bind_some h
    refine WP.callV rfl rfl rfl rfl rfl rfl rfl (by kernel_rfl) (fun w1 hw1 => (law17_does_w hg10 (InsZ.mk_ (hw1.ow .head hf7) (hw1.ow (.tail .head) hf8)) (pg.le ((Held.mem (List.Mem.tail _ (List.Mem.tail _ (List.Mem.tail _ (List.Mem.tail _ (List.Mem.tail _ (List.Mem.tail _ (List.Mem.tail _ (List.Mem.tail _ (List.Mem.tail _ (List.Mem.head _))))))))))) _ _ hw1)) :)) ⟨⟩ ?_
    iterate 2 (refine WP.sx tysOk rfl ⟨⟨⟩, ⟨⟩⟩ ?_)
    by_cases hh5 : r10 = true
    ·rw [if_pos hh5] at h
     refine WP.yes rfl rfl hh5 ?_
     refine WP.mx_ tysOk rfl ⟨⟩ (SegAt.blk' (.tail (.tail (.tail (.tail .head)))) rfl) ?_
     refine WP.yes rfl rfl rfl ?_
     refine WP.sx tysOk rfl ⟨⟨⟩, ⟨⟩⟩ ?_
     refine WP.yes rfl rfl rfl ?_
     refine WP.sx tysOk rfl ⟨⟨⟩, (by decide)⟩ ?_
     refine WP.yes rfl rfl rfl ?_
     refine WP.sx tysOk rfl ⟨⟨⟩, ⟨⟩⟩ ?_
     refine WP.yes rfl rfl rfl ?_
     obtain ⟨r11, hg11, h⟩ := bind_some h
     refine WP.callV rfl rfl rfl rfl rfl rfl rfl (by kernel_rfl) (fun w1 hw1 => (law17_does_w hg11 (InsZ.mk_ (hw1.ow (.tail (.tail (.tail (.tail (.tail (.tail (.tail .head))))))) hf1) (hw1.ow (.tail (.tail (.tail (.tail (.tail .head))))) hf4)) (pg.le ((Held.mem (List.Mem.tail _ (List.Mem.tail _ (List.Mem.tail _ (List.Mem.tail _ (List.Mem.tail _ (List.Mem.tail _ (List.Mem.tail _ (List.Mem.tail _ (List.Mem.tail _ (List.Mem.head _))))))))))) _ _ hw1)) :)) ⟨⟩ ?_
     iterate 2 (refine WP.sx tysOk rfl ⟨⟨⟩, ⟨⟩⟩ ?_)
     by_cases hh6 : r11 = true
     ·rw [if_pos hh6] at h
      refine WP.yes rfl rfl hh6 ?_
      iterate 2 (refine WP.sx tysOk rfl ⟨⟨⟩, ⟨⟩⟩ ?_; refine WP.yes rfl rfl rfl ?_)
      obtain ⟨r12, hg12, h⟩ := bind_some h
      refine WP.callS (law03_Inst_S r12) rfl rfl rfl rfl rfl rfl rfl (by kernel_rfl) (fun w1 hw1 => (law03_Inst_w hg12 (hs3.le' ((Held.mem (List.Mem.tail _ (List.Mem.tail _ (List.Mem.tail _ (List.Mem.tail _ (List.Mem.tail _ (List.Mem.tail _ (List.Mem.tail _ (List.Mem.tail _ (List.Mem.tail _ (List.Mem.head _))))))))))) _ _ hw1)).of (hs4.le' ((Held.mem (List.Mem.tail _ (List.Mem.tail _ (List.Mem.tail _ (List.Mem.tail _ (List.Mem.tail _ (List.Mem.tail _ (List.Mem.tail _ (List.Mem.tail _ (List.Mem.tail _ (List.Mem.head _))))))))))) _ _ hw1)).of :)) ?_
      rintro _ _ ⟨A12, n7, c12, A13, n8, c13, rfl, hf9, hf10, rfl⟩
      refine WP.yes rfl rfl rfl ?_
      refine WP.sx tysOk rfl ⟨⟨⟩, ⟨⟩⟩ ?_
      refine WP.yes rfl rfl rfl ?_
      obtain ⟨r13, hg13, h⟩ := bind_some h
      refine WP.callV rfl rfl rfl rfl rfl rfl rfl (by kernel_rfl) (fun w1 hw1 => (law17_does_w hg13 (InsZ.mk_ (hw1.ow .head hf9) (hw1.ow (.tail .head) hf10)) (pg.le ((Held.mem (List.Mem.tail _ (List.Mem.tail _ (List.Mem.tail _ (List.Mem.tail _ (List.Mem.tail _ (List.Mem.tail _ (List.Mem.tail _ (List.Mem.tail _ (List.Mem.tail _ (List.Mem.tail _ (List.Mem.tail _ (List.Mem.head _))))))))))))) _ _ hw1)) :)) ⟨⟩ ?_
      iterate 2 (refine WP.sx tysOk rfl ⟨⟨⟩, ⟨⟩⟩ ?_)
      cases h
      refine WP.retR tysOk rfl rfl ⟨_, _, rfl, rfl, rfl⟩ (fun w1 hw1 => ⟨rfl, Ret.below_ hw1 (.cons (.tail (.tail (.tail (.tail (.tail (.tail (.tail (.tail (.tail (.tail (.tail .head))))))))))) .nil)⟩)
     rw [if_neg hh6] at h
     refine WP.no rfl rfl (bfalse hh6) rfl rfl ?_
     iterate 4 (refine WP.no rfl rfl rfl rfl rfl ?_)
     iterate 2 (refine WP.sx tysOk rfl ⟨⟨⟩, ⟨⟩⟩ ?_)
     cases h
     refine WP.retR tysOk rfl rfl ⟨_, _, rfl, rfl, rfl⟩ (fun w1 hw1 => ⟨rfl, Ret.below_ hw1 (.cons (.tail (.tail (.tail (.tail (.tail (.tail (.tail (.tail (.tail .head))))))))) .nil)⟩)
    rw [if_neg hh5] at h
    refine WP.no rfl rfl (bfalse hh5) rfl rfl ?_
    iterate 4 (refine WP.no rfl rfl rfl rfl rfl ?_)
    iterate 2 (refine WP.sx tysOk rfl ⟨⟨⟩, ⟨⟩⟩ ?_)
    iterate 5 (refine WP.no rfl rfl rfl rfl rfl ?_)
    iterate 2 (refine WP.sx tysOk rfl ⟨⟨⟩, ⟨⟩⟩ ?_)
    cases h
    refine WP.retR tysOk rfl rfl ⟨_, _, rfl, rfl, rfl⟩ (fun w1 hw1 => ⟨rfl, Ret.below_ hw1 (.cons (.tail (.tail (.tail (.tail (.tail (.tail (.tail (.tail (.tail .head))))))))) .nil)⟩)
   rw [if_neg hh4] at h
   refine WP.no rfl rfl (bfalse hh4) rfl rfl ?_
   iterate 6 (refine WP.no rfl rfl rfl rfl rfl ?_)
   iterate 2 (refine WP.sx tysOk rfl ⟨⟨⟩, ⟨⟩⟩ ?_)
   iterate 5 (refine WP.no rfl rfl rfl rfl rfl ?_)
   iterate 2 (refine WP.sx tysOk rfl ⟨⟨⟩, ⟨⟩⟩ ?_)
   iterate 5 (refine WP.no rfl rfl rfl rfl rfl ?_)
   iterate 2 (refine WP.sx tysOk rfl ⟨⟨⟩, ⟨⟩⟩ ?_)
   cases h
   refine WP.retR tysOk rfl rfl ⟨_, _, rfl, rfl, rfl⟩ (fun w1 hw1 => ⟨rfl, Ret.below_ hw1 (.cons (.tail (.tail (.tail (.tail (.tail (.tail (.tail .head))))))) .nil)⟩)
  rw [if_neg hh3] at h
  refine WP.no rfl rfl (bfalse hh3) rfl rfl ?_
  iterate 6 (refine WP.no rfl rfl rfl rfl rfl ?_)
  iterate 2 (refine WP.sx tysOk rfl ⟨⟨⟩, ⟨⟩⟩ ?_)
  iterate 7 (refine WP.no rfl rfl rfl rfl rfl ?_)
  iterate 2 (refine WP.sx tysOk rfl ⟨⟨⟩, ⟨⟩⟩ ?_)
  iterate 5 (refine WP.no rfl rfl rfl rfl rfl ?_)
  iterate 2 (refine WP.sx tysOk rfl ⟨⟨⟩, ⟨⟩⟩ ?_)
  iterate 5 (refine WP.no rfl rfl rfl rfl rfl ?_)
  iterate 2 (refine WP.sx tysOk rfl ⟨⟨⟩, ⟨⟩⟩ ?_)
  cases h
  refine WP.retR tysOk rfl rfl ⟨_, _, rfl, rfl, rfl⟩ (fun w1 hw1 => ⟨rfl, Ret.below_ hw1 (.cons (.tail (.tail (.tail (.tail (.tail .head))))) .nil)⟩)
end Go.Proofs.YtbnjeanldechnaaGreatDoor
