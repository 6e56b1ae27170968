/- The walks: the code computes that. -/
import Derived.Test.YtbnjeanldechnaaDoorGW1
import Derived.Test.YtbnjeanldechnaaDoorTys
import Derived.Test.YtbnjeanldechnaaDoorEngG
import Derived.KernelRfl
namespace Go.Proofs.YtbnjeanldechnaaDoor
open Go.RowKit Go.Qe
abbrev leaf_run_1_S (Z : PH) (r : Step × Int) : Value → Heap → Prop := fun v L => ∃ (Zn : PH) (A1 : Option Addr) (n1 c1 : Nat) (A2 : Option Addr) (n2 c2 : Nat) (A3 : Option Addr) (n3 c3 : Nat) (A4 : Option Addr) (n4 c4 : Nat), v = .tuple #[.agg #[.slice A1 n1 c1, .slice A2 n2 c2, iv r.1.rcd.pass, .slice A3 n3 c3, .slice A4 n4 c4, iv r.1.off.hi, .int .u64 (r.1.off.lo), .bool (r.1.did)], .int .u16 (r.2)] ∧ n1 = r.1.inst.supply.length ∧ n2 = r.1.inst.arcs.length ∧ n3 = r.1.rcd.was.supply.length ∧ n4 = r.1.rcd.was.arcs.length ∧ FzS (fI .i64) (Z.or Zn) A1 c1 r.1.inst.supply ∧ FzS fA (Z.or Zn) A2 c2 r.1.inst.arcs ∧ FzS (fI .i64) (Z.or Zn) A3 c3 r.1.rcd.was.supply ∧ FzS fA (Z.or Zn) A4 c4 r.1.rcd.was.arcs ∧ L = [.fz Zn]
set_option maxRecDepth 20000 in
set_option maxHeartbeats 8000000 in
theorem leaf_run_1_w {w : World} {Z : PH} (hZ : Z.le (PH.of w)) {v0 : Value} {i1 : Inst} {r : Step × Int} (h : leaf_run_1 i1 = some r) (p1 : InsZ Z v0 i1) (pg : GlobE (PH.of w)) :
    Calls Tryd.prog 6 #[v0, .func (.func 7) #[] #[]] w fun e w' => ∃ v L, e = .returned v ∧ leaf_run_1_S Z r v L ∧ Ret w w' L := by
  obtain ⟨A1, c1, A2, c2, rfl, hs1, hs2⟩ := p1
  unfold leaf_run_1 at h
  refine enter_ Tryd.func6 rfl Tryd.ntmps6 rfl ?_
  refine WP.box rfl rfl rfl rfl rfl rfl ?_
  intro g1
  refine WP.al tysOk rfl rfl rfl rfl rfl rfl ?_
  intro g2
  refine WP.sx tysOk rfl ⟨⟨⟩, ⟨⟩⟩ ?_
  refine WP.mx_ tysOk rfl ⟨⟩ (SegAt.blk' (.tail .head) rfl) ?_
  obtain ⟨r1, hg1, h⟩ := bind_some h
  refine WP.callV rfl rfl rfl rfl rfl rfl rfl (by kernel_rfl) (fun w1 hw1 => (inst_Right_w hg1 (InsZ.mk_ ((hs1.le' ((Held.sub (Held.mem (List.Mem.tail _ (List.Mem.tail _ (List.Mem.head _)))) hZ) _ _ hw1)).of) ((hs2.le' ((Held.sub (Held.mem (List.Mem.tail _ (List.Mem.tail _ (List.Mem.head _)))) hZ) _ _ hw1)).of)) :)) ⟨⟩ ?_
  iterate 3 (refine WP.sx tysOk rfl ⟨⟨⟩, ⟨⟩⟩ ?_)
  refine WP.cond_d rfl rfl (fun hh1 => ?_) (fun hh1 => ?_)
  ·rw [if_pos hh1] at h
   refine WP.bld (cs := [.slice none 0 0, .slice none 0 0, iv 0, .slice none 0 0, .slice none 0 0, iv 0, .int .u64 (0), .bool (false)]) tysOk rfl ⟨⟩ rfl rfl rfl rfl rfl rfl rfl ?_
   refine WP.sx tysOk rfl ⟨⟨⟩, ⟨⟩⟩ ?_
   refine WP.sto' tysOk [.slice none 0 0, .slice none 0 0, iv 0, .slice none 0 0, .slice none 0 0, iv 0, .int .u64 (0), .bool (false)] rfl rfl rfl rfl rfl rfl rfl rfl rfl .head rfl rfl ?_
   refine WP.sx tysOk rfl ⟨⟨⟩, ⟨⟩⟩ ?_
   cases h
   refine WP.retR tysOk rfl rfl ⟨_, _, _, _, rfl, ⟨_, rfl, .inr ⟨rfl, _, rfl, rfl, (SegAt.blk' (z := 8) .head rfl).1⟩⟩, ⟨_, _, rfl, rfl, rfl⟩, rfl⟩ (fun w1 hw1 => ⟨_, _, rfl, ⟨PH.new _ w1, none, 0, 0, none, 0, 0, none, 0, 0, none, 0, 0, rfl, rfl, rfl, rfl, rfl, FzS.nil_, FzS.nil_, FzS.nil_, FzS.nil_, rfl⟩, Ret.freeze hw1 (.cons (.tail (.tail .head)) .nil)⟩)
  rw [if_neg hh1] at h
  refine WP.sx tysOk rfl ⟨⟨⟩, ⟨⟩⟩ ?_
  refine WP.mx_ tysOk rfl ⟨⟩ (SegAt.blk' (.tail .head) rfl) ?_
  obtain ⟨r2, hg2, h⟩ := bind_some h
  refine WP.callS (leaf_leaf_S Z r2) rfl rfl rfl rfl rfl rfl rfl (by kernel_rfl) (fun w1 hw1 => (leaf_leaf_w (Z := Z) ((Held.sub (Held.mem (List.Mem.tail _ (List.Mem.tail _ (List.Mem.head _)))) hZ) _ _ hw1) hg2 (InsZ.mk_ ((hs1.le' PH.le.rfl_).of) ((hs2.le' PH.le.rfl_).of)) :)) ?_
  rintro _ _ ⟨Zn1, A3, _, c3, A4, _, c4, A5, _, c5, A6, _, c6, rfl, rfl, rfl, rfl, rfl, hs3, hs4, hs5, hs6, rfl⟩
  iterate 3 (refine WP.sx tysOk rfl ⟨⟨⟩, ⟨⟩⟩ ?_)
  refine WP.al tysOk rfl rfl rfl rfl rfl rfl ?_
  intro g3
  refine WP.sto' tysOk [.slice A3 r2.1.inst.supply.length c3, .slice A4 r2.1.inst.arcs.length c4, iv r2.1.rcd.pass, .slice A5 r2.1.rcd.was.supply.length c5, .slice A6 r2.1.rcd.was.arcs.length c6, iv r2.1.off.hi, .int .u64 (r2.1.off.lo), .bool (r2.1.did)] rfl rfl rfl rfl rfl rfl rfl rfl rfl .head rfl rfl ?_
  refine WP.sx tysOk rfl ⟨⟨⟩, ⟨⟩⟩ ?_
  refine WP.al tysOk rfl rfl rfl rfl rfl rfl ?_
  intro g4
  refine WP.sx tysOk rfl ⟨⟨⟩, ⟨⟩⟩ ?_
  refine WP.mki rfl ⟨⟩ rfl rfl rfl rfl rfl (fun _ => by kernel_rfl) ?_
  refine WP.callT [.blk g3 35 [.slice A3 r2.1.inst.supply.length c3, .slice A4 r2.1.inst.arcs.length c4, iv r2.1.rcd.pass, .slice A5 r2.1.rcd.was.supply.length c5, .slice A6 r2.1.rcd.was.arcs.length c6, iv r2.1.off.hi, .int .u64 (r2.1.off.lo), .bool (r2.1.did)], .fz Zn1, .blk g2 35 [.slice none 0 0, .slice none 0 0, iv 0, .slice none 0 0, .slice none 0 0, iv 0, .int .u64 (0), .bool (false)], .blk g1 26 [.slice A1 i1.supply.length c1, .slice A2 i1.arcs.length c2], .fz (PH.of w)] (fun v L => v = .bool r2.2.isSome ∧ L = [.blk g4 54 [.int .u16 (r2.2.getD 0)]]) rfl rfl rfl rfl rfl rfl rfl (by kernel_rfl) (fun w1 hw1 => as_w r2.2 (pg.le ((Held.mem (List.Mem.tail _ (List.Mem.tail _ (List.Mem.tail _ (List.Mem.tail _ (List.Mem.tail _ (List.Mem.head _))))))) _ _ hw1)) (hw1.pick (.cons .head (.cons .head (.cons .head (.cons .head (.cons .head (.cons .head .nil)))))))) ?_
  rintro _ _ ⟨rfl, rfl⟩
  refine WP.cond rfl rfl (fun hh2 => ?_) (fun hh2 => ?_)
  ·rw [if_pos hh2] at h
   refine WP.join (α := Unit) (fun x => True) (fun x => [(4, .pointer (some ⟨g2, 0, none⟩)), (5, .int .u16 (r2.2.getD 0))]) (fun x => [.blk g2 35 [.slice none 0 0, .slice none 0 0, iv 0, .slice none 0 0, .slice none 0 0, iv 0, .int .u64 (0), .bool (false)], .blk g4 54 [.int .u16 (r2.2.getD 0)], .blk g3 35 [.slice A3 r2.1.inst.supply.length c3, .slice A4 r2.1.inst.arcs.length c4, iv r2.1.rcd.pass, .slice A5 r2.1.rcd.was.supply.length c5, .slice A6 r2.1.rcd.was.arcs.length c6, iv r2.1.off.hi, .int .u64 (r2.1.off.lo), .bool (r2.1.did)], .fz Zn1, .blk g1 26 [.slice A1 i1.supply.length c1, .slice A2 i1.arcs.length c2], .fz (PH.of w)]) rfl ?_ ?_
   ·refine WP.drawA rfl (by kernel_rfl) ?_
    refine WP.anyP 1 tysOk putInv_body rfl rfl rfl (by kernel_rfl) (by kernel_rfl) rfl rfl rfl rfl rfl True.intro ?_
    refine WP.any2 0 2 rfl (by kernel_rfl) rfl rfl ?_ ?_
    ·refine WP.bld (cs := [.slice none 0 0, .slice none 0 0, iv 0, .slice none 0 0, .slice none 0 0, iv 0, .int .u64 (0), .bool (false)]) tysOk rfl ⟨⟩ rfl rfl rfl rfl rfl rfl rfl ?_
     refine WP.any2 2 3 rfl (by kernel_rfl) rfl rfl ?_ ?_
     ·refine WP.lx tysOk rfl ⟨⟩ (CellAt.blk .head rfl) ?_
      refine WP.any1 3 rfl (by kernel_rfl) rfl ?_
      refine WP.sto' tysOk [.slice none 0 0, .slice none 0 0, iv 0, .slice none 0 0, .slice none 0 0, iv 0, .int .u64 (0), .bool (false)] rfl rfl rfl rfl rfl rfl rfl rfl rfl (.tail (.tail (.tail .head))) rfl rfl ?_
      refine WP.anyP 4 tysOk putInv_body rfl rfl rfl (by kernel_rfl) (by kernel_rfl) rfl rfl rfl rfl rfl True.intro ?_
      refine WP.any0 rfl (by kernel_rfl) ?_
      refine WP.stop rfl () True.intro ?_ ?_
      ·repeat first | exact ⟨⟩ | refine ⟨rfl, ?_⟩
      exact (.cons .head (.cons .head (.cons .head (.cons .head (.cons .head (.cons .head .nil))))))
     refine WP.sto' tysOk [.slice none 0 0, .slice none 0 0, iv 0, .slice none 0 0, .slice none 0 0, iv 0, .int .u64 (0), .bool (false)] rfl rfl rfl rfl rfl rfl rfl rfl rfl (.tail (.tail (.tail .head))) rfl rfl ?_
     refine WP.any1 2 rfl (by kernel_rfl) rfl ?_
     refine WP.lx tysOk rfl ⟨⟩ (CellAt.blk (.tail .head) rfl) ?_
     refine WP.anyP 4 tysOk putInv_body rfl rfl rfl (by kernel_rfl) (by kernel_rfl) rfl rfl rfl rfl rfl True.intro ?_
     refine WP.any0 rfl (by kernel_rfl) ?_
     refine WP.stop rfl () True.intro ?_ ?_
     ·repeat first | exact ⟨⟩ | refine ⟨rfl, ?_⟩
     exact (.cons .head (.cons .head (.cons .head (.cons .head (.cons .head (.cons .head .nil))))))
    refine WP.lx tysOk rfl ⟨⟩ (CellAt.blk .head rfl) ?_
    refine WP.any1 0 rfl (by kernel_rfl) rfl ?_
    refine WP.bld (cs := [.slice none 0 0, .slice none 0 0, iv 0, .slice none 0 0, .slice none 0 0, iv 0, .int .u64 (0), .bool (false)]) tysOk rfl ⟨⟩ rfl rfl rfl rfl rfl rfl rfl ?_
    refine WP.any1 3 rfl (by kernel_rfl) rfl ?_
    refine WP.sto' tysOk [.slice none 0 0, .slice none 0 0, iv 0, .slice none 0 0, .slice none 0 0, iv 0, .int .u64 (0), .bool (false)] rfl rfl rfl rfl rfl rfl rfl rfl rfl (.tail (.tail (.tail .head))) rfl rfl ?_
    refine WP.anyP 4 tysOk putInv_body rfl rfl rfl (by kernel_rfl) (by kernel_rfl) rfl rfl rfl rfl rfl True.intro ?_
    refine WP.any0 rfl (by kernel_rfl) ?_
    refine WP.stop rfl () True.intro ?_ ?_
    ·repeat first | exact ⟨⟩ | refine ⟨rfl, ?_⟩
    exact (.cons .head (.cons .head (.cons .head (.cons .head (.cons .head (.cons .head .nil))))))
   rintro _ _
   cases h
   refine WP.retR tysOk rfl rfl ⟨_, _, _, _, rfl, ⟨_, rfl, .inr ⟨rfl, _, rfl, rfl, (SegAt.blk' (z := 8) .head rfl).1⟩⟩, ⟨_, _, rfl, rfl, rfl⟩, rfl⟩ (fun w1 hw1 => ⟨_, _, rfl, ⟨PH.new _ w1, none, 0, 0, none, 0, 0, none, 0, 0, none, 0, 0, rfl, rfl, rfl, rfl, rfl, FzS.nil_, FzS.nil_, FzS.nil_, FzS.nil_, rfl⟩, Ret.freeze hw1 (.cons (.tail (.tail (.tail (.tail (.tail .head))))) .nil)⟩)
  rw [if_neg (bneg hh2)] at h
  refine WP.mx_ tysOk rfl ⟨⟩ (SegAt.blk' (.tail .head) rfl) ?_
  refine WP.sto' tysOk [.slice A3 r2.1.inst.supply.length c3, .slice A4 r2.1.inst.arcs.length c4, iv r2.1.rcd.pass, .slice A5 r2.1.rcd.was.supply.length c5, .slice A6 r2.1.rcd.was.arcs.length c6, iv r2.1.off.hi, .int .u64 (r2.1.off.lo), .bool (r2.1.did)] rfl rfl rfl rfl rfl rfl rfl rfl rfl (.tail (.tail (.tail .head))) rfl rfl ?_
  refine WP.sx tysOk rfl ⟨⟨⟩, ⟨⟩⟩ ?_
  cases h
  refine WP.retR tysOk rfl rfl ⟨_, _, _, _, rfl, ⟨_, rfl, .inr ⟨rfl, _, rfl, rfl, (SegAt.blk' (z := 8) .head rfl).1⟩⟩, ⟨_, _, rfl, rfl, rfl⟩, rfl⟩ (fun w1 hw1 => ⟨_, _, rfl, ⟨PH.new _ w1, A3, r2.1.inst.supply.length, c3, A4, r2.1.inst.arcs.length, c4, A5, r2.1.rcd.was.supply.length, c5, A6, r2.1.rcd.was.arcs.length, c6, rfl, rfl, rfl, rfl, rfl, hs3.le' (PH.or_le (PH.le_or _ _) ((hw1.fzNew (.cons (.tail (.tail (.tail .head))) (.cons (.tail (.tail (.tail (.tail .head)))) .nil))).trans (PH.new_le_or hZ))), hs4.le' (PH.or_le (PH.le_or _ _) ((hw1.fzNew (.cons (.tail (.tail (.tail .head))) (.cons (.tail (.tail (.tail (.tail .head)))) .nil))).trans (PH.new_le_or hZ))), hs5.le' (PH.or_le (PH.le_or _ _) ((hw1.fzNew (.cons (.tail (.tail (.tail .head))) (.cons (.tail (.tail (.tail (.tail .head)))) .nil))).trans (PH.new_le_or hZ))), hs6.le' (PH.or_le (PH.le_or _ _) ((hw1.fzNew (.cons (.tail (.tail (.tail .head))) (.cons (.tail (.tail (.tail (.tail .head)))) .nil))).trans (PH.new_le_or hZ))), rfl⟩, Ret.freeze hw1 (.cons (.tail (.tail (.tail (.tail (.tail .head))))) .nil)⟩)

abbrev leaf_Leaf_S (Z : PH) (r : Step × Int) : Value → Heap → Prop := fun v L => ∃ (Zn : PH) (A1 : Option Addr) (n1 c1 : Nat) (A2 : Option Addr) (n2 c2 : Nat) (A3 : Option Addr) (n3 c3 : Nat) (A4 : Option Addr) (n4 c4 : Nat), v = .tuple #[.agg #[.slice A1 n1 c1, .slice A2 n2 c2, iv r.1.rcd.pass, .slice A3 n3 c3, .slice A4 n4 c4, iv r.1.off.hi, .int .u64 (r.1.off.lo), .bool (r.1.did)], .int .u16 (r.2)] ∧ n1 = r.1.inst.supply.length ∧ n2 = r.1.inst.arcs.length ∧ n3 = r.1.rcd.was.supply.length ∧ n4 = r.1.rcd.was.arcs.length ∧ FzS (fI .i64) (Z.or Zn) A1 c1 r.1.inst.supply ∧ FzS fA (Z.or Zn) A2 c2 r.1.inst.arcs ∧ FzS (fI .i64) (Z.or Zn) A3 c3 r.1.rcd.was.supply ∧ FzS fA (Z.or Zn) A4 c4 r.1.rcd.was.arcs ∧ L = [.fz Zn]
set_option maxRecDepth 20000 in
set_option maxHeartbeats 8000000 in
theorem leaf_Leaf_w {w : World} {Z : PH} (hZ : Z.le (PH.of w)) {v0 : Value} {i1 : Inst} {r : Step × Int} (h : leaf_Leaf i1 = some r) (p1 : InsZ Z v0 i1) (pg : GlobE (PH.of w)) :
    Calls Tryd.prog 4 #[v0] w fun e w' => ∃ v L, e = .returned v ∧ leaf_Leaf_S Z r v L ∧ Ret w w' L := by
  obtain ⟨A1, c1, A2, c2, rfl, hs1, hs2⟩ := p1
  unfold leaf_Leaf at h
  refine enter_ Tryd.func4 rfl Tryd.ntmps4 rfl ?_
  refine WP.box rfl rfl rfl rfl rfl rfl ?_
  intro g1
  refine WP.al tysOk rfl rfl rfl rfl rfl rfl ?_
  intro g2
  refine WP.sx tysOk rfl ⟨⟨⟩, ⟨⟩⟩ ?_
  refine WP.mx_ tysOk rfl ⟨⟩ (SegAt.blk' (.tail .head) rfl) ?_
  obtain ⟨r1, hg1, h⟩ := bind_some h
  refine WP.callS (leaf_run_1_S Z r1) rfl rfl rfl rfl rfl rfl rfl (by kernel_rfl) (fun w1 hw1 => (leaf_run_1_w (Z := Z) ((Held.sub (Held.mem (List.Mem.tail _ (List.Mem.tail _ (List.Mem.head _)))) hZ) _ _ hw1) hg1 (InsZ.mk_ ((hs1.le' PH.le.rfl_).of) ((hs2.le' PH.le.rfl_).of)) (pg.le ((Held.mem (List.Mem.tail _ (List.Mem.tail _ (List.Mem.head _)))) _ _ hw1)) :)) ?_
  rintro _ _ ⟨Zn1, A3, _, c3, A4, _, c4, A5, _, c5, A6, _, c6, rfl, rfl, rfl, rfl, rfl, hs3, hs4, hs5, hs6, rfl⟩
  iterate 2 (refine WP.sx tysOk rfl ⟨⟨⟩, ⟨⟩⟩ ?_)
  refine WP.sto' tysOk [.slice A3 r1.1.inst.supply.length c3, .slice A4 r1.1.inst.arcs.length c4, iv r1.1.rcd.pass, .slice A5 r1.1.rcd.was.supply.length c5, .slice A6 r1.1.rcd.was.arcs.length c6, iv r1.1.off.hi, .int .u64 (r1.1.off.lo), .bool (r1.1.did)] rfl rfl rfl rfl rfl rfl rfl rfl rfl (.tail .head) rfl rfl ?_
  refine WP.sx tysOk rfl ⟨⟨⟩, ⟨⟩⟩ ?_
  cases h
  refine WP.retR tysOk rfl rfl ⟨_, _, _, _, rfl, ⟨_, rfl, .inr ⟨rfl, _, rfl, rfl, (SegAt.blk' (z := 8) .head rfl).1⟩⟩, ⟨_, _, rfl, rfl, rfl⟩, rfl⟩ (fun w1 hw1 => ⟨_, _, rfl, ⟨PH.new _ w1, A3, r1.1.inst.supply.length, c3, A4, r1.1.inst.arcs.length, c4, A5, r1.1.rcd.was.supply.length, c5, A6, r1.1.rcd.was.arcs.length, c6, rfl, rfl, rfl, rfl, rfl, hs3.le' (PH.or_le (PH.le_or _ _) ((hw1.fzNew (.cons (.tail .head) (.cons (.tail (.tail .head)) .nil))).trans (PH.new_le_or hZ))), hs4.le' (PH.or_le (PH.le_or _ _) ((hw1.fzNew (.cons (.tail .head) (.cons (.tail (.tail .head)) .nil))).trans (PH.new_le_or hZ))), hs5.le' (PH.or_le (PH.le_or _ _) ((hw1.fzNew (.cons (.tail .head) (.cons (.tail (.tail .head)) .nil))).trans (PH.new_le_or hZ))), hs6.le' (PH.or_le (PH.le_or _ _) ((hw1.fzNew (.cons (.tail .head) (.cons (.tail (.tail .head)) .nil))).trans (PH.new_le_or hZ))), rfl⟩, Ret.freeze hw1 (.cons (.tail (.tail (.tail .head))) .nil)⟩)

set_option maxRecDepth 20000 in
set_option maxHeartbeats 8000000 in
theorem leaf_Tip_w {w : World} {v0 : Value} {i1 : Inst} {n1 : Int} {r : Int × Int × Bool} (h : leaf_Tip i1 n1 = some r) (p1 : InsZ (PH.of w) v0 i1) :
    Calls Tryd.prog 8 #[v0, iv n1] w fun e w' => e = .returned (.tuple #[iv r.1, iv r.2.1, .bool (r.2.2)]) ∧ Below w.heap.size w w' := by
  obtain ⟨A1, c1, A2, c2, rfl, hs1, hs2⟩ := p1
  unfold leaf_Tip at h
  refine enter_ Tryd.func8 rfl Tryd.ntmps8 rfl ?_
  refine WP.box rfl rfl rfl rfl rfl rfl ?_
  intro g1
  iterate 3 (refine WP.sx tysOk rfl ⟨⟨⟩, ⟨⟩⟩ ?_)
  obtain ⟨r1, hg1, h⟩ := bind_some h
  obtain ⟨r2, hg2, h⟩ := bind_some h
  refine WP.edges [(9, 7)] putInv_body rfl rfl (by kernel_rfl) (by kernel_rfl) ?_
  refine WP.heads [0, 1, 2, 3, 4, 5, 6, 7, 8] [9, 10] [(1, [], fun _ => adj_New_S r1), (4, [1], fun _ => constSpec (.tuple #[.agg #[iv r2.1.a, iv r2.1.n], .bool (r2.2)])), (8, [], fun _ => blkSpec 60 [iv 0, iv 0])] rfl (by kernel_rfl) (by decide) rfl (by kernel_rfl) (by kernel_rfl) ?_
  refine WP.mx_ tysOk rfl ⟨⟨rfl, rfl⟩, rfl⟩ (SegAt.blk' .head rfl) ?_
  refine WP.lcall rfl ⟨rfl, rfl⟩ rfl rfl rfl rfl rfl rfl rfl (by kernel_rfl) (fun w1 hw1 => (adj_New_w hg1 (InsZ.mk_ ((hs1.le' ((Held.mem (List.Mem.tail _ (List.Mem.head _))) _ _ hw1)).of) ((hs2.le' ((Held.mem (List.Mem.tail _ (List.Mem.head _))) _ _ hw1)).of)) :)) ?_
  rintro vg1 _ ⟨Zn1, hgr1, rfl⟩
  obtain ⟨gg1, rfl⟩ := hgr1.ptr'
  refine WP.mx_ tysOk rfl ⟨⟨rfl, rfl⟩, rfl⟩ (SegAt.blk' .head rfl) ?_
  refine WP.sx tysOk rfl ⟨⟨⟨rfl, rfl⟩, rfl⟩, ⟨⟩⟩ ?_
  refine WP.lcall rfl ⟨rfl, rfl⟩ rfl rfl rfl rfl rfl rfl rfl (by kernel_rfl) (fun w1 hw1 => ((leaf_tipOf_w hg2 (hgr1.le ((Held.mem (List.Mem.head _)) _ _ hw1)) (InsZ.mk_ ((hs1.le' ((Held.mem (List.Mem.tail _ (List.Mem.tail _ (List.Mem.head _)))) _ _ hw1)).of) ((hs2.le' ((Held.mem (List.Mem.tail _ (List.Mem.tail _ (List.Mem.head _)))) _ _ hw1)).of)) :)).mono fun e w' h => ⟨_, [], h.1, ⟨rfl, rfl⟩, Ret.nil h.2⟩) ?_
  rintro _ _ ⟨rfl, rfl⟩
  iterate 3 (refine WP.sx tysOk rfl ⟨⟨⟨rfl, rfl⟩, rfl⟩, ⟨⟩⟩ ?_)
  refine WP.lal tysOk rfl ⟨rfl, rfl⟩ rfl rfl rfl rfl rfl rfl rfl ?_
  intro g2
  refine WP.lend rfl ⟨rfl, rfl⟩ ?_
  refine WP.joinA (α := Unit) (fun x => True) (fun x => [(7, .pointer (some ⟨g2, 0, none⟩)), (8, .bool (r2.2))]) (fun x => [.blk g2 60 [iv r2.1.a, iv r2.1.n], .fz Zn1, .blk g1 26 [.slice A1 i1.supply.length c1, .slice A2 i1.arcs.length c2], .fz (PH.of w)]) rfl ?_ ?_
  ·refine WP.any1 9 rfl (by kernel_rfl) rfl ?_
   refine WP.sto' tysOk [iv r2.1.a, iv r2.1.n] rfl rfl rfl rfl rfl rfl rfl rfl rfl .head rfl rfl ?_
   refine WP.anyP 10 tysOk putInv_body rfl rfl rfl (by kernel_rfl) (by kernel_rfl) rfl rfl rfl rfl rfl True.intro ?_
   refine WP.any0 rfl (by kernel_rfl) ?_
   refine WP.stop rfl () True.intro ?_ ?_
   ·repeat first | exact ⟨⟩ | refine ⟨rfl, ?_⟩
   exact (.cons .head (.cons .head (.cons .head (.cons .head .nil))))
  rintro _ _
  refine WP.draw rfl (by kernel_rfl) (by kernel_rfl) ?_
  refine WP.sx tysOk rfl ⟨rfl, ⟨⟩⟩ ?_
  refine WP.lx tysOk rfl rfl (CellAt.blk .head rfl) ?_
  refine WP.sx tysOk rfl ⟨rfl, ⟨⟩⟩ ?_
  refine WP.lx tysOk rfl rfl (CellAt.blk .head rfl) ?_
  iterate 4 (refine WP.sx tysOk rfl ⟨rfl, ⟨⟩⟩ ?_)
  refine WP.qend rfl ?_
  cases h
  refine WP.retR tysOk rfl rfl ⟨_, _, rfl, ⟨_, _, rfl, ⟨_, _, rfl, rfl, rfl⟩, rfl⟩, rfl⟩ (fun w1 hw1 => ⟨rfl, Ret.below_ hw1 (.cons (.tail (.tail (.tail .head))) .nil)⟩)

set_option maxRecDepth 20000 in
set_option maxHeartbeats 8000000 in
theorem num_Of_w {w : World} {a1 : Int} {r : Wide} (h : num_Of a1 = some r) :
    Calls Tryd.prog 9 #[iv a1] w fun e w' => e = .returned (.agg #[iv r.hi, .int .u64 (r.lo)]) ∧ Below w.heap.size w w' := by
  unfold num_Of at h
  refine enter_ Tryd.func9 rfl Tryd.ntmps9 rfl ?_
  refine WP.al tysOk rfl rfl rfl rfl rfl rfl ?_
  intro g1
  refine WP.sx tysOk rfl ⟨⟨⟩, ⟨⟩⟩ ?_
  refine WP.sx tysOk rfl ⟨⟨⟩, (by decide)⟩ ?_
  iterate 2 (refine WP.sx tysOk rfl ⟨⟨⟩, ⟨⟩⟩ ?_)
  refine WP.bld (cs := [iv (a1.fdiv (2 ^ (min (63 : Int).toNat (IntKind.bits .i64)))), .int .u64 (IntKind.wrap .u64 (a1))]) tysOk rfl ⟨⟩ rfl rfl rfl rfl rfl rfl rfl ?_
  refine WP.sto' tysOk [iv (a1.fdiv (2 ^ (min (63 : Int).toNat (IntKind.bits .i64)))), .int .u64 (IntKind.wrap .u64 (a1))] rfl rfl rfl rfl rfl rfl rfl rfl rfl .head rfl rfl ?_
  cases h
  refine WP.retR tysOk rfl rfl ⟨_, _, _, _, rfl, ⟨_, rfl, .inr ⟨rfl, _, rfl, rfl, (SegAt.blk' (z := 2) .head rfl).1⟩⟩, rfl, rfl⟩ (fun w1 hw1 => ⟨rfl, Ret.below_ hw1 (.cons (.tail .head) .nil)⟩)

set_option maxRecDepth 20000 in
set_option maxHeartbeats 8000000 in
theorem ref03_Nums_w {w : World} {v0 : Value} {v1 : Value} {a1 : List Int} {b1 : List Int} {r : Bool} (h : ref03_Nums a1 b1 = some r) (p1 : SlF (fI .i64) (PH.of w) v0 a1) (p2 : SlF (fI .i64) (PH.of w) v1 b1) :
    Calls Tryd.prog 21 #[v0, v1] w fun e w' => e = .returned (.bool (r)) ∧ Below w.heap.size w w' := by
  obtain ⟨A1, c1, rfl, hs1⟩ := p1
  obtain ⟨A2, c2, rfl, hs2⟩ := p2
  unfold ref03_Nums at h
  refine enter_ Tryd.func21 rfl Tryd.ntmps21 rfl ?_
  iterate 6 (refine WP.sx tysOk rfl ⟨⟨⟩, ⟨⟩⟩ ?_)
  refine WP.cond_d rfl rfl (fun hh1 => ?_) (fun hh1 => ?_)
  ·rw [if_pos hh1] at h
   refine WP.sx tysOk rfl ⟨⟨⟩, ⟨⟩⟩ ?_
   cases h
   refine WP.retR tysOk rfl rfl ⟨_, _, rfl, rfl, rfl⟩ (fun w1 hw1 => ⟨rfl, Ret.below_ hw1 (.cons .head .nil)⟩)
  rw [if_neg hh1] at h
  refine WP.sx tysOk rfl ⟨⟨⟩, ⟨⟩⟩ ?_
  refine WP.loop (α := Nat × Int) (fun x => lp (ref03_Nums_b1 a1 b1) x.1 x.2 = some r) (fun x => [(0, .slice A1 a1.length c1), (1, .slice A2 b1.length c2), (5, iv x.2)]) (fun x => [.fz (PH.of w)]) (fun x => x.1) rfl (big, 0) h ?_ ?_ ?_
  ·repeat first | exact ⟨⟩ | refine ⟨rfl, ?_⟩
  ·exact (.cons .head .nil)
  rintro ⟨n1, k2⟩ h
  dsimp only at h ⊢
  rcases n1 with _ | n1
  · exact (lp_no h).elim
  replace h := lp_succ h
  unfold ref03_Nums_b1 at h
  try dsimp only at h
  iterate 4 (refine WP.sx tysOk rfl ⟨⟨⟩, ⟨⟩⟩ ?_)
  refine WP.cond_d rfl rfl (fun hh6 => ?_) (fun hh6 => ?_)
  ·rw [if_pos hh6] at h
   refine WP.draw rfl (by kernel_rfl) (by kernel_rfl) ?_
   iterate 2 (refine WP.sx tysOk rfl ⟨rfl, ⟨⟩⟩ ?_)
   obtain ⟨hj5, h⟩ := ck_some h
   refine WP.ixA tysOk rfl rfl rfl rfl rfl rfl rfl rfl rfl rfl hj5 (hs1.ex hj5) ?_
   intro b6 b6v hA5
   refine WP.lx tysOk rfl rfl (hs1.at0 hA5 (Held.mem (List.Mem.head _)) hj5 rfl) ?_
   iterate 2 (refine WP.sx tysOk rfl ⟨rfl, ⟨⟩⟩ ?_)
   obtain ⟨hj6, h⟩ := ck_some h
   refine WP.ixA tysOk rfl rfl rfl rfl rfl rfl rfl rfl rfl rfl hj6 (hs2.ex hj6) ?_
   intro b7 b7v hA6
   refine WP.lx tysOk rfl rfl (hs2.at0 hA6 (Held.mem (List.Mem.head _)) hj6 rfl) ?_
   refine WP.sx tysOk rfl ⟨rfl, ⟨⟩⟩ ?_
   refine WP.qend rfl ?_
   refine WP.cond_d rfl rfl (fun hh7 => ?_) (fun hh7 => ?_)
   ·rw [if_pos hh7] at h
    refine WP.sx tysOk rfl ⟨⟨⟩, ⟨⟩⟩ ?_
    cases h
    refine WP.retR tysOk rfl rfl ⟨_, _, rfl, rfl, rfl⟩ (fun w1 hw1 => ⟨rfl, Ret.below_ hw1 (.cons .head .nil)⟩)
   rw [if_neg hh7] at h
   iterate 3 (refine WP.sx tysOk rfl ⟨⟨⟩, ⟨⟩⟩ ?_)
   refine WP.stop rfl (n1, w64 (k2 + 1)) ⟨h, Nat.lt_succ_self _⟩ ?_ ?_
   ·repeat first | exact ⟨⟩ | refine ⟨rfl, ?_⟩
   exact (.cons .head .nil)
  rw [if_neg hh6] at h
  refine WP.sx tysOk rfl ⟨⟨⟩, ⟨⟩⟩ ?_
  cases h
  refine WP.retR tysOk rfl rfl ⟨_, _, rfl, rfl, rfl⟩ (fun w1 hw1 => ⟨rfl, Ret.below_ hw1 (.cons .head .nil)⟩)

set_option maxRecDepth 20000 in
set_option maxHeartbeats 8000000 in
theorem ref03_Same_w {w : World} {v0 : Value} {v1 : Value} {a1 : Inst} {b1 : Inst} {r : Bool} (h : ref03_Same a1 b1 = some r) (p1 : InsZ (PH.of w) v0 a1) (p2 : InsZ (PH.of w) v1 b1) :
    Calls Tryd.prog 10 #[v0, v1] w fun e w' => e = .returned (.bool (r)) ∧ Below w.heap.size w w' := by
  obtain ⟨A1, c1, A2, c2, rfl, hs1, hs2⟩ := p1
  obtain ⟨A3, c3, A4, c4, rfl, hs3, hs4⟩ := p2
  unfold ref03_Same at h
  refine enter_ Tryd.func10 rfl Tryd.ntmps10 rfl ?_
  refine WP.box rfl rfl rfl rfl rfl rfl ?_
  intro g1
  refine WP.box rfl rfl rfl rfl rfl rfl ?_
  intro g2
  iterate 2 (refine WP.sx tysOk rfl ⟨⟨⟩, ⟨⟩⟩ ?_)
  refine WP.lx tysOk rfl ⟨⟩ (CellAt.blk (.tail .head) rfl) ?_
  refine WP.sx tysOk rfl ⟨⟨⟩, ⟨⟩⟩ ?_
  refine WP.lx tysOk rfl ⟨⟩ (CellAt.blk .head rfl) ?_
  obtain ⟨r1, hg1, h⟩ := bind_some h
  refine WP.callV rfl rfl rfl rfl rfl rfl rfl (by kernel_rfl) (fun w1 hw1 => (ref03_Nums_w hg1 (hs1.le' ((Held.mem (List.Mem.tail _ (List.Mem.tail _ (List.Mem.head _)))) _ _ hw1)).of (hs3.le' ((Held.mem (List.Mem.tail _ (List.Mem.tail _ (List.Mem.head _)))) _ _ hw1)).of :)) ⟨⟩ ?_
  iterate 2 (refine WP.sx tysOk rfl ⟨⟨⟩, ⟨⟩⟩ ?_)
  by_cases hh1 : r1 = true
  ·rw [if_pos hh1] at h
   refine WP.yes rfl rfl (by simp [hh1]) ?_
   refine WP.sx tysOk rfl ⟨⟨⟩, ⟨⟩⟩ ?_
   refine WP.yes rfl rfl rfl ?_
   refine WP.lx tysOk rfl ⟨⟩ (CellAt.blk (.tail .head) rfl) ?_
   iterate 2 (refine WP.yes rfl rfl rfl ?_; refine WP.sx tysOk rfl ⟨⟨⟩, ⟨⟩⟩ ?_)
   refine WP.yes rfl rfl rfl ?_
   refine WP.lx tysOk rfl ⟨⟩ (CellAt.blk .head rfl) ?_
   refine WP.yes rfl rfl rfl ?_
   refine WP.sx tysOk rfl ⟨⟨⟩, ⟨⟩⟩ ?_
   refine WP.yes rfl rfl rfl ?_
   iterate 2 (refine WP.sx tysOk rfl ⟨⟨⟩, ⟨⟩⟩ ?_)
   refine WP.cond_d rfl rfl (fun hh2 => ?_) (fun hh2 => ?_)
   ·rw [if_pos hh2] at h
    refine WP.sx tysOk rfl ⟨⟨⟩, ⟨⟩⟩ ?_
    cases h
    refine WP.retR tysOk rfl rfl ⟨_, _, rfl, rfl, rfl⟩ (fun w1 hw1 => ⟨rfl, Ret.below_ hw1 (.cons (.tail (.tail .head)) .nil)⟩)
   rw [if_neg hh2] at h
   refine WP.sx tysOk rfl ⟨⟨⟩, ⟨⟩⟩ ?_
   refine WP.loop (α := Nat × Int) (fun x => lp (ref03_Same_b1 a1 b1) x.1 x.2 = some r) (fun x => [(2, .pointer (some ⟨g1, 0, none⟩)), (3, .pointer (some ⟨g2, 0, none⟩)), (5, iv x.2)]) (fun x => [.blk g2 26 [.slice A3 b1.supply.length c3, .slice A4 b1.arcs.length c4], .blk g1 26 [.slice A1 a1.supply.length c1, .slice A2 a1.arcs.length c2], .fz (PH.of w)]) (fun x => x.1) rfl (big, 0) h ?_ ?_ ?_
   ·repeat first | exact ⟨⟩ | refine ⟨rfl, ?_⟩
   ·exact (.cons .head (.cons .head (.cons .head .nil)))
   rintro ⟨n1, k2⟩ h
   dsimp only at h ⊢
   rcases n1 with _ | n1
   · exact (lp_no h).elim
   replace h := lp_succ h
   unfold ref03_Same_b1 at h
   try dsimp only at h
   iterate 2 (refine WP.sx tysOk rfl ⟨⟨⟩, ⟨⟩⟩ ?_)
   refine WP.lx tysOk rfl ⟨⟩ (CellAt.blk (.tail .head) rfl) ?_
   iterate 2 (refine WP.sx tysOk rfl ⟨⟨⟩, ⟨⟩⟩ ?_)
   refine WP.cond_d rfl rfl (fun hh7 => ?_) (fun hh7 => ?_)
   ·rw [if_pos hh7] at h
    refine WP.draw rfl (by kernel_rfl) (by kernel_rfl) ?_
    refine WP.sx tysOk rfl ⟨rfl, ⟨⟩⟩ ?_
    refine WP.lx tysOk rfl rfl (CellAt.blk (.tail .head) rfl) ?_
    refine WP.sx tysOk rfl ⟨rfl, ⟨⟩⟩ ?_
    obtain ⟨hj5, h⟩ := ck_some h
    refine WP.ixA tysOk rfl rfl rfl rfl rfl rfl rfl rfl rfl rfl hj5 (hs2.ex hj5) ?_
    intro b6 b6v hA5
    refine WP.mx_ tysOk rfl rfl (hs2.seg hA5 (Held.mem (List.Mem.tail _ (List.Mem.tail _ (List.Mem.head _)))) hj5) ?_
    refine WP.sx tysOk rfl ⟨rfl, ⟨⟩⟩ ?_
    refine WP.lx tysOk rfl rfl (CellAt.blk .head rfl) ?_
    refine WP.sx tysOk rfl ⟨rfl, ⟨⟩⟩ ?_
    obtain ⟨hj6, h⟩ := ck_some h
    refine WP.ixA tysOk rfl rfl rfl rfl rfl rfl rfl rfl rfl rfl hj6 (hs4.ex hj6) ?_
    intro b7 b7v hA6
    refine WP.mx_ tysOk rfl rfl (hs4.seg hA6 (Held.mem (List.Mem.tail _ (List.Mem.tail _ (List.Mem.head _)))) hj6) ?_
    refine WP.neS rfl rfl rfl rfl rfl rfl rfl rfl (by kernel_rfl) (eq28 (gt a1.arcs k2) (gt b1.arcs k2)) ?_
    refine WP.qend rfl ?_
    refine WP.cond_nd rfl rfl (fun hh8 => ?_) (fun hh8 => ?_)
    ·rw [if_neg hh8] at h
     refine WP.sx tysOk rfl ⟨⟨⟩, ⟨⟩⟩ ?_
     cases h
     refine WP.retR tysOk rfl rfl ⟨_, _, rfl, rfl, rfl⟩ (fun w1 hw1 => ⟨rfl, Ret.below_ hw1 (.cons (.tail (.tail .head)) .nil)⟩)
    rw [if_pos hh8] at h
    iterate 3 (refine WP.sx tysOk rfl ⟨⟨⟩, ⟨⟩⟩ ?_)
    refine WP.stop rfl (n1, w64 (k2 + 1)) ⟨h, Nat.lt_succ_self _⟩ ?_ ?_
    ·repeat first | exact ⟨⟩ | refine ⟨rfl, ?_⟩
    exact (.cons .head (.cons .head (.cons .head .nil)))
   rw [if_neg hh7] at h
   refine WP.sx tysOk rfl ⟨⟨⟩, ⟨⟩⟩ ?_
   cases h
   refine WP.retR tysOk rfl rfl ⟨_, _, rfl, rfl, rfl⟩ (fun w1 hw1 => ⟨rfl, Ret.below_ hw1 (.cons (.tail (.tail .head)) .nil)⟩)
  rw [if_neg hh1] at h
  refine WP.no rfl rfl (by simp [hh1]) rfl rfl ?_
  iterate 6 (refine WP.no rfl rfl rfl rfl rfl ?_)
  refine WP.sx tysOk rfl ⟨⟨⟩, ⟨⟩⟩ ?_
  refine WP.condT rfl rfl ?_
  refine WP.sx tysOk rfl ⟨⟨⟩, ⟨⟩⟩ ?_
  cases h
  refine WP.retR tysOk rfl rfl ⟨_, _, rfl, rfl, rfl⟩ (fun w1 hw1 => ⟨rfl, Ret.below_ hw1 (.cons (.tail (.tail .head)) .nil)⟩)

set_option maxRecDepth 20000 in
set_option maxHeartbeats 8000000 in
theorem leaf_shut_w {w : World} {v0 : Value} {v1 : Value} {g1 : Inst} {i1 : Inst} {n1 : Int} {r : Bool} (h : leaf_shut g1 i1 n1 = some r) (p1 : GraphZ (PH.of w) v0 g1) (p2 : InsZ (PH.of w) v1 i1) :
    Calls Tryd.prog 22 #[v0, v1, iv n1] w fun e w' => e = .returned (.bool (r)) ∧ Below w.heap.size w w' := by
  obtain ⟨gg1, rfl⟩ := p1.ptr'
  obtain ⟨A1, c1, A2, c2, rfl, hs1, hs2⟩ := p2
  unfold leaf_shut at h
  refine enter_ Tryd.func22 rfl Tryd.ntmps22 rfl ?_
  refine WP.box rfl rfl rfl rfl rfl rfl ?_
  intro g2
  iterate 3 (refine WP.sx tysOk rfl ⟨⟨⟩, ⟨⟩⟩ ?_)
  obtain ⟨r1, hg1, h⟩ := bind_some h
  refine WP.callS (adj_Graph_At_S r1) rfl rfl rfl rfl rfl rfl rfl (by kernel_rfl) (fun w1 hw1 => (adj_Graph_At_w hg1 (p1.le ((Held.mem (List.Mem.tail _ (List.Mem.head _))) _ _ hw1)) :)) ?_
  rintro _ _ ⟨A3, n2, c3, rfl, hf1, rfl⟩
  iterate 2 (refine WP.sx tysOk rfl ⟨⟨⟩, ⟨⟩⟩ ?_)
  refine WP.lenO (xs := r1) tysOk rfl ⟨⟩ rfl rfl rfl rfl rfl rfl hf1 ?_
  iterate 2 (refine WP.sx tysOk rfl ⟨⟨⟩, ⟨⟩⟩ ?_)
  by_cases hh1 : (r1.length : Int) = 0
  ·rw [if_pos hh1] at h
   refine WP.no rfl rfl (decide_eq_true hh1) rfl rfl ?_
   iterate 3 (refine WP.no rfl rfl rfl rfl rfl ?_)
   iterate 2 (refine WP.sx tysOk rfl ⟨⟨⟩, ⟨⟩⟩ ?_)
   iterate 6 (refine WP.no rfl rfl rfl rfl rfl ?_)
   refine WP.sx tysOk rfl ⟨⟨⟩, ⟨⟩⟩ ?_
   refine WP.condT rfl rfl ?_
   refine WP.sx tysOk rfl ⟨⟨⟩, ⟨⟩⟩ ?_
   cases h
   refine WP.retR tysOk rfl rfl ⟨_, _, rfl, rfl, rfl⟩ (fun w1 hw1 => ⟨rfl, Ret.below_ hw1 (.cons (.tail (.tail .head)) .nil)⟩)
  rw [if_neg hh1] at h
  refine WP.yes rfl rfl (decide_eq_false hh1) ?_
  iterate 2 (refine WP.sx tysOk rfl ⟨⟨⟩, ⟨⟩⟩ ?_; refine WP.yes rfl rfl rfl ?_)
  obtain ⟨r2, hg2, h⟩ := bind_some h
  refine WP.callV rfl rfl rfl rfl rfl rfl rfl (by kernel_rfl) (fun w1 hw1 => (adj_Graph_Loops_w hg2 (p1.le ((Held.mem (List.Mem.tail _ (List.Mem.tail _ (List.Mem.head _)))) _ _ hw1)) :)) ⟨⟩ ?_
  refine WP.yes rfl rfl rfl ?_
  iterate 3 (refine WP.sx tysOk rfl ⟨⟨⟩, ⟨⟩⟩ ?_)
  by_cases hh2 : 0 < r2
  ·rw [if_pos hh2] at h
   refine WP.no rfl rfl (decide_eq_true hh2) rfl rfl ?_
   iterate 5 (refine WP.no rfl rfl rfl rfl rfl ?_)
   refine WP.sx tysOk rfl ⟨⟨⟩, ⟨⟩⟩ ?_
   refine WP.condT rfl rfl ?_
   refine WP.sx tysOk rfl ⟨⟨⟩, ⟨⟩⟩ ?_
   cases h
   refine WP.retR tysOk rfl rfl ⟨_, _, rfl, rfl, rfl⟩ (fun w1 hw1 => ⟨rfl, Ret.below_ hw1 (.cons (.tail (.tail .head)) .nil)⟩)
  rw [if_neg hh2] at h
  refine WP.yes rfl rfl (decide_eq_false hh2) ?_
  refine WP.sx tysOk rfl ⟨⟨⟩, ⟨⟩⟩ ?_
  refine WP.yes rfl rfl rfl ?_
  refine WP.lx tysOk rfl ⟨⟩ (CellAt.blk (.tail .head) rfl) ?_
  refine WP.yes rfl rfl rfl ?_
  refine WP.sx tysOk rfl ⟨⟨⟩, ⟨⟩⟩ ?_
  refine WP.yes rfl rfl rfl ?_
  obtain ⟨hj1, h⟩ := ck_some h
  refine WP.ixA tysOk rfl ⟨⟩ rfl rfl rfl rfl rfl rfl rfl rfl hj1 (hs1.ex hj1) ?_
  intro b1 b1v hA1
  refine WP.yes rfl rfl rfl ?_
  refine WP.lx tysOk rfl ⟨⟩ (hs1.at0 hA1 (Held.mem (List.Mem.tail _ (List.Mem.tail _ (List.Mem.head _)))) hj1 rfl) ?_
  refine WP.yes rfl rfl rfl ?_
  iterate 2 (refine WP.sx tysOk rfl ⟨⟨⟩, ⟨⟩⟩ ?_)
  refine WP.cond_d rfl rfl (fun hh3 => ?_) (fun hh3 => ?_)
  ·rw [if_pos hh3] at h
   refine WP.sx tysOk rfl ⟨⟨⟩, ⟨⟩⟩ ?_
   cases h
   refine WP.retR tysOk rfl rfl ⟨_, _, rfl, rfl, rfl⟩ (fun w1 hw1 => ⟨rfl, Ret.below_ hw1 (.cons (.tail (.tail .head)) .nil)⟩)
  rw [if_neg hh3] at h
  refine WP.sx tysOk rfl ⟨⟨⟩, ⟨⟩⟩ ?_
  refine WP.lenO (xs := r1) tysOk rfl ⟨⟩ rfl rfl rfl rfl rfl rfl hf1 ?_
  refine WP.sx tysOk rfl ⟨⟨⟩, ⟨⟩⟩ ?_
  refine WP.loop (α := Nat × Int) (fun x => lp (leaf_shut_b1 g1 i1 n1 r1) x.1 x.2 = some r) (fun x => [(0, .pointer (some ⟨gg1, 0, none⟩)), (2, iv n1), (4, .pointer (some ⟨g2, 0, none⟩)), (30, .slice A3 n2 c3), (31, iv (r1.length : Int)), (32, iv x.2)]) (fun x => [Ow (fI .i64) 3 A3 n2 c3 r1, .blk g2 26 [.slice A1 i1.supply.length c1, .slice A2 i1.arcs.length c2], .fz (PH.of w)]) (fun x => x.1) rfl (big, 0) h ?_ ?_ ?_
  ·repeat first | exact ⟨⟩ | refine ⟨rfl, ?_⟩
  ·exact (.cons .head (.cons .head (.cons .head .nil)))
  rintro ⟨n7, s2⟩ h
  dsimp only at h ⊢
  rcases n7 with _ | n7
  · exact (lp_no h).elim
  replace h := lp_succ h
  unfold leaf_shut_b1 at h
  try dsimp only at h
  refine WP.sx tysOk rfl ⟨⟨⟩, ⟨⟩⟩ ?_
  refine WP.cond_d rfl rfl (fun hh10 => ?_) (fun hh10 => ?_)
  ·rw [if_pos hh10] at h
   obtain ⟨hj6, h⟩ := ck_some h
   refine WP.ixO tysOk rfl ⟨⟩ rfl rfl rfl rfl rfl rfl rfl rfl hf1 hj6 ?_
   intro b6 hA6
   refine WP.lx tysOk rfl ⟨⟩ (OwS.at0 .head hA6 hj6 rfl) ?_
   iterate 2 (refine WP.sx tysOk rfl ⟨⟨⟩, ⟨⟩⟩ ?_)
   refine WP.lx tysOk rfl ⟨⟩ (CellAt.blk (.tail .head) rfl) ?_
   refine WP.sx tysOk rfl ⟨⟨⟩, ⟨⟩⟩ ?_
   obtain ⟨hj7, h⟩ := ck_some h
   refine WP.ixA tysOk rfl ⟨⟩ rfl rfl rfl rfl rfl rfl rfl rfl hj7 (hs2.ex hj7) ?_
   intro b7 b7v hA7
   refine WP.sx tysOk rfl ⟨⟨⟩, ⟨⟩⟩ ?_
   refine WP.lx tysOk rfl ⟨⟩ (hs2.at hA7 (Held.mem (List.Mem.tail _ (List.Mem.tail _ (List.Mem.head _)))) hj7 2 rfl) ?_
   refine WP.sx tysOk rfl ⟨⟨⟩, ⟨⟩⟩ ?_
   refine WP.cond_d rfl rfl (fun hh11 => ?_) (fun hh11 => ?_)
   ·rw [if_pos hh11] at h
    refine WP.sx tysOk rfl ⟨⟨⟩, ⟨⟩⟩ ?_
    cases h
    refine WP.retR tysOk rfl rfl ⟨_, _, rfl, rfl, rfl⟩ (fun w1 hw1 => ⟨rfl, Ret.below_ hw1 (.cons (.tail (.tail .head)) .nil)⟩)
   rw [if_neg hh11] at h
   iterate 2 (refine WP.sx tysOk rfl ⟨⟨⟩, ⟨⟩⟩ ?_)
   refine WP.stop rfl (n7, w64 (s2 + 1)) ⟨h, Nat.lt_succ_self _⟩ ?_ ?_
   ·repeat first | exact ⟨⟩ | refine ⟨rfl, ?_⟩
   exact (.cons .head (.cons .head (.cons .head .nil)))
  rw [if_neg hh10] at h
  iterate 2 (refine WP.sx tysOk rfl ⟨⟨⟩, ⟨⟩⟩ ?_)
  obtain ⟨r7, hg7, h⟩ := bind_some h
  refine WP.callS (adj_Graph_Out_S r7) rfl rfl rfl rfl rfl rfl rfl (by kernel_rfl) (fun w1 hw1 => (adj_Graph_Out_w hg7 (p1.le ((Held.mem (List.Mem.tail _ (List.Mem.tail _ (List.Mem.head _)))) _ _ hw1)) :)) ?_
  rintro _ _ ⟨A8, n8, c8, rfl, hf6, rfl⟩
  refine WP.lenO (xs := r7) tysOk rfl ⟨⟩ rfl rfl rfl rfl rfl rfl hf6 ?_
  iterate 2 (refine WP.sx tysOk rfl ⟨⟨⟩, ⟨⟩⟩ ?_)
  by_cases hh12 : (r7.length : Int) = 0
  ·rw [if_pos hh12] at h
   refine WP.no rfl rfl (decide_eq_true hh12) rfl rfl ?_
   iterate 4 (refine WP.no rfl rfl rfl rfl rfl ?_)
   iterate 2 (refine WP.sx tysOk rfl ⟨⟨⟩, ⟨⟩⟩ ?_)
   cases h
   refine WP.retR tysOk rfl rfl ⟨_, _, rfl, rfl, rfl⟩ (fun w1 hw1 => ⟨rfl, Ret.below_ hw1 (.cons (.tail (.tail (.tail .head))) .nil)⟩)
  rw [if_neg hh12] at h
  refine WP.yes rfl rfl (decide_eq_false hh12) ?_
  iterate 2 (refine WP.sx tysOk rfl ⟨⟨⟩, ⟨⟩⟩ ?_; refine WP.yes rfl rfl rfl ?_)
  obtain ⟨r8, hg8, h⟩ := bind_some h
  refine WP.callS (adj_Graph_In_S r8) rfl rfl rfl rfl rfl rfl rfl (by kernel_rfl) (fun w1 hw1 => (adj_Graph_In_w hg8 (p1.le ((Held.mem (List.Mem.tail _ (List.Mem.tail _ (List.Mem.tail _ (List.Mem.head _))))) _ _ hw1)) :)) ?_
  rintro _ _ ⟨A9, n9, c9, rfl, hf7, rfl⟩
  refine WP.yes rfl rfl rfl ?_
  refine WP.lenO (xs := r8) tysOk rfl ⟨⟩ rfl rfl rfl rfl rfl rfl hf7 ?_
  refine WP.yes rfl rfl rfl ?_
  iterate 3 (refine WP.sx tysOk rfl ⟨⟨⟩, ⟨⟩⟩ ?_)
  cases h
  refine WP.retR tysOk rfl rfl ⟨_, _, rfl, rfl, rfl⟩ (fun w1 hw1 => ⟨rfl, Ret.below_ hw1 (.cons (.tail (.tail (.tail (.tail .head)))) .nil)⟩)

set_option maxRecDepth 20000 in
set_option maxHeartbeats 8000000 in
theorem leaf_Shut_w {w : World} {v0 : Value} {i1 : Inst} {n1 : Int} {r : Bool} (h : leaf_Shut i1 n1 = some r) (p1 : InsZ (PH.of w) v0 i1) :
    Calls Tryd.prog 11 #[v0, iv n1] w fun e w' => e = .returned (.bool (r)) ∧ Below w.heap.size w w' := by
  obtain ⟨A1, c1, A2, c2, rfl, hs1, hs2⟩ := p1
  unfold leaf_Shut at h
  refine enter_ Tryd.func11 rfl Tryd.ntmps11 rfl ?_
  refine WP.box rfl rfl rfl rfl rfl rfl ?_
  intro g1
  refine WP.sx tysOk rfl ⟨⟨⟩, ⟨⟩⟩ ?_
  obtain ⟨r1, hg1, h⟩ := bind_some h
  obtain ⟨r2, hg2, h⟩ := bind_some h
  refine WP.drawL 5 [(1, [], fun _ => adj_New_S r1), (4, [1], fun _ => constSpec (.bool (r2)))] rfl (by kernel_rfl) (by kernel_rfl) (by kernel_rfl) ?_
  refine WP.mx_ tysOk rfl ⟨⟨rfl, rfl⟩, rfl⟩ (SegAt.blk' .head rfl) ?_
  refine WP.lcall rfl ⟨rfl, rfl⟩ rfl rfl rfl rfl rfl rfl rfl (by kernel_rfl) (fun w1 hw1 => (adj_New_w hg1 (InsZ.mk_ ((hs1.le' ((Held.mem (List.Mem.tail _ (List.Mem.head _))) _ _ hw1)).of) ((hs2.le' ((Held.mem (List.Mem.tail _ (List.Mem.head _))) _ _ hw1)).of)) :)) ?_
  rintro vg1 _ ⟨Zn1, hgr1, rfl⟩
  obtain ⟨gg1, rfl⟩ := hgr1.ptr'
  refine WP.mx_ tysOk rfl ⟨⟨rfl, rfl⟩, rfl⟩ (SegAt.blk' .head rfl) ?_
  refine WP.sx tysOk rfl ⟨⟨⟨rfl, rfl⟩, rfl⟩, ⟨⟩⟩ ?_
  refine WP.lcall rfl ⟨rfl, rfl⟩ rfl rfl rfl rfl rfl rfl rfl (by kernel_rfl) (fun w1 hw1 => ((leaf_shut_w hg2 (hgr1.le ((Held.mem (List.Mem.head _)) _ _ hw1)) (InsZ.mk_ ((hs1.le' ((Held.mem (List.Mem.tail _ (List.Mem.tail _ (List.Mem.head _)))) _ _ hw1)).of) ((hs2.le' ((Held.mem (List.Mem.tail _ (List.Mem.tail _ (List.Mem.head _)))) _ _ hw1)).of)) :)).mono fun e w' h => ⟨_, [], h.1, ⟨rfl, rfl⟩, Ret.nil h.2⟩) ?_
  rintro _ _ ⟨rfl, rfl⟩
  refine WP.lend rfl ⟨rfl, rfl⟩ ?_
  refine WP.sx tysOk rfl ⟨⟨⟩, ⟨⟩⟩ ?_
  cases h
  refine WP.retR tysOk rfl rfl ⟨_, _, rfl, rfl, rfl⟩ (fun w1 hw1 => ⟨rfl, Ret.below_ hw1 (.cons (.tail (.tail .head)) .nil)⟩)

set_option maxRecDepth 20000 in
set_option maxHeartbeats 8000000 in
theorem law17_known_w {w : World} {r : Bool} (h : law17_known  = some r) (pg : GlobE (PH.of w)) :
    Calls Tryd.prog 5 #[] w fun e w' => e = .returned (.bool (r)) ∧ Below w.heap.size w w' := by
  unfold law17_known at h
  refine enter_ Tryd.func5 rfl Tryd.ntmps5 rfl ?_
  refine WP.sx tysOk rfl ⟨⟨⟩, ⟨⟩⟩ ?_
  refine WP.bsO (f := (fI .i64)) [3, -3] tysOk rfl rfl rfl rfl rfl rfl rfl rfl rfl rfl rfl rfl rfl rfl ?_
  intro g1 hf1
  refine WP.bld (cs := [iv 0, iv 1, iv 0, iv 5, iv 4]) tysOk rfl ⟨⟩ rfl rfl rfl rfl rfl rfl rfl ?_
  refine WP.bsO (f := fA) [(Arc.mk 0 1 0 5 4)] tysOk rfl rfl rfl rfl rfl rfl rfl rfl rfl rfl rfl rfl rfl rfl ?_
  intro g2 hf2
  refine WP.bld (cs := [.slice (some ⟨g1, 0, none⟩) 2 2, .slice (some ⟨g2, 0, none⟩) 1 1]) tysOk rfl ⟨⟩ rfl rfl rfl rfl rfl rfl rfl ?_
  refine WP.al tysOk rfl rfl rfl rfl rfl rfl ?_
  intro g3
  refine WP.sto' tysOk [.slice (some ⟨g1, 0, none⟩) 2 2, .slice (some ⟨g2, 0, none⟩) 1 1] rfl rfl rfl rfl rfl rfl rfl rfl rfl .head rfl rfl ?_
  refine WP.mx_ tysOk rfl ⟨⟩ (SegAt.blk' .head rfl) ?_
  obtain ⟨r1, hg1, h⟩ := bind_some h
  refine WP.freezeO (.tail (.tail .head)) hf1 ?_
  intro Zp1 hz1
  refine WP.freezeO (.tail (.tail .head)) hf2 ?_
  intro Zp2 hz2
  refine WP.callS (leaf_Leaf_S (PH.or Zp1 Zp2) r1) rfl rfl rfl rfl rfl rfl rfl (by kernel_rfl) (fun w1 hw1 => (leaf_Leaf_w (Z := (PH.or Zp1 Zp2)) ((Held.or (Held.mem (List.Mem.tail _ (List.Mem.head _))) (Held.mem (List.Mem.head _))) _ _ hw1) hg1 (InsZ.mk_ (SlF.of_n (hz1.le' (PH.le.trans PH.le.rfl_ (PH.le_or _ _))) hf1) (SlF.of_n (hz2.le' (PH.ri_or ((Held.mem (List.Mem.tail _ (List.Mem.head _))) _ _ hw1) ((Held.mem (List.Mem.head _)) _ _ hw1))) hf2)) (pg.le ((Held.mem (List.Mem.tail _ (List.Mem.tail _ (List.Mem.tail _ (List.Mem.head _))))) _ _ hw1)) :)) ?_
  rintro _ _ ⟨Zn1, A1, _, c1, A2, _, c2, A3, _, c3, A4, _, c4, rfl, rfl, rfl, rfl, rfl, hs1, hs2, hs3, hs4, rfl⟩
  iterate 3 (refine WP.sx tysOk rfl ⟨⟨⟩, ⟨⟩⟩ ?_)
  refine WP.al tysOk rfl rfl rfl rfl rfl rfl ?_
  intro g4
  refine WP.sto' tysOk [.slice A1 r1.1.inst.supply.length c1, .slice A2 r1.1.inst.arcs.length c2, iv r1.1.rcd.pass, .slice A3 r1.1.rcd.was.supply.length c3, .slice A4 r1.1.rcd.was.arcs.length c4, iv r1.1.off.hi, .int .u64 (r1.1.off.lo), .bool (r1.1.did)] rfl rfl rfl rfl rfl rfl rfl rfl rfl .head rfl rfl ?_
  refine WP.sx tysOk rfl ⟨⟨⟩, ⟨⟩⟩ ?_
  refine WP.mx_ tysOk rfl ⟨⟩ (SegAt.blk' (.tail (.tail (.tail (.tail .head)))) rfl) ?_
  obtain ⟨r2, hg2, h⟩ := bind_some h
  refine WP.callV rfl rfl rfl rfl rfl rfl rfl (by kernel_rfl) (fun w1 hw1 => (leaf_Tip_w hg2 (InsZ.mk_ (SlF.of_n (hz1.le' ((Held.mem (List.Mem.tail _ (List.Mem.tail _ (List.Mem.tail _ (List.Mem.head _))))) _ _ hw1)) hf1) (SlF.of_n (hz2.le' ((Held.mem (List.Mem.tail _ (List.Mem.tail _ (List.Mem.head _)))) _ _ hw1)) hf2)) :)) ⟨⟩ ?_
  iterate 7 (refine WP.sx tysOk rfl ⟨⟨⟩, ⟨⟩⟩ ?_)
  by_cases hh1 : r1.2 = 0
  ·rw [if_pos hh1] at h
   by_cases hh2 : r1.1.did = true
   ·rw [if_pos hh2] at h
    obtain ⟨r3, hg3, h⟩ := bind_some h
    by_cases hh3 : r1.1.off = r3
    ·rw [if_pos hh3] at h
     obtain ⟨r4, hg4, h⟩ := bind_some h
     by_cases hh4 : r4 = true
     ·rw [if_pos hh4] at h
      by_cases hh5 : r2.1 = 0
      ·rw [if_pos hh5] at h
       by_cases hh6 : r2.2.1 = 3
       ·rw [if_pos hh6] at h
        by_cases hh7 : r2.2.2 = true
        ·rw [if_pos hh7] at h
         obtain ⟨r5, hg5, h⟩ := bind_some h
         refine WP.drawL 35 [(9, [], fun _ => constSpec (.agg #[iv r3.hi, .int .u64 (r3.lo)])), (15, [], litSpec 2 1), (17, [15], fun _ => constSpec (.bool (r4))), (32, [], fun _ => constSpec (.bool (r5)))] rfl (by kernel_rfl) (by kernel_rfl) (by kernel_rfl) ?_
         iterate 3 (refine WP.sx tysOk rfl ⟨⟨⟨rfl, rfl⟩, rfl⟩, ⟨⟩⟩ ?_)
         refine WP.yes rfl rfl (decide_eq_true hh1) ?_
         refine WP.sx tysOk rfl ⟨⟨⟨rfl, rfl⟩, rfl⟩, ⟨⟩⟩ ?_
         refine WP.yes rfl rfl rfl ?_
         refine WP.lx tysOk rfl ⟨⟨rfl, rfl⟩, rfl⟩ (CellAt.blk .head rfl) ?_
         iterate 2 (refine WP.sx tysOk rfl ⟨⟨⟨rfl, rfl⟩, rfl⟩, ⟨⟩⟩ ?_)
         refine WP.yes rfl rfl hh2 ?_
         refine WP.sx tysOk rfl ⟨⟨⟨rfl, rfl⟩, rfl⟩, ⟨⟩⟩ ?_
         refine WP.yes rfl rfl rfl ?_
         refine WP.mx_ tysOk rfl ⟨⟨rfl, rfl⟩, rfl⟩ (SegAt.blk' .head rfl) ?_
         refine WP.yes rfl rfl rfl ?_
         refine WP.callV rfl rfl rfl rfl rfl rfl rfl (by kernel_rfl) (fun w1 hw1 => (num_Of_w hg3  :)) ⟨⟨rfl, rfl⟩, rfl⟩ ?_
         refine WP.yes rfl rfl rfl ?_
         refine WP.eqS rfl ⟨⟨rfl, rfl⟩, rfl⟩ rfl rfl rfl rfl rfl rfl (by kernel_rfl) (eq33 r1.1.off r3) ?_
         iterate 2 (refine WP.sx tysOk rfl ⟨⟨⟨rfl, rfl⟩, rfl⟩, ⟨⟩⟩ ?_)
         refine WP.yes rfl rfl (decide_eq_true hh3) ?_
         refine WP.sx tysOk rfl ⟨⟨⟨rfl, rfl⟩, rfl⟩, ⟨⟩⟩ ?_
         refine WP.yes rfl rfl rfl ?_
         refine WP.mx_ tysOk rfl ⟨⟨rfl, rfl⟩, rfl⟩ (SegAt.blk' .head rfl) ?_
         refine WP.yes rfl rfl rfl ?_
         refine WP.lbs tysOk rfl ⟨rfl, rfl⟩ rfl rfl rfl rfl rfl rfl rfl rfl rfl rfl rfl rfl ?_
         intro g5
         refine WP.yes rfl rfl rfl ?_
         refine WP.bld (cs := [.slice (some ⟨g5, 0, none⟩) 1 1, .slice none 0 0]) tysOk rfl ⟨⟨rfl, rfl⟩, rfl⟩ rfl rfl rfl rfl rfl rfl rfl ?_
         refine WP.yes rfl rfl rfl ?_
         refine WP.lcall rfl ⟨rfl, rfl⟩ rfl rfl rfl rfl rfl rfl rfl (by kernel_rfl) (fun w1 hw1 => ((ref03_Same_w hg4 (InsZ.mk_ ((hs1.le' ((Held.or (Held.or (Held.mem (List.Mem.tail _ (List.Mem.tail _ (List.Mem.tail _ (List.Mem.tail _ (List.Mem.head _)))))) (Held.mem (List.Mem.tail _ (List.Mem.tail _ (List.Mem.tail _ (List.Mem.head _)))))) (Held.mem (List.Mem.tail _ (List.Mem.tail _ (List.Mem.head _))))) _ _ hw1)).of) ((hs2.le' ((Held.or (Held.or (Held.mem (List.Mem.tail _ (List.Mem.tail _ (List.Mem.tail _ (List.Mem.tail _ (List.Mem.head _)))))) (Held.mem (List.Mem.tail _ (List.Mem.tail _ (List.Mem.tail _ (List.Mem.head _)))))) (Held.mem (List.Mem.tail _ (List.Mem.tail _ (List.Mem.head _))))) _ _ hw1)).of)) (InsZ.mk_ (hw1.blL [0] .head rfl rfl rfl) SlF.nil_) :)).mono fun e w' h => ⟨_, [], h.1, ⟨rfl, rfl⟩, Ret.nil h.2⟩) ?_
         rintro _ _ ⟨rfl, rfl⟩
         iterate 2 (refine WP.sx tysOk rfl ⟨⟨⟨rfl, rfl⟩, rfl⟩, ⟨⟩⟩ ?_)
         refine WP.yes rfl rfl hh4 ?_
         refine WP.sx tysOk rfl ⟨⟨⟨rfl, rfl⟩, rfl⟩, ⟨⟩⟩ ?_
         refine WP.yes rfl rfl rfl ?_
         iterate 3 (refine WP.sx tysOk rfl ⟨⟨⟨rfl, rfl⟩, rfl⟩, ⟨⟩⟩ ?_)
         refine WP.yes rfl rfl (decide_eq_true hh5) ?_
         refine WP.sx tysOk rfl ⟨⟨⟨rfl, rfl⟩, rfl⟩, ⟨⟩⟩ ?_
         refine WP.yes rfl rfl rfl ?_
         iterate 3 (refine WP.sx tysOk rfl ⟨⟨⟨rfl, rfl⟩, rfl⟩, ⟨⟩⟩ ?_)
         refine WP.yes rfl rfl (decide_eq_true hh6) ?_
         iterate 3 (refine WP.sx tysOk rfl ⟨⟨⟨rfl, rfl⟩, rfl⟩, ⟨⟩⟩ ?_)
         refine WP.yes rfl rfl hh7 ?_
         refine WP.mx_ tysOk rfl ⟨⟨rfl, rfl⟩, rfl⟩ (SegAt.blk' (.tail (.tail (.tail (.tail .head)))) rfl) ?_
         refine WP.yes rfl rfl rfl ?_
         refine WP.callV rfl rfl rfl rfl rfl rfl rfl (by kernel_rfl) (fun w1 hw1 => (leaf_Shut_w hg5 (InsZ.mk_ (SlF.of_n (hz1.le' ((Held.mem (List.Mem.tail _ (List.Mem.tail _ (List.Mem.tail _ (List.Mem.head _))))) _ _ hw1)) hf1) (SlF.of_n (hz2.le' ((Held.mem (List.Mem.tail _ (List.Mem.tail _ (List.Mem.head _)))) _ _ hw1)) hf2)) :)) ⟨⟨rfl, rfl⟩, rfl⟩ ?_
         refine WP.yes rfl rfl rfl ?_
         iterate 2 (refine WP.sx tysOk rfl ⟨⟨⟨rfl, rfl⟩, rfl⟩, ⟨⟩⟩ ?_)
         refine WP.lend rfl ⟨rfl, rfl⟩ ?_
         refine WP.repiece (p' := .blk g5 2 (cl (fI .i64) [0])) .head rfl ?_
         refine WP.shut0 (n := 1) (z := (fI .i64).z) .head (by decide) rfl ?_
         have hf3 : OwF (some ⟨g5, 0, none⟩) 1 [0] := ⟨rfl, fun _ => ⟨g5, rfl⟩⟩
         refine WP.sx tysOk rfl ⟨⟨⟩, ⟨⟩⟩ ?_
         cases h
         refine WP.retR tysOk rfl rfl ⟨_, _, rfl, rfl, rfl⟩ (fun w1 hw1 => ⟨rfl, Ret.below_ hw1 (.cons (.tail (.tail (.tail (.tail (.tail (.tail .head)))))) .nil)⟩)
        rw [if_neg hh7] at h
        refine WP.drawL 35 [(9, [], fun _ => constSpec (.agg #[iv r3.hi, .int .u64 (r3.lo)])), (15, [], litSpec 2 1), (17, [15], fun _ => constSpec (.bool (r4)))] rfl (by kernel_rfl) (by kernel_rfl) (by kernel_rfl) ?_
        iterate 3 (refine WP.sx tysOk rfl ⟨⟨⟨rfl, rfl⟩, rfl⟩, ⟨⟩⟩ ?_)
        refine WP.yes rfl rfl (decide_eq_true hh1) ?_
        refine WP.sx tysOk rfl ⟨⟨⟨rfl, rfl⟩, rfl⟩, ⟨⟩⟩ ?_
        refine WP.yes rfl rfl rfl ?_
        refine WP.lx tysOk rfl ⟨⟨rfl, rfl⟩, rfl⟩ (CellAt.blk .head rfl) ?_
        iterate 2 (refine WP.sx tysOk rfl ⟨⟨⟨rfl, rfl⟩, rfl⟩, ⟨⟩⟩ ?_)
        refine WP.yes rfl rfl hh2 ?_
        refine WP.sx tysOk rfl ⟨⟨⟨rfl, rfl⟩, rfl⟩, ⟨⟩⟩ ?_
        refine WP.yes rfl rfl rfl ?_
        refine WP.mx_ tysOk rfl ⟨⟨rfl, rfl⟩, rfl⟩ (SegAt.blk' .head rfl) ?_
        refine WP.yes rfl rfl rfl ?_
        refine WP.callV rfl rfl rfl rfl rfl rfl rfl (by kernel_rfl) (fun w1 hw1 => (num_Of_w hg3  :)) ⟨⟨rfl, rfl⟩, rfl⟩ ?_
        refine WP.yes rfl rfl rfl ?_
        refine WP.eqS rfl ⟨⟨rfl, rfl⟩, rfl⟩ rfl rfl rfl rfl rfl rfl (by kernel_rfl) (eq33 r1.1.off r3) ?_
        iterate 2 (refine WP.sx tysOk rfl ⟨⟨⟨rfl, rfl⟩, rfl⟩, ⟨⟩⟩ ?_)
        refine WP.yes rfl rfl (decide_eq_true hh3) ?_
        refine WP.sx tysOk rfl ⟨⟨⟨rfl, rfl⟩, rfl⟩, ⟨⟩⟩ ?_
        refine WP.yes rfl rfl rfl ?_
        refine WP.mx_ tysOk rfl ⟨⟨rfl, rfl⟩, rfl⟩ (SegAt.blk' .head rfl) ?_
        refine WP.yes rfl rfl rfl ?_
        refine WP.lbs tysOk rfl ⟨rfl, rfl⟩ rfl rfl rfl rfl rfl rfl rfl rfl rfl rfl rfl rfl ?_
        intro g5
        refine WP.yes rfl rfl rfl ?_
        refine WP.bld (cs := [.slice (some ⟨g5, 0, none⟩) 1 1, .slice none 0 0]) tysOk rfl ⟨⟨rfl, rfl⟩, rfl⟩ rfl rfl rfl rfl rfl rfl rfl ?_
        refine WP.yes rfl rfl rfl ?_
        refine WP.lcall rfl ⟨rfl, rfl⟩ rfl rfl rfl rfl rfl rfl rfl (by kernel_rfl) (fun w1 hw1 => ((ref03_Same_w hg4 (InsZ.mk_ ((hs1.le' ((Held.or (Held.or (Held.mem (List.Mem.tail _ (List.Mem.tail _ (List.Mem.tail _ (List.Mem.tail _ (List.Mem.head _)))))) (Held.mem (List.Mem.tail _ (List.Mem.tail _ (List.Mem.tail _ (List.Mem.head _)))))) (Held.mem (List.Mem.tail _ (List.Mem.tail _ (List.Mem.head _))))) _ _ hw1)).of) ((hs2.le' ((Held.or (Held.or (Held.mem (List.Mem.tail _ (List.Mem.tail _ (List.Mem.tail _ (List.Mem.tail _ (List.Mem.head _)))))) (Held.mem (List.Mem.tail _ (List.Mem.tail _ (List.Mem.tail _ (List.Mem.head _)))))) (Held.mem (List.Mem.tail _ (List.Mem.tail _ (List.Mem.head _))))) _ _ hw1)).of)) (InsZ.mk_ (hw1.blL [0] .head rfl rfl rfl) SlF.nil_) :)).mono fun e w' h => ⟨_, [], h.1, ⟨rfl, rfl⟩, Ret.nil h.2⟩) ?_
        rintro _ _ ⟨rfl, rfl⟩
        iterate 2 (refine WP.sx tysOk rfl ⟨⟨⟨rfl, rfl⟩, rfl⟩, ⟨⟩⟩ ?_)
        refine WP.yes rfl rfl hh4 ?_
        refine WP.sx tysOk rfl ⟨⟨⟨rfl, rfl⟩, rfl⟩, ⟨⟩⟩ ?_
        refine WP.yes rfl rfl rfl ?_
        iterate 3 (refine WP.sx tysOk rfl ⟨⟨⟨rfl, rfl⟩, rfl⟩, ⟨⟩⟩ ?_)
        refine WP.yes rfl rfl (decide_eq_true hh5) ?_
        refine WP.sx tysOk rfl ⟨⟨⟨rfl, rfl⟩, rfl⟩, ⟨⟩⟩ ?_
        refine WP.yes rfl rfl rfl ?_
        iterate 3 (refine WP.sx tysOk rfl ⟨⟨⟨rfl, rfl⟩, rfl⟩, ⟨⟩⟩ ?_)
        refine WP.yes rfl rfl (decide_eq_true hh6) ?_
        iterate 3 (refine WP.sx tysOk rfl ⟨⟨⟨rfl, rfl⟩, rfl⟩, ⟨⟩⟩ ?_)
        refine WP.no rfl rfl (bfalse hh7) rfl rfl ?_
        iterate 2 (refine WP.no rfl rfl rfl rfl rfl ?_)
        refine WP.sx tysOk rfl ⟨⟨⟨rfl, rfl⟩, rfl⟩, ⟨⟩⟩ ?_
        refine WP.lend rfl ⟨rfl, rfl⟩ ?_
        refine WP.repiece (p' := .blk g5 2 (cl (fI .i64) [0])) .head rfl ?_
        refine WP.shut0 (n := 1) (z := (fI .i64).z) .head (by decide) rfl ?_
        have hf3 : OwF (some ⟨g5, 0, none⟩) 1 [0] := ⟨rfl, fun _ => ⟨g5, rfl⟩⟩
        refine WP.sx tysOk rfl ⟨⟨⟩, ⟨⟩⟩ ?_
        cases h
        refine WP.retR tysOk rfl rfl ⟨_, _, rfl, rfl, rfl⟩ (fun w1 hw1 => ⟨rfl, Ret.below_ hw1 (.cons (.tail (.tail (.tail (.tail (.tail (.tail .head)))))) .nil)⟩)
       rw [if_neg hh6] at h
       refine WP.drawL 35 [(9, [], fun _ => constSpec (.agg #[iv r3.hi, .int .u64 (r3.lo)])), (15, [], litSpec 2 1), (17, [15], fun _ => constSpec (.bool (r4)))] rfl (by kernel_rfl) (by kernel_rfl) (by kernel_rfl) ?_
       iterate 3 (refine WP.sx tysOk rfl ⟨⟨⟨rfl, rfl⟩, rfl⟩, ⟨⟩⟩ ?_)
       refine WP.yes rfl rfl (decide_eq_true hh1) ?_
       refine WP.sx tysOk rfl ⟨⟨⟨rfl, rfl⟩, rfl⟩, ⟨⟩⟩ ?_
       refine WP.yes rfl rfl rfl ?_
       refine WP.lx tysOk rfl ⟨⟨rfl, rfl⟩, rfl⟩ (CellAt.blk .head rfl) ?_
       iterate 2 (refine WP.sx tysOk rfl ⟨⟨⟨rfl, rfl⟩, rfl⟩, ⟨⟩⟩ ?_)
       refine WP.yes rfl rfl hh2 ?_
       refine WP.sx tysOk rfl ⟨⟨⟨rfl, rfl⟩, rfl⟩, ⟨⟩⟩ ?_
       refine WP.yes rfl rfl rfl ?_
       refine WP.mx_ tysOk rfl ⟨⟨rfl, rfl⟩, rfl⟩ (SegAt.blk' .head rfl) ?_
       refine WP.yes rfl rfl rfl ?_
       refine WP.callV rfl rfl rfl rfl rfl rfl rfl (by kernel_rfl) (fun w1 hw1 => (num_Of_w hg3  :)) ⟨⟨rfl, rfl⟩, rfl⟩ ?_
       refine WP.yes rfl rfl rfl ?_
       refine WP.eqS rfl ⟨⟨rfl, rfl⟩, rfl⟩ rfl rfl rfl rfl rfl rfl (by kernel_rfl) (eq33 r1.1.off r3) ?_
       iterate 2 (refine WP.sx tysOk rfl ⟨⟨⟨rfl, rfl⟩, rfl⟩, ⟨⟩⟩ ?_)
       refine WP.yes rfl rfl (decide_eq_true hh3) ?_
       refine WP.sx tysOk rfl ⟨⟨⟨rfl, rfl⟩, rfl⟩, ⟨⟩⟩ ?_
       refine WP.yes rfl rfl rfl ?_
       refine WP.mx_ tysOk rfl ⟨⟨rfl, rfl⟩, rfl⟩ (SegAt.blk' .head rfl) ?_
       refine WP.yes rfl rfl rfl ?_
       refine WP.lbs tysOk rfl ⟨rfl, rfl⟩ rfl rfl rfl rfl rfl rfl rfl rfl rfl rfl rfl rfl ?_
       intro g5
       refine WP.yes rfl rfl rfl ?_
       refine WP.bld (cs := [.slice (some ⟨g5, 0, none⟩) 1 1, .slice none 0 0]) tysOk rfl ⟨⟨rfl, rfl⟩, rfl⟩ rfl rfl rfl rfl rfl rfl rfl ?_
       refine WP.yes rfl rfl rfl ?_
       refine WP.lcall rfl ⟨rfl, rfl⟩ rfl rfl rfl rfl rfl rfl rfl (by kernel_rfl) (fun w1 hw1 => ((ref03_Same_w hg4 (InsZ.mk_ ((hs1.le' ((Held.or (Held.or (Held.mem (List.Mem.tail _ (List.Mem.tail _ (List.Mem.tail _ (List.Mem.tail _ (List.Mem.head _)))))) (Held.mem (List.Mem.tail _ (List.Mem.tail _ (List.Mem.tail _ (List.Mem.head _)))))) (Held.mem (List.Mem.tail _ (List.Mem.tail _ (List.Mem.head _))))) _ _ hw1)).of) ((hs2.le' ((Held.or (Held.or (Held.mem (List.Mem.tail _ (List.Mem.tail _ (List.Mem.tail _ (List.Mem.tail _ (List.Mem.head _)))))) (Held.mem (List.Mem.tail _ (List.Mem.tail _ (List.Mem.tail _ (List.Mem.head _)))))) (Held.mem (List.Mem.tail _ (List.Mem.tail _ (List.Mem.head _))))) _ _ hw1)).of)) (InsZ.mk_ (hw1.blL [0] .head rfl rfl rfl) SlF.nil_) :)).mono fun e w' h => ⟨_, [], h.1, ⟨rfl, rfl⟩, Ret.nil h.2⟩) ?_
       rintro _ _ ⟨rfl, rfl⟩
       iterate 2 (refine WP.sx tysOk rfl ⟨⟨⟨rfl, rfl⟩, rfl⟩, ⟨⟩⟩ ?_)
       refine WP.yes rfl rfl hh4 ?_
       refine WP.sx tysOk rfl ⟨⟨⟨rfl, rfl⟩, rfl⟩, ⟨⟩⟩ ?_
       refine WP.yes rfl rfl rfl ?_
       iterate 3 (refine WP.sx tysOk rfl ⟨⟨⟨rfl, rfl⟩, rfl⟩, ⟨⟩⟩ ?_)
       refine WP.yes rfl rfl (decide_eq_true hh5) ?_
       refine WP.sx tysOk rfl ⟨⟨⟨rfl, rfl⟩, rfl⟩, ⟨⟩⟩ ?_
       refine WP.yes rfl rfl rfl ?_
       iterate 3 (refine WP.sx tysOk rfl ⟨⟨⟨rfl, rfl⟩, rfl⟩, ⟨⟩⟩ ?_)
       refine WP.no rfl rfl (decide_eq_false hh6) rfl rfl ?_
       iterate 2 (refine WP.sx tysOk rfl ⟨⟨⟨rfl, rfl⟩, rfl⟩, ⟨⟩⟩ ?_)
       iterate 3 (refine WP.no rfl rfl rfl rfl rfl ?_)
       refine WP.sx tysOk rfl ⟨⟨⟨rfl, rfl⟩, rfl⟩, ⟨⟩⟩ ?_
       refine WP.lend rfl ⟨rfl, rfl⟩ ?_
       refine WP.repiece (p' := .blk g5 2 (cl (fI .i64) [0])) .head rfl ?_
       refine WP.shut0 (n := 1) (z := (fI .i64).z) .head (by decide) rfl ?_
       have hf3 : OwF (some ⟨g5, 0, none⟩) 1 [0] := ⟨rfl, fun _ => ⟨g5, rfl⟩⟩
       refine WP.sx tysOk rfl ⟨⟨⟩, ⟨⟩⟩ ?_
       cases h
       refine WP.retR tysOk rfl rfl ⟨_, _, rfl, rfl, rfl⟩ (fun w1 hw1 => ⟨rfl, Ret.below_ hw1 (.cons (.tail (.tail (.tail (.tail (.tail (.tail .head)))))) .nil)⟩)
      rw [if_neg hh5] at h
      refine WP.drawL 35 [(9, [], fun _ => constSpec (.agg #[iv r3.hi, .int .u64 (r3.lo)])), (15, [], litSpec 2 1), (17, [15], fun _ => constSpec (.bool (r4)))] rfl (by kernel_rfl) (by kernel_rfl) (by kernel_rfl) ?_
      iterate 3 (refine WP.sx tysOk rfl ⟨⟨⟨rfl, rfl⟩, rfl⟩, ⟨⟩⟩ ?_)
      refine WP.yes rfl rfl (decide_eq_true hh1) ?_
      refine WP.sx tysOk rfl ⟨⟨⟨rfl, rfl⟩, rfl⟩, ⟨⟩⟩ ?_
      refine WP.yes rfl rfl rfl ?_
      refine WP.lx tysOk rfl ⟨⟨rfl, rfl⟩, rfl⟩ (CellAt.blk .head rfl) ?_
      iterate 2 (refine WP.sx tysOk rfl ⟨⟨⟨rfl, rfl⟩, rfl⟩, ⟨⟩⟩ ?_)
      refine WP.yes rfl rfl hh2 ?_
      refine WP.sx tysOk rfl ⟨⟨⟨rfl, rfl⟩, rfl⟩, ⟨⟩⟩ ?_
      refine WP.yes rfl rfl rfl ?_
      refine WP.mx_ tysOk rfl ⟨⟨rfl, rfl⟩, rfl⟩ (SegAt.blk' .head rfl) ?_
      refine WP.yes rfl rfl rfl ?_
      refine WP.callV rfl rfl rfl rfl rfl rfl rfl (by kernel_rfl) (fun w1 hw1 => (num_Of_w hg3  :)) ⟨⟨rfl, rfl⟩, rfl⟩ ?_
      refine WP.yes rfl rfl rfl ?_
      refine WP.eqS rfl ⟨⟨rfl, rfl⟩, rfl⟩ rfl rfl rfl rfl rfl rfl (by kernel_rfl) (eq33 r1.1.off r3) ?_
      iterate 2 (refine WP.sx tysOk rfl ⟨⟨⟨rfl, rfl⟩, rfl⟩, ⟨⟩⟩ ?_)
      refine WP.yes rfl rfl (decide_eq_true hh3) ?_
      refine WP.sx tysOk rfl ⟨⟨⟨rfl, rfl⟩, rfl⟩, ⟨⟩⟩ ?_
      refine WP.yes rfl rfl rfl ?_
      refine WP.mx_ tysOk rfl ⟨⟨rfl, rfl⟩, rfl⟩ (SegAt.blk' .head rfl) ?_
      refine WP.yes rfl rfl rfl ?_
      refine WP.lbs tysOk rfl ⟨rfl, rfl⟩ rfl rfl rfl rfl rfl rfl rfl rfl rfl rfl rfl rfl ?_
      intro g5
      refine WP.yes rfl rfl rfl ?_
      refine WP.bld (cs := [.slice (some ⟨g5, 0, none⟩) 1 1, .slice none 0 0]) tysOk rfl ⟨⟨rfl, rfl⟩, rfl⟩ rfl rfl rfl rfl rfl rfl rfl ?_
      refine WP.yes rfl rfl rfl ?_
      refine WP.lcall rfl ⟨rfl, rfl⟩ rfl rfl rfl rfl rfl rfl rfl (by kernel_rfl) (fun w1 hw1 => ((ref03_Same_w hg4 (InsZ.mk_ ((hs1.le' ((Held.or (Held.or (Held.mem (List.Mem.tail _ (List.Mem.tail _ (List.Mem.tail _ (List.Mem.tail _ (List.Mem.head _)))))) (Held.mem (List.Mem.tail _ (List.Mem.tail _ (List.Mem.tail _ (List.Mem.head _)))))) (Held.mem (List.Mem.tail _ (List.Mem.tail _ (List.Mem.head _))))) _ _ hw1)).of) ((hs2.le' ((Held.or (Held.or (Held.mem (List.Mem.tail _ (List.Mem.tail _ (List.Mem.tail _ (List.Mem.tail _ (List.Mem.head _)))))) (Held.mem (List.Mem.tail _ (List.Mem.tail _ (List.Mem.tail _ (List.Mem.head _)))))) (Held.mem (List.Mem.tail _ (List.Mem.tail _ (List.Mem.head _))))) _ _ hw1)).of)) (InsZ.mk_ (hw1.blL [0] .head rfl rfl rfl) SlF.nil_) :)).mono fun e w' h => ⟨_, [], h.1, ⟨rfl, rfl⟩, Ret.nil h.2⟩) ?_
      rintro _ _ ⟨rfl, rfl⟩
      iterate 2 (refine WP.sx tysOk rfl ⟨⟨⟨rfl, rfl⟩, rfl⟩, ⟨⟩⟩ ?_)
      refine WP.yes rfl rfl hh4 ?_
      refine WP.sx tysOk rfl ⟨⟨⟨rfl, rfl⟩, rfl⟩, ⟨⟩⟩ ?_
      refine WP.yes rfl rfl rfl ?_
      iterate 3 (refine WP.sx tysOk rfl ⟨⟨⟨rfl, rfl⟩, rfl⟩, ⟨⟩⟩ ?_)
      refine WP.no rfl rfl (decide_eq_false hh5) rfl rfl ?_
      iterate 2 (refine WP.no rfl rfl rfl rfl rfl ?_; refine WP.sx tysOk rfl ⟨⟨⟨rfl, rfl⟩, rfl⟩, ⟨⟩⟩ ?_; refine WP.sx tysOk rfl ⟨⟨⟨rfl, rfl⟩, rfl⟩, ⟨⟩⟩ ?_)
      iterate 3 (refine WP.no rfl rfl rfl rfl rfl ?_)
      refine WP.sx tysOk rfl ⟨⟨⟨rfl, rfl⟩, rfl⟩, ⟨⟩⟩ ?_
      refine WP.lend rfl ⟨rfl, rfl⟩ ?_
      refine WP.repiece (p' := .blk g5 2 (cl (fI .i64) [0])) .head rfl ?_
      refine WP.shut0 (n := 1) (z := (fI .i64).z) .head (by decide) rfl ?_
      have hf3 : OwF (some ⟨g5, 0, none⟩) 1 [0] := ⟨rfl, fun _ => ⟨g5, rfl⟩⟩
      refine WP.sx tysOk rfl ⟨⟨⟩, ⟨⟩⟩ ?_
      cases h
      refine WP.retR tysOk rfl rfl ⟨_, _, rfl, rfl, rfl⟩ (fun w1 hw1 => ⟨rfl, Ret.below_ hw1 (.cons (.tail (.tail (.tail (.tail (.tail (.tail .head)))))) .nil)⟩)
     rw [if_neg hh4] at h
     refine WP.drawL 35 [(9, [], fun _ => constSpec (.agg #[iv r3.hi, .int .u64 (r3.lo)])), (15, [], litSpec 2 1), (17, [15], fun _ => constSpec (.bool (r4)))] rfl (by kernel_rfl) (by kernel_rfl) (by kernel_rfl) ?_
     iterate 3 (refine WP.sx tysOk rfl ⟨⟨⟨rfl, rfl⟩, rfl⟩, ⟨⟩⟩ ?_)
     refine WP.yes rfl rfl (decide_eq_true hh1) ?_
     refine WP.sx tysOk rfl ⟨⟨⟨rfl, rfl⟩, rfl⟩, ⟨⟩⟩ ?_
     refine WP.yes rfl rfl rfl ?_
     refine WP.lx tysOk rfl ⟨⟨rfl, rfl⟩, rfl⟩ (CellAt.blk .head rfl) ?_
     iterate 2 (refine WP.sx tysOk rfl ⟨⟨⟨rfl, rfl⟩, rfl⟩, ⟨⟩⟩ ?_)
     refine WP.yes rfl rfl hh2 ?_
     refine WP.sx tysOk rfl ⟨⟨⟨rfl, rfl⟩, rfl⟩, ⟨⟩⟩ ?_
     refine WP.yes rfl rfl rfl ?_
     refine WP.mx_ tysOk rfl ⟨⟨rfl, rfl⟩, rfl⟩ (SegAt.blk' .head rfl) ?_
     refine WP.yes rfl rfl rfl ?_
     refine WP.callV rfl rfl rfl rfl rfl rfl rfl (by kernel_rfl) (fun w1 hw1 => (num_Of_w hg3  :)) ⟨⟨rfl, rfl⟩, rfl⟩ ?_
     refine WP.yes rfl rfl rfl ?_
     refine WP.eqS rfl ⟨⟨rfl, rfl⟩, rfl⟩ rfl rfl rfl rfl rfl rfl (by kernel_rfl) (eq33 r1.1.off r3) ?_
     iterate 2 (refine WP.sx tysOk rfl ⟨⟨⟨rfl, rfl⟩, rfl⟩, ⟨⟩⟩ ?_)
     refine WP.yes rfl rfl (decide_eq_true hh3) ?_
     refine WP.sx tysOk rfl ⟨⟨⟨rfl, rfl⟩, rfl⟩, ⟨⟩⟩ ?_
     refine WP.yes rfl rfl rfl ?_
     refine WP.mx_ tysOk rfl ⟨⟨rfl, rfl⟩, rfl⟩ (SegAt.blk' .head rfl) ?_
     refine WP.yes rfl rfl rfl ?_
     refine WP.lbs tysOk rfl ⟨rfl, rfl⟩ rfl rfl rfl rfl rfl rfl rfl rfl rfl rfl rfl rfl ?_
     intro g5
     refine WP.yes rfl rfl rfl ?_
     refine WP.bld (cs := [.slice (some ⟨g5, 0, none⟩) 1 1, .slice none 0 0]) tysOk rfl ⟨⟨rfl, rfl⟩, rfl⟩ rfl rfl rfl rfl rfl rfl rfl ?_
     refine WP.yes rfl rfl rfl ?_
     refine WP.lcall rfl ⟨rfl, rfl⟩ rfl rfl rfl rfl rfl rfl rfl (by kernel_rfl) (fun w1 hw1 => ((ref03_Same_w hg4 (InsZ.mk_ ((hs1.le' ((Held.or (Held.or (Held.mem (List.Mem.tail _ (List.Mem.tail _ (List.Mem.tail _ (List.Mem.tail _ (List.Mem.head _)))))) (Held.mem (List.Mem.tail _ (List.Mem.tail _ (List.Mem.tail _ (List.Mem.head _)))))) (Held.mem (List.Mem.tail _ (List.Mem.tail _ (List.Mem.head _))))) _ _ hw1)).of) ((hs2.le' ((Held.or (Held.or (Held.mem (List.Mem.tail _ (List.Mem.tail _ (List.Mem.tail _ (List.Mem.tail _ (List.Mem.head _)))))) (Held.mem (List.Mem.tail _ (List.Mem.tail _ (List.Mem.tail _ (List.Mem.head _)))))) (Held.mem (List.Mem.tail _ (List.Mem.tail _ (List.Mem.head _))))) _ _ hw1)).of)) (InsZ.mk_ (hw1.blL [0] .head rfl rfl rfl) SlF.nil_) :)).mono fun e w' h => ⟨_, [], h.1, ⟨rfl, rfl⟩, Ret.nil h.2⟩) ?_
     rintro _ _ ⟨rfl, rfl⟩
     iterate 2 (refine WP.sx tysOk rfl ⟨⟨⟨rfl, rfl⟩, rfl⟩, ⟨⟩⟩ ?_)
     refine WP.no rfl rfl (bfalse hh4) rfl rfl ?_
     iterate 2 (refine WP.no rfl rfl rfl rfl rfl ?_; refine WP.sx tysOk rfl ⟨⟨⟨rfl, rfl⟩, rfl⟩, ⟨⟩⟩ ?_; refine WP.sx tysOk rfl ⟨⟨⟨rfl, rfl⟩, rfl⟩, ⟨⟩⟩ ?_; refine WP.no rfl rfl rfl rfl rfl ?_)
     iterate 2 (refine WP.sx tysOk rfl ⟨⟨⟨rfl, rfl⟩, rfl⟩, ⟨⟩⟩ ?_)
     iterate 3 (refine WP.no rfl rfl rfl rfl rfl ?_)
     refine WP.sx tysOk rfl ⟨⟨⟨rfl, rfl⟩, rfl⟩, ⟨⟩⟩ ?_
     refine WP.lend rfl ⟨rfl, rfl⟩ ?_
     refine WP.repiece (p' := .blk g5 2 (cl (fI .i64) [0])) .head rfl ?_
     refine WP.shut0 (n := 1) (z := (fI .i64).z) .head (by decide) rfl ?_
     have hf3 : OwF (some ⟨g5, 0, none⟩) 1 [0] := ⟨rfl, fun _ => ⟨g5, rfl⟩⟩
     refine WP.sx tysOk rfl ⟨⟨⟩, ⟨⟩⟩ ?_
     cases h
     refine WP.retR tysOk rfl rfl ⟨_, _, rfl, rfl, rfl⟩ (fun w1 hw1 => ⟨rfl, Ret.below_ hw1 (.cons (.tail (.tail (.tail (.tail (.tail (.tail .head)))))) .nil)⟩)
    rw [if_neg hh3] at h
    refine WP.drawL 35 [(9, [], fun _ => constSpec (.agg #[iv r3.hi, .int .u64 (r3.lo)]))] rfl (by kernel_rfl) (by kernel_rfl) (by kernel_rfl) ?_
    iterate 3 (refine WP.sx tysOk rfl ⟨⟨⟨rfl, rfl⟩, rfl⟩, ⟨⟩⟩ ?_)
    refine WP.yes rfl rfl (decide_eq_true hh1) ?_
    refine WP.sx tysOk rfl ⟨⟨⟨rfl, rfl⟩, rfl⟩, ⟨⟩⟩ ?_
    refine WP.yes rfl rfl rfl ?_
    refine WP.lx tysOk rfl ⟨⟨rfl, rfl⟩, rfl⟩ (CellAt.blk .head rfl) ?_
    iterate 2 (refine WP.sx tysOk rfl ⟨⟨⟨rfl, rfl⟩, rfl⟩, ⟨⟩⟩ ?_)
    refine WP.yes rfl rfl hh2 ?_
    refine WP.sx tysOk rfl ⟨⟨⟨rfl, rfl⟩, rfl⟩, ⟨⟩⟩ ?_
    refine WP.yes rfl rfl rfl ?_
    refine WP.mx_ tysOk rfl ⟨⟨rfl, rfl⟩, rfl⟩ (SegAt.blk' .head rfl) ?_
    refine WP.yes rfl rfl rfl ?_
    refine WP.callV rfl rfl rfl rfl rfl rfl rfl (by kernel_rfl) (fun w1 hw1 => (num_Of_w hg3  :)) ⟨⟨rfl, rfl⟩, rfl⟩ ?_
    refine WP.yes rfl rfl rfl ?_
    refine WP.eqS rfl ⟨⟨rfl, rfl⟩, rfl⟩ rfl rfl rfl rfl rfl rfl (by kernel_rfl) (eq33 r1.1.off r3) ?_
    iterate 2 (refine WP.sx tysOk rfl ⟨⟨⟨rfl, rfl⟩, rfl⟩, ⟨⟩⟩ ?_)
    refine WP.no rfl rfl (decide_eq_false hh3) rfl rfl ?_
    iterate 4 (refine WP.no rfl rfl rfl rfl rfl ?_)
    iterate 2 (refine WP.sx tysOk rfl ⟨⟨⟨rfl, rfl⟩, rfl⟩, ⟨⟩⟩ ?_; refine WP.sx tysOk rfl ⟨⟨⟨rfl, rfl⟩, rfl⟩, ⟨⟩⟩ ?_; refine WP.no rfl rfl rfl rfl rfl ?_; refine WP.no rfl rfl rfl rfl rfl ?_)
    iterate 2 (refine WP.sx tysOk rfl ⟨⟨⟨rfl, rfl⟩, rfl⟩, ⟨⟩⟩ ?_; refine WP.sx tysOk rfl ⟨⟨⟨rfl, rfl⟩, rfl⟩, ⟨⟩⟩ ?_; refine WP.no rfl rfl rfl rfl rfl ?_)
    iterate 2 (refine WP.no rfl rfl rfl rfl rfl ?_)
    refine WP.sx tysOk rfl ⟨⟨⟨rfl, rfl⟩, rfl⟩, ⟨⟩⟩ ?_
    refine WP.lend rfl ⟨rfl, rfl⟩ ?_
    refine WP.sx tysOk rfl ⟨⟨⟩, ⟨⟩⟩ ?_
    cases h
    refine WP.retR tysOk rfl rfl ⟨_, _, rfl, rfl, rfl⟩ (fun w1 hw1 => ⟨rfl, Ret.below_ hw1 (.cons (.tail (.tail (.tail (.tail (.tail .head))))) .nil)⟩)
   rw [if_neg hh2] at h
   refine WP.drawL 35 [] rfl (by kernel_rfl) (by kernel_rfl) (by kernel_rfl) ?_
   iterate 3 (refine WP.sx tysOk rfl ⟨⟨⟨rfl, rfl⟩, rfl⟩, ⟨⟩⟩ ?_)
   refine WP.yes rfl rfl (decide_eq_true hh1) ?_
   refine WP.sx tysOk rfl ⟨⟨⟨rfl, rfl⟩, rfl⟩, ⟨⟩⟩ ?_
   refine WP.yes rfl rfl rfl ?_
   refine WP.lx tysOk rfl ⟨⟨rfl, rfl⟩, rfl⟩ (CellAt.blk .head rfl) ?_
   iterate 2 (refine WP.sx tysOk rfl ⟨⟨⟨rfl, rfl⟩, rfl⟩, ⟨⟩⟩ ?_)
   refine WP.no rfl rfl (bfalse hh2) rfl rfl ?_
   iterate 3 (refine WP.no rfl rfl rfl rfl rfl ?_)
   iterate 2 (refine WP.sx tysOk rfl ⟨⟨⟨rfl, rfl⟩, rfl⟩, ⟨⟩⟩ ?_)
   iterate 5 (refine WP.no rfl rfl rfl rfl rfl ?_)
   iterate 2 (refine WP.sx tysOk rfl ⟨⟨⟨rfl, rfl⟩, rfl⟩, ⟨⟩⟩ ?_; refine WP.sx tysOk rfl ⟨⟨⟨rfl, rfl⟩, rfl⟩, ⟨⟩⟩ ?_; refine WP.no rfl rfl rfl rfl rfl ?_; refine WP.no rfl rfl rfl rfl rfl ?_)
   iterate 2 (refine WP.sx tysOk rfl ⟨⟨⟨rfl, rfl⟩, rfl⟩, ⟨⟩⟩ ?_; refine WP.sx tysOk rfl ⟨⟨⟨rfl, rfl⟩, rfl⟩, ⟨⟩⟩ ?_; refine WP.no rfl rfl rfl rfl rfl ?_)
   iterate 2 (refine WP.no rfl rfl rfl rfl rfl ?_)
   refine WP.sx tysOk rfl ⟨⟨⟨rfl, rfl⟩, rfl⟩, ⟨⟩⟩ ?_
   refine WP.lend rfl ⟨rfl, rfl⟩ ?_
   refine WP.sx tysOk rfl ⟨⟨⟩, ⟨⟩⟩ ?_
   cases h
   refine WP.retR tysOk rfl rfl ⟨_, _, rfl, rfl, rfl⟩ (fun w1 hw1 => ⟨rfl, Ret.below_ hw1 (.cons (.tail (.tail (.tail (.tail (.tail .head))))) .nil)⟩)
  rw [if_neg hh1] at h
  refine WP.drawL 35 [] rfl (by kernel_rfl) (by kernel_rfl) (by kernel_rfl) ?_
  iterate 3 (refine WP.sx tysOk rfl ⟨⟨⟨rfl, rfl⟩, rfl⟩, ⟨⟩⟩ ?_)
  refine WP.no rfl rfl (decide_eq_false hh1) rfl rfl ?_
  refine WP.no rfl rfl rfl rfl rfl ?_
  iterate 2 (refine WP.sx tysOk rfl ⟨⟨⟨rfl, rfl⟩, rfl⟩, ⟨⟩⟩ ?_)
  iterate 4 (refine WP.no rfl rfl rfl rfl rfl ?_)
  iterate 2 (refine WP.sx tysOk rfl ⟨⟨⟨rfl, rfl⟩, rfl⟩, ⟨⟩⟩ ?_)
  iterate 5 (refine WP.no rfl rfl rfl rfl rfl ?_)
  iterate 2 (refine WP.sx tysOk rfl ⟨⟨⟨rfl, rfl⟩, rfl⟩, ⟨⟩⟩ ?_; refine WP.sx tysOk rfl ⟨⟨⟨rfl, rfl⟩, rfl⟩, ⟨⟩⟩ ?_; refine WP.no rfl rfl rfl rfl rfl ?_; refine WP.no rfl rfl rfl rfl rfl ?_)
  iterate 2 (refine WP.sx tysOk rfl ⟨⟨⟨rfl, rfl⟩, rfl⟩, ⟨⟩⟩ ?_; refine WP.sx tysOk rfl ⟨⟨⟨rfl, rfl⟩, rfl⟩, ⟨⟩⟩ ?_; refine WP.no rfl rfl rfl rfl rfl ?_)
  iterate 2 (refine WP.no rfl rfl rfl rfl rfl ?_)
  refine WP.sx tysOk rfl ⟨⟨⟨rfl, rfl⟩, rfl⟩, ⟨⟩⟩ ?_
  refine WP.lend rfl ⟨rfl, rfl⟩ ?_
  refine WP.sx tysOk rfl ⟨⟨⟩, ⟨⟩⟩ ?_
  cases h
  refine WP.retR tysOk rfl rfl ⟨_, _, rfl, rfl, rfl⟩ (fun w1 hw1 => ⟨rfl, Ret.below_ hw1 (.cons (.tail (.tail (.tail (.tail (.tail .head))))) .nil)⟩)

set_option maxRecDepth 20000 in
set_option maxHeartbeats 8000000 in
theorem law17_LeafTree_w {w : World} {v0 : Value} {v1 : Value} {d1 : List Int} {i1 : List Int} {r : Bool} (h : law17_LeafTree d1 i1 = some r) (p1 : SlF (fI .u8) (PH.of w) v0 d1) (p2 : SlF (fI .u8) (PH.of w) v1 i1) (pg : GlobE (PH.of w)) :
    Calls Tryd.prog 3 #[v0, v1] w fun e w' => e = .returned (.bool (r)) ∧ Below w.heap.size w w' := by
  obtain ⟨A1, c1, rfl, hs1⟩ := p1
  obtain ⟨A2, c2, rfl, hs2⟩ := p2
  unfold law17_LeafTree at h
  refine enter_ Tryd.func3 rfl Tryd.ntmps3 rfl ?_
  iterate 5 (refine WP.sx tysOk rfl ⟨⟨⟩, ⟨⟩⟩ ?_)
  refine WP.cond_d rfl rfl (fun hh1 => ?_) (fun hh1 => ?_)
  ·rw [if_pos hh1] at h
   refine WP.sx tysOk rfl ⟨⟨⟩, ⟨⟩⟩ ?_
   obtain ⟨hj1, h⟩ := ck_some h
   refine WP.ixA tysOk rfl ⟨⟩ rfl rfl rfl rfl rfl rfl rfl rfl hj1 (hs1.ex hj1) ?_
   intro b1 b1v hA1
   refine WP.lx tysOk rfl ⟨⟩ (hs1.at0 hA1 (Held.mem (List.Mem.head _)) hj1 rfl) ?_
   refine WP.sx tysOk rfl ⟨⟨⟩, (by decide)⟩ ?_
   iterate 4 (refine WP.sx tysOk rfl ⟨⟨⟩, ⟨⟩⟩ ?_)
   obtain ⟨hm1, h⟩ := ck_some h
   refine WP.mkO (f := (fI .i64)) 0 tysOk rfl rfl rfl rfl rfl rfl rfl rfl rfl rfl rfl rfl hm1 ?_
   intro g1 hf1
   refine WP.bld (cs := [.slice (some ⟨g1, 0, none⟩) ((w64 (1 + (w64 ((gt d1 0).tmod 10)))).toNat) ((w64 (1 + (w64 ((gt d1 0).tmod 10)))).toNat), .slice none 0 0]) tysOk rfl ⟨⟩ rfl rfl rfl rfl rfl rfl rfl ?_
   refine WP.al tysOk rfl rfl rfl rfl rfl rfl ?_
   intro g2
   refine WP.sto' tysOk [.slice (some ⟨g1, 0, none⟩) ((w64 (1 + (w64 ((gt d1 0).tmod 10)))).toNat) ((w64 (1 + (w64 ((gt d1 0).tmod 10)))).toNat), .slice none 0 0] rfl rfl rfl rfl rfl rfl rfl rfl rfl .head rfl rfl ?_
   refine WP.sx tysOk rfl ⟨⟨⟩, ⟨⟩⟩ ?_
   refine WP.own_nil 28 fA.z ?_
   refine WP.loop (α := Nat × Int × (List Arc) × (List Int) × (Option Addr) × Nat × Nat × (Option Addr) × Nat × Nat) (fun x => lp (law17_LeafTree_b1 d1 i1) x.1 (x.2.1, x.2.2.1, x.2.2.2.1) = some r ∧ OwF x.2.2.2.2.1 x.2.2.2.2.2.1 x.2.2.1 ∧ OwF x.2.2.2.2.2.2.2.1 x.2.2.2.2.2.2.2.2.1 x.2.2.2.1) (fun x => [(0, .slice A1 d1.length c1), (1, .slice A2 i1.length c2), (5, iv (w64 (1 + (w64 ((gt d1 0).tmod 10))))), (6, .pointer (some ⟨g2, 0, none⟩)), (7, iv x.2.1)]) (fun x => [Ow fA 28 x.2.2.2.2.1 x.2.2.2.2.2.1 x.2.2.2.2.2.2.1 x.2.2.1, .blk g2 26 [.slice x.2.2.2.2.2.2.2.1 x.2.2.2.2.2.2.2.2.1 x.2.2.2.2.2.2.2.2.2, .slice x.2.2.2.2.1 x.2.2.2.2.2.1 x.2.2.2.2.2.2.1], Ow (fI .i64) 2 x.2.2.2.2.2.2.2.1 x.2.2.2.2.2.2.2.2.1 x.2.2.2.2.2.2.2.2.2 x.2.2.2.1, .fz (PH.of w)]) (fun x => x.1) rfl (big, 1, ([] : List Arc), (List.replicate (w64 (1 + (w64 ((gt d1 0).tmod 10)))).toNat 0), none, 0, 0, (some ⟨g1, 0, none⟩), (w64 (1 + (w64 ((gt d1 0).tmod 10)))).toNat, (w64 (1 + (w64 ((gt d1 0).tmod 10)))).toNat) ⟨h, OwF.nil_, hf1⟩ ?_ ?_ ?_
   ·repeat first | exact ⟨⟩ | refine ⟨rfl, ?_⟩
   ·exact (.cons .head (.cons .head (.cons .head (.cons .head .nil))))
   rintro ⟨n4, s21, xs72, xs73, A86, m3, c86, A87, m4, c87⟩ ⟨h, hf76, hf77⟩
   dsimp only at h hf76 hf77 ⊢
   rcases n4 with _ | n4
   · exact (lp_no h).elim
   replace h := lp_succ h
   unfold law17_LeafTree_b1 at h
   try dsimp only at h
   iterate 3 (refine WP.sx tysOk rfl ⟨⟨⟩, ⟨⟩⟩ ?_)
   refine WP.cond_d rfl rfl (fun hh104 => ?_) (fun hh104 => ?_)
   ·rw [if_pos hh104] at h
    iterate 6 (refine WP.sx tysOk rfl ⟨⟨⟩, ⟨⟩⟩ ?_)
    refine WP.cond_d rfl rfl (fun hh105 => ?_) (fun hh105 => ?_)
    ·rw [if_pos hh105] at h
     iterate 2 (refine WP.sx tysOk rfl ⟨⟨⟩, ⟨⟩⟩ ?_)
     obtain ⟨hj59, h⟩ := ck_some h
     refine WP.ixA tysOk rfl ⟨⟩ rfl rfl rfl rfl rfl rfl rfl rfl hj59 (hs1.ex hj59) ?_
     intro b101 b101v hA101
     refine WP.lx tysOk rfl ⟨⟩ (hs1.at0 hA101 (Held.mem (List.Mem.tail _ (List.Mem.tail _ (List.Mem.tail _ (List.Mem.head _))))) hj59 rfl) ?_
     iterate 2 (refine WP.sx tysOk rfl ⟨⟨⟩, ⟨⟩⟩ ?_)
     obtain ⟨hz33, h⟩ := ck_some h
     refine WP.sx tysOk rfl ⟨⟨⟩, hz33⟩ ?_
     iterate 5 (refine WP.sx tysOk rfl ⟨⟨⟩, ⟨⟩⟩ ?_)
     refine WP.cond_d rfl rfl (fun hh106 => ?_) (fun hh106 => ?_)
     ·rw [if_pos hh106] at h
      iterate 2 (refine WP.sx tysOk rfl ⟨⟨⟩, ⟨⟩⟩ ?_)
      obtain ⟨hj60, h⟩ := ck_some h
      refine WP.ixA tysOk rfl ⟨⟩ rfl rfl rfl rfl rfl rfl rfl rfl hj60 (hs2.ex hj60) ?_
      intro b102 b102v hA102
      refine WP.lx tysOk rfl ⟨⟩ (hs2.at0 hA102 (Held.mem (List.Mem.tail _ (List.Mem.tail _ (List.Mem.tail _ (List.Mem.head _))))) hj60 rfl) ?_
      refine WP.sx tysOk rfl ⟨⟨⟩, (by decide)⟩ ?_
      iterate 5 (refine WP.sx tysOk rfl ⟨⟨⟩, ⟨⟩⟩ ?_)
      refine WP.bld (cs := [iv s21, iv ((w64 ((gt d1 s21))).tmod s21), iv 0, iv 9, iv s21]) tysOk rfl ⟨⟩ rfl rfl rfl rfl rfl rfl rfl ?_
      refine WP.al tysOk rfl rfl rfl rfl rfl rfl ?_
      intro g45
      refine WP.sto' tysOk [iv s21, iv ((w64 ((gt d1 s21))).tmod s21), iv 0, iv 9, iv s21] rfl rfl rfl rfl rfl rfl rfl rfl rfl .head rfl rfl ?_
      iterate 5 (refine WP.sx tysOk rfl ⟨⟨⟩, ⟨⟩⟩ ?_)
      refine WP.yes rfl rfl (decide_eq_true hh106) ?_
      iterate 2 (refine WP.sx tysOk rfl ⟨⟨⟩, ⟨⟩⟩ ?_; refine WP.yes rfl rfl rfl ?_)
      refine WP.ixA tysOk rfl ⟨⟩ rfl rfl rfl rfl rfl rfl rfl rfl hj60 (hs2.ex hj60) ?_
      intro b103 b103v hA103
      refine WP.yes rfl rfl rfl ?_
      refine WP.lx tysOk rfl ⟨⟩ (hs2.at0 hA103 (Held.mem (List.Mem.tail _ (List.Mem.tail _ (List.Mem.tail _ (List.Mem.tail _ (List.Mem.head _)))))) hj60 rfl) ?_
      refine WP.yes rfl rfl rfl ?_
      refine WP.sx tysOk rfl ⟨⟨⟩, (by decide)⟩ ?_
      refine WP.yes rfl rfl rfl ?_
      iterate 2 (refine WP.sx tysOk rfl ⟨⟨⟩, ⟨⟩⟩ ?_)
      refine WP.cond_d rfl rfl (fun hh107 => ?_) (fun hh107 => ?_)
      ·rw [if_pos hh107] at h
       iterate 2 (refine WP.sx tysOk rfl ⟨⟨⟩, ⟨⟩⟩ ?_)
       refine WP.sto' tysOk [iv ((w64 ((gt d1 s21))).tmod s21), iv ((w64 ((gt d1 s21))).tmod s21), iv 0, iv 9, iv s21] rfl rfl rfl rfl rfl rfl rfl rfl rfl .head rfl rfl ?_
       iterate 2 (refine WP.sx tysOk rfl ⟨⟨⟩, ⟨⟩⟩ ?_)
       refine WP.sto' tysOk [iv ((w64 ((gt d1 s21))).tmod s21), iv s21, iv 0, iv 9, iv s21] rfl rfl rfl rfl rfl rfl rfl rfl rfl .head rfl rfl ?_
       refine WP.sx tysOk rfl ⟨⟨⟩, ⟨⟩⟩ ?_
       refine WP.lx tysOk rfl ⟨⟩ (CellAt.blk (.tail (.tail .head)) rfl) ?_
       refine WP.sx tysOk rfl ⟨⟨⟩, ⟨⟩⟩ ?_
       refine WP.lx tysOk rfl ⟨⟩ (CellAt.blk .head rfl) ?_
       obtain ⟨hj61, h⟩ := ck_some h
       refine WP.ixO tysOk rfl ⟨⟩ rfl rfl rfl rfl rfl rfl rfl rfl hf77 hj61 ?_
       intro b104 hA104
       refine WP.lx tysOk rfl ⟨⟩ (OwS.at0 (.tail (.tail (.tail .head))) hA104 hj61 rfl) ?_
       iterate 2 (refine WP.sx tysOk rfl ⟨⟨⟩, ⟨⟩⟩ ?_)
       refine WP.ixO tysOk rfl ⟨⟩ rfl rfl rfl rfl rfl rfl rfl rfl hf77 hj61 ?_
       intro b105 hA105
       obtain ⟨xs74, hx37, h⟩ := lt_some h
       refine WP.stoO (f := (fI .i64)) 0 (w64 ((gt xs73 ((w64 ((gt d1 s21))).tmod s21)) + (w64 ((gt i1 s21).tmod 9)))) tysOk rfl rfl rfl rfl rfl rfl rfl rfl rfl (.tail (.tail (.tail .head))) hA105 hf77 hj61 rfl rfl rfl hx37 ?_
       intro hf78
       refine WP.sx tysOk rfl ⟨⟨⟩, ⟨⟩⟩ ?_
       refine WP.lx tysOk rfl ⟨⟩ (CellAt.blk (.tail (.tail (.tail .head))) rfl) ?_
       refine WP.sx tysOk rfl ⟨⟨⟩, ⟨⟩⟩ ?_
       refine WP.lx tysOk rfl ⟨⟩ (CellAt.blk (.tail .head) rfl) ?_
       obtain ⟨hj62, h⟩ := ck_some h
       refine WP.ixO tysOk rfl ⟨⟩ rfl rfl rfl rfl rfl rfl rfl rfl hf78 hj62 ?_
       intro b106 hA106
       refine WP.lx tysOk rfl ⟨⟩ (OwS.at0 .head hA106 hj62 rfl) ?_
       iterate 2 (refine WP.sx tysOk rfl ⟨⟨⟩, ⟨⟩⟩ ?_)
       refine WP.ixO tysOk rfl ⟨⟩ rfl rfl rfl rfl rfl rfl rfl rfl hf78 hj62 ?_
       intro b107 hA107
       obtain ⟨xs75, hx38, h⟩ := lt_some h
       refine WP.stoO (f := (fI .i64)) 0 (w64 ((gt xs74 s21) - (w64 ((gt i1 s21).tmod 9)))) tysOk rfl rfl rfl rfl rfl rfl rfl rfl rfl .head hA107 hf78 hj62 rfl rfl rfl hx38 ?_
       intro hf79
       refine WP.sx tysOk rfl ⟨⟨⟩, ⟨⟩⟩ ?_
       refine WP.lx tysOk rfl ⟨⟩ (CellAt.blk (.tail (.tail (.tail .head))) rfl) ?_
       refine WP.mx_ tysOk rfl ⟨⟩ (SegAt.blk' (.tail .head) rfl) ?_
       refine WP.bsO (f := fA) [(Arc.mk ((w64 ((gt d1 s21))).tmod s21) s21 0 9 s21)] tysOk rfl rfl rfl rfl rfl rfl rfl rfl rfl rfl rfl rfl rfl rfl ?_
       intro g46 hf80
       obtain ⟨hl24, h⟩ := ck_some h
       obtain ⟨xs76, hz34, h⟩ := lt_some h
       refine WP.appO (f := fA) (xs := xs72) (ys := [(Arc.mk ((w64 ((gt d1 s21))).tmod s21) s21 0 9 s21)]) tysOk rfl rfl rfl rfl rfl rfl rfl rfl rfl rfl rfl rfl (.tail (.tail (.tail .head))) hf76 hf80.len (OwS.app .head hf80) hl24 hz34 ?_
       intro A88 c88 hf81
       refine WP.sx tysOk rfl ⟨⟨⟩, ⟨⟩⟩ ?_
       refine WP.sto' tysOk [.slice A87 m4 c87, .slice A88 xs76.length c88] rfl rfl rfl rfl rfl rfl rfl rfl rfl (.tail (.tail (.tail (.tail .head)))) rfl rfl ?_
       iterate 3 (refine WP.sx tysOk rfl ⟨⟨⟩, ⟨⟩⟩ ?_)
       refine WP.stop rfl (n4, w64 (s21 + 1), xs76, xs75, A88, xs76.length, c88, A87, m4, c87) ⟨⟨h, hf81, hf79⟩, Nat.lt_succ_self _⟩ ?_ ?_
       ·repeat first | exact ⟨⟩ | refine ⟨rfl, ?_⟩
       exact (.cons (.tail .head) (.cons .head (.cons (.tail .head) (.cons (.tail (.tail .head)) .nil))))
      rw [if_neg hh107] at h
      refine WP.sx tysOk rfl ⟨⟨⟩, ⟨⟩⟩ ?_
      refine WP.lx tysOk rfl ⟨⟩ (CellAt.blk (.tail (.tail .head)) rfl) ?_
      refine WP.sx tysOk rfl ⟨⟨⟩, ⟨⟩⟩ ?_
      refine WP.lx tysOk rfl ⟨⟩ (CellAt.blk .head rfl) ?_
      obtain ⟨hj63, h⟩ := ck_some h
      refine WP.ixO tysOk rfl ⟨⟩ rfl rfl rfl rfl rfl rfl rfl rfl hf77 hj63 ?_
      intro b108 hA108
      refine WP.lx tysOk rfl ⟨⟩ (OwS.at0 (.tail (.tail (.tail .head))) hA108 hj63 rfl) ?_
      iterate 2 (refine WP.sx tysOk rfl ⟨⟨⟩, ⟨⟩⟩ ?_)
      refine WP.ixO tysOk rfl ⟨⟩ rfl rfl rfl rfl rfl rfl rfl rfl hf77 hj63 ?_
      intro b109 hA109
      obtain ⟨xs77, hx39, h⟩ := lt_some h
      refine WP.stoO (f := (fI .i64)) 0 (w64 ((gt xs73 s21) + (w64 ((gt i1 s21).tmod 9)))) tysOk rfl rfl rfl rfl rfl rfl rfl rfl rfl (.tail (.tail (.tail .head))) hA109 hf77 hj63 rfl rfl rfl hx39 ?_
      intro hf82
      refine WP.sx tysOk rfl ⟨⟨⟩, ⟨⟩⟩ ?_
      refine WP.lx tysOk rfl ⟨⟩ (CellAt.blk (.tail (.tail (.tail .head))) rfl) ?_
      refine WP.sx tysOk rfl ⟨⟨⟩, ⟨⟩⟩ ?_
      refine WP.lx tysOk rfl ⟨⟩ (CellAt.blk (.tail .head) rfl) ?_
      obtain ⟨hj64, h⟩ := ck_some h
      refine WP.ixO tysOk rfl ⟨⟩ rfl rfl rfl rfl rfl rfl rfl rfl hf82 hj64 ?_
      intro b110 hA110
      refine WP.lx tysOk rfl ⟨⟩ (OwS.at0 .head hA110 hj64 rfl) ?_
      iterate 2 (refine WP.sx tysOk rfl ⟨⟨⟩, ⟨⟩⟩ ?_)
      refine WP.ixO tysOk rfl ⟨⟩ rfl rfl rfl rfl rfl rfl rfl rfl hf82 hj64 ?_
      intro b111 hA111
      obtain ⟨xs78, hx40, h⟩ := lt_some h
      refine WP.stoO (f := (fI .i64)) 0 (w64 ((gt xs77 ((w64 ((gt d1 s21))).tmod s21)) - (w64 ((gt i1 s21).tmod 9)))) tysOk rfl rfl rfl rfl rfl rfl rfl rfl rfl .head hA111 hf82 hj64 rfl rfl rfl hx40 ?_
      intro hf83
      refine WP.sx tysOk rfl ⟨⟨⟩, ⟨⟩⟩ ?_
      refine WP.lx tysOk rfl ⟨⟩ (CellAt.blk (.tail (.tail (.tail .head))) rfl) ?_
      refine WP.mx_ tysOk rfl ⟨⟩ (SegAt.blk' (.tail .head) rfl) ?_
      refine WP.bsO (f := fA) [(Arc.mk s21 ((w64 ((gt d1 s21))).tmod s21) 0 9 s21)] tysOk rfl rfl rfl rfl rfl rfl rfl rfl rfl rfl rfl rfl rfl rfl ?_
      intro g47 hf84
      obtain ⟨hl25, h⟩ := ck_some h
      obtain ⟨xs79, hz35, h⟩ := lt_some h
      refine WP.appO (f := fA) (xs := xs72) (ys := [(Arc.mk s21 ((w64 ((gt d1 s21))).tmod s21) 0 9 s21)]) tysOk rfl rfl rfl rfl rfl rfl rfl rfl rfl rfl rfl rfl (.tail (.tail (.tail .head))) hf76 hf84.len (OwS.app .head hf84) hl25 hz35 ?_
      intro A89 c89 hf85
      refine WP.sx tysOk rfl ⟨⟨⟩, ⟨⟩⟩ ?_
      refine WP.sto' tysOk [.slice A87 m4 c87, .slice A89 xs79.length c89] rfl rfl rfl rfl rfl rfl rfl rfl rfl (.tail (.tail (.tail (.tail .head)))) rfl rfl ?_
      iterate 3 (refine WP.sx tysOk rfl ⟨⟨⟩, ⟨⟩⟩ ?_)
      refine WP.stop rfl (n4, w64 (s21 + 1), xs79, xs78, A89, xs79.length, c89, A87, m4, c87) ⟨⟨h, hf85, hf83⟩, Nat.lt_succ_self _⟩ ?_ ?_
      ·repeat first | exact ⟨⟩ | refine ⟨rfl, ?_⟩
      exact (.cons (.tail .head) (.cons .head (.cons (.tail .head) (.cons (.tail (.tail .head)) .nil))))
     rw [if_neg hh106] at h
     iterate 3 (refine WP.sx tysOk rfl ⟨⟨⟩, ⟨⟩⟩ ?_)
     refine WP.bld (cs := [iv s21, iv ((w64 ((gt d1 s21))).tmod s21), iv 0, iv 9, iv s21]) tysOk rfl ⟨⟩ rfl rfl rfl rfl rfl rfl rfl ?_
     refine WP.al tysOk rfl rfl rfl rfl rfl rfl ?_
     intro g48
     refine WP.sto' tysOk [iv s21, iv ((w64 ((gt d1 s21))).tmod s21), iv 0, iv 9, iv s21] rfl rfl rfl rfl rfl rfl rfl rfl rfl .head rfl rfl ?_
     iterate 5 (refine WP.sx tysOk rfl ⟨⟨⟩, ⟨⟩⟩ ?_)
     refine WP.no rfl rfl (decide_eq_false hh106) rfl rfl ?_
     iterate 5 (refine WP.no rfl rfl rfl rfl rfl ?_)
     refine WP.sx tysOk rfl ⟨⟨⟩, ⟨⟩⟩ ?_
     refine WP.condF rfl rfl ?_
     refine WP.sx tysOk rfl ⟨⟨⟩, ⟨⟩⟩ ?_
     refine WP.lx tysOk rfl ⟨⟩ (CellAt.blk (.tail (.tail .head)) rfl) ?_
     refine WP.sx tysOk rfl ⟨⟨⟩, ⟨⟩⟩ ?_
     refine WP.lx tysOk rfl ⟨⟩ (CellAt.blk .head rfl) ?_
     obtain ⟨hj65, h⟩ := ck_some h
     refine WP.ixO tysOk rfl ⟨⟩ rfl rfl rfl rfl rfl rfl rfl rfl hf77 hj65 ?_
     intro b112 hA112
     refine WP.lx tysOk rfl ⟨⟩ (OwS.at0 (.tail (.tail (.tail .head))) hA112 hj65 rfl) ?_
     iterate 2 (refine WP.sx tysOk rfl ⟨⟨⟩, ⟨⟩⟩ ?_)
     refine WP.ixO tysOk rfl ⟨⟩ rfl rfl rfl rfl rfl rfl rfl rfl hf77 hj65 ?_
     intro b113 hA113
     obtain ⟨xs80, hx41, h⟩ := lt_some h
     refine WP.stoO (f := (fI .i64)) 0 (w64 ((gt xs73 s21) + 0)) tysOk rfl rfl rfl rfl rfl rfl rfl rfl rfl (.tail (.tail (.tail .head))) hA113 hf77 hj65 rfl rfl rfl hx41 ?_
     intro hf86
     refine WP.sx tysOk rfl ⟨⟨⟩, ⟨⟩⟩ ?_
     refine WP.lx tysOk rfl ⟨⟩ (CellAt.blk (.tail (.tail (.tail .head))) rfl) ?_
     refine WP.sx tysOk rfl ⟨⟨⟩, ⟨⟩⟩ ?_
     refine WP.lx tysOk rfl ⟨⟩ (CellAt.blk (.tail .head) rfl) ?_
     obtain ⟨hj66, h⟩ := ck_some h
     refine WP.ixO tysOk rfl ⟨⟩ rfl rfl rfl rfl rfl rfl rfl rfl hf86 hj66 ?_
     intro b114 hA114
     refine WP.lx tysOk rfl ⟨⟩ (OwS.at0 .head hA114 hj66 rfl) ?_
     iterate 2 (refine WP.sx tysOk rfl ⟨⟨⟩, ⟨⟩⟩ ?_)
     refine WP.ixO tysOk rfl ⟨⟩ rfl rfl rfl rfl rfl rfl rfl rfl hf86 hj66 ?_
     intro b115 hA115
     obtain ⟨xs81, hx42, h⟩ := lt_some h
     refine WP.stoO (f := (fI .i64)) 0 (w64 ((gt xs80 ((w64 ((gt d1 s21))).tmod s21)) - 0)) tysOk rfl rfl rfl rfl rfl rfl rfl rfl rfl .head hA115 hf86 hj66 rfl rfl rfl hx42 ?_
     intro hf87
     refine WP.sx tysOk rfl ⟨⟨⟩, ⟨⟩⟩ ?_
     refine WP.lx tysOk rfl ⟨⟩ (CellAt.blk (.tail (.tail (.tail .head))) rfl) ?_
     refine WP.mx_ tysOk rfl ⟨⟩ (SegAt.blk' (.tail .head) rfl) ?_
     refine WP.bsO (f := fA) [(Arc.mk s21 ((w64 ((gt d1 s21))).tmod s21) 0 9 s21)] tysOk rfl rfl rfl rfl rfl rfl rfl rfl rfl rfl rfl rfl rfl rfl ?_
     intro g49 hf88
     obtain ⟨hl26, h⟩ := ck_some h
     obtain ⟨xs82, hz36, h⟩ := lt_some h
     refine WP.appO (f := fA) (xs := xs72) (ys := [(Arc.mk s21 ((w64 ((gt d1 s21))).tmod s21) 0 9 s21)]) tysOk rfl rfl rfl rfl rfl rfl rfl rfl rfl rfl rfl rfl (.tail (.tail (.tail .head))) hf76 hf88.len (OwS.app .head hf88) hl26 hz36 ?_
     intro A90 c90 hf89
     refine WP.sx tysOk rfl ⟨⟨⟩, ⟨⟩⟩ ?_
     refine WP.sto' tysOk [.slice A87 m4 c87, .slice A90 xs82.length c90] rfl rfl rfl rfl rfl rfl rfl rfl rfl (.tail (.tail (.tail (.tail .head)))) rfl rfl ?_
     iterate 3 (refine WP.sx tysOk rfl ⟨⟨⟩, ⟨⟩⟩ ?_)
     refine WP.stop rfl (n4, w64 (s21 + 1), xs82, xs81, A90, xs82.length, c90, A87, m4, c87) ⟨⟨h, hf89, hf87⟩, Nat.lt_succ_self _⟩ ?_ ?_
     ·repeat first | exact ⟨⟩ | refine ⟨rfl, ?_⟩
     exact (.cons (.tail .head) (.cons .head (.cons (.tail .head) (.cons (.tail (.tail .head)) .nil))))
    rw [if_neg hh105] at h
    iterate 4 (refine WP.sx tysOk rfl ⟨⟨⟩, ⟨⟩⟩ ?_)
    refine WP.cond_d rfl rfl (fun hh108 => ?_) (fun hh108 => ?_)
    ·rw [if_pos hh108] at h
     iterate 2 (refine WP.sx tysOk rfl ⟨⟨⟩, ⟨⟩⟩ ?_)
     obtain ⟨hj67, h⟩ := ck_some h
     refine WP.ixA tysOk rfl ⟨⟩ rfl rfl rfl rfl rfl rfl rfl rfl hj67 (hs2.ex hj67) ?_
     intro b116 b116v hA116
     refine WP.lx tysOk rfl ⟨⟩ (hs2.at0 hA116 (Held.mem (List.Mem.tail _ (List.Mem.tail _ (List.Mem.tail _ (List.Mem.head _))))) hj67 rfl) ?_
     refine WP.sx tysOk rfl ⟨⟨⟩, (by decide)⟩ ?_
     iterate 5 (refine WP.sx tysOk rfl ⟨⟨⟩, ⟨⟩⟩ ?_)
     refine WP.bld (cs := [iv s21, iv 0, iv 0, iv 9, iv s21]) tysOk rfl ⟨⟩ rfl rfl rfl rfl rfl rfl rfl ?_
     refine WP.al tysOk rfl rfl rfl rfl rfl rfl ?_
     intro g50
     refine WP.sto' tysOk [iv s21, iv 0, iv 0, iv 9, iv s21] rfl rfl rfl rfl rfl rfl rfl rfl rfl .head rfl rfl ?_
     iterate 5 (refine WP.sx tysOk rfl ⟨⟨⟩, ⟨⟩⟩ ?_)
     refine WP.yes rfl rfl (decide_eq_true hh108) ?_
     iterate 2 (refine WP.sx tysOk rfl ⟨⟨⟩, ⟨⟩⟩ ?_; refine WP.yes rfl rfl rfl ?_)
     refine WP.ixA tysOk rfl ⟨⟩ rfl rfl rfl rfl rfl rfl rfl rfl hj67 (hs2.ex hj67) ?_
     intro b117 b117v hA117
     refine WP.yes rfl rfl rfl ?_
     refine WP.lx tysOk rfl ⟨⟩ (hs2.at0 hA117 (Held.mem (List.Mem.tail _ (List.Mem.tail _ (List.Mem.tail _ (List.Mem.tail _ (List.Mem.head _)))))) hj67 rfl) ?_
     refine WP.yes rfl rfl rfl ?_
     refine WP.sx tysOk rfl ⟨⟨⟩, (by decide)⟩ ?_
     refine WP.yes rfl rfl rfl ?_
     iterate 2 (refine WP.sx tysOk rfl ⟨⟨⟩, ⟨⟩⟩ ?_)
     refine WP.cond_d rfl rfl (fun hh109 => ?_) (fun hh109 => ?_)
     ·rw [if_pos hh109] at h
      iterate 2 (refine WP.sx tysOk rfl ⟨⟨⟩, ⟨⟩⟩ ?_)
      refine WP.sto' tysOk [iv 0, iv 0, iv 0, iv 9, iv s21] rfl rfl rfl rfl rfl rfl rfl rfl rfl .head rfl rfl ?_
      iterate 2 (refine WP.sx tysOk rfl ⟨⟨⟩, ⟨⟩⟩ ?_)
      refine WP.sto' tysOk [iv 0, iv s21, iv 0, iv 9, iv s21] rfl rfl rfl rfl rfl rfl rfl rfl rfl .head rfl rfl ?_
      refine WP.sx tysOk rfl ⟨⟨⟩, ⟨⟩⟩ ?_
      refine WP.lx tysOk rfl ⟨⟩ (CellAt.blk (.tail (.tail .head)) rfl) ?_
      refine WP.sx tysOk rfl ⟨⟨⟩, ⟨⟩⟩ ?_
      refine WP.lx tysOk rfl ⟨⟩ (CellAt.blk .head rfl) ?_
      obtain ⟨hj68, h⟩ := ck_some h
      refine WP.ixO tysOk rfl ⟨⟩ rfl rfl rfl rfl rfl rfl rfl rfl hf77 hj68 ?_
      intro b118 hA118
      refine WP.lx tysOk rfl ⟨⟩ (OwS.at0 (.tail (.tail (.tail .head))) hA118 hj68 rfl) ?_
      iterate 2 (refine WP.sx tysOk rfl ⟨⟨⟩, ⟨⟩⟩ ?_)
      refine WP.ixO tysOk rfl ⟨⟩ rfl rfl rfl rfl rfl rfl rfl rfl hf77 hj68 ?_
      intro b119 hA119
      obtain ⟨xs83, hx43, h⟩ := lt_some h
      refine WP.stoO (f := (fI .i64)) 0 (w64 ((gt xs73 0) + (w64 ((gt i1 s21).tmod 9)))) tysOk rfl rfl rfl rfl rfl rfl rfl rfl rfl (.tail (.tail (.tail .head))) hA119 hf77 hj68 rfl rfl rfl hx43 ?_
      intro hf90
      refine WP.sx tysOk rfl ⟨⟨⟩, ⟨⟩⟩ ?_
      refine WP.lx tysOk rfl ⟨⟩ (CellAt.blk (.tail (.tail (.tail .head))) rfl) ?_
      refine WP.sx tysOk rfl ⟨⟨⟩, ⟨⟩⟩ ?_
      refine WP.lx tysOk rfl ⟨⟩ (CellAt.blk (.tail .head) rfl) ?_
      obtain ⟨hj69, h⟩ := ck_some h
      refine WP.ixO tysOk rfl ⟨⟩ rfl rfl rfl rfl rfl rfl rfl rfl hf90 hj69 ?_
      intro b120 hA120
      refine WP.lx tysOk rfl ⟨⟩ (OwS.at0 .head hA120 hj69 rfl) ?_
      iterate 2 (refine WP.sx tysOk rfl ⟨⟨⟩, ⟨⟩⟩ ?_)
      refine WP.ixO tysOk rfl ⟨⟩ rfl rfl rfl rfl rfl rfl rfl rfl hf90 hj69 ?_
      intro b121 hA121
      obtain ⟨xs84, hx44, h⟩ := lt_some h
      refine WP.stoO (f := (fI .i64)) 0 (w64 ((gt xs83 s21) - (w64 ((gt i1 s21).tmod 9)))) tysOk rfl rfl rfl rfl rfl rfl rfl rfl rfl .head hA121 hf90 hj69 rfl rfl rfl hx44 ?_
      intro hf91
      refine WP.sx tysOk rfl ⟨⟨⟩, ⟨⟩⟩ ?_
      refine WP.lx tysOk rfl ⟨⟩ (CellAt.blk (.tail (.tail (.tail .head))) rfl) ?_
      refine WP.mx_ tysOk rfl ⟨⟩ (SegAt.blk' (.tail .head) rfl) ?_
      refine WP.bsO (f := fA) [(Arc.mk 0 s21 0 9 s21)] tysOk rfl rfl rfl rfl rfl rfl rfl rfl rfl rfl rfl rfl rfl rfl ?_
      intro g51 hf92
      obtain ⟨hl27, h⟩ := ck_some h
      obtain ⟨xs85, hz37, h⟩ := lt_some h
      refine WP.appO (f := fA) (xs := xs72) (ys := [(Arc.mk 0 s21 0 9 s21)]) tysOk rfl rfl rfl rfl rfl rfl rfl rfl rfl rfl rfl rfl (.tail (.tail (.tail .head))) hf76 hf92.len (OwS.app .head hf92) hl27 hz37 ?_
      intro A91 c91 hf93
      refine WP.sx tysOk rfl ⟨⟨⟩, ⟨⟩⟩ ?_
      refine WP.sto' tysOk [.slice A87 m4 c87, .slice A91 xs85.length c91] rfl rfl rfl rfl rfl rfl rfl rfl rfl (.tail (.tail (.tail (.tail .head)))) rfl rfl ?_
      iterate 3 (refine WP.sx tysOk rfl ⟨⟨⟩, ⟨⟩⟩ ?_)
      refine WP.stop rfl (n4, w64 (s21 + 1), xs85, xs84, A91, xs85.length, c91, A87, m4, c87) ⟨⟨h, hf93, hf91⟩, Nat.lt_succ_self _⟩ ?_ ?_
      ·repeat first | exact ⟨⟩ | refine ⟨rfl, ?_⟩
      exact (.cons (.tail .head) (.cons .head (.cons (.tail .head) (.cons (.tail (.tail .head)) .nil))))
     rw [if_neg hh109] at h
     refine WP.sx tysOk rfl ⟨⟨⟩, ⟨⟩⟩ ?_
     refine WP.lx tysOk rfl ⟨⟩ (CellAt.blk (.tail (.tail .head)) rfl) ?_
     refine WP.sx tysOk rfl ⟨⟨⟩, ⟨⟩⟩ ?_
     refine WP.lx tysOk rfl ⟨⟩ (CellAt.blk .head rfl) ?_
     obtain ⟨hj70, h⟩ := ck_some h
     refine WP.ixO tysOk rfl ⟨⟩ rfl rfl rfl rfl rfl rfl rfl rfl hf77 hj70 ?_
     intro b122 hA122
     refine WP.lx tysOk rfl ⟨⟩ (OwS.at0 (.tail (.tail (.tail .head))) hA122 hj70 rfl) ?_
     iterate 2 (refine WP.sx tysOk rfl ⟨⟨⟩, ⟨⟩⟩ ?_)
     refine WP.ixO tysOk rfl ⟨⟩ rfl rfl rfl rfl rfl rfl rfl rfl hf77 hj70 ?_
     intro b123 hA123
     obtain ⟨xs86, hx45, h⟩ := lt_some h
     refine WP.stoO (f := (fI .i64)) 0 (w64 ((gt xs73 s21) + (w64 ((gt i1 s21).tmod 9)))) tysOk rfl rfl rfl rfl rfl rfl rfl rfl rfl (.tail (.tail (.tail .head))) hA123 hf77 hj70 rfl rfl rfl hx45 ?_
     intro hf94
     refine WP.sx tysOk rfl ⟨⟨⟩, ⟨⟩⟩ ?_
     refine WP.lx tysOk rfl ⟨⟩ (CellAt.blk (.tail (.tail (.tail .head))) rfl) ?_
     refine WP.sx tysOk rfl ⟨⟨⟩, ⟨⟩⟩ ?_
     refine WP.lx tysOk rfl ⟨⟩ (CellAt.blk (.tail .head) rfl) ?_
     obtain ⟨hj71, h⟩ := ck_some h
     refine WP.ixO tysOk rfl ⟨⟩ rfl rfl rfl rfl rfl rfl rfl rfl hf94 hj71 ?_
     intro b124 hA124
     refine WP.lx tysOk rfl ⟨⟩ (OwS.at0 .head hA124 hj71 rfl) ?_
     iterate 2 (refine WP.sx tysOk rfl ⟨⟨⟩, ⟨⟩⟩ ?_)
     refine WP.ixO tysOk rfl ⟨⟩ rfl rfl rfl rfl rfl rfl rfl rfl hf94 hj71 ?_
     intro b125 hA125
     obtain ⟨xs87, hx46, h⟩ := lt_some h
     refine WP.stoO (f := (fI .i64)) 0 (w64 ((gt xs86 0) - (w64 ((gt i1 s21).tmod 9)))) tysOk rfl rfl rfl rfl rfl rfl rfl rfl rfl .head hA125 hf94 hj71 rfl rfl rfl hx46 ?_
     intro hf95
     refine WP.sx tysOk rfl ⟨⟨⟩, ⟨⟩⟩ ?_
     refine WP.lx tysOk rfl ⟨⟩ (CellAt.blk (.tail (.tail (.tail .head))) rfl) ?_
     refine WP.mx_ tysOk rfl ⟨⟩ (SegAt.blk' (.tail .head) rfl) ?_
     refine WP.bsO (f := fA) [(Arc.mk s21 0 0 9 s21)] tysOk rfl rfl rfl rfl rfl rfl rfl rfl rfl rfl rfl rfl rfl rfl ?_
     intro g52 hf96
     obtain ⟨hl28, h⟩ := ck_some h
     obtain ⟨xs88, hz38, h⟩ := lt_some h
     refine WP.appO (f := fA) (xs := xs72) (ys := [(Arc.mk s21 0 0 9 s21)]) tysOk rfl rfl rfl rfl rfl rfl rfl rfl rfl rfl rfl rfl (.tail (.tail (.tail .head))) hf76 hf96.len (OwS.app .head hf96) hl28 hz38 ?_
     intro A92 c92 hf97
     refine WP.sx tysOk rfl ⟨⟨⟩, ⟨⟩⟩ ?_
     refine WP.sto' tysOk [.slice A87 m4 c87, .slice A92 xs88.length c92] rfl rfl rfl rfl rfl rfl rfl rfl rfl (.tail (.tail (.tail (.tail .head)))) rfl rfl ?_
     iterate 3 (refine WP.sx tysOk rfl ⟨⟨⟩, ⟨⟩⟩ ?_)
     refine WP.stop rfl (n4, w64 (s21 + 1), xs88, xs87, A92, xs88.length, c92, A87, m4, c87) ⟨⟨h, hf97, hf95⟩, Nat.lt_succ_self _⟩ ?_ ?_
     ·repeat first | exact ⟨⟩ | refine ⟨rfl, ?_⟩
     exact (.cons (.tail .head) (.cons .head (.cons (.tail .head) (.cons (.tail (.tail .head)) .nil))))
    rw [if_neg hh108] at h
    iterate 3 (refine WP.sx tysOk rfl ⟨⟨⟩, ⟨⟩⟩ ?_)
    refine WP.bld (cs := [iv s21, iv 0, iv 0, iv 9, iv s21]) tysOk rfl ⟨⟩ rfl rfl rfl rfl rfl rfl rfl ?_
    refine WP.al tysOk rfl rfl rfl rfl rfl rfl ?_
    intro g53
    refine WP.sto' tysOk [iv s21, iv 0, iv 0, iv 9, iv s21] rfl rfl rfl rfl rfl rfl rfl rfl rfl .head rfl rfl ?_
    iterate 5 (refine WP.sx tysOk rfl ⟨⟨⟩, ⟨⟩⟩ ?_)
    refine WP.no rfl rfl (decide_eq_false hh108) rfl rfl ?_
    iterate 5 (refine WP.no rfl rfl rfl rfl rfl ?_)
    refine WP.sx tysOk rfl ⟨⟨⟩, ⟨⟩⟩ ?_
    refine WP.condF rfl rfl ?_
    refine WP.sx tysOk rfl ⟨⟨⟩, ⟨⟩⟩ ?_
    refine WP.lx tysOk rfl ⟨⟩ (CellAt.blk (.tail (.tail .head)) rfl) ?_
    refine WP.sx tysOk rfl ⟨⟨⟩, ⟨⟩⟩ ?_
    refine WP.lx tysOk rfl ⟨⟩ (CellAt.blk .head rfl) ?_
    obtain ⟨hj72, h⟩ := ck_some h
    refine WP.ixO tysOk rfl ⟨⟩ rfl rfl rfl rfl rfl rfl rfl rfl hf77 hj72 ?_
    intro b126 hA126
    refine WP.lx tysOk rfl ⟨⟩ (OwS.at0 (.tail (.tail (.tail .head))) hA126 hj72 rfl) ?_
    iterate 2 (refine WP.sx tysOk rfl ⟨⟨⟩, ⟨⟩⟩ ?_)
    refine WP.ixO tysOk rfl ⟨⟩ rfl rfl rfl rfl rfl rfl rfl rfl hf77 hj72 ?_
    intro b127 hA127
    obtain ⟨xs89, hx47, h⟩ := lt_some h
    refine WP.stoO (f := (fI .i64)) 0 (w64 ((gt xs73 s21) + 0)) tysOk rfl rfl rfl rfl rfl rfl rfl rfl rfl (.tail (.tail (.tail .head))) hA127 hf77 hj72 rfl rfl rfl hx47 ?_
    intro hf98
    refine WP.sx tysOk rfl ⟨⟨⟩, ⟨⟩⟩ ?_
    refine WP.lx tysOk rfl ⟨⟩ (CellAt.blk (.tail (.tail (.tail .head))) rfl) ?_
    refine WP.sx tysOk rfl ⟨⟨⟩, ⟨⟩⟩ ?_
    refine WP.lx tysOk rfl ⟨⟩ (CellAt.blk (.tail .head) rfl) ?_
    obtain ⟨hj73, h⟩ := ck_some h
    refine WP.ixO tysOk rfl ⟨⟩ rfl rfl rfl rfl rfl rfl rfl rfl hf98 hj73 ?_
    intro b128 hA128
    refine WP.lx tysOk rfl ⟨⟩ (OwS.at0 .head hA128 hj73 rfl) ?_
    iterate 2 (refine WP.sx tysOk rfl ⟨⟨⟩, ⟨⟩⟩ ?_)
    refine WP.ixO tysOk rfl ⟨⟩ rfl rfl rfl rfl rfl rfl rfl rfl hf98 hj73 ?_
    intro b129 hA129
    obtain ⟨xs90, hx48, h⟩ := lt_some h
    refine WP.stoO (f := (fI .i64)) 0 (w64 ((gt xs89 0) - 0)) tysOk rfl rfl rfl rfl rfl rfl rfl rfl rfl .head hA129 hf98 hj73 rfl rfl rfl hx48 ?_
    intro hf99
    refine WP.sx tysOk rfl ⟨⟨⟩, ⟨⟩⟩ ?_
    refine WP.lx tysOk rfl ⟨⟩ (CellAt.blk (.tail (.tail (.tail .head))) rfl) ?_
    refine WP.mx_ tysOk rfl ⟨⟩ (SegAt.blk' (.tail .head) rfl) ?_
    refine WP.bsO (f := fA) [(Arc.mk s21 0 0 9 s21)] tysOk rfl rfl rfl rfl rfl rfl rfl rfl rfl rfl rfl rfl rfl rfl ?_
    intro g54 hf100
    obtain ⟨hl29, h⟩ := ck_some h
    obtain ⟨xs91, hz39, h⟩ := lt_some h
    refine WP.appO (f := fA) (xs := xs72) (ys := [(Arc.mk s21 0 0 9 s21)]) tysOk rfl rfl rfl rfl rfl rfl rfl rfl rfl rfl rfl rfl (.tail (.tail (.tail .head))) hf76 hf100.len (OwS.app .head hf100) hl29 hz39 ?_
    intro A93 c93 hf101
    refine WP.sx tysOk rfl ⟨⟨⟩, ⟨⟩⟩ ?_
    refine WP.sto' tysOk [.slice A87 m4 c87, .slice A93 xs91.length c93] rfl rfl rfl rfl rfl rfl rfl rfl rfl (.tail (.tail (.tail (.tail .head)))) rfl rfl ?_
    iterate 3 (refine WP.sx tysOk rfl ⟨⟨⟩, ⟨⟩⟩ ?_)
    refine WP.stop rfl (n4, w64 (s21 + 1), xs91, xs90, A93, xs91.length, c93, A87, m4, c87) ⟨⟨h, hf101, hf99⟩, Nat.lt_succ_self _⟩ ?_ ?_
    ·repeat first | exact ⟨⟩ | refine ⟨rfl, ?_⟩
    exact (.cons (.tail .head) (.cons .head (.cons (.tail .head) (.cons (.tail (.tail .head)) .nil))))
   rw [if_neg hh104] at h
   iterate 2 (refine WP.sx tysOk rfl ⟨⟨⟩, ⟨⟩⟩ ?_)
   refine WP.freezeO (.tail (.tail .head)) hf77 ?_
   intro Zp15 hz42
   have hl32 := hf77.len
   subst hl32
   refine WP.freezeO (.tail .head) hf76 ?_
   intro Zp17 hz44
   have hl34 := hf76.len
   subst hl34
   refine WP.fact (fun w1 hw1 => ((PH.le.trans PH.le.rfl_ (PH.le_or _ _)) : PH.le Zp15 (PH.or Zp15 Zp17))) fun hle5 => ?_
   refine WP.fact (fun w1 hw1 => ((PH.ri_or ((Held.mem (List.Mem.tail _ (List.Mem.head _))) _ _ hw1) ((Held.mem (List.Mem.head _)) _ _ hw1)) : PH.le Zp17 (PH.or Zp15 Zp17))) fun hle6 => ?_
   refine WP.fzOr (.tail .head) .head ?_
   refine WP.loop (α := Nat × Int × Int × (List Int) × (List Arc) × (Option Addr) × Nat × (Option Addr) × Nat × PH) (fun x => lp (law17_LeafTree_b2 d1) x.1 (x.2.1, x.2.2.1, x.2.2.2.1, x.2.2.2.2.1) = some r ∧ FzS (fI .i64) x.2.2.2.2.2.2.2.2.2 x.2.2.2.2.2.1 x.2.2.2.2.2.2.1 x.2.2.2.1 ∧ FzS fA x.2.2.2.2.2.2.2.2.2 x.2.2.2.2.2.2.2.1 x.2.2.2.2.2.2.2.2.1 x.2.2.2.2.1) (fun x => [(5, iv (w64 (1 + (w64 ((gt d1 0).tmod 10))))), (6, .pointer (some ⟨g2, 0, none⟩)), (11, iv x.2.1), (12, iv x.2.2.1)]) (fun x => [.fz x.2.2.2.2.2.2.2.2.2, .blk g2 26 [.slice x.2.2.2.2.2.1 x.2.2.2.1.length x.2.2.2.2.2.2.1, .slice x.2.2.2.2.2.2.2.1 x.2.2.2.2.1.length x.2.2.2.2.2.2.2.2.1], .fz (PH.of w)]) (fun x => x.1) rfl (big, 0, 0, xs73, xs72, A87, c87, A86, c86, (PH.or Zp15 Zp17)) ⟨h, (hz42.le' hle5), (hz44.le' hle6)⟩ ?_ ?_ ?_
   ·repeat first | exact ⟨⟩ | refine ⟨rfl, ?_⟩
   ·exact (.cons .head (.cons .head (.cons .head .nil)))
   rintro ⟨n5, s26, s27, xs95, xs96, A109, c109, A110, c110, Zl12⟩ ⟨h, hs81, hs82⟩
   dsimp only at h hs81 hs82 ⊢
   rcases n5 with _ | n5
   · exact (lp_no h).elim
   replace h := lp_succ h
   unfold law17_LeafTree_b2 at h
   try dsimp only at h
   iterate 4 (refine WP.sx tysOk rfl ⟨⟨⟩, ⟨⟩⟩ ?_)
   refine WP.cond_d rfl rfl (fun hh131 => ?_) (fun hh131 => ?_)
   ·rw [if_pos hh131] at h
    refine WP.mx_ tysOk rfl ⟨⟩ (SegAt.blk' (.tail .head) rfl) ?_
    obtain ⟨r31, hg31, h⟩ := bind_some h
    refine WP.callS (leaf_Leaf_S Zl12 r31) rfl rfl rfl rfl rfl rfl rfl (by kernel_rfl) (fun w1 hw1 => (leaf_Leaf_w (Z := Zl12) ((Held.mem (List.Mem.head _)) _ _ hw1) hg31 (InsZ.mk_ ((hs81.le' PH.le.rfl_).of) ((hs82.le' PH.le.rfl_).of)) (pg.le ((Held.mem (List.Mem.tail _ (List.Mem.tail _ (List.Mem.head _)))) _ _ hw1)) :)) ?_
    rintro _ _ ⟨Zn16, A111, _, c111, A112, _, c112, A113, _, c113, A114, _, c114, rfl, rfl, rfl, rfl, rfl, hs83, hs84, hs85, hs86, rfl⟩
    iterate 3 (refine WP.sx tysOk rfl ⟨⟨⟩, ⟨⟩⟩ ?_)
    refine WP.al tysOk rfl rfl rfl rfl rfl rfl ?_
    intro g58
    refine WP.sto' tysOk [.slice A111 r31.1.inst.supply.length c111, .slice A112 r31.1.inst.arcs.length c112, iv r31.1.rcd.pass, .slice A113 r31.1.rcd.was.supply.length c113, .slice A114 r31.1.rcd.was.arcs.length c114, iv r31.1.off.hi, .int .u64 (r31.1.off.lo), .bool (r31.1.did)] rfl rfl rfl rfl rfl rfl rfl rfl rfl .head rfl rfl ?_
    iterate 3 (refine WP.sx tysOk rfl ⟨⟨⟩, ⟨⟩⟩ ?_)
    refine WP.cond_d rfl rfl (fun hh132 => ?_) (fun hh132 => ?_)
    ·rw [if_pos hh132] at h
     refine WP.sx tysOk rfl ⟨⟨⟩, ⟨⟩⟩ ?_
     cases h
     refine WP.retR tysOk rfl rfl ⟨_, _, rfl, rfl, rfl⟩ (fun w1 hw1 => ⟨rfl, Ret.below_ hw1 (.cons (.tail (.tail (.tail (.tail .head)))) .nil)⟩)
    rw [if_neg hh132] at h
    refine WP.sx tysOk rfl ⟨⟨⟩, ⟨⟩⟩ ?_
    refine WP.lx tysOk rfl ⟨⟩ (CellAt.blk .head rfl) ?_
    refine WP.cond rfl rfl (fun hh133 => ?_) (fun hh133 => ?_)
    ·rw [if_pos hh133] at h
     iterate 4 (refine WP.sx tysOk rfl ⟨⟨⟩, ⟨⟩⟩ ?_)
     refine WP.mx_ tysOk rfl ⟨⟩ (SegAt.blk' .head rfl) ?_
     refine WP.sto' tysOk [.slice A111 r31.1.inst.supply.length c111, .slice A112 r31.1.inst.arcs.length c112] rfl rfl rfl rfl rfl rfl rfl rfl rfl (.tail (.tail (.tail .head))) rfl rfl ?_
     iterate 3 (refine WP.sx tysOk rfl ⟨⟨⟩, ⟨⟩⟩ ?_)
     refine WP.fzOr (.tail (.tail (.tail .head))) (.tail (.tail .head)) ?_
     refine WP.stop rfl (n5, w64 (s26 + 1), w64 (s27 + 1), r31.1.inst.supply, r31.1.inst.arcs, A111, c111, A112, c112, (PH.or Zl12 Zn16)) ⟨⟨h, hs83, hs84⟩, Nat.lt_succ_self _⟩ ?_ ?_
     ·repeat first | exact ⟨⟩ | refine ⟨rfl, ?_⟩
     exact (.cons .head (.cons .head (.cons (.tail .head) .nil)))
    rw [if_neg (bneg hh133)] at h
    refine WP.sx tysOk rfl ⟨⟨⟩, ⟨⟩⟩ ?_
    refine WP.mx_ tysOk rfl ⟨⟩ (SegAt.blk' .head rfl) ?_
    refine WP.sto' tysOk [.slice A111 r31.1.inst.supply.length c111, .slice A112 r31.1.inst.arcs.length c112] rfl rfl rfl rfl rfl rfl rfl rfl rfl (.tail (.tail (.tail .head))) rfl rfl ?_
    iterate 3 (refine WP.sx tysOk rfl ⟨⟨⟩, ⟨⟩⟩ ?_)
    refine WP.fzOr (.tail (.tail (.tail .head))) (.tail (.tail .head)) ?_
    refine WP.stop rfl (n5, s26, w64 (s27 + 1), r31.1.inst.supply, r31.1.inst.arcs, A111, c111, A112, c112, (PH.or Zl12 Zn16)) ⟨⟨h, hs83, hs84⟩, Nat.lt_succ_self _⟩ ?_ ?_
    ·repeat first | exact ⟨⟩ | refine ⟨rfl, ?_⟩
    exact (.cons .head (.cons .head (.cons (.tail .head) .nil)))
   rw [if_neg hh131] at h
   obtain ⟨r32, hg32, h⟩ := bind_some h
   refine WP.callV rfl rfl rfl rfl rfl rfl rfl (by kernel_rfl) (fun w1 hw1 => (law17_known_w hg32 (pg.le ((Held.mem (List.Mem.tail _ (List.Mem.tail _ (List.Mem.head _)))) _ _ hw1)) :)) ⟨⟩ ?_
   refine WP.sx tysOk rfl ⟨⟨⟩, ⟨⟩⟩ ?_
   by_cases hh134 : r32 = true
   ·rw [if_pos hh134] at h
    refine WP.yes rfl rfl hh134 ?_
    iterate 3 (refine WP.sx tysOk rfl ⟨⟨⟩, ⟨⟩⟩ ?_; refine WP.yes rfl rfl rfl ?_)
    iterate 3 (refine WP.sx tysOk rfl ⟨⟨⟩, ⟨⟩⟩ ?_)
    by_cases hh135 : s26 = (w64 ((w64 (1 + (w64 ((gt d1 0).tmod 10)))) - 1))
    ·rw [if_pos hh135] at h
     refine WP.yes rfl rfl (decide_eq_true hh135) ?_
     refine WP.sx tysOk rfl ⟨⟨⟩, ⟨⟩⟩ ?_
     refine WP.yes rfl rfl rfl ?_
     refine WP.lx tysOk rfl ⟨⟩ (CellAt.blk (.tail .head) rfl) ?_
     refine WP.yes rfl rfl rfl ?_
     refine WP.sx tysOk rfl ⟨⟨⟩, ⟨⟩⟩ ?_
     refine WP.yes rfl rfl rfl ?_
     iterate 3 (refine WP.sx tysOk rfl ⟨⟨⟩, ⟨⟩⟩ ?_)
     by_cases hh136 : (xs95.length : Int) = 1
     ·rw [if_pos hh136] at h
      refine WP.yes rfl rfl (decide_eq_true hh136) ?_
      refine WP.sx tysOk rfl ⟨⟨⟩, ⟨⟩⟩ ?_
      refine WP.yes rfl rfl rfl ?_
      refine WP.lx tysOk rfl ⟨⟩ (CellAt.blk (.tail .head) rfl) ?_
      refine WP.yes rfl rfl rfl ?_
      obtain ⟨hj77, h⟩ := ck_some h
      refine WP.ixA tysOk rfl ⟨⟩ rfl rfl rfl rfl rfl rfl rfl rfl hj77 (hs81.ex hj77) ?_
      intro b133 b133v hA133
      refine WP.yes rfl rfl rfl ?_
      refine WP.lx tysOk rfl ⟨⟩ (hs81.at0 hA133 (Held.mem (List.Mem.head _)) hj77 rfl) ?_
      refine WP.yes rfl rfl rfl ?_
      iterate 3 (refine WP.sx tysOk rfl ⟨⟨⟩, ⟨⟩⟩ ?_)
      by_cases hh137 : (gt xs95 0) = 0
      ·rw [if_pos hh137] at h
       refine WP.yes rfl rfl (decide_eq_true hh137) ?_
       refine WP.sx tysOk rfl ⟨⟨⟩, ⟨⟩⟩ ?_
       refine WP.yes rfl rfl rfl ?_
       refine WP.lx tysOk rfl ⟨⟩ (CellAt.blk (.tail .head) rfl) ?_
       refine WP.yes rfl rfl rfl ?_
       refine WP.sx tysOk rfl ⟨⟨⟩, ⟨⟩⟩ ?_
       refine WP.yes rfl rfl rfl ?_
       iterate 3 (refine WP.sx tysOk rfl ⟨⟨⟩, ⟨⟩⟩ ?_)
       cases h
       refine WP.retR tysOk rfl rfl ⟨_, _, rfl, rfl, rfl⟩ (fun w1 hw1 => ⟨rfl, Ret.below_ hw1 (.cons (.tail (.tail .head)) .nil)⟩)
      rw [if_neg hh137] at h
      refine WP.no rfl rfl (decide_eq_false hh137) rfl rfl ?_
      iterate 3 (refine WP.no rfl rfl rfl rfl rfl ?_)
      iterate 2 (refine WP.sx tysOk rfl ⟨⟨⟩, ⟨⟩⟩ ?_)
      cases h
      refine WP.retR tysOk rfl rfl ⟨_, _, rfl, rfl, rfl⟩ (fun w1 hw1 => ⟨rfl, Ret.below_ hw1 (.cons (.tail (.tail .head)) .nil)⟩)
     rw [if_neg hh136] at h
     refine WP.no rfl rfl (decide_eq_false hh136) rfl rfl ?_
     iterate 4 (refine WP.no rfl rfl rfl rfl rfl ?_)
     iterate 2 (refine WP.sx tysOk rfl ⟨⟨⟩, ⟨⟩⟩ ?_)
     iterate 4 (refine WP.no rfl rfl rfl rfl rfl ?_)
     iterate 2 (refine WP.sx tysOk rfl ⟨⟨⟩, ⟨⟩⟩ ?_)
     cases h
     refine WP.retR tysOk rfl rfl ⟨_, _, rfl, rfl, rfl⟩ (fun w1 hw1 => ⟨rfl, Ret.below_ hw1 (.cons (.tail (.tail .head)) .nil)⟩)
    rw [if_neg hh135] at h
    refine WP.no rfl rfl (decide_eq_false hh135) rfl rfl ?_
    iterate 3 (refine WP.no rfl rfl rfl rfl rfl ?_)
    iterate 2 (refine WP.sx tysOk rfl ⟨⟨⟩, ⟨⟩⟩ ?_)
    iterate 5 (refine WP.no rfl rfl rfl rfl rfl ?_)
    iterate 2 (refine WP.sx tysOk rfl ⟨⟨⟩, ⟨⟩⟩ ?_)
    iterate 4 (refine WP.no rfl rfl rfl rfl rfl ?_)
    iterate 2 (refine WP.sx tysOk rfl ⟨⟨⟩, ⟨⟩⟩ ?_)
    cases h
    refine WP.retR tysOk rfl rfl ⟨_, _, rfl, rfl, rfl⟩ (fun w1 hw1 => ⟨rfl, Ret.below_ hw1 (.cons (.tail (.tail .head)) .nil)⟩)
   rw [if_neg hh134] at h
   refine WP.no rfl rfl (bfalse hh134) rfl rfl ?_
   iterate 3 (refine WP.no rfl rfl rfl rfl rfl ?_)
   iterate 2 (refine WP.sx tysOk rfl ⟨⟨⟩, ⟨⟩⟩ ?_)
   iterate 4 (refine WP.no rfl rfl rfl rfl rfl ?_)
   iterate 2 (refine WP.sx tysOk rfl ⟨⟨⟩, ⟨⟩⟩ ?_)
   iterate 5 (refine WP.no rfl rfl rfl rfl rfl ?_)
   iterate 2 (refine WP.sx tysOk rfl ⟨⟨⟩, ⟨⟩⟩ ?_)
   iterate 4 (refine WP.no rfl rfl rfl rfl rfl ?_)
   iterate 2 (refine WP.sx tysOk rfl ⟨⟨⟩, ⟨⟩⟩ ?_)
   cases h
   refine WP.retR tysOk rfl rfl ⟨_, _, rfl, rfl, rfl⟩ (fun w1 hw1 => ⟨rfl, Ret.below_ hw1 (.cons (.tail (.tail .head)) .nil)⟩)
  rw [if_neg hh1] at h
  refine WP.sx tysOk rfl ⟨⟨⟩, ⟨⟩⟩ ?_
  obtain ⟨hm2, h⟩ := ck_some h
  refine WP.mkO (f := (fI .i64)) 0 tysOk rfl rfl rfl rfl rfl rfl rfl rfl rfl rfl rfl rfl hm2 ?_
  intro g59 hf102
  refine WP.bld (cs := [.slice (some ⟨g59, 0, none⟩) ((1 : Int).toNat) ((1 : Int).toNat), .slice none 0 0]) tysOk rfl ⟨⟩ rfl rfl rfl rfl rfl rfl rfl ?_
  refine WP.al tysOk rfl rfl rfl rfl rfl rfl ?_
  intro g60
  refine WP.sto' tysOk [.slice (some ⟨g59, 0, none⟩) ((1 : Int).toNat) ((1 : Int).toNat), .slice none 0 0] rfl rfl rfl rfl rfl rfl rfl rfl rfl .head rfl rfl ?_
  refine WP.sx tysOk rfl ⟨⟨⟩, ⟨⟩⟩ ?_
  refine WP.own_nil 28 fA.z ?_
  refine WP.loop (α := Nat × Int × (List Arc) × (List Int) × (Option Addr) × Nat × Nat × (Option Addr) × Nat × Nat) (fun x => lp (law17_LeafTree_b3 d1 i1) x.1 (x.2.1, x.2.2.1, x.2.2.2.1) = some r ∧ OwF x.2.2.2.2.1 x.2.2.2.2.2.1 x.2.2.1 ∧ OwF x.2.2.2.2.2.2.2.1 x.2.2.2.2.2.2.2.2.1 x.2.2.2.1) (fun x => [(0, .slice A1 d1.length c1), (1, .slice A2 i1.length c2), (5, iv 1), (6, .pointer (some ⟨g60, 0, none⟩)), (7, iv x.2.1)]) (fun x => [Ow fA 28 x.2.2.2.2.1 x.2.2.2.2.2.1 x.2.2.2.2.2.2.1 x.2.2.1, .blk g60 26 [.slice x.2.2.2.2.2.2.2.1 x.2.2.2.2.2.2.2.2.1 x.2.2.2.2.2.2.2.2.2, .slice x.2.2.2.2.1 x.2.2.2.2.2.1 x.2.2.2.2.2.2.1], Ow (fI .i64) 2 x.2.2.2.2.2.2.2.1 x.2.2.2.2.2.2.2.2.1 x.2.2.2.2.2.2.2.2.2 x.2.2.2.1, .fz (PH.of w)]) (fun x => x.1) rfl (big, 1, ([] : List Arc), (List.replicate (1 : Int).toNat 0), none, 0, 0, (some ⟨g59, 0, none⟩), (1 : Int).toNat, (1 : Int).toNat) ⟨h, OwF.nil_, hf102⟩ ?_ ?_ ?_
  ·repeat first | exact ⟨⟩ | refine ⟨rfl, ?_⟩
  ·exact (.cons .head (.cons .head (.cons .head (.cons .head .nil))))
  rintro ⟨n9, s48, xs168, xs169, A198, m7, c198, A199, m8, c199⟩ ⟨h, hf177, hf178⟩
  dsimp only at h hf177 hf178 ⊢
  rcases n9 with _ | n9
  · exact (lp_no h).elim
  replace h := lp_succ h
  unfold law17_LeafTree_b3 at h
  try dsimp only at h
  iterate 3 (refine WP.sx tysOk rfl ⟨⟨⟩, ⟨⟩⟩ ?_)
  refine WP.cond_d rfl rfl (fun hh240 => ?_) (fun hh240 => ?_)
  ·rw [if_pos hh240] at h
   iterate 6 (refine WP.sx tysOk rfl ⟨⟨⟩, ⟨⟩⟩ ?_)
   refine WP.cond_d rfl rfl (fun hh241 => ?_) (fun hh241 => ?_)
   ·rw [if_pos hh241] at h
    iterate 2 (refine WP.sx tysOk rfl ⟨⟨⟩, ⟨⟩⟩ ?_)
    obtain ⟨hj135, h⟩ := ck_some h
    refine WP.ixA tysOk rfl ⟨⟩ rfl rfl rfl rfl rfl rfl rfl rfl hj135 (hs1.ex hj135) ?_
    intro b233 b233v hA233
    refine WP.lx tysOk rfl ⟨⟩ (hs1.at0 hA233 (Held.mem (List.Mem.tail _ (List.Mem.tail _ (List.Mem.tail _ (List.Mem.head _))))) hj135 rfl) ?_
    iterate 2 (refine WP.sx tysOk rfl ⟨⟨⟩, ⟨⟩⟩ ?_)
    obtain ⟨hz77, h⟩ := ck_some h
    refine WP.sx tysOk rfl ⟨⟨⟩, hz77⟩ ?_
    iterate 5 (refine WP.sx tysOk rfl ⟨⟨⟩, ⟨⟩⟩ ?_)
    refine WP.cond_d rfl rfl (fun hh242 => ?_) (fun hh242 => ?_)
    ·rw [if_pos hh242] at h
     iterate 2 (refine WP.sx tysOk rfl ⟨⟨⟩, ⟨⟩⟩ ?_)
     obtain ⟨hj136, h⟩ := ck_some h
     refine WP.ixA tysOk rfl ⟨⟩ rfl rfl rfl rfl rfl rfl rfl rfl hj136 (hs2.ex hj136) ?_
     intro b234 b234v hA234
     refine WP.lx tysOk rfl ⟨⟩ (hs2.at0 hA234 (Held.mem (List.Mem.tail _ (List.Mem.tail _ (List.Mem.tail _ (List.Mem.head _))))) hj136 rfl) ?_
     refine WP.sx tysOk rfl ⟨⟨⟩, (by decide)⟩ ?_
     iterate 5 (refine WP.sx tysOk rfl ⟨⟨⟩, ⟨⟩⟩ ?_)
     refine WP.bld (cs := [iv s48, iv ((w64 ((gt d1 s48))).tmod s48), iv 0, iv 9, iv s48]) tysOk rfl ⟨⟩ rfl rfl rfl rfl rfl rfl rfl ?_
     refine WP.al tysOk rfl rfl rfl rfl rfl rfl ?_
     intro g103
     refine WP.sto' tysOk [iv s48, iv ((w64 ((gt d1 s48))).tmod s48), iv 0, iv 9, iv s48] rfl rfl rfl rfl rfl rfl rfl rfl rfl .head rfl rfl ?_
     iterate 5 (refine WP.sx tysOk rfl ⟨⟨⟩, ⟨⟩⟩ ?_)
     refine WP.yes rfl rfl (decide_eq_true hh242) ?_
     iterate 2 (refine WP.sx tysOk rfl ⟨⟨⟩, ⟨⟩⟩ ?_; refine WP.yes rfl rfl rfl ?_)
     refine WP.ixA tysOk rfl ⟨⟩ rfl rfl rfl rfl rfl rfl rfl rfl hj136 (hs2.ex hj136) ?_
     intro b235 b235v hA235
     refine WP.yes rfl rfl rfl ?_
     refine WP.lx tysOk rfl ⟨⟩ (hs2.at0 hA235 (Held.mem (List.Mem.tail _ (List.Mem.tail _ (List.Mem.tail _ (List.Mem.tail _ (List.Mem.head _)))))) hj136 rfl) ?_
     refine WP.yes rfl rfl rfl ?_
     refine WP.sx tysOk rfl ⟨⟨⟩, (by decide)⟩ ?_
     refine WP.yes rfl rfl rfl ?_
     iterate 2 (refine WP.sx tysOk rfl ⟨⟨⟩, ⟨⟩⟩ ?_)
     refine WP.cond_d rfl rfl (fun hh243 => ?_) (fun hh243 => ?_)
     ·rw [if_pos hh243] at h
      iterate 2 (refine WP.sx tysOk rfl ⟨⟨⟩, ⟨⟩⟩ ?_)
      refine WP.sto' tysOk [iv ((w64 ((gt d1 s48))).tmod s48), iv ((w64 ((gt d1 s48))).tmod s48), iv 0, iv 9, iv s48] rfl rfl rfl rfl rfl rfl rfl rfl rfl .head rfl rfl ?_
      iterate 2 (refine WP.sx tysOk rfl ⟨⟨⟩, ⟨⟩⟩ ?_)
      refine WP.sto' tysOk [iv ((w64 ((gt d1 s48))).tmod s48), iv s48, iv 0, iv 9, iv s48] rfl rfl rfl rfl rfl rfl rfl rfl rfl .head rfl rfl ?_
      refine WP.sx tysOk rfl ⟨⟨⟩, ⟨⟩⟩ ?_
      refine WP.lx tysOk rfl ⟨⟩ (CellAt.blk (.tail (.tail .head)) rfl) ?_
      refine WP.sx tysOk rfl ⟨⟨⟩, ⟨⟩⟩ ?_
      refine WP.lx tysOk rfl ⟨⟩ (CellAt.blk .head rfl) ?_
      obtain ⟨hj137, h⟩ := ck_some h
      refine WP.ixO tysOk rfl ⟨⟩ rfl rfl rfl rfl rfl rfl rfl rfl hf178 hj137 ?_
      intro b236 hA236
      refine WP.lx tysOk rfl ⟨⟩ (OwS.at0 (.tail (.tail (.tail .head))) hA236 hj137 rfl) ?_
      iterate 2 (refine WP.sx tysOk rfl ⟨⟨⟩, ⟨⟩⟩ ?_)
      refine WP.ixO tysOk rfl ⟨⟩ rfl rfl rfl rfl rfl rfl rfl rfl hf178 hj137 ?_
      intro b237 hA237
      obtain ⟨xs170, hx85, h⟩ := lt_some h
      refine WP.stoO (f := (fI .i64)) 0 (w64 ((gt xs169 ((w64 ((gt d1 s48))).tmod s48)) + (w64 ((gt i1 s48).tmod 9)))) tysOk rfl rfl rfl rfl rfl rfl rfl rfl rfl (.tail (.tail (.tail .head))) hA237 hf178 hj137 rfl rfl rfl hx85 ?_
      intro hf179
      refine WP.sx tysOk rfl ⟨⟨⟩, ⟨⟩⟩ ?_
      refine WP.lx tysOk rfl ⟨⟩ (CellAt.blk (.tail (.tail (.tail .head))) rfl) ?_
      refine WP.sx tysOk rfl ⟨⟨⟩, ⟨⟩⟩ ?_
      refine WP.lx tysOk rfl ⟨⟩ (CellAt.blk (.tail .head) rfl) ?_
      obtain ⟨hj138, h⟩ := ck_some h
      refine WP.ixO tysOk rfl ⟨⟩ rfl rfl rfl rfl rfl rfl rfl rfl hf179 hj138 ?_
      intro b238 hA238
      refine WP.lx tysOk rfl ⟨⟩ (OwS.at0 .head hA238 hj138 rfl) ?_
      iterate 2 (refine WP.sx tysOk rfl ⟨⟨⟩, ⟨⟩⟩ ?_)
      refine WP.ixO tysOk rfl ⟨⟩ rfl rfl rfl rfl rfl rfl rfl rfl hf179 hj138 ?_
      intro b239 hA239
      obtain ⟨xs171, hx86, h⟩ := lt_some h
      refine WP.stoO (f := (fI .i64)) 0 (w64 ((gt xs170 s48) - (w64 ((gt i1 s48).tmod 9)))) tysOk rfl rfl rfl rfl rfl rfl rfl rfl rfl .head hA239 hf179 hj138 rfl rfl rfl hx86 ?_
      intro hf180
      refine WP.sx tysOk rfl ⟨⟨⟩, ⟨⟩⟩ ?_
      refine WP.lx tysOk rfl ⟨⟩ (CellAt.blk (.tail (.tail (.tail .head))) rfl) ?_
      refine WP.mx_ tysOk rfl ⟨⟩ (SegAt.blk' (.tail .head) rfl) ?_
      refine WP.bsO (f := fA) [(Arc.mk ((w64 ((gt d1 s48))).tmod s48) s48 0 9 s48)] tysOk rfl rfl rfl rfl rfl rfl rfl rfl rfl rfl rfl rfl rfl rfl ?_
      intro g104 hf181
      obtain ⟨hl58, h⟩ := ck_some h
      obtain ⟨xs172, hz78, h⟩ := lt_some h
      refine WP.appO (f := fA) (xs := xs168) (ys := [(Arc.mk ((w64 ((gt d1 s48))).tmod s48) s48 0 9 s48)]) tysOk rfl rfl rfl rfl rfl rfl rfl rfl rfl rfl rfl rfl (.tail (.tail (.tail .head))) hf177 hf181.len (OwS.app .head hf181) hl58 hz78 ?_
      intro A200 c200 hf182
      refine WP.sx tysOk rfl ⟨⟨⟩, ⟨⟩⟩ ?_
      refine WP.sto' tysOk [.slice A199 m8 c199, .slice A200 xs172.length c200] rfl rfl rfl rfl rfl rfl rfl rfl rfl (.tail (.tail (.tail (.tail .head)))) rfl rfl ?_
      iterate 3 (refine WP.sx tysOk rfl ⟨⟨⟩, ⟨⟩⟩ ?_)
      refine WP.stop rfl (n9, w64 (s48 + 1), xs172, xs171, A200, xs172.length, c200, A199, m8, c199) ⟨⟨h, hf182, hf180⟩, Nat.lt_succ_self _⟩ ?_ ?_
      ·repeat first | exact ⟨⟩ | refine ⟨rfl, ?_⟩
      exact (.cons (.tail .head) (.cons .head (.cons (.tail .head) (.cons (.tail (.tail .head)) .nil))))
     rw [if_neg hh243] at h
     refine WP.sx tysOk rfl ⟨⟨⟩, ⟨⟩⟩ ?_
     refine WP.lx tysOk rfl ⟨⟩ (CellAt.blk (.tail (.tail .head)) rfl) ?_
     refine WP.sx tysOk rfl ⟨⟨⟩, ⟨⟩⟩ ?_
     refine WP.lx tysOk rfl ⟨⟩ (CellAt.blk .head rfl) ?_
     obtain ⟨hj139, h⟩ := ck_some h
     refine WP.ixO tysOk rfl ⟨⟩ rfl rfl rfl rfl rfl rfl rfl rfl hf178 hj139 ?_
     intro b240 hA240
     refine WP.lx tysOk rfl ⟨⟩ (OwS.at0 (.tail (.tail (.tail .head))) hA240 hj139 rfl) ?_
     iterate 2 (refine WP.sx tysOk rfl ⟨⟨⟩, ⟨⟩⟩ ?_)
     refine WP.ixO tysOk rfl ⟨⟩ rfl rfl rfl rfl rfl rfl rfl rfl hf178 hj139 ?_
     intro b241 hA241
     obtain ⟨xs173, hx87, h⟩ := lt_some h
     refine WP.stoO (f := (fI .i64)) 0 (w64 ((gt xs169 s48) + (w64 ((gt i1 s48).tmod 9)))) tysOk rfl rfl rfl rfl rfl rfl rfl rfl rfl (.tail (.tail (.tail .head))) hA241 hf178 hj139 rfl rfl rfl hx87 ?_
     intro hf183
     refine WP.sx tysOk rfl ⟨⟨⟩, ⟨⟩⟩ ?_
     refine WP.lx tysOk rfl ⟨⟩ (CellAt.blk (.tail (.tail (.tail .head))) rfl) ?_
     refine WP.sx tysOk rfl ⟨⟨⟩, ⟨⟩⟩ ?_
     refine WP.lx tysOk rfl ⟨⟩ (CellAt.blk (.tail .head) rfl) ?_
     obtain ⟨hj140, h⟩ := ck_some h
     refine WP.ixO tysOk rfl ⟨⟩ rfl rfl rfl rfl rfl rfl rfl rfl hf183 hj140 ?_
     intro b242 hA242
     refine WP.lx tysOk rfl ⟨⟩ (OwS.at0 .head hA242 hj140 rfl) ?_
     iterate 2 (refine WP.sx tysOk rfl ⟨⟨⟩, ⟨⟩⟩ ?_)
     refine WP.ixO tysOk rfl ⟨⟩ rfl rfl rfl rfl rfl rfl rfl rfl hf183 hj140 ?_
     intro b243 hA243
     obtain ⟨xs174, hx88, h⟩ := lt_some h
     refine WP.stoO (f := (fI .i64)) 0 (w64 ((gt xs173 ((w64 ((gt d1 s48))).tmod s48)) - (w64 ((gt i1 s48).tmod 9)))) tysOk rfl rfl rfl rfl rfl rfl rfl rfl rfl .head hA243 hf183 hj140 rfl rfl rfl hx88 ?_
     intro hf184
     refine WP.sx tysOk rfl ⟨⟨⟩, ⟨⟩⟩ ?_
     refine WP.lx tysOk rfl ⟨⟩ (CellAt.blk (.tail (.tail (.tail .head))) rfl) ?_
     refine WP.mx_ tysOk rfl ⟨⟩ (SegAt.blk' (.tail .head) rfl) ?_
     refine WP.bsO (f := fA) [(Arc.mk s48 ((w64 ((gt d1 s48))).tmod s48) 0 9 s48)] tysOk rfl rfl rfl rfl rfl rfl rfl rfl rfl rfl rfl rfl rfl rfl ?_
     intro g105 hf185
     obtain ⟨hl59, h⟩ := ck_some h
     obtain ⟨xs175, hz79, h⟩ := lt_some h
     refine WP.appO (f := fA) (xs := xs168) (ys := [(Arc.mk s48 ((w64 ((gt d1 s48))).tmod s48) 0 9 s48)]) tysOk rfl rfl rfl rfl rfl rfl rfl rfl rfl rfl rfl rfl (.tail (.tail (.tail .head))) hf177 hf185.len (OwS.app .head hf185) hl59 hz79 ?_
     intro A201 c201 hf186
     refine WP.sx tysOk rfl ⟨⟨⟩, ⟨⟩⟩ ?_
     refine WP.sto' tysOk [.slice A199 m8 c199, .slice A201 xs175.length c201] rfl rfl rfl rfl rfl rfl rfl rfl rfl (.tail (.tail (.tail (.tail .head)))) rfl rfl ?_
     iterate 3 (refine WP.sx tysOk rfl ⟨⟨⟩, ⟨⟩⟩ ?_)
     refine WP.stop rfl (n9, w64 (s48 + 1), xs175, xs174, A201, xs175.length, c201, A199, m8, c199) ⟨⟨h, hf186, hf184⟩, Nat.lt_succ_self _⟩ ?_ ?_
     ·repeat first | exact ⟨⟩ | refine ⟨rfl, ?_⟩
     exact (.cons (.tail .head) (.cons .head (.cons (.tail .head) (.cons (.tail (.tail .head)) .nil))))
    rw [if_neg hh242] at h
    iterate 3 (refine WP.sx tysOk rfl ⟨⟨⟩, ⟨⟩⟩ ?_)
    refine WP.bld (cs := [iv s48, iv ((w64 ((gt d1 s48))).tmod s48), iv 0, iv 9, iv s48]) tysOk rfl ⟨⟩ rfl rfl rfl rfl rfl rfl rfl ?_
    refine WP.al tysOk rfl rfl rfl rfl rfl rfl ?_
    intro g106
    refine WP.sto' tysOk [iv s48, iv ((w64 ((gt d1 s48))).tmod s48), iv 0, iv 9, iv s48] rfl rfl rfl rfl rfl rfl rfl rfl rfl .head rfl rfl ?_
    iterate 5 (refine WP.sx tysOk rfl ⟨⟨⟩, ⟨⟩⟩ ?_)
    refine WP.no rfl rfl (decide_eq_false hh242) rfl rfl ?_
    iterate 5 (refine WP.no rfl rfl rfl rfl rfl ?_)
    refine WP.sx tysOk rfl ⟨⟨⟩, ⟨⟩⟩ ?_
    refine WP.condF rfl rfl ?_
    refine WP.sx tysOk rfl ⟨⟨⟩, ⟨⟩⟩ ?_
    refine WP.lx tysOk rfl ⟨⟩ (CellAt.blk (.tail (.tail .head)) rfl) ?_
    refine WP.sx tysOk rfl ⟨⟨⟩, ⟨⟩⟩ ?_
    refine WP.lx tysOk rfl ⟨⟩ (CellAt.blk .head rfl) ?_
    obtain ⟨hj141, h⟩ := ck_some h
    refine WP.ixO tysOk rfl ⟨⟩ rfl rfl rfl rfl rfl rfl rfl rfl hf178 hj141 ?_
    intro b244 hA244
    refine WP.lx tysOk rfl ⟨⟩ (OwS.at0 (.tail (.tail (.tail .head))) hA244 hj141 rfl) ?_
    iterate 2 (refine WP.sx tysOk rfl ⟨⟨⟩, ⟨⟩⟩ ?_)
    refine WP.ixO tysOk rfl ⟨⟩ rfl rfl rfl rfl rfl rfl rfl rfl hf178 hj141 ?_
    intro b245 hA245
    obtain ⟨xs176, hx89, h⟩ := lt_some h
    refine WP.stoO (f := (fI .i64)) 0 (w64 ((gt xs169 s48) + 0)) tysOk rfl rfl rfl rfl rfl rfl rfl rfl rfl (.tail (.tail (.tail .head))) hA245 hf178 hj141 rfl rfl rfl hx89 ?_
    intro hf187
    refine WP.sx tysOk rfl ⟨⟨⟩, ⟨⟩⟩ ?_
    refine WP.lx tysOk rfl ⟨⟩ (CellAt.blk (.tail (.tail (.tail .head))) rfl) ?_
    refine WP.sx tysOk rfl ⟨⟨⟩, ⟨⟩⟩ ?_
    refine WP.lx tysOk rfl ⟨⟩ (CellAt.blk (.tail .head) rfl) ?_
    obtain ⟨hj142, h⟩ := ck_some h
    refine WP.ixO tysOk rfl ⟨⟩ rfl rfl rfl rfl rfl rfl rfl rfl hf187 hj142 ?_
    intro b246 hA246
    refine WP.lx tysOk rfl ⟨⟩ (OwS.at0 .head hA246 hj142 rfl) ?_
    iterate 2 (refine WP.sx tysOk rfl ⟨⟨⟩, ⟨⟩⟩ ?_)
    refine WP.ixO tysOk rfl ⟨⟩ rfl rfl rfl rfl rfl rfl rfl rfl hf187 hj142 ?_
    intro b247 hA247
    obtain ⟨xs177, hx90, h⟩ := lt_some h
    refine WP.stoO (f := (fI .i64)) 0 (w64 ((gt xs176 ((w64 ((gt d1 s48))).tmod s48)) - 0)) tysOk rfl rfl rfl rfl rfl rfl rfl rfl rfl .head hA247 hf187 hj142 rfl rfl rfl hx90 ?_
    intro hf188
    refine WP.sx tysOk rfl ⟨⟨⟩, ⟨⟩⟩ ?_
    refine WP.lx tysOk rfl ⟨⟩ (CellAt.blk (.tail (.tail (.tail .head))) rfl) ?_
    refine WP.mx_ tysOk rfl ⟨⟩ (SegAt.blk' (.tail .head) rfl) ?_
    refine WP.bsO (f := fA) [(Arc.mk s48 ((w64 ((gt d1 s48))).tmod s48) 0 9 s48)] tysOk rfl rfl rfl rfl rfl rfl rfl rfl rfl rfl rfl rfl rfl rfl ?_
    intro g107 hf189
    obtain ⟨hl60, h⟩ := ck_some h
    obtain ⟨xs178, hz80, h⟩ := lt_some h
    refine WP.appO (f := fA) (xs := xs168) (ys := [(Arc.mk s48 ((w64 ((gt d1 s48))).tmod s48) 0 9 s48)]) tysOk rfl rfl rfl rfl rfl rfl rfl rfl rfl rfl rfl rfl (.tail (.tail (.tail .head))) hf177 hf189.len (OwS.app .head hf189) hl60 hz80 ?_
    intro A202 c202 hf190
    refine WP.sx tysOk rfl ⟨⟨⟩, ⟨⟩⟩ ?_
    refine WP.sto' tysOk [.slice A199 m8 c199, .slice A202 xs178.length c202] rfl rfl rfl rfl rfl rfl rfl rfl rfl (.tail (.tail (.tail (.tail .head)))) rfl rfl ?_
    iterate 3 (refine WP.sx tysOk rfl ⟨⟨⟩, ⟨⟩⟩ ?_)
    refine WP.stop rfl (n9, w64 (s48 + 1), xs178, xs177, A202, xs178.length, c202, A199, m8, c199) ⟨⟨h, hf190, hf188⟩, Nat.lt_succ_self _⟩ ?_ ?_
    ·repeat first | exact ⟨⟩ | refine ⟨rfl, ?_⟩
    exact (.cons (.tail .head) (.cons .head (.cons (.tail .head) (.cons (.tail (.tail .head)) .nil))))
   rw [if_neg hh241] at h
   iterate 4 (refine WP.sx tysOk rfl ⟨⟨⟩, ⟨⟩⟩ ?_)
   refine WP.cond_d rfl rfl (fun hh244 => ?_) (fun hh244 => ?_)
   ·rw [if_pos hh244] at h
    iterate 2 (refine WP.sx tysOk rfl ⟨⟨⟩, ⟨⟩⟩ ?_)
    obtain ⟨hj143, h⟩ := ck_some h
    refine WP.ixA tysOk rfl ⟨⟩ rfl rfl rfl rfl rfl rfl rfl rfl hj143 (hs2.ex hj143) ?_
    intro b248 b248v hA248
    refine WP.lx tysOk rfl ⟨⟩ (hs2.at0 hA248 (Held.mem (List.Mem.tail _ (List.Mem.tail _ (List.Mem.tail _ (List.Mem.head _))))) hj143 rfl) ?_
    refine WP.sx tysOk rfl ⟨⟨⟩, (by decide)⟩ ?_
    iterate 5 (refine WP.sx tysOk rfl ⟨⟨⟩, ⟨⟩⟩ ?_)
    refine WP.bld (cs := [iv s48, iv 0, iv 0, iv 9, iv s48]) tysOk rfl ⟨⟩ rfl rfl rfl rfl rfl rfl rfl ?_
    refine WP.al tysOk rfl rfl rfl rfl rfl rfl ?_
    intro g108
    refine WP.sto' tysOk [iv s48, iv 0, iv 0, iv 9, iv s48] rfl rfl rfl rfl rfl rfl rfl rfl rfl .head rfl rfl ?_
    iterate 5 (refine WP.sx tysOk rfl ⟨⟨⟩, ⟨⟩⟩ ?_)
    refine WP.yes rfl rfl (decide_eq_true hh244) ?_
    iterate 2 (refine WP.sx tysOk rfl ⟨⟨⟩, ⟨⟩⟩ ?_; refine WP.yes rfl rfl rfl ?_)
    refine WP.ixA tysOk rfl ⟨⟩ rfl rfl rfl rfl rfl rfl rfl rfl hj143 (hs2.ex hj143) ?_
    intro b249 b249v hA249
    refine WP.yes rfl rfl rfl ?_
    refine WP.lx tysOk rfl ⟨⟩ (hs2.at0 hA249 (Held.mem (List.Mem.tail _ (List.Mem.tail _ (List.Mem.tail _ (List.Mem.tail _ (List.Mem.head _)))))) hj143 rfl) ?_
    refine WP.yes rfl rfl rfl ?_
    refine WP.sx tysOk rfl ⟨⟨⟩, (by decide)⟩ ?_
    refine WP.yes rfl rfl rfl ?_
    iterate 2 (refine WP.sx tysOk rfl ⟨⟨⟩, ⟨⟩⟩ ?_)
    refine WP.cond_d rfl rfl (fun hh245 => ?_) (fun hh245 => ?_)
    ·rw [if_pos hh245] at h
     iterate 2 (refine WP.sx tysOk rfl ⟨⟨⟩, ⟨⟩⟩ ?_)
     refine WP.sto' tysOk [iv 0, iv 0, iv 0, iv 9, iv s48] rfl rfl rfl rfl rfl rfl rfl rfl rfl .head rfl rfl ?_
     iterate 2 (refine WP.sx tysOk rfl ⟨⟨⟩, ⟨⟩⟩ ?_)
     refine WP.sto' tysOk [iv 0, iv s48, iv 0, iv 9, iv s48] rfl rfl rfl rfl rfl rfl rfl rfl rfl .head rfl rfl ?_
     refine WP.sx tysOk rfl ⟨⟨⟩, ⟨⟩⟩ ?_
     refine WP.lx tysOk rfl ⟨⟩ (CellAt.blk (.tail (.tail .head)) rfl) ?_
     refine WP.sx tysOk rfl ⟨⟨⟩, ⟨⟩⟩ ?_
     refine WP.lx tysOk rfl ⟨⟩ (CellAt.blk .head rfl) ?_
     obtain ⟨hj144, h⟩ := ck_some h
     refine WP.ixO tysOk rfl ⟨⟩ rfl rfl rfl rfl rfl rfl rfl rfl hf178 hj144 ?_
     intro b250 hA250
     refine WP.lx tysOk rfl ⟨⟩ (OwS.at0 (.tail (.tail (.tail .head))) hA250 hj144 rfl) ?_
     iterate 2 (refine WP.sx tysOk rfl ⟨⟨⟩, ⟨⟩⟩ ?_)
     refine WP.ixO tysOk rfl ⟨⟩ rfl rfl rfl rfl rfl rfl rfl rfl hf178 hj144 ?_
     intro b251 hA251
     obtain ⟨xs179, hx91, h⟩ := lt_some h
     refine WP.stoO (f := (fI .i64)) 0 (w64 ((gt xs169 0) + (w64 ((gt i1 s48).tmod 9)))) tysOk rfl rfl rfl rfl rfl rfl rfl rfl rfl (.tail (.tail (.tail .head))) hA251 hf178 hj144 rfl rfl rfl hx91 ?_
     intro hf191
     refine WP.sx tysOk rfl ⟨⟨⟩, ⟨⟩⟩ ?_
     refine WP.lx tysOk rfl ⟨⟩ (CellAt.blk (.tail (.tail (.tail .head))) rfl) ?_
     refine WP.sx tysOk rfl ⟨⟨⟩, ⟨⟩⟩ ?_
     refine WP.lx tysOk rfl ⟨⟩ (CellAt.blk (.tail .head) rfl) ?_
     obtain ⟨hj145, h⟩ := ck_some h
     refine WP.ixO tysOk rfl ⟨⟩ rfl rfl rfl rfl rfl rfl rfl rfl hf191 hj145 ?_
     intro b252 hA252
     refine WP.lx tysOk rfl ⟨⟩ (OwS.at0 .head hA252 hj145 rfl) ?_
     iterate 2 (refine WP.sx tysOk rfl ⟨⟨⟩, ⟨⟩⟩ ?_)
     refine WP.ixO tysOk rfl ⟨⟩ rfl rfl rfl rfl rfl rfl rfl rfl hf191 hj145 ?_
     intro b253 hA253
     obtain ⟨xs180, hx92, h⟩ := lt_some h
     refine WP.stoO (f := (fI .i64)) 0 (w64 ((gt xs179 s48) - (w64 ((gt i1 s48).tmod 9)))) tysOk rfl rfl rfl rfl rfl rfl rfl rfl rfl .head hA253 hf191 hj145 rfl rfl rfl hx92 ?_
     intro hf192
     refine WP.sx tysOk rfl ⟨⟨⟩, ⟨⟩⟩ ?_
     refine WP.lx tysOk rfl ⟨⟩ (CellAt.blk (.tail (.tail (.tail .head))) rfl) ?_
     refine WP.mx_ tysOk rfl ⟨⟩ (SegAt.blk' (.tail .head) rfl) ?_
     refine WP.bsO (f := fA) [(Arc.mk 0 s48 0 9 s48)] tysOk rfl rfl rfl rfl rfl rfl rfl rfl rfl rfl rfl rfl rfl rfl ?_
     intro g109 hf193
     obtain ⟨hl61, h⟩ := ck_some h
     obtain ⟨xs181, hz81, h⟩ := lt_some h
     refine WP.appO (f := fA) (xs := xs168) (ys := [(Arc.mk 0 s48 0 9 s48)]) tysOk rfl rfl rfl rfl rfl rfl rfl rfl rfl rfl rfl rfl (.tail (.tail (.tail .head))) hf177 hf193.len (OwS.app .head hf193) hl61 hz81 ?_
     intro A203 c203 hf194
     refine WP.sx tysOk rfl ⟨⟨⟩, ⟨⟩⟩ ?_
     refine WP.sto' tysOk [.slice A199 m8 c199, .slice A203 xs181.length c203] rfl rfl rfl rfl rfl rfl rfl rfl rfl (.tail (.tail (.tail (.tail .head)))) rfl rfl ?_
     iterate 3 (refine WP.sx tysOk rfl ⟨⟨⟩, ⟨⟩⟩ ?_)
     refine WP.stop rfl (n9, w64 (s48 + 1), xs181, xs180, A203, xs181.length, c203, A199, m8, c199) ⟨⟨h, hf194, hf192⟩, Nat.lt_succ_self _⟩ ?_ ?_
     ·repeat first | exact ⟨⟩ | refine ⟨rfl, ?_⟩
     exact (.cons (.tail .head) (.cons .head (.cons (.tail .head) (.cons (.tail (.tail .head)) .nil))))
    rw [if_neg hh245] at h
    refine WP.sx tysOk rfl ⟨⟨⟩, ⟨⟩⟩ ?_
    refine WP.lx tysOk rfl ⟨⟩ (CellAt.blk (.tail (.tail .head)) rfl) ?_
    refine WP.sx tysOk rfl ⟨⟨⟩, ⟨⟩⟩ ?_
    refine WP.lx tysOk rfl ⟨⟩ (CellAt.blk .head rfl) ?_
    obtain ⟨hj146, h⟩ := ck_some h
    refine WP.ixO tysOk rfl ⟨⟩ rfl rfl rfl rfl rfl rfl rfl rfl hf178 hj146 ?_
    intro b254 hA254
    refine WP.lx tysOk rfl ⟨⟩ (OwS.at0 (.tail (.tail (.tail .head))) hA254 hj146 rfl) ?_
    iterate 2 (refine WP.sx tysOk rfl ⟨⟨⟩, ⟨⟩⟩ ?_)
    refine WP.ixO tysOk rfl ⟨⟩ rfl rfl rfl rfl rfl rfl rfl rfl hf178 hj146 ?_
    intro b255 hA255
    obtain ⟨xs182, hx93, h⟩ := lt_some h
    refine WP.stoO (f := (fI .i64)) 0 (w64 ((gt xs169 s48) + (w64 ((gt i1 s48).tmod 9)))) tysOk rfl rfl rfl rfl rfl rfl rfl rfl rfl (.tail (.tail (.tail .head))) hA255 hf178 hj146 rfl rfl rfl hx93 ?_
    intro hf195
    refine WP.sx tysOk rfl ⟨⟨⟩, ⟨⟩⟩ ?_
    refine WP.lx tysOk rfl ⟨⟩ (CellAt.blk (.tail (.tail (.tail .head))) rfl) ?_
    refine WP.sx tysOk rfl ⟨⟨⟩, ⟨⟩⟩ ?_
    refine WP.lx tysOk rfl ⟨⟩ (CellAt.blk (.tail .head) rfl) ?_
    obtain ⟨hj147, h⟩ := ck_some h
    refine WP.ixO tysOk rfl ⟨⟩ rfl rfl rfl rfl rfl rfl rfl rfl hf195 hj147 ?_
    intro b256 hA256
    refine WP.lx tysOk rfl ⟨⟩ (OwS.at0 .head hA256 hj147 rfl) ?_
    iterate 2 (refine WP.sx tysOk rfl ⟨⟨⟩, ⟨⟩⟩ ?_)
    refine WP.ixO tysOk rfl ⟨⟩ rfl rfl rfl rfl rfl rfl rfl rfl hf195 hj147 ?_
    intro b257 hA257
    obtain ⟨xs183, hx94, h⟩ := lt_some h
    refine WP.stoO (f := (fI .i64)) 0 (w64 ((gt xs182 0) - (w64 ((gt i1 s48).tmod 9)))) tysOk rfl rfl rfl rfl rfl rfl rfl rfl rfl .head hA257 hf195 hj147 rfl rfl rfl hx94 ?_
    intro hf196
    refine WP.sx tysOk rfl ⟨⟨⟩, ⟨⟩⟩ ?_
    refine WP.lx tysOk rfl ⟨⟩ (CellAt.blk (.tail (.tail (.tail .head))) rfl) ?_
    refine WP.mx_ tysOk rfl ⟨⟩ (SegAt.blk' (.tail .head) rfl) ?_
    refine WP.bsO (f := fA) [(Arc.mk s48 0 0 9 s48)] tysOk rfl rfl rfl rfl rfl rfl rfl rfl rfl rfl rfl rfl rfl rfl ?_
    intro g110 hf197
    obtain ⟨hl62, h⟩ := ck_some h
    obtain ⟨xs184, hz82, h⟩ := lt_some h
    refine WP.appO (f := fA) (xs := xs168) (ys := [(Arc.mk s48 0 0 9 s48)]) tysOk rfl rfl rfl rfl rfl rfl rfl rfl rfl rfl rfl rfl (.tail (.tail (.tail .head))) hf177 hf197.len (OwS.app .head hf197) hl62 hz82 ?_
    intro A204 c204 hf198
    refine WP.sx tysOk rfl ⟨⟨⟩, ⟨⟩⟩ ?_
    refine WP.sto' tysOk [.slice A199 m8 c199, .slice A204 xs184.length c204] rfl rfl rfl rfl rfl rfl rfl rfl rfl (.tail (.tail (.tail (.tail .head)))) rfl rfl ?_
    iterate 3 (refine WP.sx tysOk rfl ⟨⟨⟩, ⟨⟩⟩ ?_)
    refine WP.stop rfl (n9, w64 (s48 + 1), xs184, xs183, A204, xs184.length, c204, A199, m8, c199) ⟨⟨h, hf198, hf196⟩, Nat.lt_succ_self _⟩ ?_ ?_
    ·repeat first | exact ⟨⟩ | refine ⟨rfl, ?_⟩
    exact (.cons (.tail .head) (.cons .head (.cons (.tail .head) (.cons (.tail (.tail .head)) .nil))))
   rw [if_neg hh244] at h
   iterate 3 (refine WP.sx tysOk rfl ⟨⟨⟩, ⟨⟩⟩ ?_)
   refine WP.bld (cs := [iv s48, iv 0, iv 0, iv 9, iv s48]) tysOk rfl ⟨⟩ rfl rfl rfl rfl rfl rfl rfl ?_
   refine WP.al tysOk rfl rfl rfl rfl rfl rfl ?_
   intro g111
   refine WP.sto' tysOk [iv s48, iv 0, iv 0, iv 9, iv s48] rfl rfl rfl rfl rfl rfl rfl rfl rfl .head rfl rfl ?_
   iterate 5 (refine WP.sx tysOk rfl ⟨⟨⟩, ⟨⟩⟩ ?_)
   refine WP.no rfl rfl (decide_eq_false hh244) rfl rfl ?_
   iterate 5 (refine WP.no rfl rfl rfl rfl rfl ?_)
   refine WP.sx tysOk rfl ⟨⟨⟩, ⟨⟩⟩ ?_
   refine WP.condF rfl rfl ?_
   refine WP.sx tysOk rfl ⟨⟨⟩, ⟨⟩⟩ ?_
   refine WP.lx tysOk rfl ⟨⟩ (CellAt.blk (.tail (.tail .head)) rfl) ?_
   refine WP.sx tysOk rfl ⟨⟨⟩, ⟨⟩⟩ ?_
   refine WP.lx tysOk rfl ⟨⟩ (CellAt.blk .head rfl) ?_
   obtain ⟨hj148, h⟩ := ck_some h
   refine WP.ixO tysOk rfl ⟨⟩ rfl rfl rfl rfl rfl rfl rfl rfl hf178 hj148 ?_
   intro b258 hA258
   refine WP.lx tysOk rfl ⟨⟩ (OwS.at0 (.tail (.tail (.tail .head))) hA258 hj148 rfl) ?_
   iterate 2 (refine WP.sx tysOk rfl ⟨⟨⟩, ⟨⟩⟩ ?_)
   refine WP.ixO tysOk rfl ⟨⟩ rfl rfl rfl rfl rfl rfl rfl rfl hf178 hj148 ?_
   intro b259 hA259
   obtain ⟨xs185, hx95, h⟩ := lt_some h
   refine WP.stoO (f := (fI .i64)) 0 (w64 ((gt xs169 s48) + 0)) tysOk rfl rfl rfl rfl rfl rfl rfl rfl rfl (.tail (.tail (.tail .head))) hA259 hf178 hj148 rfl rfl rfl hx95 ?_
   intro hf199
   refine WP.sx tysOk rfl ⟨⟨⟩, ⟨⟩⟩ ?_
   refine WP.lx tysOk rfl ⟨⟩ (CellAt.blk (.tail (.tail (.tail .head))) rfl) ?_
   refine WP.sx tysOk rfl ⟨⟨⟩, ⟨⟩⟩ ?_
   refine WP.lx tysOk rfl ⟨⟩ (CellAt.blk (.tail .head) rfl) ?_
   obtain ⟨hj149, h⟩ := ck_some h
   refine WP.ixO tysOk rfl ⟨⟩ rfl rfl rfl rfl rfl rfl rfl rfl hf199 hj149 ?_
   intro b260 hA260
   refine WP.lx tysOk rfl ⟨⟩ (OwS.at0 .head hA260 hj149 rfl) ?_
   iterate 2 (refine WP.sx tysOk rfl ⟨⟨⟩, ⟨⟩⟩ ?_)
   refine WP.ixO tysOk rfl ⟨⟩ rfl rfl rfl rfl rfl rfl rfl rfl hf199 hj149 ?_
   intro b261 hA261
   obtain ⟨xs186, hx96, h⟩ := lt_some h
   refine WP.stoO (f := (fI .i64)) 0 (w64 ((gt xs185 0) - 0)) tysOk rfl rfl rfl rfl rfl rfl rfl rfl rfl .head hA261 hf199 hj149 rfl rfl rfl hx96 ?_
   intro hf200
   refine WP.sx tysOk rfl ⟨⟨⟩, ⟨⟩⟩ ?_
   refine WP.lx tysOk rfl ⟨⟩ (CellAt.blk (.tail (.tail (.tail .head))) rfl) ?_
   refine WP.mx_ tysOk rfl ⟨⟩ (SegAt.blk' (.tail .head) rfl) ?_
   refine WP.bsO (f := fA) [(Arc.mk s48 0 0 9 s48)] tysOk rfl rfl rfl rfl rfl rfl rfl rfl rfl rfl rfl rfl rfl rfl ?_
   intro g112 hf201
   obtain ⟨hl63, h⟩ := ck_some h
   obtain ⟨xs187, hz83, h⟩ := lt_some h
   refine WP.appO (f := fA) (xs := xs168) (ys := [(Arc.mk s48 0 0 9 s48)]) tysOk rfl rfl rfl rfl rfl rfl rfl rfl rfl rfl rfl rfl (.tail (.tail (.tail .head))) hf177 hf201.len (OwS.app .head hf201) hl63 hz83 ?_
   intro A205 c205 hf202
   refine WP.sx tysOk rfl ⟨⟨⟩, ⟨⟩⟩ ?_
   refine WP.sto' tysOk [.slice A199 m8 c199, .slice A205 xs187.length c205] rfl rfl rfl rfl rfl rfl rfl rfl rfl (.tail (.tail (.tail (.tail .head)))) rfl rfl ?_
   iterate 3 (refine WP.sx tysOk rfl ⟨⟨⟩, ⟨⟩⟩ ?_)
   refine WP.stop rfl (n9, w64 (s48 + 1), xs187, xs186, A205, xs187.length, c205, A199, m8, c199) ⟨⟨h, hf202, hf200⟩, Nat.lt_succ_self _⟩ ?_ ?_
   ·repeat first | exact ⟨⟩ | refine ⟨rfl, ?_⟩
   exact (.cons (.tail .head) (.cons .head (.cons (.tail .head) (.cons (.tail (.tail .head)) .nil))))
  rw [if_neg hh240] at h
  iterate 2 (refine WP.sx tysOk rfl ⟨⟨⟩, ⟨⟩⟩ ?_)
  refine WP.freezeO (.tail (.tail .head)) hf178 ?_
  intro Zp32 hz86
  have hl66 := hf178.len
  subst hl66
  refine WP.freezeO (.tail .head) hf177 ?_
  intro Zp34 hz88
  have hl68 := hf177.len
  subst hl68
  refine WP.fact (fun w1 hw1 => ((PH.le.trans PH.le.rfl_ (PH.le_or _ _)) : PH.le Zp32 (PH.or Zp32 Zp34))) fun hle11 => ?_
  refine WP.fact (fun w1 hw1 => ((PH.ri_or ((Held.mem (List.Mem.tail _ (List.Mem.head _))) _ _ hw1) ((Held.mem (List.Mem.head _)) _ _ hw1)) : PH.le Zp34 (PH.or Zp32 Zp34))) fun hle12 => ?_
  refine WP.fzOr (.tail .head) .head ?_
  refine WP.loop (α := Nat × Int × Int × (List Int) × (List Arc) × (Option Addr) × Nat × (Option Addr) × Nat × PH) (fun x => lp (law17_LeafTree_b4) x.1 (x.2.1, x.2.2.1, x.2.2.2.1, x.2.2.2.2.1) = some r ∧ FzS (fI .i64) x.2.2.2.2.2.2.2.2.2 x.2.2.2.2.2.1 x.2.2.2.2.2.2.1 x.2.2.2.1 ∧ FzS fA x.2.2.2.2.2.2.2.2.2 x.2.2.2.2.2.2.2.1 x.2.2.2.2.2.2.2.2.1 x.2.2.2.2.1) (fun x => [(5, iv 1), (6, .pointer (some ⟨g60, 0, none⟩)), (11, iv x.2.1), (12, iv x.2.2.1)]) (fun x => [.fz x.2.2.2.2.2.2.2.2.2, .blk g60 26 [.slice x.2.2.2.2.2.1 x.2.2.2.1.length x.2.2.2.2.2.2.1, .slice x.2.2.2.2.2.2.2.1 x.2.2.2.2.1.length x.2.2.2.2.2.2.2.2.1], .fz (PH.of w)]) (fun x => x.1) rfl (big, 0, 0, xs169, xs168, A199, c199, A198, c198, (PH.or Zp32 Zp34)) ⟨h, (hz86.le' hle11), (hz88.le' hle12)⟩ ?_ ?_ ?_
  ·repeat first | exact ⟨⟩ | refine ⟨rfl, ?_⟩
  ·exact (.cons .head (.cons .head (.cons .head .nil)))
  rintro ⟨n10, s53, s54, xs191, xs192, A221, c221, A222, c222, Zl24⟩ ⟨h, hs165, hs166⟩
  dsimp only at h hs165 hs166 ⊢
  rcases n10 with _ | n10
  · exact (lp_no h).elim
  replace h := lp_succ h
  unfold law17_LeafTree_b4 at h
  try dsimp only at h
  iterate 4 (refine WP.sx tysOk rfl ⟨⟨⟩, ⟨⟩⟩ ?_)
  refine WP.cond_d rfl rfl (fun hh267 => ?_) (fun hh267 => ?_)
  ·rw [if_pos hh267] at h
   refine WP.mx_ tysOk rfl ⟨⟩ (SegAt.blk' (.tail .head) rfl) ?_
   obtain ⟨r63, hg63, h⟩ := bind_some h
   refine WP.callS (leaf_Leaf_S Zl24 r63) rfl rfl rfl rfl rfl rfl rfl (by kernel_rfl) (fun w1 hw1 => (leaf_Leaf_w (Z := Zl24) ((Held.mem (List.Mem.head _)) _ _ hw1) hg63 (InsZ.mk_ ((hs165.le' PH.le.rfl_).of) ((hs166.le' PH.le.rfl_).of)) (pg.le ((Held.mem (List.Mem.tail _ (List.Mem.tail _ (List.Mem.head _)))) _ _ hw1)) :)) ?_
   rintro _ _ ⟨Zn32, A223, _, c223, A224, _, c224, A225, _, c225, A226, _, c226, rfl, rfl, rfl, rfl, rfl, hs167, hs168, hs169, hs170, rfl⟩
   iterate 3 (refine WP.sx tysOk rfl ⟨⟨⟩, ⟨⟩⟩ ?_)
   refine WP.al tysOk rfl rfl rfl rfl rfl rfl ?_
   intro g116
   refine WP.sto' tysOk [.slice A223 r63.1.inst.supply.length c223, .slice A224 r63.1.inst.arcs.length c224, iv r63.1.rcd.pass, .slice A225 r63.1.rcd.was.supply.length c225, .slice A226 r63.1.rcd.was.arcs.length c226, iv r63.1.off.hi, .int .u64 (r63.1.off.lo), .bool (r63.1.did)] rfl rfl rfl rfl rfl rfl rfl rfl rfl .head rfl rfl ?_
   iterate 3 (refine WP.sx tysOk rfl ⟨⟨⟩, ⟨⟩⟩ ?_)
   refine WP.cond_d rfl rfl (fun hh268 => ?_) (fun hh268 => ?_)
   ·rw [if_pos hh268] at h
    refine WP.sx tysOk rfl ⟨⟨⟩, ⟨⟩⟩ ?_
    cases h
    refine WP.retR tysOk rfl rfl ⟨_, _, rfl, rfl, rfl⟩ (fun w1 hw1 => ⟨rfl, Ret.below_ hw1 (.cons (.tail (.tail (.tail (.tail .head)))) .nil)⟩)
   rw [if_neg hh268] at h
   refine WP.sx tysOk rfl ⟨⟨⟩, ⟨⟩⟩ ?_
   refine WP.lx tysOk rfl ⟨⟩ (CellAt.blk .head rfl) ?_
   refine WP.cond rfl rfl (fun hh269 => ?_) (fun hh269 => ?_)
   ·rw [if_pos hh269] at h
    iterate 4 (refine WP.sx tysOk rfl ⟨⟨⟩, ⟨⟩⟩ ?_)
    refine WP.mx_ tysOk rfl ⟨⟩ (SegAt.blk' .head rfl) ?_
    refine WP.sto' tysOk [.slice A223 r63.1.inst.supply.length c223, .slice A224 r63.1.inst.arcs.length c224] rfl rfl rfl rfl rfl rfl rfl rfl rfl (.tail (.tail (.tail .head))) rfl rfl ?_
    iterate 3 (refine WP.sx tysOk rfl ⟨⟨⟩, ⟨⟩⟩ ?_)
    refine WP.fzOr (.tail (.tail (.tail .head))) (.tail (.tail .head)) ?_
    refine WP.stop rfl (n10, w64 (s53 + 1), w64 (s54 + 1), r63.1.inst.supply, r63.1.inst.arcs, A223, c223, A224, c224, (PH.or Zl24 Zn32)) ⟨⟨h, hs167, hs168⟩, Nat.lt_succ_self _⟩ ?_ ?_
    ·repeat first | exact ⟨⟩ | refine ⟨rfl, ?_⟩
    exact (.cons .head (.cons .head (.cons (.tail .head) .nil)))
   rw [if_neg (bneg hh269)] at h
   refine WP.sx tysOk rfl ⟨⟨⟩, ⟨⟩⟩ ?_
   refine WP.mx_ tysOk rfl ⟨⟩ (SegAt.blk' .head rfl) ?_
   refine WP.sto' tysOk [.slice A223 r63.1.inst.supply.length c223, .slice A224 r63.1.inst.arcs.length c224] rfl rfl rfl rfl rfl rfl rfl rfl rfl (.tail (.tail (.tail .head))) rfl rfl ?_
   iterate 3 (refine WP.sx tysOk rfl ⟨⟨⟩, ⟨⟩⟩ ?_)
   refine WP.fzOr (.tail (.tail (.tail .head))) (.tail (.tail .head)) ?_
   refine WP.stop rfl (n10, s53, w64 (s54 + 1), r63.1.inst.supply, r63.1.inst.arcs, A223, c223, A224, c224, (PH.or Zl24 Zn32)) ⟨⟨h, hs167, hs168⟩, Nat.lt_succ_self _⟩ ?_ ?_
   ·repeat first | exact ⟨⟩ | refine ⟨rfl, ?_⟩
   exact (.cons .head (.cons .head (.cons (.tail .head) .nil)))
  rw [if_neg hh267] at h
  obtain ⟨r64, hg64, h⟩ := bind_some h
  refine WP.callV rfl rfl rfl rfl rfl rfl rfl (by kernel_rfl) (fun w1 hw1 => (law17_known_w hg64 (pg.le ((Held.mem (List.Mem.tail _ (List.Mem.tail _ (List.Mem.head _)))) _ _ hw1)) :)) ⟨⟩ ?_
  refine WP.sx tysOk rfl ⟨⟨⟩, ⟨⟩⟩ ?_
  by_cases hh270 : r64 = true
  ·rw [if_pos hh270] at h
   refine WP.yes rfl rfl hh270 ?_
   iterate 3 (refine WP.sx tysOk rfl ⟨⟨⟩, ⟨⟩⟩ ?_; refine WP.yes rfl rfl rfl ?_)
   iterate 3 (refine WP.sx tysOk rfl ⟨⟨⟩, ⟨⟩⟩ ?_)
   by_cases hh271 : s53 = (w64 (1 - 1))
   ·rw [if_pos hh271] at h
    refine WP.yes rfl rfl (decide_eq_true hh271) ?_
    refine WP.sx tysOk rfl ⟨⟨⟩, ⟨⟩⟩ ?_
    refine WP.yes rfl rfl rfl ?_
    refine WP.lx tysOk rfl ⟨⟩ (CellAt.blk (.tail .head) rfl) ?_
    refine WP.yes rfl rfl rfl ?_
    refine WP.sx tysOk rfl ⟨⟨⟩, ⟨⟩⟩ ?_
    refine WP.yes rfl rfl rfl ?_
    iterate 3 (refine WP.sx tysOk rfl ⟨⟨⟩, ⟨⟩⟩ ?_)
    by_cases hh272 : (xs191.length : Int) = 1
    ·rw [if_pos hh272] at h
     refine WP.yes rfl rfl (decide_eq_true hh272) ?_
     refine WP.sx tysOk rfl ⟨⟨⟩, ⟨⟩⟩ ?_
     refine WP.yes rfl rfl rfl ?_
     refine WP.lx tysOk rfl ⟨⟩ (CellAt.blk (.tail .head) rfl) ?_
     refine WP.yes rfl rfl rfl ?_
     obtain ⟨hj153, h⟩ := ck_some h
     refine WP.ixA tysOk rfl ⟨⟩ rfl rfl rfl rfl rfl rfl rfl rfl hj153 (hs165.ex hj153) ?_
     intro b265 b265v hA265
     refine WP.yes rfl rfl rfl ?_
     refine WP.lx tysOk rfl ⟨⟩ (hs165.at0 hA265 (Held.mem (List.Mem.head _)) hj153 rfl) ?_
     refine WP.yes rfl rfl rfl ?_
     iterate 3 (refine WP.sx tysOk rfl ⟨⟨⟩, ⟨⟩⟩ ?_)
     by_cases hh273 : (gt xs191 0) = 0
     ·rw [if_pos hh273] at h
      refine WP.yes rfl rfl (decide_eq_true hh273) ?_
      refine WP.sx tysOk rfl ⟨⟨⟩, ⟨⟩⟩ ?_
      refine WP.yes rfl rfl rfl ?_
      refine WP.lx tysOk rfl ⟨⟩ (CellAt.blk (.tail .head) rfl) ?_
      refine WP.yes rfl rfl rfl ?_
      refine WP.sx tysOk rfl ⟨⟨⟩, ⟨⟩⟩ ?_
      refine WP.yes rfl rfl rfl ?_
      iterate 3 (refine WP.sx tysOk rfl ⟨⟨⟩, ⟨⟩⟩ ?_)
      cases h
      refine WP.retR tysOk rfl rfl ⟨_, _, rfl, rfl, rfl⟩ (fun w1 hw1 => ⟨rfl, Ret.below_ hw1 (.cons (.tail (.tail .head)) .nil)⟩)
     rw [if_neg hh273] at h
     refine WP.no rfl rfl (decide_eq_false hh273) rfl rfl ?_
     iterate 3 (refine WP.no rfl rfl rfl rfl rfl ?_)
     iterate 2 (refine WP.sx tysOk rfl ⟨⟨⟩, ⟨⟩⟩ ?_)
     cases h
     refine WP.retR tysOk rfl rfl ⟨_, _, rfl, rfl, rfl⟩ (fun w1 hw1 => ⟨rfl, Ret.below_ hw1 (.cons (.tail (.tail .head)) .nil)⟩)
    rw [if_neg hh272] at h
    refine WP.no rfl rfl (decide_eq_false hh272) rfl rfl ?_
    iterate 4 (refine WP.no rfl rfl rfl rfl rfl ?_)
    iterate 2 (refine WP.sx tysOk rfl ⟨⟨⟩, ⟨⟩⟩ ?_)
    iterate 4 (refine WP.no rfl rfl rfl rfl rfl ?_)
    iterate 2 (refine WP.sx tysOk rfl ⟨⟨⟩, ⟨⟩⟩ ?_)
    cases h
    refine WP.retR tysOk rfl rfl ⟨_, _, rfl, rfl, rfl⟩ (fun w1 hw1 => ⟨rfl, Ret.below_ hw1 (.cons (.tail (.tail .head)) .nil)⟩)
   rw [if_neg hh271] at h
   refine WP.no rfl rfl (decide_eq_false hh271) rfl rfl ?_
   iterate 3 (refine WP.no rfl rfl rfl rfl rfl ?_)
   iterate 2 (refine WP.sx tysOk rfl ⟨⟨⟩, ⟨⟩⟩ ?_)
   iterate 5 (refine WP.no rfl rfl rfl rfl rfl ?_)
   iterate 2 (refine WP.sx tysOk rfl ⟨⟨⟩, ⟨⟩⟩ ?_)
   iterate 4 (refine WP.no rfl rfl rfl rfl rfl ?_)
   iterate 2 (refine WP.sx tysOk rfl ⟨⟨⟩, ⟨⟩⟩ ?_)
   cases h
   refine WP.retR tysOk rfl rfl ⟨_, _, rfl, rfl, rfl⟩ (fun w1 hw1 => ⟨rfl, Ret.below_ hw1 (.cons (.tail (.tail .head)) .nil)⟩)
  rw [if_neg hh270] at h
  refine WP.no rfl rfl (bfalse hh270) rfl rfl ?_
  iterate 3 (refine WP.no rfl rfl rfl rfl rfl ?_)
  iterate 2 (refine WP.sx tysOk rfl ⟨⟨⟩, ⟨⟩⟩ ?_)
  iterate 4 (refine WP.no rfl rfl rfl rfl rfl ?_)
  iterate 2 (refine WP.sx tysOk rfl ⟨⟨⟩, ⟨⟩⟩ ?_)
  iterate 5 (refine WP.no rfl rfl rfl rfl rfl ?_)
  iterate 2 (refine WP.sx tysOk rfl ⟨⟨⟩, ⟨⟩⟩ ?_)
  iterate 4 (refine WP.no rfl rfl rfl rfl rfl ?_)
  iterate 2 (refine WP.sx tysOk rfl ⟨⟨⟩, ⟨⟩⟩ ?_)
  cases h
  refine WP.retR tysOk rfl rfl ⟨_, _, rfl, rfl, rfl⟩ (fun w1 hw1 => ⟨rfl, Ret.below_ hw1 (.cons (.tail (.tail .head)) .nil)⟩)
end Go.Proofs.YtbnjeanldechnaaDoor
