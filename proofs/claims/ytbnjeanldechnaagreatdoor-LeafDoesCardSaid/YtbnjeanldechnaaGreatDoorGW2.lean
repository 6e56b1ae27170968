/- The walks: the code computes that. -/
import Derived.Test.YtbnjeanldechnaaGreatDoorGW1
import Derived.Test.YtbnjeanldechnaaGreatDoorTys
import Derived.Test.YtbnjeanldechnaaGreatDoorEngG
import Derived.KernelRfl
namespace Go.Proofs.YtbnjeanldechnaaGreatDoor
open Go.RowKit Go.Qe
set_option maxRecDepth 20000 in
set_option maxHeartbeats 8000000 in
theorem ref01_Less_w {w : World} {a1 : Wide} {r : Wide} (h : ref01_Less a1 = some r) :
    Calls Tryz.prog 125 #[.agg #[iv a1.hi, .int .u64 (a1.lo)]] w fun e w' => e = .returned (.agg #[iv r.hi, .int .u64 (r.lo)]) ∧ Below w.heap.size w w' := by
  unfold ref01_Less at h
  refine enter_ Tryz.func125 rfl Tryz.ntmps125 rfl ?_
  refine WP.box rfl rfl rfl rfl rfl rfl ?_
  intro g1
  refine WP.al tysOk rfl rfl rfl rfl rfl rfl ?_
  intro g2
  refine WP.sx tysOk rfl ⟨⟨⟩, ⟨⟩⟩ ?_
  refine WP.lx tysOk rfl ⟨⟩ (CellAt.blk (.tail .head) rfl) ?_
  refine WP.unx (-1) rfl ⟨⟩ rfl rfl rfl rfl rfl rfl ?_
  refine WP.sx tysOk rfl ⟨⟨⟩, ⟨⟩⟩ ?_
  refine WP.lx tysOk rfl ⟨⟩ (CellAt.blk (.tail .head) rfl) ?_
  refine WP.unx 18446744073709551615 rfl ⟨⟩ rfl rfl rfl rfl rfl rfl ?_
  refine WP.bld (cs := [iv (bits .xor .i64 (-1) a1.hi), .int .u64 (bits .xor .u64 18446744073709551615 a1.lo)]) tysOk rfl ⟨⟩ rfl rfl rfl rfl rfl rfl rfl ?_
  refine WP.bld (cs := [iv 0, .int .u64 (1)]) tysOk rfl ⟨⟩ rfl rfl rfl rfl rfl rfl rfl ?_
  obtain ⟨r1, hg1, h⟩ := bind_some h
  refine WP.callV rfl rfl rfl rfl rfl rfl rfl (by kernel_rfl) (fun w1 hw1 => (ref01_Plus_w hg1  :)) ⟨⟩ ?_
  refine WP.sto' tysOk [iv r1.hi, .int .u64 (r1.lo)] rfl rfl rfl rfl rfl rfl rfl rfl rfl .head rfl rfl ?_
  cases h
  refine WP.retR tysOk rfl rfl ⟨_, _, _, _, rfl, ⟨_, rfl, .inr ⟨rfl, _, rfl, rfl, (SegAt.blk' (z := 2) .head rfl).1⟩⟩, rfl, rfl⟩ (fun w1 hw1 => ⟨rfl, Ret.below_ hw1 (.cons (.tail (.tail .head)) .nil)⟩)

set_option maxRecDepth 20000 in
set_option maxHeartbeats 8000000 in
theorem ref01_Minus_w {w : World} {a1 : Wide} {b1 : Wide} {r : Wide} (h : ref01_Minus a1 b1 = some r) :
    Calls Tryz.prog 111 #[.agg #[iv a1.hi, .int .u64 (a1.lo)], .agg #[iv b1.hi, .int .u64 (b1.lo)]] w fun e w' => e = .returned (.agg #[iv r.hi, .int .u64 (r.lo)]) ∧ Below w.heap.size w w' := by
  unfold ref01_Minus at h
  refine enter_ Tryz.func111 rfl Tryz.ntmps111 rfl ?_
  refine WP.box rfl rfl rfl rfl rfl rfl ?_
  intro g1
  refine WP.box rfl rfl rfl rfl rfl rfl ?_
  intro g2
  refine WP.al tysOk rfl rfl rfl rfl rfl rfl ?_
  intro g3
  obtain ⟨r1, hg1, h⟩ := bind_some h
  obtain ⟨r2, hg2, h⟩ := bind_some h
  refine WP.drawL 4 [(2, [], fun _ => constSpec (.agg #[iv r1.hi, .int .u64 (r1.lo)])), (3, [], fun _ => constSpec (.agg #[iv r2.hi, .int .u64 (r2.lo)]))] rfl (by kernel_rfl) (by kernel_rfl) (by kernel_rfl) ?_
  refine WP.mx_ tysOk rfl ⟨⟨rfl, rfl⟩, rfl⟩ (SegAt.blk' (.tail (.tail .head)) rfl) ?_
  refine WP.mx_ tysOk rfl ⟨⟨rfl, rfl⟩, rfl⟩ (SegAt.blk' (.tail .head) rfl) ?_
  refine WP.callV rfl rfl rfl rfl rfl rfl rfl (by kernel_rfl) (fun w1 hw1 => (ref01_Less_w hg1  :)) ⟨⟨rfl, rfl⟩, rfl⟩ ?_
  refine WP.callV rfl rfl rfl rfl rfl rfl rfl (by kernel_rfl) (fun w1 hw1 => (ref01_Plus_w hg2  :)) ⟨⟨rfl, rfl⟩, rfl⟩ ?_
  refine WP.lend rfl ⟨rfl, rfl⟩ ?_
  refine WP.sto' tysOk [iv r2.hi, .int .u64 (r2.lo)] rfl rfl rfl rfl rfl rfl rfl rfl rfl .head rfl rfl ?_
  cases h
  refine WP.retR tysOk rfl rfl ⟨_, _, _, _, rfl, ⟨_, rfl, .inr ⟨rfl, _, rfl, rfl, (SegAt.blk' (z := 2) .head rfl).1⟩⟩, rfl, rfl⟩ (fun w1 hw1 => ⟨rfl, Ret.below_ hw1 (.cons (.tail (.tail (.tail .head))) .nil)⟩)

set_option maxRecDepth 20000 in
set_option maxHeartbeats 8000000 in
theorem ref01_Twice_w {w : World} {a1 : Wide} {r : Wide} (h : ref01_Twice a1 = some r) :
    Calls Tryz.prog 112 #[.agg #[iv a1.hi, .int .u64 (a1.lo)]] w fun e w' => e = .returned (.agg #[iv r.hi, .int .u64 (r.lo)]) ∧ Below w.heap.size w w' := by
  unfold ref01_Twice at h
  refine enter_ Tryz.func112 rfl Tryz.ntmps112 rfl ?_
  refine WP.box rfl rfl rfl rfl rfl rfl ?_
  intro g1
  refine WP.al tysOk rfl rfl rfl rfl rfl rfl ?_
  intro g2
  refine WP.mx_ tysOk rfl ⟨⟩ (SegAt.blk' (.tail .head) rfl) ?_
  refine WP.mx_ tysOk rfl ⟨⟩ (SegAt.blk' (.tail .head) rfl) ?_
  obtain ⟨r1, hg1, h⟩ := bind_some h
  refine WP.callV rfl rfl rfl rfl rfl rfl rfl (by kernel_rfl) (fun w1 hw1 => (ref01_Plus_w hg1  :)) ⟨⟩ ?_
  refine WP.sto' tysOk [iv r1.hi, .int .u64 (r1.lo)] rfl rfl rfl rfl rfl rfl rfl rfl rfl .head rfl rfl ?_
  cases h
  refine WP.retR tysOk rfl rfl ⟨_, _, _, _, rfl, ⟨_, rfl, .inr ⟨rfl, _, rfl, rfl, (SegAt.blk' (z := 2) .head rfl).1⟩⟩, rfl, rfl⟩ (fun w1 hw1 => ⟨rfl, Ret.below_ hw1 (.cons (.tail (.tail .head)) .nil)⟩)

set_option maxRecDepth 20000 in
set_option maxHeartbeats 8000000 in
theorem ref01_Times_w {w : World} {a1 : Int} {b1 : Int} {r : Wide} (h : ref01_Times a1 b1 = some r) :
    Calls Tryz.prog 89 #[iv a1, iv b1] w fun e w' => e = .returned (.agg #[iv r.hi, .int .u64 (r.lo)]) ∧ Below w.heap.size w w' := by
  unfold ref01_Times at h
  refine enter_ Tryz.func89 rfl Tryz.ntmps89 rfl ?_
  refine WP.al tysOk rfl rfl rfl rfl rfl rfl ?_
  intro g1
  refine WP.bld (cs := [iv 0, .int .u64 (0)]) tysOk rfl ⟨⟩ rfl rfl rfl rfl rfl rfl rfl ?_
  refine WP.al tysOk rfl rfl rfl rfl rfl rfl ?_
  intro g2
  refine WP.sto' tysOk [iv 0, .int .u64 (0)] rfl rfl rfl rfl rfl rfl rfl rfl rfl .head rfl rfl ?_
  refine WP.sx tysOk rfl ⟨⟨⟩, ⟨⟩⟩ ?_
  obtain ⟨r1, hg1, h⟩ := bind_some h
  refine WP.callV rfl rfl rfl rfl rfl rfl rfl (by kernel_rfl) (fun w1 hw1 => (ref01_Of_w hg1  :)) ⟨⟩ ?_
  refine WP.al tysOk rfl rfl rfl rfl rfl rfl ?_
  intro g3
  refine WP.sto' tysOk [iv r1.hi, .int .u64 (r1.lo)] rfl rfl rfl rfl rfl rfl rfl rfl rfl .head rfl rfl ?_
  refine WP.sx tysOk rfl ⟨⟨⟩, ⟨⟩⟩ ?_
  refine WP.loop (α := Nat × Int × Int × Int × Int × Int) (fun x => lp (ref01_Times_b1 b1) x.1 (x.2.1, x.2.2.1, x.2.2.2.1, x.2.2.2.2.1, x.2.2.2.2.2) = some r) (fun x => [(1, iv b1), (4, pt g1), (5, pt g2), (6, pt g3), (7, iv x.2.1)]) (fun x => [.blk g3 38 [iv x.2.2.2.2.1, .int .u64 (x.2.2.2.2.2)], .blk g2 38 [iv x.2.2.1, .int .u64 (x.2.2.2.1)], .blk g1 38 [iv 0, .int .u64 (0)], .fz (PH.of w)]) (fun x => x.1) rfl (big, 0, 0, 0, r1.hi, r1.lo) h ?_ ?_ ?_
  ·repeat first|exact ⟨⟩|refine ⟨rfl,?_⟩
  ·exact Pick.all
  rintro ⟨n1, i2, s5, s6, s7, s8⟩ h
  dsimp only at h ⊢
  rcases n1 with _ | n1
  · exact (lp_no h).elim
  replace h := lp_succ h
  unfold ref01_Times_b1 at h
  try dsimp only at h
  iterate 2 (refine WP.sx tysOk rfl ⟨⟨⟩, ⟨⟩⟩ ?_)
  refine WP.cond_d rfl rfl (fun hh7 => ?_) (fun hh7 => ?_)
  ·rw [if_pos hh7] at h
   iterate 4 (refine WP.sx tysOk rfl ⟨⟨⟩, ⟨⟩⟩ ?_)
   obtain ⟨hz3, h⟩ := ck_some h
   refine WP.sx tysOk rfl ⟨⟨⟩, hz3⟩ ?_
   refine WP.sx tysOk rfl ⟨⟨⟩, (by decide)⟩ ?_
   refine WP.sx tysOk rfl ⟨⟨⟩, ⟨⟩⟩ ?_
   refine WP.cond_d rfl rfl (fun hh8 => ?_) (fun hh8 => ?_)
   ·rw [if_pos hh8] at h
    iterate 2 (refine WP.sx tysOk rfl ⟨⟨⟩, ⟨⟩⟩ ?_)
    refine WP.cond_d rfl rfl (fun hh9 => ?_) (fun hh9 => ?_)
    ·rw [if_pos hh9] at h
     refine WP.mx_ tysOk rfl ⟨⟩ (SegAt.blk' (.tail .head) rfl) ?_
     refine WP.mx_ tysOk rfl ⟨⟩ (SegAt.blk' .head rfl) ?_
     obtain ⟨r12, hg12, h⟩ := bind_some h
     refine WP.callV rfl rfl rfl rfl rfl rfl rfl (by kernel_rfl) (fun w1 hw1 => (ref01_Minus_w hg12  :)) ⟨⟩ ?_
     refine WP.sto' tysOk [iv r12.hi, .int .u64 (r12.lo)] rfl rfl rfl rfl rfl rfl rfl rfl rfl (.tail .head) rfl rfl ?_
     refine WP.mx_ tysOk rfl ⟨⟩ (SegAt.blk' (.tail .head) rfl) ?_
     obtain ⟨r13, hg13, h⟩ := bind_some h
     refine WP.callV rfl rfl rfl rfl rfl rfl rfl (by kernel_rfl) (fun w1 hw1 => (ref01_Twice_w hg13  :)) ⟨⟩ ?_
     refine WP.sto' tysOk [iv r13.hi, .int .u64 (r13.lo)] rfl rfl rfl rfl rfl rfl rfl rfl rfl (.tail .head) rfl rfl ?_
     iterate 3 (refine WP.sx tysOk rfl ⟨⟨⟩, ⟨⟩⟩ ?_)
     refine WP.stop rfl (n1, w64 (i2 + 1), r12.hi, r12.lo, r13.hi, r13.lo) ⟨h, Nat.lt_succ_self _⟩ ?_ ?_
     ·repeat first|exact ⟨⟩|refine ⟨rfl,?_⟩
     exact Pick.all
    rw [if_neg hh9] at h
    refine WP.mx_ tysOk rfl ⟨⟩ (SegAt.blk' (.tail .head) rfl) ?_
    refine WP.mx_ tysOk rfl ⟨⟩ (SegAt.blk' .head rfl) ?_
    obtain ⟨r14, hg14, h⟩ := bind_some h
    refine WP.callV rfl rfl rfl rfl rfl rfl rfl (by kernel_rfl) (fun w1 hw1 => (ref01_Plus_w hg14  :)) ⟨⟩ ?_
    refine WP.sto' tysOk [iv r14.hi, .int .u64 (r14.lo)] rfl rfl rfl rfl rfl rfl rfl rfl rfl (.tail .head) rfl rfl ?_
    refine WP.mx_ tysOk rfl ⟨⟩ (SegAt.blk' (.tail .head) rfl) ?_
    obtain ⟨r15, hg15, h⟩ := bind_some h
    refine WP.callV rfl rfl rfl rfl rfl rfl rfl (by kernel_rfl) (fun w1 hw1 => (ref01_Twice_w hg15  :)) ⟨⟩ ?_
    refine WP.sto' tysOk [iv r15.hi, .int .u64 (r15.lo)] rfl rfl rfl rfl rfl rfl rfl rfl rfl (.tail .head) rfl rfl ?_
    iterate 3 (refine WP.sx tysOk rfl ⟨⟨⟩, ⟨⟩⟩ ?_)
    refine WP.stop rfl (n1, w64 (i2 + 1), r14.hi, r14.lo, r15.hi, r15.lo) ⟨h, Nat.lt_succ_self _⟩ ?_ ?_
    ·repeat first|exact ⟨⟩|refine ⟨rfl,?_⟩
    exact Pick.all
   rw [if_neg hh8] at h
   refine WP.mx_ tysOk rfl ⟨⟩ (SegAt.blk' .head rfl) ?_
   obtain ⟨r16, hg16, h⟩ := bind_some h
   refine WP.callV rfl rfl rfl rfl rfl rfl rfl (by kernel_rfl) (fun w1 hw1 => (ref01_Twice_w hg16  :)) ⟨⟩ ?_
   refine WP.sto' tysOk [iv r16.hi, .int .u64 (r16.lo)] rfl rfl rfl rfl rfl rfl rfl rfl rfl .head rfl rfl ?_
   iterate 3 (refine WP.sx tysOk rfl ⟨⟨⟩, ⟨⟩⟩ ?_)
   refine WP.stop rfl (n1, w64 (i2 + 1), s5, s6, r16.hi, r16.lo) ⟨h, Nat.lt_succ_self _⟩ ?_ ?_
   ·repeat first|exact ⟨⟩|refine ⟨rfl,?_⟩
   exact Pick.all
  rw [if_neg hh7] at h
  refine WP.mx_ tysOk rfl ⟨⟩ (SegAt.blk' (.tail .head) rfl) ?_
  refine WP.sto' tysOk [iv s5, .int .u64 (s6)] rfl rfl rfl rfl rfl rfl rfl rfl rfl (.tail (.tail .head)) rfl rfl ?_
  cases h
  refine WP.retR tysOk rfl rfl ⟨_, _, _, _, rfl, ⟨_, rfl, .inr ⟨rfl, _, rfl, rfl, (SegAt.blk' (z := 2) .head rfl).1⟩⟩, rfl, rfl⟩ (fun w1 hw1 => ⟨rfl, Ret.below_ hw1 (.cons (.tail (.tail (.tail .head))) .nil)⟩)

abbrev ref15_Fixed_S (r : Inst × Wide) : Value → Heap → Prop := fun v L => ∃ (A1 : Option Addr) (n1 c1 : Nat) (A2 : Option Addr) (n2 c2 : Nat), v = .tuple #[.agg #[.slice A1 n1 c1, .slice A2 n2 c2], .agg #[iv r.2.hi, .int .u64 (r.2.lo)]] ∧ OwF A1 n1 r.1.supply ∧ OwF A2 n2 r.1.arcs ∧ L = [Ow (fI .i64) 2 A1 n1 c1 r.1.supply, Ow fA 31 A2 n2 c2 r.1.arcs]
set_option maxRecDepth 20000 in
set_option maxHeartbeats 8000000 in
theorem ref15_Fixed_w {w : World} {v0 : Value} {i1 : Inst} {a1 : Int} {n1 : Int} {off1 : Wide} {r : Inst × Wide} (h : ref15_Fixed i1 a1 n1 off1 = some r) (p1 : InsZ (PH.of w) v0 i1) :
    Calls Tryz.prog 57 #[v0, iv a1, iv n1, .agg #[iv off1.hi, .int .u64 (off1.lo)]] w fun e w' => ∃ v L, e = .returned v ∧ ref15_Fixed_S r v L ∧ Ret w w' L := by
  obtain ⟨A1, c1, A2, c2, rfl, hs1, hs2⟩ := p1
  unfold ref15_Fixed at h
  refine enter_ Tryz.func57 rfl Tryz.ntmps57 rfl ?_
  refine WP.box rfl rfl rfl rfl rfl rfl ?_
  intro g1
  refine WP.box rfl rfl rfl rfl rfl rfl ?_
  intro g2
  refine WP.al tysOk rfl rfl rfl rfl rfl rfl ?_
  intro g3
  refine WP.al tysOk rfl rfl rfl rfl rfl rfl ?_
  intro g4
  refine WP.sx tysOk rfl ⟨⟨⟩, ⟨⟩⟩ ?_
  refine WP.lx tysOk rfl ⟨⟩ (CellAt.blk (.tail (.tail (.tail .head))) rfl) ?_
  refine WP.sx tysOk rfl ⟨⟨⟩, ⟨⟩⟩ ?_
  obtain ⟨hj1, h⟩ := ck_some h
  refine WP.ixA tysOk rfl ⟨⟩ rfl rfl rfl rfl rfl rfl rfl rfl hj1 (hs2.ex hj1) ?_
  intro b1 b1v hA1
  refine WP.mx_ tysOk rfl ⟨⟩ (hs2.seg hA1 (Held.mem (List.Mem.tail _ (List.Mem.tail _ (List.Mem.tail _ (List.Mem.tail _ (List.Mem.head _)))))) hj1) ?_
  refine WP.al tysOk rfl rfl rfl rfl rfl rfl ?_
  intro g5
  refine WP.sto' tysOk [iv ((gt i1.arcs a1).src), iv ((gt i1.arcs a1).dst), iv ((gt i1.arcs a1).low), iv ((gt i1.arcs a1).cap), iv ((gt i1.arcs a1).cost)] rfl rfl rfl rfl rfl rfl rfl rfl rfl .head rfl rfl ?_
  refine WP.mx_ tysOk rfl ⟨⟩ (SegAt.blk' (.tail (.tail (.tail (.tail .head)))) rfl) ?_
  obtain ⟨r1, hg1, h⟩ := bind_some h
  refine WP.callS (ref03_Copy_S r1) rfl rfl rfl rfl rfl rfl rfl (by kernel_rfl) (fun w1 hw1 => (ref03_Copy_w hg1 (InsZ.mk_ ((hs1.le' ((Held.mem (List.Mem.tail _ (List.Mem.tail _ (List.Mem.tail _ (List.Mem.tail _ (List.Mem.tail _ (List.Mem.head _))))))) _ _ hw1)).of) ((hs2.le' ((Held.mem (List.Mem.tail _ (List.Mem.tail _ (List.Mem.tail _ (List.Mem.tail _ (List.Mem.tail _ (List.Mem.head _))))))) _ _ hw1)).of)) :)) ?_
  rintro _ _ ⟨A3, n2, c3, A4, n3, c4, rfl, hf1, hf2, rfl⟩
  refine WP.al tysOk rfl rfl rfl rfl rfl rfl ?_
  intro g6
  refine WP.sto' tysOk [.slice A3 n2 c3, .slice A4 n3 c4] rfl rfl rfl rfl rfl rfl rfl rfl rfl .head rfl rfl ?_
  refine WP.sx tysOk rfl ⟨⟨⟩, ⟨⟩⟩ ?_
  refine WP.lx tysOk rfl ⟨⟩ (CellAt.blk .head rfl) ?_
  refine WP.sx tysOk rfl ⟨⟨⟩, ⟨⟩⟩ ?_
  refine WP.lx tysOk rfl ⟨⟩ (CellAt.blk (.tail (.tail (.tail .head))) rfl) ?_
  obtain ⟨hj2, h⟩ := ck_some h
  refine WP.ixO tysOk rfl ⟨⟩ rfl rfl rfl rfl rfl rfl rfl rfl hf1 hj2 ?_
  intro b2 hA2
  refine WP.lx tysOk rfl ⟨⟩ (OwS.at0 (.tail .head) hA2 hj2 rfl) ?_
  iterate 2 (refine WP.sx tysOk rfl ⟨⟨⟩, ⟨⟩⟩ ?_)
  refine WP.ixO tysOk rfl ⟨⟩ rfl rfl rfl rfl rfl rfl rfl rfl hf1 hj2 ?_
  intro b3 hA3
  obtain ⟨xs1, hx1, h⟩ := lt_some h
  refine WP.stoO (f := (fI .i64)) 0 (w64 ((gt r1.supply ((gt i1.arcs a1).src)) - n1)) tysOk rfl rfl rfl rfl rfl rfl rfl rfl rfl (.tail .head) hA3 hf1 hj2 rfl rfl rfl hx1 ?_
  intro hf3
  refine WP.sx tysOk rfl ⟨⟨⟩, ⟨⟩⟩ ?_
  refine WP.lx tysOk rfl ⟨⟩ (CellAt.blk (.tail .head) rfl) ?_
  refine WP.sx tysOk rfl ⟨⟨⟩, ⟨⟩⟩ ?_
  refine WP.lx tysOk rfl ⟨⟩ (CellAt.blk (.tail (.tail (.tail .head))) rfl) ?_
  obtain ⟨hj3, h⟩ := ck_some h
  refine WP.ixO tysOk rfl ⟨⟩ rfl rfl rfl rfl rfl rfl rfl rfl hf3 hj3 ?_
  intro b4 hA4
  refine WP.lx tysOk rfl ⟨⟩ (OwS.at0 .head hA4 hj3 rfl) ?_
  iterate 2 (refine WP.sx tysOk rfl ⟨⟨⟩, ⟨⟩⟩ ?_)
  refine WP.ixO tysOk rfl ⟨⟩ rfl rfl rfl rfl rfl rfl rfl rfl hf3 hj3 ?_
  intro b5 hA5
  obtain ⟨xs2, hx2, h⟩ := lt_some h
  refine WP.stoO (f := (fI .i64)) 0 (w64 ((gt xs1 ((gt i1.arcs a1).dst)) + n1)) tysOk rfl rfl rfl rfl rfl rfl rfl rfl rfl .head hA5 hf3 hj3 rfl rfl rfl hx2 ?_
  intro hf4
  obtain ⟨r2, hg2, h⟩ := bind_some h
  obtain ⟨r3, hg3, h⟩ := bind_some h
  refine WP.drawL 7 [(5, [], fun _ => constSpec (.agg #[iv r2.hi, .int .u64 (r2.lo)])), (6, [], fun _ => constSpec (.agg #[iv r3.hi, .int .u64 (r3.lo)]))] rfl (by kernel_rfl) (by kernel_rfl) (by kernel_rfl) ?_
  refine WP.mx_ tysOk rfl ⟨⟨rfl, rfl⟩, rfl⟩ (SegAt.blk' (.tail .head) rfl) ?_
  refine WP.mx_ tysOk rfl ⟨⟨rfl, rfl⟩, rfl⟩ (SegAt.blk' (.tail (.tail (.tail (.tail (.tail (.tail .head)))))) rfl) ?_
  iterate 2 (refine WP.sx tysOk rfl ⟨⟨⟨rfl, rfl⟩, rfl⟩, ⟨⟩⟩ ?_)
  refine WP.lx tysOk rfl ⟨⟨rfl, rfl⟩, rfl⟩ (CellAt.blk (.tail (.tail (.tail .head))) rfl) ?_
  refine WP.callV rfl rfl rfl rfl rfl rfl rfl (by kernel_rfl) (fun w1 hw1 => (ref01_Times_w hg2  :)) ⟨⟨rfl, rfl⟩, rfl⟩ ?_
  refine WP.callV rfl rfl rfl rfl rfl rfl rfl (by kernel_rfl) (fun w1 hw1 => (ref01_Plus_w hg3  :)) ⟨⟨rfl, rfl⟩, rfl⟩ ?_
  refine WP.lend rfl ⟨rfl, rfl⟩ ?_
  refine WP.sto' tysOk [.slice A3 n2 c3, .slice A4 n3 c4] rfl rfl rfl rfl rfl rfl rfl rfl rfl (.tail (.tail (.tail (.tail (.tail .head))))) rfl rfl ?_
  refine WP.sto' tysOk [iv r3.hi, .int .u64 (r3.lo)] rfl rfl rfl rfl rfl rfl rfl rfl rfl (.tail (.tail (.tail (.tail (.tail .head))))) rfl rfl ?_
  cases h
  refine WP.retR tysOk rfl rfl ⟨_, _, _, _, rfl, ⟨_, rfl, .inr ⟨rfl, _, rfl, rfl, (SegAt.blk' (z := 2) (.tail .head) rfl).1⟩⟩, ⟨_, _, _, _, rfl, ⟨_, rfl, .inr ⟨rfl, _, rfl, rfl, (SegAt.blk' (z := 2) .head rfl).1⟩⟩, rfl, rfl⟩, rfl⟩ (fun w1 hw1 => ⟨_, _, rfl, ⟨A3, n2, c3, A4, n3, c4, rfl, hf4, hf2, rfl⟩, Ret.of_KH hw1 (.cons (.tail (.tail .head)) (.cons (.tail (.tail (.tail .head))) (.cons (.tail (.tail (.tail (.tail (.tail (.tail .head)))))) .nil)))⟩)

abbrev ref17_one_S (r : (List Bool)) : Value → Heap → Prop := fun v L => ∃ (A1 : Option Addr) (n1 c1 : Nat), v = .slice A1 n1 c1 ∧ OwF A1 n1 r ∧ L = [Ow fB 4 A1 n1 c1 r]
set_option maxRecDepth 20000 in
set_option maxHeartbeats 8000000 in
theorem ref17_one_w {w : World} {many1 : Int} {atv1 : Int} {r : (List Bool)} (h : ref17_one many1 atv1 = some r) :
    Calls Tryz.prog 60 #[iv many1, iv atv1] w fun e w' => ∃ v L, e = .returned v ∧ ref17_one_S r v L ∧ Ret w w' L := by
  unfold ref17_one at h
  refine enter_ Tryz.func60 rfl Tryz.ntmps60 rfl ?_
  iterate 2 (refine WP.sx tysOk rfl ⟨⟨⟩, ⟨⟩⟩ ?_)
  obtain ⟨hm1, h⟩ := ck_some h
  refine WP.mkO (f := fB) false tysOk rfl rfl rfl rfl rfl rfl rfl rfl rfl rfl rfl rfl hm1 ?_
  intro g1 hf1
  iterate 3 (refine WP.sx tysOk rfl ⟨⟨⟩, ⟨⟩⟩ ?_)
  obtain ⟨hj1, h⟩ := ck_some h
  refine WP.ixO tysOk rfl ⟨⟩ rfl rfl rfl rfl rfl rfl rfl rfl hf1 hj1 ?_
  intro b1 hA1
  obtain ⟨xs1, hx1, h⟩ := lt_some h
  refine WP.stoO (f := fB) 0 true tysOk rfl rfl rfl rfl rfl rfl rfl rfl rfl .head hA1 hf1 hj1 rfl rfl rfl hx1 ?_
  intro hf2
  iterate 2 (refine WP.sx tysOk rfl ⟨⟨⟩, ⟨⟩⟩ ?_)
  cases h
  refine WP.retR tysOk rfl rfl ⟨_, _, rfl, rfl, rfl⟩ (fun w1 hw1 => ⟨_, _, rfl, ⟨(some ⟨g1, 0, none⟩), many1.toNat, many1.toNat, rfl, hf2, rfl⟩, Ret.of_KH hw1 (.cons .head (.cons .head .nil))⟩)

set_option maxRecDepth 20000 in
set_option maxHeartbeats 8000000 in
theorem ref03_Off_w {w : World} {v0 : Value} {off1 : List Bool} {k1 : Int} {r : Bool} (h : ref03_Off off1 k1 = some r) (p1 : SlF fB (PH.of w) v0 off1) :
    Calls Tryz.prog 113 #[v0, iv k1] w fun e w' => e = .returned (.bool (r)) ∧ Below w.heap.size w w' := by
  obtain ⟨A1, c1, rfl, hs1⟩ := p1
  unfold ref03_Off at h
  refine enter_ Tryz.func113 rfl Tryz.ntmps113 rfl ?_
  iterate 6 (refine WP.sx tysOk rfl ⟨⟨⟩, ⟨⟩⟩ ?_)
  by_cases hh1 : k1 < (off1.length : Int)
  ·rw [if_pos hh1] at h
   refine WP.yes rfl rfl (decide_eq_true hh1) ?_
   iterate 2 (refine WP.sx tysOk rfl ⟨⟨⟩, ⟨⟩⟩ ?_; refine WP.yes rfl rfl rfl ?_)
   obtain ⟨hj1, h⟩ := ck_some h
   refine WP.ixA tysOk rfl ⟨⟩ rfl rfl rfl rfl rfl rfl rfl rfl hj1 (hs1.ex hj1) ?_
   intro b1 b1v hA1
   refine WP.yes rfl rfl rfl ?_
   refine WP.lx tysOk rfl ⟨⟩ (hs1.at0 hA1 (Held.mem (List.Mem.head _)) hj1 rfl) ?_
   iterate 2 (refine WP.sx tysOk rfl ⟨⟨⟩, ⟨⟩⟩ ?_)
   cases h
   refine WP.retR tysOk rfl rfl ⟨_, _, rfl, rfl, rfl⟩ (fun w1 hw1 => ⟨rfl, Ret.below_ hw1 (.cons .head .nil)⟩)
  rw [if_neg hh1] at h
  refine WP.no rfl rfl (decide_eq_false hh1) rfl rfl ?_
  iterate 3 (refine WP.no rfl rfl rfl rfl rfl ?_)
  iterate 2 (refine WP.sx tysOk rfl ⟨⟨⟩, ⟨⟩⟩ ?_)
  cases h
  refine WP.retR tysOk rfl rfl ⟨_, _, rfl, rfl, rfl⟩ (fun w1 hw1 => ⟨rfl, Ret.below_ hw1 (.cons .head .nil)⟩)

abbrev ref03_Kept_S (r : (List Int)) : Value → Heap → Prop := fun v L => ∃ (A1 : Option Addr) (n1 c1 : Nat), v = .slice A1 n1 c1 ∧ OwF A1 n1 r ∧ L = [Ow (fI .i64) 3 A1 n1 c1 r]
set_option maxRecDepth 20000 in
set_option maxHeartbeats 8000000 in
theorem ref03_Kept_w {w : World} {v0 : Value} {off1 : List Bool} {n1 : Int} {r : (List Int)} (h : ref03_Kept off1 n1 = some r) (p1 : SlF fB (PH.of w) v0 off1) :
    Calls Tryz.prog 90 #[v0, iv n1] w fun e w' => ∃ v L, e = .returned v ∧ ref03_Kept_S r v L ∧ Ret w w' L := by
  obtain ⟨A1, c1, rfl, hs1⟩ := p1
  unfold ref03_Kept at h
  refine enter_ Tryz.func90 rfl Tryz.ntmps90 rfl ?_
  iterate 3 (refine WP.sx tysOk rfl ⟨⟨⟩, ⟨⟩⟩ ?_)
  refine WP.own_nil 3 (fI .i64).z ?_
  refine WP.loop (α := Nat × Int × (List Int) × (Option Addr) × Nat × Nat) (fun x => lp (ref03_Kept_b1 off1 n1) x.1 (x.2.1, x.2.2.1) = some r ∧ OwF x.2.2.2.1 x.2.2.2.2.1 x.2.2.1) (fun x => [(0, .slice A1 off1.length c1), (1, iv n1), (5, .slice x.2.2.2.1 x.2.2.2.2.1 x.2.2.2.2.2), (6, iv x.2.1)]) (fun x => [Ow (fI .i64) 3 x.2.2.2.1 x.2.2.2.2.1 x.2.2.2.2.2 x.2.2.1, .fz (PH.of w)]) (fun x => x.1) rfl (big, 0, ([] : List Int), none, 0, 0) ⟨h, OwF.nil_⟩ ?_ ?_ ?_
  ·repeat first|exact ⟨⟩|refine ⟨rfl,?_⟩
  ·exact Pick.all
  rintro ⟨n2, k3, xs6, A7, m2, c7⟩ ⟨h, hf10⟩
  dsimp only at h hf10 ⊢
  rcases n2 with _ | n2
  · exact (lp_no h).elim
  replace h := lp_succ h
  unfold ref03_Kept_b1 at h
  try dsimp only at h
  iterate 4 (refine WP.sx tysOk rfl ⟨⟨⟩, ⟨⟩⟩ ?_)
  by_cases hh13 : k3 < n1
  ·rw [if_pos hh13] at h
   refine WP.yes rfl rfl (decide_eq_true hh13) ?_
   refine WP.sx tysOk rfl ⟨⟨⟩, ⟨⟩⟩ ?_
   refine WP.yes rfl rfl rfl ?_
   iterate 2 (refine WP.sx tysOk rfl ⟨⟨⟩, ⟨⟩⟩ ?_)
   refine WP.cond_d rfl rfl (fun hh14 => ?_) (fun hh14 => ?_)
   ·rw [if_pos hh14] at h
    iterate 2 (refine WP.sx tysOk rfl ⟨⟨⟩, ⟨⟩⟩ ?_)
    obtain ⟨r5, hg5, h⟩ := bind_some h
    refine WP.callV rfl rfl rfl rfl rfl rfl rfl (by kernel_rfl) (fun w1 hw1 => (ref03_Off_w hg5 (hs1.le' ((Held.mem (List.Mem.tail _ (List.Mem.head _))) _ _ hw1)).of :)) ⟨⟩ ?_
    refine WP.sx tysOk rfl ⟨⟨⟩, ⟨⟩⟩ ?_
    refine WP.cond_n rfl rfl (fun hh15 => ?_) (fun hh15 => ?_)
    ·rw [if_neg (bneg hh15)] at h
     iterate 2 (refine WP.sx tysOk rfl ⟨⟨⟩, ⟨⟩⟩ ?_)
     refine WP.bsO (f := (fI .i64)) [k3] tysOk rfl rfl rfl rfl rfl rfl rfl rfl rfl rfl rfl rfl rfl rfl ?_
     intro g5 hf11
     obtain ⟨hl5, h⟩ := ck_some h
     obtain ⟨xs7, hz5, h⟩ := lt_some h
     refine WP.appO (f := (fI .i64)) (xs := xs6) (ys := [k3]) tysOk rfl rfl rfl rfl rfl rfl rfl rfl rfl rfl rfl rfl (.tail .head) hf10 hf11.len (OwS.app .head hf11) hl5 hz5 ?_
     intro A8 c8 hf12
     iterate 4 (refine WP.sx tysOk rfl ⟨⟨⟩, ⟨⟩⟩ ?_)
     refine WP.stop rfl (n2, w64 (k3 + 1), xs7, A8, xs7.length, c8) ⟨⟨h, hf12⟩, Nat.lt_succ_self _⟩ ?_ ?_
     ·repeat first|exact ⟨⟩|refine ⟨rfl,?_⟩
     exact (.cons .head (.cons (.tail .head) .nil))
    rw [if_pos hh15] at h
    iterate 3 (refine WP.sx tysOk rfl ⟨⟨⟩, ⟨⟩⟩ ?_)
    refine WP.stop rfl (n2, w64 (k3 + 1), xs6, A7, m2, c7) ⟨⟨h, hf10⟩, Nat.lt_succ_self _⟩ ?_ ?_
    ·repeat first|exact ⟨⟩|refine ⟨rfl,?_⟩
    exact Pick.all
   rw [if_neg hh14] at h
   iterate 2 (refine WP.sx tysOk rfl ⟨⟨⟩, ⟨⟩⟩ ?_)
   cases h
   refine WP.retR tysOk rfl rfl ⟨_, _, rfl, rfl, rfl⟩ (fun w1 hw1 => ⟨_, _, rfl, ⟨A7, m2, c7, rfl, hf10, rfl⟩, Ret.of_KH hw1 (.cons .head (.cons .head .nil))⟩)
  rw [if_neg hh13] at h
  refine WP.no rfl rfl (decide_eq_false hh13) rfl rfl ?_
  refine WP.no rfl rfl rfl rfl rfl ?_
  refine WP.sx tysOk rfl ⟨⟨⟩, ⟨⟩⟩ ?_
  refine WP.condF rfl rfl ?_
  iterate 2 (refine WP.sx tysOk rfl ⟨⟨⟩, ⟨⟩⟩ ?_)
  cases h
  refine WP.retR tysOk rfl rfl ⟨_, _, rfl, rfl, rfl⟩ (fun w1 hw1 => ⟨_, _, rfl, ⟨A7, m2, c7, rfl, hf10, rfl⟩, Ret.of_KH hw1 (.cons .head (.cons .head .nil))⟩)

set_option maxRecDepth 20000 in
set_option maxHeartbeats 8000000 in
theorem ref03_Place_w {w : World} {v0 : Value} {l1 : List Int} {n1 : Int} {r : Int} (h : ref03_Place l1 n1 = some r) (p1 : SlF (fI .i64) (PH.of w) v0 l1) :
    Calls Tryz.prog 91 #[v0, iv n1] w fun e w' => e = .returned (iv r) ∧ Below w.heap.size w w' := by
  obtain ⟨A1, c1, rfl, hs1⟩ := p1
  unfold ref03_Place at h
  refine enter_ Tryz.func91 rfl Tryz.ntmps91 rfl ?_
  iterate 2 (refine WP.sx tysOk rfl ⟨⟨⟩, ⟨⟩⟩ ?_)
  refine WP.loop (α := Nat × Int) (fun x => lp (ref03_Place_b1 l1 n1) x.1 x.2 = some r) (fun x => [(0, .slice A1 l1.length c1), (1, iv n1), (5, iv x.2)]) (fun x => [.fz (PH.of w)]) (fun x => x.1) rfl (big, 0) h ?_ ?_ ?_
  ·repeat first|exact ⟨⟩|refine ⟨rfl,?_⟩
  ·exact (.cons .head .nil)
  rintro ⟨n2, k2⟩ h
  dsimp only at h ⊢
  rcases n2 with _ | n2
  · exact (lp_no h).elim
  replace h := lp_succ h
  unfold ref03_Place_b1 at h
  try dsimp only at h
  iterate 4 (refine WP.sx tysOk rfl ⟨⟨⟩, ⟨⟩⟩ ?_)
  refine WP.cond_d rfl rfl (fun hh5 => ?_) (fun hh5 => ?_)
  ·rw [if_pos hh5] at h
   iterate 2 (refine WP.sx tysOk rfl ⟨⟨⟩, ⟨⟩⟩ ?_)
   obtain ⟨hj3, h⟩ := ck_some h
   refine WP.ixA tysOk rfl ⟨⟩ rfl rfl rfl rfl rfl rfl rfl rfl hj3 (hs1.ex hj3) ?_
   intro b3 b3v hA3
   refine WP.lx tysOk rfl ⟨⟩ (hs1.at0 hA3 (Held.mem (List.Mem.head _)) hj3 rfl) ?_
   iterate 2 (refine WP.sx tysOk rfl ⟨⟨⟩, ⟨⟩⟩ ?_)
   refine WP.cond_d rfl rfl (fun hh6 => ?_) (fun hh6 => ?_)
   ·rw [if_pos hh6] at h
    iterate 2 (refine WP.sx tysOk rfl ⟨⟨⟩, ⟨⟩⟩ ?_)
    cases h
    refine WP.retR tysOk rfl rfl ⟨_, _, rfl, rfl, rfl⟩ (fun w1 hw1 => ⟨rfl, Ret.below_ hw1 (.cons .head .nil)⟩)
   rw [if_neg hh6] at h
   iterate 3 (refine WP.sx tysOk rfl ⟨⟨⟩, ⟨⟩⟩ ?_)
   refine WP.stop rfl (n2, w64 (k2 + 1)) ⟨h, Nat.lt_succ_self _⟩ ?_ ?_
   ·repeat first|exact ⟨⟩|refine ⟨rfl,?_⟩
   exact (.cons .head .nil)
  rw [if_neg hh5] at h
  refine WP.sx tysOk rfl ⟨⟨⟩, ⟨⟩⟩ ?_
  cases h
  refine WP.retR tysOk rfl rfl ⟨_, _, rfl, rfl, rfl⟩ (fun w1 hw1 => ⟨rfl, Ret.below_ hw1 (.cons .head .nil)⟩)

abbrev ref03_Without_S (r : Inst) : Value → Heap → Prop := fun v L => ∃ (A1 : Option Addr) (n1 c1 : Nat) (A2 : Option Addr) (n2 c2 : Nat), v = .agg #[.slice A1 n1 c1, .slice A2 n2 c2] ∧ OwF A1 n1 r.supply ∧ OwF A2 n2 r.arcs ∧ L = [Ow (fI .i64) 2 A1 n1 c1 r.supply, Ow fA 31 A2 n2 c2 r.arcs]
set_option maxRecDepth 20000 in
set_option maxHeartbeats 8000000 in
theorem ref03_Without_w {w : World} {v0 : Value} {v1 : Value} {v2 : Value} {d1 : Inst} {i1 : List Bool} {x1 : List Bool} {r : Inst} (h : ref03_Without d1 i1 x1 = some r) (p1 : InsZ (PH.of w) v0 d1) (p2 : SlF fB (PH.of w) v1 i1) (p3 : SlF fB (PH.of w) v2 x1) :
    Calls Tryz.prog 59 #[v0, v1, v2] w fun e w' => ∃ v L, e = .returned v ∧ ref03_Without_S r v L ∧ Ret w w' L := by
  obtain ⟨A1, c1, A2, c2, rfl, hs1, hs2⟩ := p1
  obtain ⟨A3, c3, rfl, hs3⟩ := p2
  obtain ⟨A4, c4, rfl, hs4⟩ := p3
  unfold ref03_Without at h
  refine enter_ Tryz.func59 rfl Tryz.ntmps59 rfl ?_
  refine WP.box rfl rfl rfl rfl rfl rfl ?_
  intro g1
  refine WP.al tysOk rfl rfl rfl rfl rfl rfl ?_
  intro g2
  refine WP.bld (cs := [sn, sn]) tysOk rfl ⟨⟩ rfl rfl rfl rfl rfl rfl rfl ?_
  refine WP.al tysOk rfl rfl rfl rfl rfl rfl ?_
  intro g3
  refine WP.sto' tysOk [sn, sn] rfl rfl rfl rfl rfl rfl rfl rfl rfl .head rfl rfl ?_
  iterate 2 (refine WP.sx tysOk rfl ⟨⟨⟩, ⟨⟩⟩ ?_)
  refine WP.lx tysOk rfl ⟨⟩ (CellAt.blk (.tail (.tail .head)) rfl) ?_
  refine WP.sx tysOk rfl ⟨⟨⟩, ⟨⟩⟩ ?_
  obtain ⟨r1, hg1, h⟩ := bind_some h
  refine WP.callS (ref03_Kept_S r1) rfl rfl rfl rfl rfl rfl rfl (by kernel_rfl) (fun w1 hw1 => (ref03_Kept_w hg1 (hs3.le' ((Held.mem (List.Mem.tail _ (List.Mem.tail _ (List.Mem.tail _ (List.Mem.head _))))) _ _ hw1)).of :)) ?_
  rintro _ _ ⟨A5, n1, c5, rfl, hf1, rfl⟩
  iterate 2 (refine WP.sx tysOk rfl ⟨⟨⟩, ⟨⟩⟩ ?_)
  refine WP.own_nil 2 (fI .i64).z ?_
  refine WP.loop (α := Nat × Int × (List Int) × (Option Addr) × Nat × Nat) (fun x => lp (ref03_Without_b1 d1 x1 r1) x.1 (x.2.1, x.2.2.1) = some r ∧ OwF x.2.2.2.1 x.2.2.2.2.1 x.2.2.1) (fun x => [(2, .slice A4 x1.length c4), (3, pt g1), (6, pt g2), (7, pt g3), (8, .slice A5 n1 c5), (9, iv x.2.1)]) (fun x => [Ow (fI .i64) 2 x.2.2.2.1 x.2.2.2.2.1 x.2.2.2.2.2 x.2.2.1, Ow (fI .i64) 3 A5 n1 c5 r1, .blk g3 25 [.slice x.2.2.2.1 x.2.2.2.2.1 x.2.2.2.2.2, sn], .blk g2 25 [sn, sn], .blk g1 25 [.slice A1 d1.supply.length c1, .slice A2 d1.arcs.length c2], .fz (PH.of w)]) (fun x => x.1) rfl (big, 0, ([] : List Int), none, 0, 0) ⟨h, OwF.nil_⟩ ?_ ?_ ?_
  ·repeat first|exact ⟨⟩|refine ⟨rfl,?_⟩
  ·exact Pick.all
  rintro ⟨n8, s12, xs23, A31, m8, c31⟩ ⟨h, hf42⟩
  dsimp only at h hf42 ⊢
  rcases n8 with _ | n8
  · exact (lp_no h).elim
  replace h := lp_succ h
  unfold ref03_Without_b1 at h
  try dsimp only at h
  iterate 2 (refine WP.sx tysOk rfl ⟨⟨⟩, ⟨⟩⟩ ?_)
  refine WP.lenO (xs := r1) tysOk rfl ⟨⟩ rfl rfl rfl rfl rfl rfl hf1 ?_
  refine WP.sx tysOk rfl ⟨⟨⟩, ⟨⟩⟩ ?_
  refine WP.cond_d rfl rfl (fun hh40 => ?_) (fun hh40 => ?_)
  ·rw [if_pos hh40] at h
   obtain ⟨hj31, h⟩ := ck_some h
   obtain ⟨hj32, h⟩ := ck_some h
   refine WP.drawL 11 [(10, [], litSpec 2 1)] rfl (by kernel_rfl) (by kernel_rfl) (by kernel_rfl) ?_
   refine WP.sx tysOk rfl ⟨⟨⟨rfl, rfl⟩, rfl⟩, ⟨⟩⟩ ?_
   refine WP.lx tysOk rfl ⟨⟨rfl, rfl⟩, rfl⟩ (CellAt.blk (.tail (.tail .head)) rfl) ?_
   refine WP.sx tysOk rfl ⟨⟨⟨rfl, rfl⟩, rfl⟩, ⟨⟩⟩ ?_
   refine WP.lx tysOk rfl ⟨⟨rfl, rfl⟩, rfl⟩ (CellAt.blk (.tail (.tail (.tail (.tail .head)))) rfl) ?_
   iterate 2 (refine WP.sx tysOk rfl ⟨⟨⟨rfl, rfl⟩, rfl⟩, ⟨⟩⟩ ?_)
   refine WP.ixO tysOk rfl ⟨⟨rfl, rfl⟩, rfl⟩ rfl rfl rfl rfl rfl rfl rfl rfl hf1 hj31 ?_
   intro b31 hA31
   refine WP.lx tysOk rfl ⟨⟨rfl, rfl⟩, rfl⟩ (OwS.at0 (.tail .head) hA31 hj31 rfl) ?_
   refine WP.ixA tysOk rfl ⟨⟨rfl, rfl⟩, rfl⟩ rfl rfl rfl rfl rfl rfl rfl rfl hj32 (hs1.ex hj32) ?_
   intro b32 b32v hA32
   refine WP.lx tysOk rfl ⟨⟨rfl, rfl⟩, rfl⟩ (hs1.at0 hA32 (Held.mem (List.Mem.tail _ (List.Mem.tail _ (List.Mem.tail _ (List.Mem.tail _ (List.Mem.tail _ (List.Mem.head _))))))) hj32 rfl) ?_
   refine WP.lbs tysOk rfl ⟨rfl, rfl⟩ rfl rfl rfl rfl rfl rfl rfl rfl rfl rfl rfl rfl ?_
   intro g31
   refine WP.lend rfl ⟨rfl, rfl⟩ ?_
   refine WP.repiece (p' := .blk g31 2 (cl (fI .i64) [(gt d1.supply (gt r1 s12))])) .head rfl ?_
   refine WP.shut0 (n := 1) (z := (fI .i64).z) .head (by decide) rfl ?_
   have hf43 : OwF (some ⟨g31, 0, none⟩) 1 [(gt d1.supply (gt r1 s12))] := ⟨rfl, fun _ => ⟨g31, rfl⟩⟩
   obtain ⟨hl16, h⟩ := ck_some h
   obtain ⟨xs24, hz16, h⟩ := lt_some h
   refine WP.appO (f := (fI .i64)) (xs := xs23) (ys := [(gt d1.supply (gt r1 s12))]) tysOk rfl rfl rfl rfl rfl rfl rfl rfl rfl rfl rfl rfl (.tail .head) hf42 hf43.len (OwS.app .head hf43) hl16 hz16 ?_
   intro A32 c32 hf44
   refine WP.sx tysOk rfl ⟨⟨⟩, ⟨⟩⟩ ?_
   refine WP.sto' tysOk [.slice A32 xs24.length c32, sn] rfl rfl rfl rfl rfl rfl rfl rfl rfl (.tail (.tail (.tail .head))) rfl rfl ?_
   iterate 3 (refine WP.sx tysOk rfl ⟨⟨⟩, ⟨⟩⟩ ?_)
   refine WP.stop rfl (n8, w64 (s12 + 1), xs24, A32, xs24.length, c32) ⟨⟨h, hf44⟩, Nat.lt_succ_self _⟩ ?_ ?_
   ·repeat first|exact ⟨⟩|refine ⟨rfl,?_⟩
   exact (.cons (.tail .head) (.cons (.tail (.tail .head)) (.cons .head (.cons (.tail .head) (.cons (.tail .head) (.cons (.tail .head) .nil))))))
  rw [if_neg hh40] at h
  iterate 2 (refine WP.sx tysOk rfl ⟨⟨⟩, ⟨⟩⟩ ?_)
  refine WP.lx tysOk rfl ⟨⟩ (CellAt.blk (.tail (.tail (.tail (.tail .head)))) rfl) ?_
  refine WP.sx tysOk rfl ⟨⟨⟩, ⟨⟩⟩ ?_
  obtain ⟨r29, hg29, h⟩ := bind_some h
  refine WP.callS (ref03_Kept_S r29) rfl rfl rfl rfl rfl rfl rfl (by kernel_rfl) (fun w1 hw1 => (ref03_Kept_w hg29 (hs4.le' ((Held.mem (List.Mem.tail _ (List.Mem.tail _ (List.Mem.tail _ (List.Mem.tail _ (List.Mem.tail _ (List.Mem.head _))))))) _ _ hw1)).of :)) ?_
  rintro _ _ ⟨A33, n9, c33, rfl, hf45, rfl⟩
  iterate 2 (refine WP.sx tysOk rfl ⟨⟨⟩, ⟨⟩⟩ ?_)
  refine WP.own_nil 31 fA.z ?_
  refine WP.loop (α := Nat × Int × (List Arc) × (Option Addr) × Nat × Nat) (fun x => lp (ref03_Without_b2 d1 r1 xs23 r29) x.1 (x.2.1, x.2.2.1) = some r ∧ OwF x.2.2.2.1 x.2.2.2.2.1 x.2.2.1) (fun x => [(3, pt g1), (6, pt g2), (7, pt g3), (8, .slice A5 n1 c5), (10, .slice A33 n9 c33), (11, iv x.2.1)]) (fun x => [Ow fA 31 x.2.2.2.1 x.2.2.2.2.1 x.2.2.2.2.2 x.2.2.1, Ow (fI .i64) 3 A33 n9 c33 r29, Ow (fI .i64) 2 A31 m8 c31 xs23, Ow (fI .i64) 3 A5 n1 c5 r1, .blk g3 25 [.slice A31 m8 c31, .slice x.2.2.2.1 x.2.2.2.2.1 x.2.2.2.2.2], .blk g2 25 [sn, sn], .blk g1 25 [.slice A1 d1.supply.length c1, .slice A2 d1.arcs.length c2], .fz (PH.of w)]) (fun x => x.1) rfl (big, 0, ([] : List Arc), none, 0, 0) ⟨h, OwF.nil_⟩ ?_ ?_ ?_
  ·repeat first|exact ⟨⟩|refine ⟨rfl,?_⟩
  ·exact Pick.all
  rintro ⟨n10, s15, xs29, A38, m10, c38⟩ ⟨h, hf53⟩
  dsimp only at h hf53 ⊢
  rcases n10 with _ | n10
  · exact (lp_no h).elim
  replace h := lp_succ h
  unfold ref03_Without_b2 at h
  try dsimp only at h
  iterate 2 (refine WP.sx tysOk rfl ⟨⟨⟩, ⟨⟩⟩ ?_)
  refine WP.lenO (xs := r29) tysOk rfl ⟨⟩ rfl rfl rfl rfl rfl rfl hf45 ?_
  refine WP.sx tysOk rfl ⟨⟨⟩, ⟨⟩⟩ ?_
  refine WP.cond_d rfl rfl (fun hh50 => ?_) (fun hh50 => ?_)
  ·rw [if_pos hh50] at h
   obtain ⟨hj39, h⟩ := ck_some h
   obtain ⟨hj40, h⟩ := ck_some h
   refine WP.drawL 9 [(8, [], fun _ => blkSpec 31 [iv 0, iv 0, iv 0, iv 0, iv 0])] rfl (by kernel_rfl) (by kernel_rfl) (by kernel_rfl) ?_
   refine WP.sx tysOk rfl ⟨⟨⟨rfl, rfl⟩, rfl⟩, ⟨⟩⟩ ?_
   refine WP.lx tysOk rfl ⟨⟨rfl, rfl⟩, rfl⟩ (CellAt.blk (.tail (.tail (.tail (.tail (.tail (.tail .head)))))) rfl) ?_
   iterate 2 (refine WP.sx tysOk rfl ⟨⟨⟨rfl, rfl⟩, rfl⟩, ⟨⟩⟩ ?_)
   refine WP.ixO tysOk rfl ⟨⟨rfl, rfl⟩, rfl⟩ rfl rfl rfl rfl rfl rfl rfl rfl hf45 hj39 ?_
   intro b39 hA39
   refine WP.lx tysOk rfl ⟨⟨rfl, rfl⟩, rfl⟩ (OwS.at0 (.tail .head) hA39 hj39 rfl) ?_
   refine WP.ixA tysOk rfl ⟨⟨rfl, rfl⟩, rfl⟩ rfl rfl rfl rfl rfl rfl rfl rfl hj40 (hs2.ex hj40) ?_
   intro b40 b40v hA40
   refine WP.mx_ tysOk rfl ⟨⟨rfl, rfl⟩, rfl⟩ (hs2.seg hA40 (Held.mem (List.Mem.tail _ (List.Mem.tail _ (List.Mem.tail _ (List.Mem.tail _ (List.Mem.tail _ (List.Mem.tail _ (List.Mem.tail _ (List.Mem.head _))))))))) hj40) ?_
   refine WP.lal tysOk rfl ⟨rfl, rfl⟩ rfl rfl rfl rfl rfl rfl rfl ?_
   intro g38
   refine WP.lend rfl ⟨rfl, rfl⟩ ?_
   refine WP.sto' tysOk [iv ((gt d1.arcs (gt r29 s15)).src), iv ((gt d1.arcs (gt r29 s15)).dst), iv ((gt d1.arcs (gt r29 s15)).low), iv ((gt d1.arcs (gt r29 s15)).cap), iv ((gt d1.arcs (gt r29 s15)).cost)] rfl rfl rfl rfl rfl rfl rfl rfl rfl .head rfl rfl ?_
   iterate 2 (refine WP.sx tysOk rfl ⟨⟨⟩, ⟨⟩⟩ ?_)
   refine WP.lx tysOk rfl ⟨⟩ (CellAt.blk .head rfl) ?_
   obtain ⟨r36, hg36, h⟩ := bind_some h
   refine WP.callV rfl rfl rfl rfl rfl rfl rfl (by kernel_rfl) (fun w1 hw1 => (ref03_Place_w hg36 (hw1.ow (.tail (.tail (.tail (.tail .head)))) hf1) :)) ⟨⟩ ?_
   refine WP.sx tysOk rfl ⟨⟨⟩, ⟨⟩⟩ ?_
   refine WP.sto' tysOk [iv r36, iv ((gt d1.arcs (gt r29 s15)).dst), iv ((gt d1.arcs (gt r29 s15)).low), iv ((gt d1.arcs (gt r29 s15)).cap), iv ((gt d1.arcs (gt r29 s15)).cost)] rfl rfl rfl rfl rfl rfl rfl rfl rfl .head rfl rfl ?_
   iterate 2 (refine WP.sx tysOk rfl ⟨⟨⟩, ⟨⟩⟩ ?_)
   refine WP.lx tysOk rfl ⟨⟩ (CellAt.blk .head rfl) ?_
   obtain ⟨r37, hg37, h⟩ := bind_some h
   refine WP.callV rfl rfl rfl rfl rfl rfl rfl (by kernel_rfl) (fun w1 hw1 => (ref03_Place_w hg37 (hw1.ow (.tail (.tail (.tail (.tail .head)))) hf1) :)) ⟨⟩ ?_
   refine WP.sx tysOk rfl ⟨⟨⟩, ⟨⟩⟩ ?_
   refine WP.sto' tysOk [iv r36, iv r37, iv ((gt d1.arcs (gt r29 s15)).low), iv ((gt d1.arcs (gt r29 s15)).cap), iv ((gt d1.arcs (gt r29 s15)).cost)] rfl rfl rfl rfl rfl rfl rfl rfl rfl .head rfl rfl ?_
   refine WP.sx tysOk rfl ⟨⟨⟩, ⟨⟩⟩ ?_
   refine WP.lx tysOk rfl ⟨⟩ (CellAt.blk .head rfl) ?_
   iterate 2 (refine WP.sx tysOk rfl ⟨⟨⟩, ⟨⟩⟩ ?_)
   by_cases hh51 : 0 ≤ r36
   ·rw [if_pos hh51] at h
    refine WP.yes rfl rfl (decide_eq_true hh51) ?_
    refine WP.sx tysOk rfl ⟨⟨⟩, ⟨⟩⟩ ?_
    refine WP.yes rfl rfl rfl ?_
    refine WP.lx tysOk rfl ⟨⟩ (CellAt.blk .head rfl) ?_
    refine WP.yes rfl rfl rfl ?_
    iterate 2 (refine WP.sx tysOk rfl ⟨⟨⟩, ⟨⟩⟩ ?_)
    refine WP.cond_d rfl rfl (fun hh52 => ?_) (fun hh52 => ?_)
    ·rw [if_pos hh52] at h
     refine WP.sx tysOk rfl ⟨⟨⟩, ⟨⟩⟩ ?_
     refine WP.lx tysOk rfl ⟨⟩ (CellAt.blk (.tail (.tail (.tail (.tail (.tail .head))))) rfl) ?_
     refine WP.mx_ tysOk rfl ⟨⟩ (SegAt.blk' .head rfl) ?_
     refine WP.bsO (f := fA) [(Arc.mk r36 r37 ((gt d1.arcs (gt r29 s15)).low) ((gt d1.arcs (gt r29 s15)).cap) ((gt d1.arcs (gt r29 s15)).cost))] tysOk rfl rfl rfl rfl rfl rfl rfl rfl rfl rfl rfl rfl rfl rfl ?_
     intro g39 hf54
     obtain ⟨hl20, h⟩ := ck_some h
     obtain ⟨xs30, hz20, h⟩ := lt_some h
     refine WP.appO (f := fA) (xs := xs29) (ys := [(Arc.mk r36 r37 ((gt d1.arcs (gt r29 s15)).low) ((gt d1.arcs (gt r29 s15)).cap) ((gt d1.arcs (gt r29 s15)).cost))]) tysOk rfl rfl rfl rfl rfl rfl rfl rfl rfl rfl rfl rfl (.tail (.tail .head)) hf53 hf54.len (OwS.app .head hf54) hl20 hz20 ?_
     intro A39 c39 hf55
     refine WP.sx tysOk rfl ⟨⟨⟩, ⟨⟩⟩ ?_
     refine WP.sto' tysOk [.slice A31 m8 c31, .slice A39 xs30.length c39] rfl rfl rfl rfl rfl rfl rfl rfl rfl (.tail (.tail (.tail (.tail (.tail (.tail .head)))))) rfl rfl ?_
     iterate 3 (refine WP.sx tysOk rfl ⟨⟨⟩, ⟨⟩⟩ ?_)
     refine WP.stop rfl (n10, w64 (s15 + 1), xs30, A39, xs30.length, c39) ⟨⟨h, hf55⟩, Nat.lt_succ_self _⟩ ?_ ?_
     ·repeat first|exact ⟨⟩|refine ⟨rfl,?_⟩
     exact (.cons (.tail .head) (.cons (.tail (.tail (.tail .head))) (.cons (.tail (.tail (.tail .head))) (.cons (.tail (.tail (.tail .head))) (.cons .head (.cons (.tail (.tail .head)) (.cons (.tail (.tail .head)) (.cons (.tail (.tail .head)) .nil))))))))
    rw [if_neg hh52] at h
    iterate 3 (refine WP.sx tysOk rfl ⟨⟨⟩, ⟨⟩⟩ ?_)
    refine WP.stop rfl (n10, w64 (s15 + 1), xs29, A38, m10, c38) ⟨⟨h, hf53⟩, Nat.lt_succ_self _⟩ ?_ ?_
    ·repeat first|exact ⟨⟩|refine ⟨rfl,?_⟩
    exact (.cons (.tail .head) (.cons (.tail .head) (.cons (.tail .head) (.cons (.tail .head) (.cons (.tail .head) (.cons (.tail .head) (.cons (.tail .head) (.cons (.tail .head) .nil))))))))
   rw [if_neg hh51] at h
   refine WP.no rfl rfl (decide_eq_false hh51) rfl rfl ?_
   iterate 2 (refine WP.no rfl rfl rfl rfl rfl ?_)
   refine WP.sx tysOk rfl ⟨⟨⟩, ⟨⟩⟩ ?_
   refine WP.condF rfl rfl ?_
   iterate 3 (refine WP.sx tysOk rfl ⟨⟨⟩, ⟨⟩⟩ ?_)
   refine WP.stop rfl (n10, w64 (s15 + 1), xs29, A38, m10, c38) ⟨⟨h, hf53⟩, Nat.lt_succ_self _⟩ ?_ ?_
   ·repeat first|exact ⟨⟩|refine ⟨rfl,?_⟩
   exact (.cons (.tail .head) (.cons (.tail .head) (.cons (.tail .head) (.cons (.tail .head) (.cons (.tail .head) (.cons (.tail .head) (.cons (.tail .head) (.cons (.tail .head) .nil))))))))
  rw [if_neg hh50] at h
  refine WP.mx_ tysOk rfl ⟨⟩ (SegAt.blk' (.tail (.tail (.tail (.tail .head)))) rfl) ?_
  refine WP.sto' tysOk [.slice A31 m8 c31, .slice A38 m10 c38] rfl rfl rfl rfl rfl rfl rfl rfl rfl (.tail (.tail (.tail (.tail (.tail .head))))) rfl rfl ?_
  cases h
  refine WP.retR tysOk rfl rfl ⟨_, _, _, _, rfl, ⟨_, rfl, .inr ⟨rfl, _, rfl, rfl, (SegAt.blk' (z := 2) .head rfl).1⟩⟩, rfl, rfl⟩ (fun w1 hw1 => ⟨_, _, rfl, ⟨A31, m8, c31, A38, m10, c38, rfl, hf42, hf53, rfl⟩, Ret.of_KH hw1 (.cons (.tail (.tail (.tail .head))) (.cons (.tail .head) (.cons (.tail (.tail (.tail (.tail (.tail .head))))) .nil)))⟩)

abbrev ref15_Done_S (Z : PH) (r : Step × Int) : Value → Heap → Prop := fun v L => ∃ (Zn : PH) (A1 : Option Addr) (n1 c1 : Nat) (A2 : Option Addr) (n2 c2 : Nat) (A3 : Option Addr) (n3 c3 : Nat) (A4 : Option Addr) (n4 c4 : Nat), v = .tuple #[.agg #[.slice A1 n1 c1, .slice A2 n2 c2, iv r.1.rcd.pass, .slice A3 n3 c3, .slice A4 n4 c4, iv r.1.off.hi, .int .u64 (r.1.off.lo), .bool (r.1.did)], iv r.2] ∧ n1 = r.1.inst.supply.length ∧ n2 = r.1.inst.arcs.length ∧ n3 = r.1.rcd.was.supply.length ∧ n4 = r.1.rcd.was.arcs.length ∧ FzS (fI .i64) (Z.or Zn) A1 c1 r.1.inst.supply ∧ FzS fA (Z.or Zn) A2 c2 r.1.inst.arcs ∧ FzS (fI .i64) (Z.or Zn) A3 c3 r.1.rcd.was.supply ∧ FzS fA (Z.or Zn) A4 c4 r.1.rcd.was.arcs ∧ L = [.fz Zn]
set_option maxRecDepth 20000 in
set_option maxHeartbeats 8000000 in
theorem ref15_Done_w {w : World} {Z : PH} (hZ : Z.le (PH.of w)) {v0 : Value} {v1 : Value} {pass1 : Int} {was1 : Inst} {next1 : Inst} {off1 : Wide} {did1 : Bool} {r : Step × Int} (h : ref15_Done pass1 was1 next1 off1 did1 = some r) (p1 : InsZ Z v0 was1) (p2 : InsZ Z v1 next1) :
    Calls Tryz.prog 58 #[iv pass1, v0, v1, .agg #[iv off1.hi, .int .u64 (off1.lo)], .bool (did1)] w fun e w' => ∃ v L, e = .returned v ∧ ref15_Done_S Z r v L ∧ Ret w w' L := by
  obtain ⟨A1, c1, A2, c2, rfl, hs1, hs2⟩ := p1
  obtain ⟨A3, c3, A4, c4, rfl, hs3, hs4⟩ := p2
  unfold ref15_Done at h
  refine enter_ Tryz.func58 rfl Tryz.ntmps58 rfl ?_
  refine WP.box rfl rfl rfl rfl rfl rfl ?_
  intro g1
  refine WP.box rfl rfl rfl rfl rfl rfl ?_
  intro g2
  refine WP.box rfl rfl rfl rfl rfl rfl ?_
  intro g3
  refine WP.al tysOk rfl rfl rfl rfl rfl rfl ?_
  intro g4
  iterate 3 (refine WP.sx tysOk rfl ⟨⟨⟩, ⟨⟩⟩ ?_)
  refine WP.cond_n rfl rfl (fun hh1 => ?_) (fun hh1 => ?_)
  ·rw [if_neg (bneg hh1)] at h
   refine WP.mx_ tysOk rfl ⟨⟩ (SegAt.blk' (.tail (.tail (.tail .head))) rfl) ?_
   refine WP.bld (cs := [.slice A1 was1.supply.length c1, .slice A2 was1.arcs.length c2, iv 0, sn, sn, iv 0, .int .u64 (0), .bool (false)]) tysOk rfl ⟨⟩ rfl rfl rfl rfl rfl rfl rfl ?_
   refine WP.sto' tysOk [.slice A1 was1.supply.length c1, .slice A2 was1.arcs.length c2, iv 0, sn, sn, iv 0, .int .u64 (0), .bool (false)] rfl rfl rfl rfl rfl rfl rfl rfl rfl .head rfl rfl ?_
   refine WP.sx tysOk rfl ⟨⟨⟩, ⟨⟩⟩ ?_
   cases h
   refine WP.retR tysOk rfl rfl ⟨_, _, _, _, rfl, ⟨_, rfl, .inr ⟨rfl, _, rfl, rfl, (SegAt.blk' (z := 8) .head rfl).1⟩⟩, ⟨_, _, rfl, rfl, rfl⟩, rfl⟩ (fun w1 hw1 => ⟨_, _, rfl, ⟨PH.new _ w1, A1, was1.supply.length, c1, A2, was1.arcs.length, c2, none, 0, 0, none, 0, 0, rfl, rfl, rfl, rfl, rfl, hs1.le' (PH.le_or _ _), hs2.le' (PH.le_or _ _), FzS.nil_, FzS.nil_, rfl⟩, Ret.freeze hw1 (.cons (.tail (.tail (.tail (.tail .head)))) .nil)⟩)
  rw [if_pos hh1] at h
  refine WP.mx_ tysOk rfl ⟨⟩ (SegAt.blk' (.tail (.tail .head)) rfl) ?_
  obtain ⟨r1, hg1, h⟩ := bind_some h
  refine WP.callV rfl rfl rfl rfl rfl rfl rfl (by kernel_rfl) (fun w1 hw1 => (ref03_Right_w hg1 (InsZ.mk_ ((hs3.le' ((Held.sub (Held.mem (List.Mem.tail _ (List.Mem.tail _ (List.Mem.tail _ (List.Mem.tail _ (List.Mem.head _)))))) hZ) _ _ hw1)).of) ((hs4.le' ((Held.sub (Held.mem (List.Mem.tail _ (List.Mem.tail _ (List.Mem.tail _ (List.Mem.tail _ (List.Mem.head _)))))) hZ) _ _ hw1)).of)) :)) ⟨⟩ ?_
  refine WP.sx tysOk rfl ⟨⟨⟩, ⟨⟩⟩ ?_
  refine WP.cond_d rfl rfl (fun hh2 => ?_) (fun hh2 => ?_)
  ·rw [if_pos hh2] at h
   refine WP.bld (cs := [sn, sn, iv 0, sn, sn, iv 0, .int .u64 (0), .bool (false)]) tysOk rfl ⟨⟩ rfl rfl rfl rfl rfl rfl rfl ?_
   refine WP.sto' tysOk [sn, sn, iv 0, sn, sn, iv 0, .int .u64 (0), .bool (false)] rfl rfl rfl rfl rfl rfl rfl rfl rfl .head rfl rfl ?_
   refine WP.sx tysOk rfl ⟨⟨⟩, ⟨⟩⟩ ?_
   cases h
   refine WP.retR tysOk rfl rfl ⟨_, _, _, _, rfl, ⟨_, rfl, .inr ⟨rfl, _, rfl, rfl, (SegAt.blk' (z := 8) .head rfl).1⟩⟩, ⟨_, _, rfl, rfl, rfl⟩, rfl⟩ (fun w1 hw1 => ⟨_, _, rfl, ⟨PH.new _ w1, none, 0, 0, none, 0, 0, none, 0, 0, none, 0, 0, rfl, rfl, rfl, rfl, rfl, FzS.nil_, FzS.nil_, FzS.nil_, FzS.nil_, rfl⟩, Ret.freeze hw1 (.cons (.tail (.tail (.tail (.tail .head)))) .nil)⟩)
  rw [if_neg hh2] at h
  refine WP.mx_ tysOk rfl ⟨⟩ (SegAt.blk' (.tail (.tail .head)) rfl) ?_
  refine WP.sx tysOk rfl ⟨⟨⟩, ⟨⟩⟩ ?_
  refine WP.mx_ tysOk rfl ⟨⟩ (SegAt.blk' (.tail (.tail (.tail .head))) rfl) ?_
  refine WP.bld (cs := [iv pass1, .slice A1 was1.supply.length c1, .slice A2 was1.arcs.length c2]) tysOk rfl ⟨⟩ rfl rfl rfl rfl rfl rfl rfl ?_
  refine WP.mx_ tysOk rfl ⟨⟩ (SegAt.blk' (.tail .head) rfl) ?_
  refine WP.bld (cs := [.slice A3 next1.supply.length c3, .slice A4 next1.arcs.length c4, iv pass1, .slice A1 was1.supply.length c1, .slice A2 was1.arcs.length c2, iv off1.hi, .int .u64 (off1.lo), .bool (true)]) tysOk rfl ⟨⟩ rfl rfl rfl rfl rfl rfl rfl ?_
  refine WP.sto' tysOk [.slice A3 next1.supply.length c3, .slice A4 next1.arcs.length c4, iv pass1, .slice A1 was1.supply.length c1, .slice A2 was1.arcs.length c2, iv off1.hi, .int .u64 (off1.lo), .bool (true)] rfl rfl rfl rfl rfl rfl rfl rfl rfl .head rfl rfl ?_
  refine WP.sx tysOk rfl ⟨⟨⟩, ⟨⟩⟩ ?_
  cases h
  refine WP.retR tysOk rfl rfl ⟨_, _, _, _, rfl, ⟨_, rfl, .inr ⟨rfl, _, rfl, rfl, (SegAt.blk' (z := 8) .head rfl).1⟩⟩, ⟨_, _, rfl, rfl, rfl⟩, rfl⟩ (fun w1 hw1 => ⟨_, _, rfl, ⟨PH.new _ w1, A3, next1.supply.length, c3, A4, next1.arcs.length, c4, A1, was1.supply.length, c1, A2, was1.arcs.length, c2, rfl, rfl, rfl, rfl, rfl, hs3.le' (PH.le_or _ _), hs4.le' (PH.le_or _ _), hs1.le' (PH.le_or _ _), hs2.le' (PH.le_or _ _), rfl⟩, Ret.freeze hw1 (.cons (.tail (.tail (.tail (.tail .head)))) .nil)⟩)

abbrev ref17_Leaf_S (Z : PH) (r : Step × Int) : Value → Heap → Prop := fun v L => ∃ (Zn : PH) (A1 : Option Addr) (n1 c1 : Nat) (A2 : Option Addr) (n2 c2 : Nat) (A3 : Option Addr) (n3 c3 : Nat) (A4 : Option Addr) (n4 c4 : Nat), v = .tuple #[.agg #[.slice A1 n1 c1, .slice A2 n2 c2, iv r.1.rcd.pass, .slice A3 n3 c3, .slice A4 n4 c4, iv r.1.off.hi, .int .u64 (r.1.off.lo), .bool (r.1.did)], iv r.2] ∧ n1 = r.1.inst.supply.length ∧ n2 = r.1.inst.arcs.length ∧ n3 = r.1.rcd.was.supply.length ∧ n4 = r.1.rcd.was.arcs.length ∧ FzS (fI .i64) (Z.or Zn) A1 c1 r.1.inst.supply ∧ FzS fA (Z.or Zn) A2 c2 r.1.inst.arcs ∧ FzS (fI .i64) (Z.or Zn) A3 c3 r.1.rcd.was.supply ∧ FzS fA (Z.or Zn) A4 c4 r.1.rcd.was.arcs ∧ L = [.fz Zn]
set_option maxRecDepth 20000 in
set_option maxHeartbeats 8000000 in
theorem ref17_Leaf_w {w : World} {Z : PH} (hZ : Z.le (PH.of w)) {v0 : Value} {i1 : Inst} {r : Step × Int} (h : ref17_Leaf i1 = some r) (p1 : InsZ Z v0 i1) :
    Calls Tryz.prog 31 #[v0] w fun e w' => ∃ v L, e = .returned v ∧ ref17_Leaf_S Z r v L ∧ Ret w w' L := by
  obtain ⟨A1, c1, A2, c2, rfl, hs1, hs2⟩ := p1
  unfold ref17_Leaf at h
  refine enter_ Tryz.func31 rfl Tryz.ntmps31 rfl ?_
  refine WP.box rfl rfl rfl rfl rfl rfl ?_
  intro g1
  refine WP.al tysOk rfl rfl rfl rfl rfl rfl ?_
  intro g2
  refine WP.sx tysOk rfl ⟨⟨⟩, ⟨⟩⟩ ?_
  refine WP.mx_ tysOk rfl ⟨⟩ (SegAt.blk' (.tail .head) rfl) ?_
  obtain ⟨r1, hg1, h⟩ := bind_some h
  refine WP.callV rfl rfl rfl rfl rfl rfl rfl (by kernel_rfl) (fun w1 hw1 => (ref03_Right_w hg1 (InsZ.mk_ ((hs1.le' ((Held.sub (Held.mem (List.Mem.tail _ (List.Mem.tail _ (List.Mem.head _)))) hZ) _ _ hw1)).of) ((hs2.le' ((Held.sub (Held.mem (List.Mem.tail _ (List.Mem.tail _ (List.Mem.head _)))) hZ) _ _ hw1)).of)) :)) ⟨⟩ ?_
  iterate 3 (refine WP.sx tysOk rfl ⟨⟨⟩, ⟨⟩⟩ ?_)
  refine WP.cond_d rfl rfl (fun hh1 => ?_) (fun hh1 => ?_)
  ·rw [if_pos hh1] at h
   refine WP.bld (cs := [sn, sn, iv 0, sn, sn, iv 0, .int .u64 (0), .bool (false)]) tysOk rfl ⟨⟩ rfl rfl rfl rfl rfl rfl rfl ?_
   refine WP.sx tysOk rfl ⟨⟨⟩, ⟨⟩⟩ ?_
   refine WP.sto' tysOk [sn, sn, iv 0, sn, sn, iv 0, .int .u64 (0), .bool (false)] rfl rfl rfl rfl rfl rfl rfl rfl rfl .head rfl rfl ?_
   refine WP.sx tysOk rfl ⟨⟨⟩, ⟨⟩⟩ ?_
   cases h
   refine WP.retR tysOk rfl rfl ⟨_, _, _, _, rfl, ⟨_, rfl, .inr ⟨rfl, _, rfl, rfl, (SegAt.blk' (z := 8) .head rfl).1⟩⟩, ⟨_, _, rfl, rfl, rfl⟩, rfl⟩ (fun w1 hw1 => ⟨_, _, rfl, ⟨PH.new _ w1, none, 0, 0, none, 0, 0, none, 0, 0, none, 0, 0, rfl, rfl, rfl, rfl, rfl, FzS.nil_, FzS.nil_, FzS.nil_, FzS.nil_, rfl⟩, Ret.freeze hw1 (.cons (.tail (.tail .head)) .nil)⟩)
  rw [if_neg hh1] at h
  refine WP.sx tysOk rfl ⟨⟨⟩, ⟨⟩⟩ ?_
  refine WP.loop (α := Nat × Int) (fun x => lp (ref17_Leaf_b1 i1) x.1 x.2 = some r) (fun x => [(1, pt g1), (2, pt g2), (5, iv x.2)]) (fun x => [.blk g2 40 [sn, sn, iv 0, sn, sn, iv 0, .int .u64 (0), .bool (false)], .blk g1 25 [.slice A1 i1.supply.length c1, .slice A2 i1.arcs.length c2], .fz (PH.of w)]) (fun x => x.1) rfl (big, 0) h ?_ ?_ ?_
  ·repeat first|exact ⟨⟩|refine ⟨rfl,?_⟩
  ·exact Pick.all
  rintro ⟨n7, n6⟩ h
  dsimp only at h ⊢
  rcases n7 with _ | n7
  · exact (lp_no h).elim
  replace h := lp_succ h
  unfold ref17_Leaf_b1 at h
  try dsimp only at h
  iterate 2 (refine WP.sx tysOk rfl ⟨⟨⟩, ⟨⟩⟩ ?_)
  refine WP.lx tysOk rfl ⟨⟩ (CellAt.blk (.tail .head) rfl) ?_
  iterate 2 (refine WP.sx tysOk rfl ⟨⟨⟩, ⟨⟩⟩ ?_)
  refine WP.cond_d rfl rfl (fun hh6 => ?_) (fun hh6 => ?_)
  ·rw [if_pos hh6] at h
   refine WP.mx_ tysOk rfl ⟨⟩ (SegAt.blk' (.tail .head) rfl) ?_
   refine WP.sx tysOk rfl ⟨⟨⟩, ⟨⟩⟩ ?_
   obtain ⟨r6, hg6, h⟩ := bind_some h
   refine WP.callV rfl rfl rfl rfl rfl rfl rfl (by kernel_rfl) (fun w1 hw1 => (ref17_Tip_w hg6 (InsZ.mk_ ((hs1.le' ((Held.sub (Held.mem (List.Mem.tail _ (List.Mem.tail _ (List.Mem.head _)))) hZ) _ _ hw1)).of) ((hs2.le' ((Held.sub (Held.mem (List.Mem.tail _ (List.Mem.tail _ (List.Mem.head _)))) hZ) _ _ hw1)).of)) :)) ⟨⟩ ?_
   iterate 8 (refine WP.sx tysOk rfl ⟨⟨⟩, ⟨⟩⟩ ?_)
   refine WP.cond rfl rfl (fun hh7 => ?_) (fun hh7 => ?_)
   ·rw [if_pos hh7] at h
    refine WP.mx_ tysOk rfl ⟨⟩ (SegAt.blk' (.tail .head) rfl) ?_
    iterate 2 (refine WP.sx tysOk rfl ⟨⟨⟩, ⟨⟩⟩ ?_)
    refine WP.bld (cs := [iv 0, .int .u64 (0)]) tysOk rfl ⟨⟩ rfl rfl rfl rfl rfl rfl rfl ?_
    obtain ⟨r7, hg7, h⟩ := bind_some h
    refine WP.callS (ref15_Fixed_S r7) rfl rfl rfl rfl rfl rfl rfl (by kernel_rfl) (fun w1 hw1 => (ref15_Fixed_w hg7 (InsZ.mk_ ((hs1.le' ((Held.sub (Held.mem (List.Mem.tail _ (List.Mem.tail _ (List.Mem.head _)))) hZ) _ _ hw1)).of) ((hs2.le' ((Held.sub (Held.mem (List.Mem.tail _ (List.Mem.tail _ (List.Mem.head _)))) hZ) _ _ hw1)).of)) :)) ?_
    rintro _ _ ⟨A7, n8, c7, A8, n9, c8, rfl, hf5, hf6, rfl⟩
    iterate 3 (refine WP.sx tysOk rfl ⟨⟨⟩, ⟨⟩⟩ ?_)
    refine WP.al tysOk rfl rfl rfl rfl rfl rfl ?_
    intro g7
    refine WP.al tysOk rfl rfl rfl rfl rfl rfl ?_
    intro g8
    refine WP.sto' tysOk [.slice A7 n8 c7, .slice A8 n9 c8] rfl rfl rfl rfl rfl rfl rfl rfl rfl (.tail .head) rfl rfl ?_
    refine WP.sto' tysOk [iv r7.2.hi, .int .u64 (r7.2.lo)] rfl rfl rfl rfl rfl rfl rfl rfl rfl (.tail .head) rfl rfl ?_
    obtain ⟨r_o9_6_1, hg_o9_6_1, h⟩ := bind_some h
    obtain ⟨r_o9_7_1, hg_o9_7_1, h⟩ := bind_some h
    obtain ⟨r_o9_9_1, hg_o9_9_1, h⟩ := bind_some h
    refine WP.join (α := (Option Addr) × Nat × Nat × (Option Addr) × Nat × Nat × (Option Addr) × Nat × Nat × PH × PH × PH × (Option Addr) × Nat × (Option Addr) × Nat × (Option Addr) × Nat × (Option Addr) × Nat × Nat) (fun x => OwF x.1 x.2.1 r_o9_6_1 ∧ OwF x.2.2.2.1 x.2.2.2.2.1 r_o9_7_1.supply ∧ OwF x.2.2.2.2.2.2.1 x.2.2.2.2.2.2.2.1 r_o9_7_1.arcs ∧ FzS (fI .i64) x.2.2.2.2.2.2.2.2.2.1 x.2.2.2.1 x.2.2.2.2.2.1 r_o9_7_1.supply ∧ FzS fA x.2.2.2.2.2.2.2.2.2.2.1 x.2.2.2.2.2.2.1 x.2.2.2.2.2.2.2.2.1 r_o9_7_1.arcs ∧ FzS (fI .i64) (PH.or (PH.or (PH.or Z x.2.2.2.2.2.2.2.2.2.1) x.2.2.2.2.2.2.2.2.2.2.1) x.2.2.2.2.2.2.2.2.2.2.2.1) x.2.2.2.2.2.2.2.2.2.2.2.2.1 x.2.2.2.2.2.2.2.2.2.2.2.2.2.1 r_o9_9_1.1.inst.supply ∧ FzS fA (PH.or (PH.or (PH.or Z x.2.2.2.2.2.2.2.2.2.1) x.2.2.2.2.2.2.2.2.2.2.1) x.2.2.2.2.2.2.2.2.2.2.2.1) x.2.2.2.2.2.2.2.2.2.2.2.2.2.2.1 x.2.2.2.2.2.2.2.2.2.2.2.2.2.2.2.1 r_o9_9_1.1.inst.arcs ∧ FzS (fI .i64) (PH.or (PH.or (PH.or Z x.2.2.2.2.2.2.2.2.2.1) x.2.2.2.2.2.2.2.2.2.2.1) x.2.2.2.2.2.2.2.2.2.2.2.1) x.2.2.2.2.2.2.2.2.2.2.2.2.2.2.2.2.1 x.2.2.2.2.2.2.2.2.2.2.2.2.2.2.2.2.2.1 r_o9_9_1.1.rcd.was.supply ∧ FzS fA (PH.or (PH.or (PH.or Z x.2.2.2.2.2.2.2.2.2.1) x.2.2.2.2.2.2.2.2.2.2.1) x.2.2.2.2.2.2.2.2.2.2.2.1) x.2.2.2.2.2.2.2.2.2.2.2.2.2.2.2.2.2.2.1 x.2.2.2.2.2.2.2.2.2.2.2.2.2.2.2.2.2.2.2.1 r_o9_9_1.1.rcd.was.arcs) (fun x => [(2, pt g2), (11, pt x.2.2.2.2.2.2.2.2.2.2.2.2.2.2.2.2.2.2.2.2), (12, iv r_o9_9_1.2)]) (fun x => [.blk x.2.2.2.2.2.2.2.2.2.2.2.2.2.2.2.2.2.2.2.2 40 [.slice x.2.2.2.2.2.2.2.2.2.2.2.2.1 r_o9_9_1.1.inst.supply.length x.2.2.2.2.2.2.2.2.2.2.2.2.2.1, .slice x.2.2.2.2.2.2.2.2.2.2.2.2.2.2.1 r_o9_9_1.1.inst.arcs.length x.2.2.2.2.2.2.2.2.2.2.2.2.2.2.2.1, iv r_o9_9_1.1.rcd.pass, .slice x.2.2.2.2.2.2.2.2.2.2.2.2.2.2.2.2.1 r_o9_9_1.1.rcd.was.supply.length x.2.2.2.2.2.2.2.2.2.2.2.2.2.2.2.2.2.1, .slice x.2.2.2.2.2.2.2.2.2.2.2.2.2.2.2.2.2.2.1 r_o9_9_1.1.rcd.was.arcs.length x.2.2.2.2.2.2.2.2.2.2.2.2.2.2.2.2.2.2.2.1, iv r_o9_9_1.1.off.hi, .int .u64 (r_o9_9_1.1.off.lo), .bool (r_o9_9_1.1.did)], .fz x.2.2.2.2.2.2.2.2.2.2.2.1, .fz x.2.2.2.2.2.2.2.2.2.2.1, .fz x.2.2.2.2.2.2.2.2.2.1, Ow fB 4 x.1 x.2.1 x.2.2.1 r_o9_6_1, .blk g8 38 [iv r7.2.hi, .int .u64 (r7.2.lo)], .blk g7 25 [.slice A7 n8 c7, .slice A8 n9 c8], Ow (fI .i64) 2 A7 n8 c7 r7.1.supply, Ow fA 31 A8 n9 c8 r7.1.arcs, .blk g2 40 [sn, sn, iv 0, sn, sn, iv 0, .int .u64 (0), .bool (false)], .blk g1 25 [.slice A1 i1.supply.length c1, .slice A2 i1.arcs.length c2], .fz (PH.of w)]) rfl ?_ ?_
    ·refine WP.drawA rfl (by kernel_rfl) ?_
     refine WP.cutF (α := (Option Addr) × Nat × Nat × (Option Addr) × Nat × Nat × (Option Addr) × Nat × Nat × Nat) (fun x => OwF x.1 x.2.1 r_o9_6_1 ∧ OwF x.2.2.2.1 x.2.2.2.2.1 r_o9_7_1.supply ∧ OwF x.2.2.2.2.2.2.1 x.2.2.2.2.2.2.2.1 r_o9_7_1.arcs) #[true, true, true, true, true, true, true, true, true, false, false, false, false, true, false, false] 6 (fun x => [(2, pt g2), (11, pt x.2.2.2.2.2.2.2.2.2), (43, .agg #[.slice A1 i1.supply.length c1, .slice A2 i1.arcs.length c2]), (50, .agg #[.slice x.2.2.2.1 x.2.2.2.2.1 x.2.2.2.2.2.1, .slice x.2.2.2.2.2.2.1 x.2.2.2.2.2.2.2.1 x.2.2.2.2.2.2.2.2.1]), (51, .agg #[iv r7.2.hi, .int .u64 (r7.2.lo)])]) (fun x => [.blk x.2.2.2.2.2.2.2.2.2 40 [sn, sn, iv 0, sn, sn, iv 0, .int .u64 (0), .bool (false)], Ow (fI .i64) 2 x.2.2.2.1 x.2.2.2.2.1 x.2.2.2.2.2.1 r_o9_7_1.supply, Ow fA 31 x.2.2.2.2.2.2.1 x.2.2.2.2.2.2.2.1 x.2.2.2.2.2.2.2.2.1 r_o9_7_1.arcs, Ow fB 4 x.1 x.2.1 x.2.2.1 r_o9_6_1, .blk g8 38 [iv r7.2.hi, .int .u64 (r7.2.lo)], .blk g7 25 [.slice A7 n8 c7, .slice A8 n9 c8], Ow (fI .i64) 2 A7 n8 c7 r7.1.supply, Ow fA 31 A8 n9 c8 r7.1.arcs, .blk g2 40 [sn, sn, iv 0, sn, sn, iv 0, .int .u64 (0), .bool (false)], .blk g1 25 [.slice A1 i1.supply.length c1, .slice A2 i1.arcs.length c2], .fz (PH.of w)]) rfl ?_ ?_
     ·rintro ⟨A_o9_6_1, n_o9_6_1, c_o9_6_1, A_o9_7_1, n_o9_7_1, c_o9_7_1, A_o9_7_2, n_o9_7_2, c_o9_7_2, g_o9_13_1⟩ ⟨hf_o9_6_1, hf_o9_7_1, hf_o9_7_2⟩
      dsimp only at hf_o9_6_1 hf_o9_7_1 hf_o9_7_2 ⊢
      refine WP.any1 9 rfl (by kernel_rfl) rfl ?_
      refine WP.freezeO (.tail .head) hf_o9_7_1 ?_
      intro Zp_o9_9_1 hz_o9_9_1
      have hl_o9_9_1 := hf_o9_7_1.len
      subst hl_o9_9_1
      refine WP.freezeO (.tail (.tail .head)) hf_o9_7_2 ?_
      intro Zp_o9_9_2 hz_o9_9_2
      have hl_o9_9_2 := hf_o9_7_2.len
      subst hl_o9_9_2
      refine WP.callS (ref15_Done_S (PH.or (PH.or Z Zp_o9_9_1) Zp_o9_9_2) r_o9_9_1) rfl rfl rfl rfl rfl rfl rfl (by kernel_rfl) (fun w1 hw1 => (ref15_Done_w (Z := (PH.or (PH.or Z Zp_o9_9_1) Zp_o9_9_2)) ((Held.or (Held.or (Held.sub (Held.mem (List.Mem.tail _ (List.Mem.tail _ (List.Mem.tail _ (List.Mem.tail _ (List.Mem.tail _ (List.Mem.tail _ (List.Mem.tail _ (List.Mem.tail _ (List.Mem.tail _ (List.Mem.tail _ (List.Mem.head _)))))))))))) hZ) (Held.mem (List.Mem.tail _ (List.Mem.head _)))) (Held.mem (List.Mem.head _))) _ _ hw1) hg_o9_9_1 (InsZ.mk_ ((hs1.le' (PH.le.trans (PH.le.trans PH.le.rfl_ (PH.le_or _ _)) (PH.le_or _ _))).of) ((hs2.le' (PH.le.trans (PH.le.trans PH.le.rfl_ (PH.le_or _ _)) (PH.le_or _ _))).of)) (InsZ.mk_ ((hz_o9_9_1.le' (PH.le.trans (PH.ri_or ((Held.sub (Held.mem (List.Mem.tail _ (List.Mem.tail _ (List.Mem.tail _ (List.Mem.tail _ (List.Mem.tail _ (List.Mem.tail _ (List.Mem.tail _ (List.Mem.tail _ (List.Mem.tail _ (List.Mem.tail _ (List.Mem.head _)))))))))))) hZ) _ _ hw1) ((Held.mem (List.Mem.tail _ (List.Mem.head _))) _ _ hw1)) (PH.le_or _ _))).of) ((hz_o9_9_2.le' (PH.ri_or ((Held.or (Held.sub (Held.mem (List.Mem.tail _ (List.Mem.tail _ (List.Mem.tail _ (List.Mem.tail _ (List.Mem.tail _ (List.Mem.tail _ (List.Mem.tail _ (List.Mem.tail _ (List.Mem.tail _ (List.Mem.tail _ (List.Mem.head _)))))))))))) hZ) (Held.mem (List.Mem.tail _ (List.Mem.head _)))) _ _ hw1) ((Held.mem (List.Mem.head _)) _ _ hw1))).of)) :)) ?_
      rintro _ _ ⟨Zn_o9_9_1, A_o9_9_1, _, c_o9_9_1, A_o9_9_2, _, c_o9_9_2, A_o9_9_3, _, c_o9_9_3, A_o9_9_4, _, c_o9_9_4, rfl, rfl, rfl, rfl, rfl, hs_o9_9_1, hs_o9_9_2, hs_o9_9_3, hs_o9_9_4, rfl⟩
      refine WP.anyP 10 tysOk putInv_body rfl rfl rfl (by kernel_rfl) (by kernel_rfl) rfl rfl rfl rfl rfl True.intro ?_
      refine WP.anyP 11 tysOk putInv_body rfl rfl rfl (by kernel_rfl) (by kernel_rfl) rfl rfl rfl rfl rfl True.intro ?_
      refine WP.anyP 12 tysOk putInv_body rfl rfl rfl (by kernel_rfl) (by kernel_rfl) rfl rfl rfl rfl rfl True.intro ?_
      refine WP.any1 14 rfl (by kernel_rfl) rfl ?_
      refine WP.sto' tysOk [.slice A_o9_9_1 r_o9_9_1.1.inst.supply.length c_o9_9_1, .slice A_o9_9_2 r_o9_9_1.1.inst.arcs.length c_o9_9_2, iv r_o9_9_1.1.rcd.pass, .slice A_o9_9_3 r_o9_9_1.1.rcd.was.supply.length c_o9_9_3, .slice A_o9_9_4 r_o9_9_1.1.rcd.was.arcs.length c_o9_9_4, iv r_o9_9_1.1.off.hi, .int .u64 (r_o9_9_1.1.off.lo), .bool (r_o9_9_1.1.did)] rfl rfl rfl rfl rfl rfl rfl rfl rfl (.tail (.tail (.tail .head))) rfl rfl ?_
      refine WP.anyP 15 tysOk putInv_body rfl rfl rfl (by kernel_rfl) (by kernel_rfl) rfl rfl rfl rfl rfl True.intro ?_
      refine WP.any0 rfl (by kernel_rfl) ?_
      refine WP.stop rfl (A_o9_6_1, n_o9_6_1, c_o9_6_1, A_o9_7_1, (r_o9_7_1.supply.length), c_o9_7_1, A_o9_7_2, (r_o9_7_1.arcs.length), c_o9_7_2, Zp_o9_9_1, Zp_o9_9_2, Zn_o9_9_1, A_o9_9_1, c_o9_9_1, A_o9_9_2, c_o9_9_2, A_o9_9_3, c_o9_9_3, A_o9_9_4, c_o9_9_4, g_o9_13_1) ⟨hf_o9_6_1, hf_o9_7_1, hf_o9_7_2, hz_o9_9_1, hz_o9_9_2, hs_o9_9_1, hs_o9_9_2, hs_o9_9_3, hs_o9_9_4⟩ ?_ ?_
      ·repeat first|exact ⟨⟩|refine ⟨rfl,?_⟩
      exact Pick.all
     intro mm1
     refine WP.cutF (α := (Option Addr) × Nat × Nat × (Option Addr) × Nat × Nat × (Option Addr) × Nat × Nat) (fun x => OwF x.1 x.2.1 r_o9_6_1 ∧ OwF x.2.2.2.1 x.2.2.2.2.1 r_o9_7_1.supply ∧ OwF x.2.2.2.2.2.2.1 x.2.2.2.2.2.2.2.1 r_o9_7_1.arcs) #[true, true, true, true, true, true, true, true, true, false, false, false, false, false, false, false] 7 (fun x => [(2, pt g2), (43, .agg #[.slice A1 i1.supply.length c1, .slice A2 i1.arcs.length c2]), (50, .agg #[.slice x.2.2.2.1 x.2.2.2.2.1 x.2.2.2.2.2.1, .slice x.2.2.2.2.2.2.1 x.2.2.2.2.2.2.2.1 x.2.2.2.2.2.2.2.2]), (51, .agg #[iv r7.2.hi, .int .u64 (r7.2.lo)])]) (fun x => [Ow (fI .i64) 2 x.2.2.2.1 x.2.2.2.2.1 x.2.2.2.2.2.1 r_o9_7_1.supply, Ow fA 31 x.2.2.2.2.2.2.1 x.2.2.2.2.2.2.2.1 x.2.2.2.2.2.2.2.2 r_o9_7_1.arcs, Ow fB 4 x.1 x.2.1 x.2.2.1 r_o9_6_1, .blk g8 38 [iv r7.2.hi, .int .u64 (r7.2.lo)], .blk g7 25 [.slice A7 n8 c7, .slice A8 n9 c8], Ow (fI .i64) 2 A7 n8 c7 r7.1.supply, Ow fA 31 A8 n9 c8 r7.1.arcs, .blk g2 40 [sn, sn, iv 0, sn, sn, iv 0, .int .u64 (0), .bool (false)], .blk g1 25 [.slice A1 i1.supply.length c1, .slice A2 i1.arcs.length c2], .fz (PH.of w)]) rfl ?_ ?_
     ·rintro ⟨A_o9_6_1, n_o9_6_1, c_o9_6_1, A_o9_7_1, n_o9_7_1, c_o9_7_1, A_o9_7_2, n_o9_7_2, c_o9_7_2⟩ ⟨hf_o9_6_1, hf_o9_7_1, hf_o9_7_2⟩
      dsimp only at hf_o9_6_1 hf_o9_7_1 hf_o9_7_2 ⊢
      refine WP.any2 9 13 rfl (by kernel_rfl) rfl rfl ?_ ?_
      ·refine WP.freezeO .head hf_o9_7_1 ?_
       intro Zp_o9_9_1 hz_o9_9_1
       have hl_o9_9_1 := hf_o9_7_1.len
       subst hl_o9_9_1
       refine WP.freezeO (.tail .head) hf_o9_7_2 ?_
       intro Zp_o9_9_2 hz_o9_9_2
       have hl_o9_9_2 := hf_o9_7_2.len
       subst hl_o9_9_2
       refine WP.callS (ref15_Done_S (PH.or (PH.or Z Zp_o9_9_1) Zp_o9_9_2) r_o9_9_1) rfl rfl rfl rfl rfl rfl rfl (by kernel_rfl) (fun w1 hw1 => (ref15_Done_w (Z := (PH.or (PH.or Z Zp_o9_9_1) Zp_o9_9_2)) ((Held.or (Held.or (Held.sub (Held.mem (List.Mem.tail _ (List.Mem.tail _ (List.Mem.tail _ (List.Mem.tail _ (List.Mem.tail _ (List.Mem.tail _ (List.Mem.tail _ (List.Mem.tail _ (List.Mem.tail _ (List.Mem.head _))))))))))) hZ) (Held.mem (List.Mem.tail _ (List.Mem.head _)))) (Held.mem (List.Mem.head _))) _ _ hw1) hg_o9_9_1 (InsZ.mk_ ((hs1.le' (PH.le.trans (PH.le.trans PH.le.rfl_ (PH.le_or _ _)) (PH.le_or _ _))).of) ((hs2.le' (PH.le.trans (PH.le.trans PH.le.rfl_ (PH.le_or _ _)) (PH.le_or _ _))).of)) (InsZ.mk_ ((hz_o9_9_1.le' (PH.le.trans (PH.ri_or ((Held.sub (Held.mem (List.Mem.tail _ (List.Mem.tail _ (List.Mem.tail _ (List.Mem.tail _ (List.Mem.tail _ (List.Mem.tail _ (List.Mem.tail _ (List.Mem.tail _ (List.Mem.tail _ (List.Mem.head _))))))))))) hZ) _ _ hw1) ((Held.mem (List.Mem.tail _ (List.Mem.head _))) _ _ hw1)) (PH.le_or _ _))).of) ((hz_o9_9_2.le' (PH.ri_or ((Held.or (Held.sub (Held.mem (List.Mem.tail _ (List.Mem.tail _ (List.Mem.tail _ (List.Mem.tail _ (List.Mem.tail _ (List.Mem.tail _ (List.Mem.tail _ (List.Mem.tail _ (List.Mem.tail _ (List.Mem.head _))))))))))) hZ) (Held.mem (List.Mem.tail _ (List.Mem.head _)))) _ _ hw1) ((Held.mem (List.Mem.head _)) _ _ hw1))).of)) :)) ?_
       rintro _ _ ⟨Zn_o9_9_1, A_o9_9_1, _, c_o9_9_1, A_o9_9_2, _, c_o9_9_2, A_o9_9_3, _, c_o9_9_3, A_o9_9_4, _, c_o9_9_4, rfl, rfl, rfl, rfl, rfl, hs_o9_9_1, hs_o9_9_2, hs_o9_9_3, hs_o9_9_4, rfl⟩
       refine WP.anyP 10 tysOk putInv_body rfl rfl rfl (by kernel_rfl) (by kernel_rfl) rfl rfl rfl rfl rfl True.intro ?_
       refine WP.anyP 11 tysOk putInv_body rfl rfl rfl (by kernel_rfl) (by kernel_rfl) rfl rfl rfl rfl rfl True.intro ?_
       refine WP.anyP 12 tysOk putInv_body rfl rfl rfl (by kernel_rfl) (by kernel_rfl) rfl rfl rfl rfl rfl True.intro ?_
       refine WP.any1 13 rfl (by kernel_rfl) rfl ?_
       refine WP.al tysOk rfl rfl rfl rfl rfl rfl ?_
       intro g_o9_13_1
       refine WP.any1 14 rfl (by kernel_rfl) rfl ?_
       refine WP.sto' tysOk [.slice A_o9_9_1 r_o9_9_1.1.inst.supply.length c_o9_9_1, .slice A_o9_9_2 r_o9_9_1.1.inst.arcs.length c_o9_9_2, iv r_o9_9_1.1.rcd.pass, .slice A_o9_9_3 r_o9_9_1.1.rcd.was.supply.length c_o9_9_3, .slice A_o9_9_4 r_o9_9_1.1.rcd.was.arcs.length c_o9_9_4, iv r_o9_9_1.1.off.hi, .int .u64 (r_o9_9_1.1.off.lo), .bool (r_o9_9_1.1.did)] rfl rfl rfl rfl rfl rfl rfl rfl rfl .head rfl rfl ?_
       refine WP.anyP 15 tysOk putInv_body rfl rfl rfl (by kernel_rfl) (by kernel_rfl) rfl rfl rfl rfl rfl True.intro ?_
       refine WP.any0 rfl (by kernel_rfl) ?_
       refine WP.stop rfl (A_o9_6_1, n_o9_6_1, c_o9_6_1, A_o9_7_1, (r_o9_7_1.supply.length), c_o9_7_1, A_o9_7_2, (r_o9_7_1.arcs.length), c_o9_7_2, Zp_o9_9_1, Zp_o9_9_2, Zn_o9_9_1, A_o9_9_1, c_o9_9_1, A_o9_9_2, c_o9_9_2, A_o9_9_3, c_o9_9_3, A_o9_9_4, c_o9_9_4, g_o9_13_1) ⟨hf_o9_6_1, hf_o9_7_1, hf_o9_7_2, hz_o9_9_1, hz_o9_9_2, hs_o9_9_1, hs_o9_9_2, hs_o9_9_3, hs_o9_9_4⟩ ?_ ?_
       ·repeat first|exact ⟨⟩|refine ⟨rfl,?_⟩
       exact Pick.all
      refine WP.al tysOk rfl rfl rfl rfl rfl rfl ?_
      intro g_o9_13_1
      refine WP.useF mm1 (A_o9_6_1, n_o9_6_1, c_o9_6_1, A_o9_7_1, n_o9_7_1, c_o9_7_1, A_o9_7_2, n_o9_7_2, c_o9_7_2, g_o9_13_1) ⟨hf_o9_6_1, hf_o9_7_1, hf_o9_7_2⟩ rfl (by kernel_rfl) ?_ ?_
      ·repeat first|exact ⟨⟩|refine ⟨rfl,?_⟩
      exact Pick.all
     intro mm2
     refine WP.cutF (α := (Option Addr) × Nat × Nat × Nat) (fun x => OwF x.1 x.2.1 r_o9_6_1) #[true, true, true, true, true, true, true, false, true, false, false, false, false, true, false, false] 7 (fun x => [(2, pt g2), (11, pt x.2.2.2), (43, .agg #[.slice A1 i1.supply.length c1, .slice A2 i1.arcs.length c2]), (44, .agg #[.slice A7 n8 c7, .slice A8 n9 c8]), (49, .slice x.1 x.2.1 x.2.2.1), (51, .agg #[iv r7.2.hi, .int .u64 (r7.2.lo)])]) (fun x => [.blk x.2.2.2 40 [sn, sn, iv 0, sn, sn, iv 0, .int .u64 (0), .bool (false)], Ow fB 4 x.1 x.2.1 x.2.2.1 r_o9_6_1, .blk g8 38 [iv r7.2.hi, .int .u64 (r7.2.lo)], .blk g7 25 [.slice A7 n8 c7, .slice A8 n9 c8], Ow (fI .i64) 2 A7 n8 c7 r7.1.supply, Ow fA 31 A8 n9 c8 r7.1.arcs, .blk g2 40 [sn, sn, iv 0, sn, sn, iv 0, .int .u64 (0), .bool (false)], .blk g1 25 [.slice A1 i1.supply.length c1, .slice A2 i1.arcs.length c2], .fz (PH.of w)]) rfl ?_ ?_
     ·rintro ⟨A_o9_6_1, n_o9_6_1, c_o9_6_1, g_o9_13_1⟩ hf_o9_6_1
      dsimp only at hf_o9_6_1 ⊢
      refine WP.any1 7 rfl (by kernel_rfl) rfl ?_
      refine WP.callS (ref03_Without_S r_o9_7_1) rfl rfl rfl rfl rfl rfl rfl (by kernel_rfl) (fun w1 hw1 => (ref03_Without_w hg_o9_7_1 (InsZ.mk_ (hw1.ow (.tail (.tail (.tail (.tail .head)))) hf5) (hw1.ow (.tail (.tail (.tail (.tail (.tail .head))))) hf6)) (hw1.ow (.tail .head) hf_o9_6_1) SlF.nil_ :)) ?_
      rintro _ _ ⟨A_o9_7_1, n_o9_7_1, c_o9_7_1, A_o9_7_2, n_o9_7_2, c_o9_7_2, rfl, hf_o9_7_1, hf_o9_7_2, rfl⟩
      refine WP.useF mm1 (A_o9_6_1, n_o9_6_1, c_o9_6_1, A_o9_7_1, n_o9_7_1, c_o9_7_1, A_o9_7_2, n_o9_7_2, c_o9_7_2, g_o9_13_1) ⟨hf_o9_6_1, hf_o9_7_1, hf_o9_7_2⟩ rfl (by kernel_rfl) ?_ ?_
      ·repeat first|exact ⟨⟩|refine ⟨rfl,?_⟩
      exact (.cons (.tail (.tail .head)) (.cons .head (.cons .head (.cons .head (.cons .head (.cons .head (.cons .head (.cons .head (.cons .head (.cons .head (.cons .head .nil)))))))))))
     intro mm3
     refine WP.cutF (α := (Option Addr) × Nat × Nat × (Option Addr) × Nat × Nat × (Option Addr) × Nat × Nat) (fun x => OwF x.1 x.2.1 r_o9_6_1 ∧ OwF x.2.2.2.1 x.2.2.2.2.1 r_o9_7_1.supply ∧ OwF x.2.2.2.2.2.2.1 x.2.2.2.2.2.2.2.1 r_o9_7_1.arcs) #[true, true, true, true, true, true, true, true, false, false, false, false, false, false, false, false] 8 (fun x => [(2, pt g2), (10, pt g8), (43, .agg #[.slice A1 i1.supply.length c1, .slice A2 i1.arcs.length c2]), (50, .agg #[.slice x.2.2.2.1 x.2.2.2.2.1 x.2.2.2.2.2.1, .slice x.2.2.2.2.2.2.1 x.2.2.2.2.2.2.2.1 x.2.2.2.2.2.2.2.2])]) (fun x => [Ow (fI .i64) 2 x.2.2.2.1 x.2.2.2.2.1 x.2.2.2.2.2.1 r_o9_7_1.supply, Ow fA 31 x.2.2.2.2.2.2.1 x.2.2.2.2.2.2.2.1 x.2.2.2.2.2.2.2.2 r_o9_7_1.arcs, Ow fB 4 x.1 x.2.1 x.2.2.1 r_o9_6_1, .blk g8 38 [iv r7.2.hi, .int .u64 (r7.2.lo)], .blk g7 25 [.slice A7 n8 c7, .slice A8 n9 c8], Ow (fI .i64) 2 A7 n8 c7 r7.1.supply, Ow fA 31 A8 n9 c8 r7.1.arcs, .blk g2 40 [sn, sn, iv 0, sn, sn, iv 0, .int .u64 (0), .bool (false)], .blk g1 25 [.slice A1 i1.supply.length c1, .slice A2 i1.arcs.length c2], .fz (PH.of w)]) rfl ?_ ?_
     ·rintro ⟨A_o9_6_1, n_o9_6_1, c_o9_6_1, A_o9_7_1, n_o9_7_1, c_o9_7_1, A_o9_7_2, n_o9_7_2, c_o9_7_2⟩ ⟨hf_o9_6_1, hf_o9_7_1, hf_o9_7_2⟩
      dsimp only at hf_o9_6_1 hf_o9_7_1 hf_o9_7_2 ⊢
      refine WP.any2 8 13 rfl (by kernel_rfl) rfl rfl ?_ ?_
      ·refine WP.mx_ tysOk rfl ⟨⟩ (SegAt.blk' (.tail (.tail (.tail .head))) rfl) ?_
       refine WP.useF mm2 (A_o9_6_1, n_o9_6_1, c_o9_6_1, A_o9_7_1, n_o9_7_1, c_o9_7_1, A_o9_7_2, n_o9_7_2, c_o9_7_2) ⟨hf_o9_6_1, hf_o9_7_1, hf_o9_7_2⟩ rfl (by kernel_rfl) ?_ ?_
       ·repeat first|exact ⟨⟩|refine ⟨rfl,?_⟩
       exact Pick.all
      refine WP.al tysOk rfl rfl rfl rfl rfl rfl ?_
      intro g_o9_13_1
      refine WP.any1 8 rfl (by kernel_rfl) rfl ?_
      refine WP.mx_ tysOk rfl ⟨⟩ (SegAt.blk' (.tail (.tail (.tail (.tail .head)))) rfl) ?_
      refine WP.useF mm1 (A_o9_6_1, n_o9_6_1, c_o9_6_1, A_o9_7_1, n_o9_7_1, c_o9_7_1, A_o9_7_2, n_o9_7_2, c_o9_7_2, g_o9_13_1) ⟨hf_o9_6_1, hf_o9_7_1, hf_o9_7_2⟩ rfl (by kernel_rfl) ?_ ?_
      ·repeat first|exact ⟨⟩|refine ⟨rfl,?_⟩
      exact Pick.all
     intro mm4
     refine WP.cutF (α := (Option Addr) × Nat × Nat) (fun x => OwF x.1 x.2.1 r_o9_6_1) #[true, true, true, true, true, true, true, false, true, false, false, false, false, false, false, false] 8 (fun x => [(2, pt g2), (43, .agg #[.slice A1 i1.supply.length c1, .slice A2 i1.arcs.length c2]), (44, .agg #[.slice A7 n8 c7, .slice A8 n9 c8]), (49, .slice x.1 x.2.1 x.2.2), (51, .agg #[iv r7.2.hi, .int .u64 (r7.2.lo)])]) (fun x => [Ow fB 4 x.1 x.2.1 x.2.2 r_o9_6_1, .blk g8 38 [iv r7.2.hi, .int .u64 (r7.2.lo)], .blk g7 25 [.slice A7 n8 c7, .slice A8 n9 c8], Ow (fI .i64) 2 A7 n8 c7 r7.1.supply, Ow fA 31 A8 n9 c8 r7.1.arcs, .blk g2 40 [sn, sn, iv 0, sn, sn, iv 0, .int .u64 (0), .bool (false)], .blk g1 25 [.slice A1 i1.supply.length c1, .slice A2 i1.arcs.length c2], .fz (PH.of w)]) rfl ?_ ?_
     ·rintro ⟨A_o9_6_1, n_o9_6_1, c_o9_6_1⟩ hf_o9_6_1
      dsimp only at hf_o9_6_1 ⊢
      refine WP.any2 7 13 rfl (by kernel_rfl) rfl rfl ?_ ?_
      ·refine WP.callS (ref03_Without_S r_o9_7_1) rfl rfl rfl rfl rfl rfl rfl (by kernel_rfl) (fun w1 hw1 => (ref03_Without_w hg_o9_7_1 (InsZ.mk_ (hw1.ow (.tail (.tail (.tail .head))) hf5) (hw1.ow (.tail (.tail (.tail (.tail .head)))) hf6)) (hw1.ow .head hf_o9_6_1) SlF.nil_ :)) ?_
       rintro _ _ ⟨A_o9_7_1, n_o9_7_1, c_o9_7_1, A_o9_7_2, n_o9_7_2, c_o9_7_2, rfl, hf_o9_7_1, hf_o9_7_2, rfl⟩
       refine WP.useF mm2 (A_o9_6_1, n_o9_6_1, c_o9_6_1, A_o9_7_1, n_o9_7_1, c_o9_7_1, A_o9_7_2, n_o9_7_2, c_o9_7_2) ⟨hf_o9_6_1, hf_o9_7_1, hf_o9_7_2⟩ rfl (by kernel_rfl) ?_ ?_
       ·repeat first|exact ⟨⟩|refine ⟨rfl,?_⟩
       exact Pick.all
      refine WP.al tysOk rfl rfl rfl rfl rfl rfl ?_
      intro g_o9_13_1
      refine WP.useF mm3 (A_o9_6_1, n_o9_6_1, c_o9_6_1, g_o9_13_1) hf_o9_6_1 rfl (by kernel_rfl) ?_ ?_
      ·repeat first|exact ⟨⟩|refine ⟨rfl,?_⟩
      exact Pick.all
     intro mm5
     refine WP.cutF (α := (Option Addr) × Nat × Nat × Nat) (fun x => OwF x.1 x.2.1 r_o9_6_1) #[true, true, true, true, true, true, true, false, false, false, false, false, false, true, false, false] 8 (fun x => [(2, pt g2), (10, pt g8), (11, pt x.2.2.2), (43, .agg #[.slice A1 i1.supply.length c1, .slice A2 i1.arcs.length c2]), (44, .agg #[.slice A7 n8 c7, .slice A8 n9 c8]), (49, .slice x.1 x.2.1 x.2.2.1)]) (fun x => [.blk x.2.2.2 40 [sn, sn, iv 0, sn, sn, iv 0, .int .u64 (0), .bool (false)], Ow fB 4 x.1 x.2.1 x.2.2.1 r_o9_6_1, .blk g8 38 [iv r7.2.hi, .int .u64 (r7.2.lo)], .blk g7 25 [.slice A7 n8 c7, .slice A8 n9 c8], Ow (fI .i64) 2 A7 n8 c7 r7.1.supply, Ow fA 31 A8 n9 c8 r7.1.arcs, .blk g2 40 [sn, sn, iv 0, sn, sn, iv 0, .int .u64 (0), .bool (false)], .blk g1 25 [.slice A1 i1.supply.length c1, .slice A2 i1.arcs.length c2], .fz (PH.of w)]) rfl ?_ ?_
     ·rintro ⟨A_o9_6_1, n_o9_6_1, c_o9_6_1, g_o9_13_1⟩ hf_o9_6_1
      dsimp only at hf_o9_6_1 ⊢
      refine WP.any2 7 8 rfl (by kernel_rfl) rfl rfl ?_ ?_
      ·refine WP.callS (ref03_Without_S r_o9_7_1) rfl rfl rfl rfl rfl rfl rfl (by kernel_rfl) (fun w1 hw1 => (ref03_Without_w hg_o9_7_1 (InsZ.mk_ (hw1.ow (.tail (.tail (.tail (.tail .head)))) hf5) (hw1.ow (.tail (.tail (.tail (.tail (.tail .head))))) hf6)) (hw1.ow (.tail .head) hf_o9_6_1) SlF.nil_ :)) ?_
       rintro _ _ ⟨A_o9_7_1, n_o9_7_1, c_o9_7_1, A_o9_7_2, n_o9_7_2, c_o9_7_2, rfl, hf_o9_7_1, hf_o9_7_2, rfl⟩
       refine WP.any1 8 rfl (by kernel_rfl) rfl ?_
       refine WP.mx_ tysOk rfl ⟨⟩ (SegAt.blk' (.tail (.tail (.tail (.tail .head)))) rfl) ?_
       refine WP.useF mm1 (A_o9_6_1, n_o9_6_1, c_o9_6_1, A_o9_7_1, n_o9_7_1, c_o9_7_1, A_o9_7_2, n_o9_7_2, c_o9_7_2, g_o9_13_1) ⟨hf_o9_6_1, hf_o9_7_1, hf_o9_7_2⟩ rfl (by kernel_rfl) ?_ ?_
       ·repeat first|exact ⟨⟩|refine ⟨rfl,?_⟩
       exact (.cons (.tail (.tail .head)) (.cons .head (.cons .head (.cons .head (.cons .head (.cons .head (.cons .head (.cons .head (.cons .head (.cons .head (.cons .head .nil)))))))))))
      refine WP.mx_ tysOk rfl ⟨⟩ (SegAt.blk' (.tail (.tail .head)) rfl) ?_
      refine WP.useF mm3 (A_o9_6_1, n_o9_6_1, c_o9_6_1, g_o9_13_1) hf_o9_6_1 rfl (by kernel_rfl) ?_ ?_
      ·repeat first|exact ⟨⟩|refine ⟨rfl,?_⟩
      exact Pick.all
     intro mm6
     refine WP.cutF (α := Nat) (fun x => True) #[true, true, true, true, true, true, false, false, true, false, false, false, false, true, false, false] 8 (fun x => [(2, pt g2), (11, pt x), (43, .agg #[.slice A1 i1.supply.length c1, .slice A2 i1.arcs.length c2]), (44, .agg #[.slice A7 n8 c7, .slice A8 n9 c8]), (47, iv (i1.supply.length : Int)), (48, iv n6), (51, .agg #[iv r7.2.hi, .int .u64 (r7.2.lo)])]) (fun x => [.blk x 40 [sn, sn, iv 0, sn, sn, iv 0, .int .u64 (0), .bool (false)], .blk g8 38 [iv r7.2.hi, .int .u64 (r7.2.lo)], .blk g7 25 [.slice A7 n8 c7, .slice A8 n9 c8], Ow (fI .i64) 2 A7 n8 c7 r7.1.supply, Ow fA 31 A8 n9 c8 r7.1.arcs, .blk g2 40 [sn, sn, iv 0, sn, sn, iv 0, .int .u64 (0), .bool (false)], .blk g1 25 [.slice A1 i1.supply.length c1, .slice A2 i1.arcs.length c2], .fz (PH.of w)]) rfl ?_ ?_
     ·rintro g_o9_13_1 _
      refine WP.any1 6 rfl (by kernel_rfl) rfl ?_
      refine WP.callS (ref17_one_S r_o9_6_1) rfl rfl rfl rfl rfl rfl rfl (by kernel_rfl) (fun w1 hw1 => (ref17_one_w hg_o9_6_1  :)) ?_
      rintro _ _ ⟨A_o9_6_1, n_o9_6_1, c_o9_6_1, rfl, hf_o9_6_1, rfl⟩
      refine WP.useF mm3 (A_o9_6_1, n_o9_6_1, c_o9_6_1, g_o9_13_1) hf_o9_6_1 rfl (by kernel_rfl) ?_ ?_
      ·repeat first|exact ⟨⟩|refine ⟨rfl,?_⟩
      exact (.cons (.tail .head) (.cons .head (.cons .head (.cons .head (.cons .head (.cons .head (.cons .head (.cons .head (.cons .head .nil)))))))))
     intro mm7
     refine WP.cutF (α := (Option Addr) × Nat × Nat × Nat) (fun x => OwF x.1 x.2.1 r_o9_6_1) #[true, false, true, true, true, true, true, false, true, false, false, false, false, true, false, false] 8 (fun x => [(2, pt g2), (9, pt g7), (11, pt x.2.2.2), (43, .agg #[.slice A1 i1.supply.length c1, .slice A2 i1.arcs.length c2]), (49, .slice x.1 x.2.1 x.2.2.1), (51, .agg #[iv r7.2.hi, .int .u64 (r7.2.lo)])]) (fun x => [.blk x.2.2.2 40 [sn, sn, iv 0, sn, sn, iv 0, .int .u64 (0), .bool (false)], Ow fB 4 x.1 x.2.1 x.2.2.1 r_o9_6_1, .blk g8 38 [iv r7.2.hi, .int .u64 (r7.2.lo)], .blk g7 25 [.slice A7 n8 c7, .slice A8 n9 c8], Ow (fI .i64) 2 A7 n8 c7 r7.1.supply, Ow fA 31 A8 n9 c8 r7.1.arcs, .blk g2 40 [sn, sn, iv 0, sn, sn, iv 0, .int .u64 (0), .bool (false)], .blk g1 25 [.slice A1 i1.supply.length c1, .slice A2 i1.arcs.length c2], .fz (PH.of w)]) rfl ?_ ?_
     ·rintro ⟨A_o9_6_1, n_o9_6_1, c_o9_6_1, g_o9_13_1⟩ hf_o9_6_1
      dsimp only at hf_o9_6_1 ⊢
      refine WP.any1 1 rfl (by kernel_rfl) rfl ?_
      refine WP.mx_ tysOk rfl ⟨⟩ (SegAt.blk' (.tail (.tail (.tail .head))) rfl) ?_
      refine WP.useF mm3 (A_o9_6_1, n_o9_6_1, c_o9_6_1, g_o9_13_1) hf_o9_6_1 rfl (by kernel_rfl) ?_ ?_
      ·repeat first|exact ⟨⟩|refine ⟨rfl,?_⟩
      exact Pick.all
     intro mm8
     refine WP.cutF (α := (Option Addr) × Nat × Nat × (Option Addr) × Nat × Nat × (Option Addr) × Nat × Nat) (fun x => OwF x.1 x.2.1 r_o9_6_1 ∧ OwF x.2.2.2.1 x.2.2.2.2.1 r_o9_7_1.supply ∧ OwF x.2.2.2.2.2.2.1 x.2.2.2.2.2.2.2.1 r_o9_7_1.arcs) #[false, true, true, true, true, true, true, true, true, false, false, false, false, false, false, false] 8 (fun x => [(1, pt g1), (2, pt g2), (50, .agg #[.slice x.2.2.2.1 x.2.2.2.2.1 x.2.2.2.2.2.1, .slice x.2.2.2.2.2.2.1 x.2.2.2.2.2.2.2.1 x.2.2.2.2.2.2.2.2]), (51, .agg #[iv r7.2.hi, .int .u64 (r7.2.lo)])]) (fun x => [Ow (fI .i64) 2 x.2.2.2.1 x.2.2.2.2.1 x.2.2.2.2.2.1 r_o9_7_1.supply, Ow fA 31 x.2.2.2.2.2.2.1 x.2.2.2.2.2.2.2.1 x.2.2.2.2.2.2.2.2 r_o9_7_1.arcs, Ow fB 4 x.1 x.2.1 x.2.2.1 r_o9_6_1, .blk g8 38 [iv r7.2.hi, .int .u64 (r7.2.lo)], .blk g7 25 [.slice A7 n8 c7, .slice A8 n9 c8], Ow (fI .i64) 2 A7 n8 c7 r7.1.supply, Ow fA 31 A8 n9 c8 r7.1.arcs, .blk g2 40 [sn, sn, iv 0, sn, sn, iv 0, .int .u64 (0), .bool (false)], .blk g1 25 [.slice A1 i1.supply.length c1, .slice A2 i1.arcs.length c2], .fz (PH.of w)]) rfl ?_ ?_
     ·rintro ⟨A_o9_6_1, n_o9_6_1, c_o9_6_1, A_o9_7_1, n_o9_7_1, c_o9_7_1, A_o9_7_2, n_o9_7_2, c_o9_7_2⟩ ⟨hf_o9_6_1, hf_o9_7_1, hf_o9_7_2⟩
      dsimp only at hf_o9_6_1 hf_o9_7_1 hf_o9_7_2 ⊢
      refine WP.any2 0 13 rfl (by kernel_rfl) rfl rfl ?_ ?_
      ·refine WP.mx_ tysOk rfl ⟨⟩ (SegAt.blk' (.tail (.tail (.tail (.tail (.tail (.tail (.tail (.tail .head)))))))) rfl) ?_
       refine WP.useF mm2 (A_o9_6_1, n_o9_6_1, c_o9_6_1, A_o9_7_1, n_o9_7_1, c_o9_7_1, A_o9_7_2, n_o9_7_2, c_o9_7_2) ⟨hf_o9_6_1, hf_o9_7_1, hf_o9_7_2⟩ rfl (by kernel_rfl) ?_ ?_
       ·repeat first|exact ⟨⟩|refine ⟨rfl,?_⟩
       exact Pick.all
      refine WP.al tysOk rfl rfl rfl rfl rfl rfl ?_
      intro g_o9_13_1
      refine WP.any1 0 rfl (by kernel_rfl) rfl ?_
      refine WP.mx_ tysOk rfl ⟨⟩ (SegAt.blk' (.tail (.tail (.tail (.tail (.tail (.tail (.tail (.tail (.tail .head))))))))) rfl) ?_
      refine WP.useF mm1 (A_o9_6_1, n_o9_6_1, c_o9_6_1, A_o9_7_1, n_o9_7_1, c_o9_7_1, A_o9_7_2, n_o9_7_2, c_o9_7_2, g_o9_13_1) ⟨hf_o9_6_1, hf_o9_7_1, hf_o9_7_2⟩ rfl (by kernel_rfl) ?_ ?_
      ·repeat first|exact ⟨⟩|refine ⟨rfl,?_⟩
      exact Pick.all
     intro mm9
     refine WP.cutF (α := (Option Addr) × Nat × Nat × (Option Addr) × Nat × Nat × (Option Addr) × Nat × Nat × Nat) (fun x => OwF x.1 x.2.1 r_o9_6_1 ∧ OwF x.2.2.2.1 x.2.2.2.2.1 r_o9_7_1.supply ∧ OwF x.2.2.2.2.2.2.1 x.2.2.2.2.2.2.2.1 r_o9_7_1.arcs) #[false, true, true, true, true, true, true, true, false, false, false, false, false, true, false, false] 8 (fun x => [(1, pt g1), (2, pt g2), (10, pt g8), (11, pt x.2.2.2.2.2.2.2.2.2), (50, .agg #[.slice x.2.2.2.1 x.2.2.2.2.1 x.2.2.2.2.2.1, .slice x.2.2.2.2.2.2.1 x.2.2.2.2.2.2.2.1 x.2.2.2.2.2.2.2.2.1])]) (fun x => [.blk x.2.2.2.2.2.2.2.2.2 40 [sn, sn, iv 0, sn, sn, iv 0, .int .u64 (0), .bool (false)], Ow (fI .i64) 2 x.2.2.2.1 x.2.2.2.2.1 x.2.2.2.2.2.1 r_o9_7_1.supply, Ow fA 31 x.2.2.2.2.2.2.1 x.2.2.2.2.2.2.2.1 x.2.2.2.2.2.2.2.2.1 r_o9_7_1.arcs, Ow fB 4 x.1 x.2.1 x.2.2.1 r_o9_6_1, .blk g8 38 [iv r7.2.hi, .int .u64 (r7.2.lo)], .blk g7 25 [.slice A7 n8 c7, .slice A8 n9 c8], Ow (fI .i64) 2 A7 n8 c7 r7.1.supply, Ow fA 31 A8 n9 c8 r7.1.arcs, .blk g2 40 [sn, sn, iv 0, sn, sn, iv 0, .int .u64 (0), .bool (false)], .blk g1 25 [.slice A1 i1.supply.length c1, .slice A2 i1.arcs.length c2], .fz (PH.of w)]) rfl ?_ ?_
     ·rintro ⟨A_o9_6_1, n_o9_6_1, c_o9_6_1, A_o9_7_1, n_o9_7_1, c_o9_7_1, A_o9_7_2, n_o9_7_2, c_o9_7_2, g_o9_13_1⟩ ⟨hf_o9_6_1, hf_o9_7_1, hf_o9_7_2⟩
      dsimp only at hf_o9_6_1 hf_o9_7_1 hf_o9_7_2 ⊢
      refine WP.any2 0 8 rfl (by kernel_rfl) rfl rfl ?_ ?_
      ·refine WP.mx_ tysOk rfl ⟨⟩ (SegAt.blk' (.tail (.tail (.tail (.tail (.tail (.tail (.tail (.tail (.tail .head))))))))) rfl) ?_
       refine WP.any1 8 rfl (by kernel_rfl) rfl ?_
       refine WP.mx_ tysOk rfl ⟨⟩ (SegAt.blk' (.tail (.tail (.tail (.tail .head)))) rfl) ?_
       refine WP.useF mm1 (A_o9_6_1, n_o9_6_1, c_o9_6_1, A_o9_7_1, n_o9_7_1, c_o9_7_1, A_o9_7_2, n_o9_7_2, c_o9_7_2, g_o9_13_1) ⟨hf_o9_6_1, hf_o9_7_1, hf_o9_7_2⟩ rfl (by kernel_rfl) ?_ ?_
       ·repeat first|exact ⟨⟩|refine ⟨rfl,?_⟩
       exact Pick.all
      refine WP.mx_ tysOk rfl ⟨⟩ (SegAt.blk' (.tail (.tail (.tail (.tail .head)))) rfl) ?_
      refine WP.any1 0 rfl (by kernel_rfl) rfl ?_
      refine WP.mx_ tysOk rfl ⟨⟩ (SegAt.blk' (.tail (.tail (.tail (.tail (.tail (.tail (.tail (.tail (.tail .head))))))))) rfl) ?_
      refine WP.useF mm1 (A_o9_6_1, n_o9_6_1, c_o9_6_1, A_o9_7_1, n_o9_7_1, c_o9_7_1, A_o9_7_2, n_o9_7_2, c_o9_7_2, g_o9_13_1) ⟨hf_o9_6_1, hf_o9_7_1, hf_o9_7_2⟩ rfl (by kernel_rfl) ?_ ?_
      ·repeat first|exact ⟨⟩|refine ⟨rfl,?_⟩
      exact Pick.all
     intro mm10
     refine WP.cutF (α := (Option Addr) × Nat × Nat × Nat) (fun x => OwF x.1 x.2.1 r_o9_6_1) #[false, true, true, true, true, true, true, false, true, false, false, false, false, true, false, false] 8 (fun x => [(1, pt g1), (2, pt g2), (11, pt x.2.2.2), (44, .agg #[.slice A7 n8 c7, .slice A8 n9 c8]), (49, .slice x.1 x.2.1 x.2.2.1), (51, .agg #[iv r7.2.hi, .int .u64 (r7.2.lo)])]) (fun x => [.blk x.2.2.2 40 [sn, sn, iv 0, sn, sn, iv 0, .int .u64 (0), .bool (false)], Ow fB 4 x.1 x.2.1 x.2.2.1 r_o9_6_1, .blk g8 38 [iv r7.2.hi, .int .u64 (r7.2.lo)], .blk g7 25 [.slice A7 n8 c7, .slice A8 n9 c8], Ow (fI .i64) 2 A7 n8 c7 r7.1.supply, Ow fA 31 A8 n9 c8 r7.1.arcs, .blk g2 40 [sn, sn, iv 0, sn, sn, iv 0, .int .u64 (0), .bool (false)], .blk g1 25 [.slice A1 i1.supply.length c1, .slice A2 i1.arcs.length c2], .fz (PH.of w)]) rfl ?_ ?_
     ·rintro ⟨A_o9_6_1, n_o9_6_1, c_o9_6_1, g_o9_13_1⟩ hf_o9_6_1
      dsimp only at hf_o9_6_1 ⊢
      refine WP.any2 0 7 rfl (by kernel_rfl) rfl rfl ?_ ?_
      ·refine WP.mx_ tysOk rfl ⟨⟩ (SegAt.blk' (.tail (.tail (.tail (.tail (.tail (.tail (.tail .head))))))) rfl) ?_
       refine WP.useF mm3 (A_o9_6_1, n_o9_6_1, c_o9_6_1, g_o9_13_1) hf_o9_6_1 rfl (by kernel_rfl) ?_ ?_
       ·repeat first|exact ⟨⟩|refine ⟨rfl,?_⟩
       exact Pick.all
      refine WP.callS (ref03_Without_S r_o9_7_1) rfl rfl rfl rfl rfl rfl rfl (by kernel_rfl) (fun w1 hw1 => (ref03_Without_w hg_o9_7_1 (InsZ.mk_ (hw1.ow (.tail (.tail (.tail (.tail .head)))) hf5) (hw1.ow (.tail (.tail (.tail (.tail (.tail .head))))) hf6)) (hw1.ow (.tail .head) hf_o9_6_1) SlF.nil_ :)) ?_
      rintro _ _ ⟨A_o9_7_1, n_o9_7_1, c_o9_7_1, A_o9_7_2, n_o9_7_2, c_o9_7_2, rfl, hf_o9_7_1, hf_o9_7_2, rfl⟩
      refine WP.any1 0 rfl (by kernel_rfl) rfl ?_
      refine WP.mx_ tysOk rfl ⟨⟩ (SegAt.blk' (.tail (.tail (.tail (.tail (.tail (.tail (.tail (.tail (.tail .head))))))))) rfl) ?_
      refine WP.useF mm1 (A_o9_6_1, n_o9_6_1, c_o9_6_1, A_o9_7_1, n_o9_7_1, c_o9_7_1, A_o9_7_2, n_o9_7_2, c_o9_7_2, g_o9_13_1) ⟨hf_o9_6_1, hf_o9_7_1, hf_o9_7_2⟩ rfl (by kernel_rfl) ?_ ?_
      ·repeat first|exact ⟨⟩|refine ⟨rfl,?_⟩
      exact (.cons (.tail (.tail .head)) (.cons .head (.cons .head (.cons .head (.cons .head (.cons .head (.cons .head (.cons .head (.cons .head (.cons .head (.cons .head .nil)))))))))))
     intro mm11
     refine WP.cutF (α := (Option Addr) × Nat × Nat) (fun x => OwF x.1 x.2.1 r_o9_6_1) #[true, true, true, true, true, true, true, false, false, false, false, false, false, false, false, false] 9 (fun x => [(2, pt g2), (10, pt g8), (43, .agg #[.slice A1 i1.supply.length c1, .slice A2 i1.arcs.length c2]), (44, .agg #[.slice A7 n8 c7, .slice A8 n9 c8]), (49, .slice x.1 x.2.1 x.2.2)]) (fun x => [Ow fB 4 x.1 x.2.1 x.2.2 r_o9_6_1, .blk g8 38 [iv r7.2.hi, .int .u64 (r7.2.lo)], .blk g7 25 [.slice A7 n8 c7, .slice A8 n9 c8], Ow (fI .i64) 2 A7 n8 c7 r7.1.supply, Ow fA 31 A8 n9 c8 r7.1.arcs, .blk g2 40 [sn, sn, iv 0, sn, sn, iv 0, .int .u64 (0), .bool (false)], .blk g1 25 [.slice A1 i1.supply.length c1, .slice A2 i1.arcs.length c2], .fz (PH.of w)]) rfl ?_ ?_
     ·rintro ⟨A_o9_6_1, n_o9_6_1, c_o9_6_1⟩ hf_o9_6_1
      dsimp only at hf_o9_6_1 ⊢
      refine WP.any3 7 8 13 rfl (by kernel_rfl) rfl rfl rfl ?_ ?_ ?_
      ·refine WP.callS (ref03_Without_S r_o9_7_1) rfl rfl rfl rfl rfl rfl rfl (by kernel_rfl) (fun w1 hw1 => (ref03_Without_w hg_o9_7_1 (InsZ.mk_ (hw1.ow (.tail (.tail (.tail .head))) hf5) (hw1.ow (.tail (.tail (.tail (.tail .head)))) hf6)) (hw1.ow .head hf_o9_6_1) SlF.nil_ :)) ?_
       rintro _ _ ⟨A_o9_7_1, n_o9_7_1, c_o9_7_1, A_o9_7_2, n_o9_7_2, c_o9_7_2, rfl, hf_o9_7_1, hf_o9_7_2, rfl⟩
       refine WP.useF mm4 (A_o9_6_1, n_o9_6_1, c_o9_6_1, A_o9_7_1, n_o9_7_1, c_o9_7_1, A_o9_7_2, n_o9_7_2, c_o9_7_2) ⟨hf_o9_6_1, hf_o9_7_1, hf_o9_7_2⟩ rfl (by kernel_rfl) ?_ ?_
       ·repeat first|exact ⟨⟩|refine ⟨rfl,?_⟩
       exact Pick.all
      ·refine WP.mx_ tysOk rfl ⟨⟩ (SegAt.blk' (.tail .head) rfl) ?_
       refine WP.useF mm5 (A_o9_6_1, n_o9_6_1, c_o9_6_1) hf_o9_6_1 rfl (by kernel_rfl) ?_ ?_
       ·repeat first|exact ⟨⟩|refine ⟨rfl,?_⟩
       exact Pick.all
      refine WP.al tysOk rfl rfl rfl rfl rfl rfl ?_
      intro g_o9_13_1
      refine WP.useF mm6 (A_o9_6_1, n_o9_6_1, c_o9_6_1, g_o9_13_1) hf_o9_6_1 rfl (by kernel_rfl) ?_ ?_
      ·repeat first|exact ⟨⟩|refine ⟨rfl,?_⟩
      exact Pick.all
     intro mm12
     refine WP.cutF (α := Unit) (fun x => True) #[true, true, true, true, true, true, false, false, true, false, false, false, false, false, false, false] 9 (fun x => [(2, pt g2), (43, .agg #[.slice A1 i1.supply.length c1, .slice A2 i1.arcs.length c2]), (44, .agg #[.slice A7 n8 c7, .slice A8 n9 c8]), (47, iv (i1.supply.length : Int)), (48, iv n6), (51, .agg #[iv r7.2.hi, .int .u64 (r7.2.lo)])]) (fun x => [.blk g8 38 [iv r7.2.hi, .int .u64 (r7.2.lo)], .blk g7 25 [.slice A7 n8 c7, .slice A8 n9 c8], Ow (fI .i64) 2 A7 n8 c7 r7.1.supply, Ow fA 31 A8 n9 c8 r7.1.arcs, .blk g2 40 [sn, sn, iv 0, sn, sn, iv 0, .int .u64 (0), .bool (false)], .blk g1 25 [.slice A1 i1.supply.length c1, .slice A2 i1.arcs.length c2], .fz (PH.of w)]) rfl ?_ ?_
     ·rintro _ _
      refine WP.any2 6 13 rfl (by kernel_rfl) rfl rfl ?_ ?_
      ·refine WP.callS (ref17_one_S r_o9_6_1) rfl rfl rfl rfl rfl rfl rfl (by kernel_rfl) (fun w1 hw1 => (ref17_one_w hg_o9_6_1  :)) ?_
       rintro _ _ ⟨A_o9_6_1, n_o9_6_1, c_o9_6_1, rfl, hf_o9_6_1, rfl⟩
       refine WP.useF mm5 (A_o9_6_1, n_o9_6_1, c_o9_6_1) hf_o9_6_1 rfl (by kernel_rfl) ?_ ?_
       ·repeat first|exact ⟨⟩|refine ⟨rfl,?_⟩
       exact Pick.all
      refine WP.al tysOk rfl rfl rfl rfl rfl rfl ?_
      intro g_o9_13_1
      refine WP.useF mm7 g_o9_13_1 True.intro rfl (by kernel_rfl) ?_ ?_
      ·repeat first|exact ⟨⟩|refine ⟨rfl,?_⟩
      exact Pick.all
     intro mm13
     refine WP.cutF (α := Nat) (fun x => True) #[true, true, true, true, true, true, false, false, false, false, false, false, false, true, false, false] 9 (fun x => [(2, pt g2), (10, pt g8), (11, pt x), (43, .agg #[.slice A1 i1.supply.length c1, .slice A2 i1.arcs.length c2]), (44, .agg #[.slice A7 n8 c7, .slice A8 n9 c8]), (47, iv (i1.supply.length : Int)), (48, iv n6)]) (fun x => [.blk x 40 [sn, sn, iv 0, sn, sn, iv 0, .int .u64 (0), .bool (false)], .blk g8 38 [iv r7.2.hi, .int .u64 (r7.2.lo)], .blk g7 25 [.slice A7 n8 c7, .slice A8 n9 c8], Ow (fI .i64) 2 A7 n8 c7 r7.1.supply, Ow fA 31 A8 n9 c8 r7.1.arcs, .blk g2 40 [sn, sn, iv 0, sn, sn, iv 0, .int .u64 (0), .bool (false)], .blk g1 25 [.slice A1 i1.supply.length c1, .slice A2 i1.arcs.length c2], .fz (PH.of w)]) rfl ?_ ?_
     ·rintro g_o9_13_1 _
      refine WP.any2 6 8 rfl (by kernel_rfl) rfl rfl ?_ ?_
      ·refine WP.callS (ref17_one_S r_o9_6_1) rfl rfl rfl rfl rfl rfl rfl (by kernel_rfl) (fun w1 hw1 => (ref17_one_w hg_o9_6_1  :)) ?_
       rintro _ _ ⟨A_o9_6_1, n_o9_6_1, c_o9_6_1, rfl, hf_o9_6_1, rfl⟩
       refine WP.useF mm6 (A_o9_6_1, n_o9_6_1, c_o9_6_1, g_o9_13_1) hf_o9_6_1 rfl (by kernel_rfl) ?_ ?_
       ·repeat first|exact ⟨⟩|refine ⟨rfl,?_⟩
       exact (.cons (.tail .head) (.cons .head (.cons .head (.cons .head (.cons .head (.cons .head (.cons .head (.cons .head (.cons .head .nil)))))))))
      refine WP.mx_ tysOk rfl ⟨⟩ (SegAt.blk' (.tail .head) rfl) ?_
      refine WP.useF mm7 g_o9_13_1 True.intro rfl (by kernel_rfl) ?_ ?_
      ·repeat first|exact ⟨⟩|refine ⟨rfl,?_⟩
      exact Pick.all
     intro mm14
     refine WP.cutF (α := Nat) (fun x => True) #[true, true, true, true, false, true, false, false, true, false, false, false, false, true, false, false] 9 (fun x => [(2, pt g2), (11, pt x), (43, .agg #[.slice A1 i1.supply.length c1, .slice A2 i1.arcs.length c2]), (44, .agg #[.slice A7 n8 c7, .slice A8 n9 c8]), (46, .slice A1 i1.supply.length c1), (48, iv n6), (51, .agg #[iv r7.2.hi, .int .u64 (r7.2.lo)])]) (fun x => [.blk x 40 [sn, sn, iv 0, sn, sn, iv 0, .int .u64 (0), .bool (false)], .blk g8 38 [iv r7.2.hi, .int .u64 (r7.2.lo)], .blk g7 25 [.slice A7 n8 c7, .slice A8 n9 c8], Ow (fI .i64) 2 A7 n8 c7 r7.1.supply, Ow fA 31 A8 n9 c8 r7.1.arcs, .blk g2 40 [sn, sn, iv 0, sn, sn, iv 0, .int .u64 (0), .bool (false)], .blk g1 25 [.slice A1 i1.supply.length c1, .slice A2 i1.arcs.length c2], .fz (PH.of w)]) rfl ?_ ?_
     ·rintro g_o9_13_1 _
      refine WP.any1 4 rfl (by kernel_rfl) rfl ?_
      refine WP.sx tysOk rfl ⟨⟨⟩, ⟨⟩⟩ ?_
      refine WP.useF mm7 g_o9_13_1 True.intro rfl (by kernel_rfl) ?_ ?_
      ·repeat first|exact ⟨⟩|refine ⟨rfl,?_⟩
      exact Pick.all
     intro mm15
     refine WP.cutF (α := (Option Addr) × Nat × Nat) (fun x => OwF x.1 x.2.1 r_o9_6_1) #[true, false, true, true, true, true, true, false, true, false, false, false, false, false, false, false] 9 (fun x => [(2, pt g2), (9, pt g7), (43, .agg #[.slice A1 i1.supply.length c1, .slice A2 i1.arcs.length c2]), (49, .slice x.1 x.2.1 x.2.2), (51, .agg #[iv r7.2.hi, .int .u64 (r7.2.lo)])]) (fun x => [Ow fB 4 x.1 x.2.1 x.2.2 r_o9_6_1, .blk g8 38 [iv r7.2.hi, .int .u64 (r7.2.lo)], .blk g7 25 [.slice A7 n8 c7, .slice A8 n9 c8], Ow (fI .i64) 2 A7 n8 c7 r7.1.supply, Ow fA 31 A8 n9 c8 r7.1.arcs, .blk g2 40 [sn, sn, iv 0, sn, sn, iv 0, .int .u64 (0), .bool (false)], .blk g1 25 [.slice A1 i1.supply.length c1, .slice A2 i1.arcs.length c2], .fz (PH.of w)]) rfl ?_ ?_
     ·rintro ⟨A_o9_6_1, n_o9_6_1, c_o9_6_1⟩ hf_o9_6_1
      dsimp only at hf_o9_6_1 ⊢
      refine WP.any2 1 13 rfl (by kernel_rfl) rfl rfl ?_ ?_
      ·refine WP.mx_ tysOk rfl ⟨⟩ (SegAt.blk' (.tail (.tail .head)) rfl) ?_
       refine WP.useF mm5 (A_o9_6_1, n_o9_6_1, c_o9_6_1) hf_o9_6_1 rfl (by kernel_rfl) ?_ ?_
       ·repeat first|exact ⟨⟩|refine ⟨rfl,?_⟩
       exact Pick.all
      refine WP.al tysOk rfl rfl rfl rfl rfl rfl ?_
      intro g_o9_13_1
      refine WP.useF mm8 (A_o9_6_1, n_o9_6_1, c_o9_6_1, g_o9_13_1) hf_o9_6_1 rfl (by kernel_rfl) ?_ ?_
      ·repeat first|exact ⟨⟩|refine ⟨rfl,?_⟩
      exact Pick.all
     intro mm16
     refine WP.cutF (α := (Option Addr) × Nat × Nat × Nat) (fun x => OwF x.1 x.2.1 r_o9_6_1) #[true, false, true, true, true, true, true, false, false, false, false, false, false, true, false, false] 9 (fun x => [(2, pt g2), (9, pt g7), (10, pt g8), (11, pt x.2.2.2), (43, .agg #[.slice A1 i1.supply.length c1, .slice A2 i1.arcs.length c2]), (49, .slice x.1 x.2.1 x.2.2.1)]) (fun x => [.blk x.2.2.2 40 [sn, sn, iv 0, sn, sn, iv 0, .int .u64 (0), .bool (false)], Ow fB 4 x.1 x.2.1 x.2.2.1 r_o9_6_1, .blk g8 38 [iv r7.2.hi, .int .u64 (r7.2.lo)], .blk g7 25 [.slice A7 n8 c7, .slice A8 n9 c8], Ow (fI .i64) 2 A7 n8 c7 r7.1.supply, Ow fA 31 A8 n9 c8 r7.1.arcs, .blk g2 40 [sn, sn, iv 0, sn, sn, iv 0, .int .u64 (0), .bool (false)], .blk g1 25 [.slice A1 i1.supply.length c1, .slice A2 i1.arcs.length c2], .fz (PH.of w)]) rfl ?_ ?_
     ·rintro ⟨A_o9_6_1, n_o9_6_1, c_o9_6_1, g_o9_13_1⟩ hf_o9_6_1
      dsimp only at hf_o9_6_1 ⊢
      refine WP.any2 1 8 rfl (by kernel_rfl) rfl rfl ?_ ?_
      ·refine WP.mx_ tysOk rfl ⟨⟩ (SegAt.blk' (.tail (.tail (.tail .head))) rfl) ?_
       refine WP.useF mm6 (A_o9_6_1, n_o9_6_1, c_o9_6_1, g_o9_13_1) hf_o9_6_1 rfl (by kernel_rfl) ?_ ?_
       ·repeat first|exact ⟨⟩|refine ⟨rfl,?_⟩
       exact Pick.all
      refine WP.mx_ tysOk rfl ⟨⟩ (SegAt.blk' (.tail (.tail .head)) rfl) ?_
      refine WP.useF mm8 (A_o9_6_1, n_o9_6_1, c_o9_6_1, g_o9_13_1) hf_o9_6_1 rfl (by kernel_rfl) ?_ ?_
      ·repeat first|exact ⟨⟩|refine ⟨rfl,?_⟩
      exact Pick.all
     intro mm17
     refine WP.cutF (α := Nat) (fun x => True) #[true, false, true, true, true, true, false, false, true, false, false, false, false, true, false, false] 9 (fun x => [(2, pt g2), (9, pt g7), (11, pt x), (43, .agg #[.slice A1 i1.supply.length c1, .slice A2 i1.arcs.length c2]), (47, iv (i1.supply.length : Int)), (48, iv n6), (51, .agg #[iv r7.2.hi, .int .u64 (r7.2.lo)])]) (fun x => [.blk x 40 [sn, sn, iv 0, sn, sn, iv 0, .int .u64 (0), .bool (false)], .blk g8 38 [iv r7.2.hi, .int .u64 (r7.2.lo)], .blk g7 25 [.slice A7 n8 c7, .slice A8 n9 c8], Ow (fI .i64) 2 A7 n8 c7 r7.1.supply, Ow fA 31 A8 n9 c8 r7.1.arcs, .blk g2 40 [sn, sn, iv 0, sn, sn, iv 0, .int .u64 (0), .bool (false)], .blk g1 25 [.slice A1 i1.supply.length c1, .slice A2 i1.arcs.length c2], .fz (PH.of w)]) rfl ?_ ?_
     ·rintro g_o9_13_1 _
      refine WP.any2 1 6 rfl (by kernel_rfl) rfl rfl ?_ ?_
      ·refine WP.mx_ tysOk rfl ⟨⟩ (SegAt.blk' (.tail (.tail .head)) rfl) ?_
       refine WP.useF mm7 g_o9_13_1 True.intro rfl (by kernel_rfl) ?_ ?_
       ·repeat first|exact ⟨⟩|refine ⟨rfl,?_⟩
       exact Pick.all
      refine WP.callS (ref17_one_S r_o9_6_1) rfl rfl rfl rfl rfl rfl rfl (by kernel_rfl) (fun w1 hw1 => (ref17_one_w hg_o9_6_1  :)) ?_
      rintro _ _ ⟨A_o9_6_1, n_o9_6_1, c_o9_6_1, rfl, hf_o9_6_1, rfl⟩
      refine WP.useF mm8 (A_o9_6_1, n_o9_6_1, c_o9_6_1, g_o9_13_1) hf_o9_6_1 rfl (by kernel_rfl) ?_ ?_
      ·repeat first|exact ⟨⟩|refine ⟨rfl,?_⟩
      exact (.cons (.tail .head) (.cons .head (.cons .head (.cons .head (.cons .head (.cons .head (.cons .head (.cons .head (.cons .head .nil)))))))))
     intro mm18
     refine WP.cutF (α := (Option Addr) × Nat × Nat) (fun x => OwF x.1 x.2.1 r_o9_6_1) #[false, true, true, true, true, true, true, false, true, false, false, false, false, false, false, false] 9 (fun x => [(1, pt g1), (2, pt g2), (44, .agg #[.slice A7 n8 c7, .slice A8 n9 c8]), (49, .slice x.1 x.2.1 x.2.2), (51, .agg #[iv r7.2.hi, .int .u64 (r7.2.lo)])]) (fun x => [Ow fB 4 x.1 x.2.1 x.2.2 r_o9_6_1, .blk g8 38 [iv r7.2.hi, .int .u64 (r7.2.lo)], .blk g7 25 [.slice A7 n8 c7, .slice A8 n9 c8], Ow (fI .i64) 2 A7 n8 c7 r7.1.supply, Ow fA 31 A8 n9 c8 r7.1.arcs, .blk g2 40 [sn, sn, iv 0, sn, sn, iv 0, .int .u64 (0), .bool (false)], .blk g1 25 [.slice A1 i1.supply.length c1, .slice A2 i1.arcs.length c2], .fz (PH.of w)]) rfl ?_ ?_
     ·rintro ⟨A_o9_6_1, n_o9_6_1, c_o9_6_1⟩ hf_o9_6_1
      dsimp only at hf_o9_6_1 ⊢
      refine WP.any3 0 7 13 rfl (by kernel_rfl) rfl rfl rfl ?_ ?_ ?_
      ·refine WP.mx_ tysOk rfl ⟨⟩ (SegAt.blk' (.tail (.tail (.tail (.tail (.tail (.tail .head)))))) rfl) ?_
       refine WP.useF mm5 (A_o9_6_1, n_o9_6_1, c_o9_6_1) hf_o9_6_1 rfl (by kernel_rfl) ?_ ?_
       ·repeat first|exact ⟨⟩|refine ⟨rfl,?_⟩
       exact Pick.all
      ·refine WP.callS (ref03_Without_S r_o9_7_1) rfl rfl rfl rfl rfl rfl rfl (by kernel_rfl) (fun w1 hw1 => (ref03_Without_w hg_o9_7_1 (InsZ.mk_ (hw1.ow (.tail (.tail (.tail .head))) hf5) (hw1.ow (.tail (.tail (.tail (.tail .head)))) hf6)) (hw1.ow .head hf_o9_6_1) SlF.nil_ :)) ?_
       rintro _ _ ⟨A_o9_7_1, n_o9_7_1, c_o9_7_1, A_o9_7_2, n_o9_7_2, c_o9_7_2, rfl, hf_o9_7_1, hf_o9_7_2, rfl⟩
       refine WP.useF mm9 (A_o9_6_1, n_o9_6_1, c_o9_6_1, A_o9_7_1, n_o9_7_1, c_o9_7_1, A_o9_7_2, n_o9_7_2, c_o9_7_2) ⟨hf_o9_6_1, hf_o9_7_1, hf_o9_7_2⟩ rfl (by kernel_rfl) ?_ ?_
       ·repeat first|exact ⟨⟩|refine ⟨rfl,?_⟩
       exact Pick.all
      refine WP.al tysOk rfl rfl rfl rfl rfl rfl ?_
      intro g_o9_13_1
      refine WP.useF mm11 (A_o9_6_1, n_o9_6_1, c_o9_6_1, g_o9_13_1) hf_o9_6_1 rfl (by kernel_rfl) ?_ ?_
      ·repeat first|exact ⟨⟩|refine ⟨rfl,?_⟩
      exact Pick.all
     intro mm19
     refine WP.cutF (α := (Option Addr) × Nat × Nat × Nat) (fun x => OwF x.1 x.2.1 r_o9_6_1) #[false, true, true, true, true, true, true, false, false, false, false, false, false, true, false, false] 9 (fun x => [(1, pt g1), (2, pt g2), (10, pt g8), (11, pt x.2.2.2), (44, .agg #[.slice A7 n8 c7, .slice A8 n9 c8]), (49, .slice x.1 x.2.1 x.2.2.1)]) (fun x => [.blk x.2.2.2 40 [sn, sn, iv 0, sn, sn, iv 0, .int .u64 (0), .bool (false)], Ow fB 4 x.1 x.2.1 x.2.2.1 r_o9_6_1, .blk g8 38 [iv r7.2.hi, .int .u64 (r7.2.lo)], .blk g7 25 [.slice A7 n8 c7, .slice A8 n9 c8], Ow (fI .i64) 2 A7 n8 c7 r7.1.supply, Ow fA 31 A8 n9 c8 r7.1.arcs, .blk g2 40 [sn, sn, iv 0, sn, sn, iv 0, .int .u64 (0), .bool (false)], .blk g1 25 [.slice A1 i1.supply.length c1, .slice A2 i1.arcs.length c2], .fz (PH.of w)]) rfl ?_ ?_
     ·rintro ⟨A_o9_6_1, n_o9_6_1, c_o9_6_1, g_o9_13_1⟩ hf_o9_6_1
      dsimp only at hf_o9_6_1 ⊢
      refine WP.any3 0 7 8 rfl (by kernel_rfl) rfl rfl rfl ?_ ?_ ?_
      ·refine WP.mx_ tysOk rfl ⟨⟩ (SegAt.blk' (.tail (.tail (.tail (.tail (.tail (.tail (.tail .head))))))) rfl) ?_
       refine WP.useF mm6 (A_o9_6_1, n_o9_6_1, c_o9_6_1, g_o9_13_1) hf_o9_6_1 rfl (by kernel_rfl) ?_ ?_
       ·repeat first|exact ⟨⟩|refine ⟨rfl,?_⟩
       exact Pick.all
      ·refine WP.callS (ref03_Without_S r_o9_7_1) rfl rfl rfl rfl rfl rfl rfl (by kernel_rfl) (fun w1 hw1 => (ref03_Without_w hg_o9_7_1 (InsZ.mk_ (hw1.ow (.tail (.tail (.tail (.tail .head)))) hf5) (hw1.ow (.tail (.tail (.tail (.tail (.tail .head))))) hf6)) (hw1.ow (.tail .head) hf_o9_6_1) SlF.nil_ :)) ?_
       rintro _ _ ⟨A_o9_7_1, n_o9_7_1, c_o9_7_1, A_o9_7_2, n_o9_7_2, c_o9_7_2, rfl, hf_o9_7_1, hf_o9_7_2, rfl⟩
       refine WP.useF mm10 (A_o9_6_1, n_o9_6_1, c_o9_6_1, A_o9_7_1, n_o9_7_1, c_o9_7_1, A_o9_7_2, n_o9_7_2, c_o9_7_2, g_o9_13_1) ⟨hf_o9_6_1, hf_o9_7_1, hf_o9_7_2⟩ rfl (by kernel_rfl) ?_ ?_
       ·repeat first|exact ⟨⟩|refine ⟨rfl,?_⟩
       exact (.cons (.tail (.tail .head)) (.cons .head (.cons .head (.cons .head (.cons .head (.cons .head (.cons .head (.cons .head (.cons .head (.cons .head (.cons .head .nil)))))))))))
      refine WP.mx_ tysOk rfl ⟨⟩ (SegAt.blk' (.tail (.tail .head)) rfl) ?_
      refine WP.useF mm11 (A_o9_6_1, n_o9_6_1, c_o9_6_1, g_o9_13_1) hf_o9_6_1 rfl (by kernel_rfl) ?_ ?_
      ·repeat first|exact ⟨⟩|refine ⟨rfl,?_⟩
      exact Pick.all
     intro mm20
     refine WP.cutF (α := Nat) (fun x => True) #[false, true, true, true, true, true, false, false, true, false, false, false, false, true, false, false] 9 (fun x => [(1, pt g1), (2, pt g2), (11, pt x), (44, .agg #[.slice A7 n8 c7, .slice A8 n9 c8]), (47, iv (i1.supply.length : Int)), (48, iv n6), (51, .agg #[iv r7.2.hi, .int .u64 (r7.2.lo)])]) (fun x => [.blk x 40 [sn, sn, iv 0, sn, sn, iv 0, .int .u64 (0), .bool (false)], .blk g8 38 [iv r7.2.hi, .int .u64 (r7.2.lo)], .blk g7 25 [.slice A7 n8 c7, .slice A8 n9 c8], Ow (fI .i64) 2 A7 n8 c7 r7.1.supply, Ow fA 31 A8 n9 c8 r7.1.arcs, .blk g2 40 [sn, sn, iv 0, sn, sn, iv 0, .int .u64 (0), .bool (false)], .blk g1 25 [.slice A1 i1.supply.length c1, .slice A2 i1.arcs.length c2], .fz (PH.of w)]) rfl ?_ ?_
     ·rintro g_o9_13_1 _
      refine WP.any2 0 6 rfl (by kernel_rfl) rfl rfl ?_ ?_
      ·refine WP.mx_ tysOk rfl ⟨⟩ (SegAt.blk' (.tail (.tail (.tail (.tail (.tail (.tail .head)))))) rfl) ?_
       refine WP.useF mm7 g_o9_13_1 True.intro rfl (by kernel_rfl) ?_ ?_
       ·repeat first|exact ⟨⟩|refine ⟨rfl,?_⟩
       exact Pick.all
      refine WP.callS (ref17_one_S r_o9_6_1) rfl rfl rfl rfl rfl rfl rfl (by kernel_rfl) (fun w1 hw1 => (ref17_one_w hg_o9_6_1  :)) ?_
      rintro _ _ ⟨A_o9_6_1, n_o9_6_1, c_o9_6_1, rfl, hf_o9_6_1, rfl⟩
      refine WP.useF mm11 (A_o9_6_1, n_o9_6_1, c_o9_6_1, g_o9_13_1) hf_o9_6_1 rfl (by kernel_rfl) ?_ ?_
      ·repeat first|exact ⟨⟩|refine ⟨rfl,?_⟩
      exact (.cons (.tail .head) (.cons .head (.cons .head (.cons .head (.cons .head (.cons .head (.cons .head (.cons .head (.cons .head .nil)))))))))
     intro mm21
     refine WP.cutF (α := (Option Addr) × Nat × Nat × Nat) (fun x => OwF x.1 x.2.1 r_o9_6_1) #[false, false, true, true, true, true, true, false, true, false, false, false, false, true, false, false] 9 (fun x => [(1, pt g1), (2, pt g2), (9, pt g7), (11, pt x.2.2.2), (49, .slice x.1 x.2.1 x.2.2.1), (51, .agg #[iv r7.2.hi, .int .u64 (r7.2.lo)])]) (fun x => [.blk x.2.2.2 40 [sn, sn, iv 0, sn, sn, iv 0, .int .u64 (0), .bool (false)], Ow fB 4 x.1 x.2.1 x.2.2.1 r_o9_6_1, .blk g8 38 [iv r7.2.hi, .int .u64 (r7.2.lo)], .blk g7 25 [.slice A7 n8 c7, .slice A8 n9 c8], Ow (fI .i64) 2 A7 n8 c7 r7.1.supply, Ow fA 31 A8 n9 c8 r7.1.arcs, .blk g2 40 [sn, sn, iv 0, sn, sn, iv 0, .int .u64 (0), .bool (false)], .blk g1 25 [.slice A1 i1.supply.length c1, .slice A2 i1.arcs.length c2], .fz (PH.of w)]) rfl ?_ ?_
     ·rintro ⟨A_o9_6_1, n_o9_6_1, c_o9_6_1, g_o9_13_1⟩ hf_o9_6_1
      dsimp only at hf_o9_6_1 ⊢
      refine WP.any2 0 1 rfl (by kernel_rfl) rfl rfl ?_ ?_
      ·refine WP.mx_ tysOk rfl ⟨⟩ (SegAt.blk' (.tail (.tail (.tail (.tail (.tail (.tail (.tail .head))))))) rfl) ?_
       refine WP.useF mm8 (A_o9_6_1, n_o9_6_1, c_o9_6_1, g_o9_13_1) hf_o9_6_1 rfl (by kernel_rfl) ?_ ?_
       ·repeat first|exact ⟨⟩|refine ⟨rfl,?_⟩
       exact Pick.all
      refine WP.mx_ tysOk rfl ⟨⟩ (SegAt.blk' (.tail (.tail (.tail .head))) rfl) ?_
      refine WP.useF mm11 (A_o9_6_1, n_o9_6_1, c_o9_6_1, g_o9_13_1) hf_o9_6_1 rfl (by kernel_rfl) ?_ ?_
      ·repeat first|exact ⟨⟩|refine ⟨rfl,?_⟩
      exact Pick.all
     intro mm22
     refine WP.cutF (α := Unit) (fun x => True) #[true, true, true, true, true, true, false, false, false, false, false, false, false, false, false, false] 10 (fun x => [(2, pt g2), (10, pt g8), (43, .agg #[.slice A1 i1.supply.length c1, .slice A2 i1.arcs.length c2]), (44, .agg #[.slice A7 n8 c7, .slice A8 n9 c8]), (47, iv (i1.supply.length : Int)), (48, iv n6)]) (fun x => [.blk g8 38 [iv r7.2.hi, .int .u64 (r7.2.lo)], .blk g7 25 [.slice A7 n8 c7, .slice A8 n9 c8], Ow (fI .i64) 2 A7 n8 c7 r7.1.supply, Ow fA 31 A8 n9 c8 r7.1.arcs, .blk g2 40 [sn, sn, iv 0, sn, sn, iv 0, .int .u64 (0), .bool (false)], .blk g1 25 [.slice A1 i1.supply.length c1, .slice A2 i1.arcs.length c2], .fz (PH.of w)]) rfl ?_ ?_
     ·rintro _ _
      refine WP.any3 6 8 13 rfl (by kernel_rfl) rfl rfl rfl ?_ ?_ ?_
      ·refine WP.callS (ref17_one_S r_o9_6_1) rfl rfl rfl rfl rfl rfl rfl (by kernel_rfl) (fun w1 hw1 => (ref17_one_w hg_o9_6_1  :)) ?_
       rintro _ _ ⟨A_o9_6_1, n_o9_6_1, c_o9_6_1, rfl, hf_o9_6_1, rfl⟩
       refine WP.useF mm12 (A_o9_6_1, n_o9_6_1, c_o9_6_1) hf_o9_6_1 rfl (by kernel_rfl) ?_ ?_
       ·repeat first|exact ⟨⟩|refine ⟨rfl,?_⟩
       exact Pick.all
      ·refine WP.mx_ tysOk rfl ⟨⟩ (SegAt.blk' .head rfl) ?_
       refine WP.useF mm13 () True.intro rfl (by kernel_rfl) ?_ ?_
       ·repeat first|exact ⟨⟩|refine ⟨rfl,?_⟩
       exact Pick.all
      refine WP.al tysOk rfl rfl rfl rfl rfl rfl ?_
      intro g_o9_13_1
      refine WP.useF mm14 g_o9_13_1 True.intro rfl (by kernel_rfl) ?_ ?_
      ·repeat first|exact ⟨⟩|refine ⟨rfl,?_⟩
      exact Pick.all
     intro mm23
     refine WP.cutF (α := Unit) (fun x => True) #[true, true, true, true, false, true, false, false, true, false, false, false, false, false, false, false] 10 (fun x => [(2, pt g2), (43, .agg #[.slice A1 i1.supply.length c1, .slice A2 i1.arcs.length c2]), (44, .agg #[.slice A7 n8 c7, .slice A8 n9 c8]), (46, .slice A1 i1.supply.length c1), (48, iv n6), (51, .agg #[iv r7.2.hi, .int .u64 (r7.2.lo)])]) (fun x => [.blk g8 38 [iv r7.2.hi, .int .u64 (r7.2.lo)], .blk g7 25 [.slice A7 n8 c7, .slice A8 n9 c8], Ow (fI .i64) 2 A7 n8 c7 r7.1.supply, Ow fA 31 A8 n9 c8 r7.1.arcs, .blk g2 40 [sn, sn, iv 0, sn, sn, iv 0, .int .u64 (0), .bool (false)], .blk g1 25 [.slice A1 i1.supply.length c1, .slice A2 i1.arcs.length c2], .fz (PH.of w)]) rfl ?_ ?_
     ·rintro _ _
      refine WP.any2 4 13 rfl (by kernel_rfl) rfl rfl ?_ ?_
      ·refine WP.sx tysOk rfl ⟨⟨⟩, ⟨⟩⟩ ?_
       refine WP.useF mm13 () True.intro rfl (by kernel_rfl) ?_ ?_
       ·repeat first|exact ⟨⟩|refine ⟨rfl,?_⟩
       exact Pick.all
      refine WP.al tysOk rfl rfl rfl rfl rfl rfl ?_
      intro g_o9_13_1
      refine WP.useF mm15 g_o9_13_1 True.intro rfl (by kernel_rfl) ?_ ?_
      ·repeat first|exact ⟨⟩|refine ⟨rfl,?_⟩
      exact Pick.all
     intro mm24
     refine WP.cutF (α := Nat) (fun x => True) #[true, true, true, true, false, true, false, false, false, false, false, false, false, true, false, false] 10 (fun x => [(2, pt g2), (10, pt g8), (11, pt x), (43, .agg #[.slice A1 i1.supply.length c1, .slice A2 i1.arcs.length c2]), (44, .agg #[.slice A7 n8 c7, .slice A8 n9 c8]), (46, .slice A1 i1.supply.length c1), (48, iv n6)]) (fun x => [.blk x 40 [sn, sn, iv 0, sn, sn, iv 0, .int .u64 (0), .bool (false)], .blk g8 38 [iv r7.2.hi, .int .u64 (r7.2.lo)], .blk g7 25 [.slice A7 n8 c7, .slice A8 n9 c8], Ow (fI .i64) 2 A7 n8 c7 r7.1.supply, Ow fA 31 A8 n9 c8 r7.1.arcs, .blk g2 40 [sn, sn, iv 0, sn, sn, iv 0, .int .u64 (0), .bool (false)], .blk g1 25 [.slice A1 i1.supply.length c1, .slice A2 i1.arcs.length c2], .fz (PH.of w)]) rfl ?_ ?_
     ·rintro g_o9_13_1 _
      refine WP.any2 4 8 rfl (by kernel_rfl) rfl rfl ?_ ?_
      ·refine WP.sx tysOk rfl ⟨⟨⟩, ⟨⟩⟩ ?_
       refine WP.useF mm14 g_o9_13_1 True.intro rfl (by kernel_rfl) ?_ ?_
       ·repeat first|exact ⟨⟩|refine ⟨rfl,?_⟩
       exact Pick.all
      refine WP.mx_ tysOk rfl ⟨⟩ (SegAt.blk' (.tail .head) rfl) ?_
      refine WP.useF mm15 g_o9_13_1 True.intro rfl (by kernel_rfl) ?_ ?_
      ·repeat first|exact ⟨⟩|refine ⟨rfl,?_⟩
      exact Pick.all
     intro mm25
     refine WP.cutF (α := Nat) (fun x => True) #[true, true, true, false, false, true, false, false, true, false, false, false, false, true, false, false] 10 (fun x => [(2, pt g2), (11, pt x), (43, .agg #[.slice A1 i1.supply.length c1, .slice A2 i1.arcs.length c2]), (44, .agg #[.slice A7 n8 c7, .slice A8 n9 c8]), (45, pt g1), (48, iv n6), (51, .agg #[iv r7.2.hi, .int .u64 (r7.2.lo)])]) (fun x => [.blk x 40 [sn, sn, iv 0, sn, sn, iv 0, .int .u64 (0), .bool (false)], .blk g8 38 [iv r7.2.hi, .int .u64 (r7.2.lo)], .blk g7 25 [.slice A7 n8 c7, .slice A8 n9 c8], Ow (fI .i64) 2 A7 n8 c7 r7.1.supply, Ow fA 31 A8 n9 c8 r7.1.arcs, .blk g2 40 [sn, sn, iv 0, sn, sn, iv 0, .int .u64 (0), .bool (false)], .blk g1 25 [.slice A1 i1.supply.length c1, .slice A2 i1.arcs.length c2], .fz (PH.of w)]) rfl ?_ ?_
     ·rintro g_o9_13_1 _
      refine WP.any1 3 rfl (by kernel_rfl) rfl ?_
      refine WP.lx tysOk rfl ⟨⟩ (CellAt.blk (.tail (.tail (.tail (.tail (.tail (.tail .head)))))) rfl) ?_
      refine WP.useF mm15 g_o9_13_1 True.intro rfl (by kernel_rfl) ?_ ?_
      ·repeat first|exact ⟨⟩|refine ⟨rfl,?_⟩
      exact Pick.all
     intro mm26
     refine WP.cutF (α := (Option Addr) × Nat × Nat) (fun x => OwF x.1 x.2.1 r_o9_6_1) #[true, false, true, true, true, true, true, false, false, false, false, false, false, false, false, false] 10 (fun x => [(2, pt g2), (9, pt g7), (10, pt g8), (43, .agg #[.slice A1 i1.supply.length c1, .slice A2 i1.arcs.length c2]), (49, .slice x.1 x.2.1 x.2.2)]) (fun x => [Ow fB 4 x.1 x.2.1 x.2.2 r_o9_6_1, .blk g8 38 [iv r7.2.hi, .int .u64 (r7.2.lo)], .blk g7 25 [.slice A7 n8 c7, .slice A8 n9 c8], Ow (fI .i64) 2 A7 n8 c7 r7.1.supply, Ow fA 31 A8 n9 c8 r7.1.arcs, .blk g2 40 [sn, sn, iv 0, sn, sn, iv 0, .int .u64 (0), .bool (false)], .blk g1 25 [.slice A1 i1.supply.length c1, .slice A2 i1.arcs.length c2], .fz (PH.of w)]) rfl ?_ ?_
     ·rintro ⟨A_o9_6_1, n_o9_6_1, c_o9_6_1⟩ hf_o9_6_1
      dsimp only at hf_o9_6_1 ⊢
      refine WP.any3 1 8 13 rfl (by kernel_rfl) rfl rfl rfl ?_ ?_ ?_
      ·refine WP.mx_ tysOk rfl ⟨⟩ (SegAt.blk' (.tail (.tail .head)) rfl) ?_
       refine WP.useF mm12 (A_o9_6_1, n_o9_6_1, c_o9_6_1) hf_o9_6_1 rfl (by kernel_rfl) ?_ ?_
       ·repeat first|exact ⟨⟩|refine ⟨rfl,?_⟩
       exact Pick.all
      ·refine WP.mx_ tysOk rfl ⟨⟩ (SegAt.blk' (.tail .head) rfl) ?_
       refine WP.useF mm16 (A_o9_6_1, n_o9_6_1, c_o9_6_1) hf_o9_6_1 rfl (by kernel_rfl) ?_ ?_
       ·repeat first|exact ⟨⟩|refine ⟨rfl,?_⟩
       exact Pick.all
      refine WP.al tysOk rfl rfl rfl rfl rfl rfl ?_
      intro g_o9_13_1
      refine WP.useF mm17 (A_o9_6_1, n_o9_6_1, c_o9_6_1, g_o9_13_1) hf_o9_6_1 rfl (by kernel_rfl) ?_ ?_
      ·repeat first|exact ⟨⟩|refine ⟨rfl,?_⟩
      exact Pick.all
     intro mm27
     refine WP.cutF (α := Unit) (fun x => True) #[true, false, true, true, true, true, false, false, true, false, false, false, false, false, false, false] 10 (fun x => [(2, pt g2), (9, pt g7), (43, .agg #[.slice A1 i1.supply.length c1, .slice A2 i1.arcs.length c2]), (47, iv (i1.supply.length : Int)), (48, iv n6), (51, .agg #[iv r7.2.hi, .int .u64 (r7.2.lo)])]) (fun x => [.blk g8 38 [iv r7.2.hi, .int .u64 (r7.2.lo)], .blk g7 25 [.slice A7 n8 c7, .slice A8 n9 c8], Ow (fI .i64) 2 A7 n8 c7 r7.1.supply, Ow fA 31 A8 n9 c8 r7.1.arcs, .blk g2 40 [sn, sn, iv 0, sn, sn, iv 0, .int .u64 (0), .bool (false)], .blk g1 25 [.slice A1 i1.supply.length c1, .slice A2 i1.arcs.length c2], .fz (PH.of w)]) rfl ?_ ?_
     ·rintro _ _
      refine WP.any3 1 6 13 rfl (by kernel_rfl) rfl rfl rfl ?_ ?_ ?_
      ·refine WP.mx_ tysOk rfl ⟨⟩ (SegAt.blk' (.tail .head) rfl) ?_
       refine WP.useF mm13 () True.intro rfl (by kernel_rfl) ?_ ?_
       ·repeat first|exact ⟨⟩|refine ⟨rfl,?_⟩
       exact Pick.all
      ·refine WP.callS (ref17_one_S r_o9_6_1) rfl rfl rfl rfl rfl rfl rfl (by kernel_rfl) (fun w1 hw1 => (ref17_one_w hg_o9_6_1  :)) ?_
       rintro _ _ ⟨A_o9_6_1, n_o9_6_1, c_o9_6_1, rfl, hf_o9_6_1, rfl⟩
       refine WP.useF mm16 (A_o9_6_1, n_o9_6_1, c_o9_6_1) hf_o9_6_1 rfl (by kernel_rfl) ?_ ?_
       ·repeat first|exact ⟨⟩|refine ⟨rfl,?_⟩
       exact Pick.all
      refine WP.al tysOk rfl rfl rfl rfl rfl rfl ?_
      intro g_o9_13_1
      refine WP.useF mm18 g_o9_13_1 True.intro rfl (by kernel_rfl) ?_ ?_
      ·repeat first|exact ⟨⟩|refine ⟨rfl,?_⟩
      exact Pick.all
     intro mm28
     refine WP.cutF (α := Nat) (fun x => True) #[true, false, true, true, true, true, false, false, false, false, false, false, false, true, false, false] 10 (fun x => [(2, pt g2), (9, pt g7), (10, pt g8), (11, pt x), (43, .agg #[.slice A1 i1.supply.length c1, .slice A2 i1.arcs.length c2]), (47, iv (i1.supply.length : Int)), (48, iv n6)]) (fun x => [.blk x 40 [sn, sn, iv 0, sn, sn, iv 0, .int .u64 (0), .bool (false)], .blk g8 38 [iv r7.2.hi, .int .u64 (r7.2.lo)], .blk g7 25 [.slice A7 n8 c7, .slice A8 n9 c8], Ow (fI .i64) 2 A7 n8 c7 r7.1.supply, Ow fA 31 A8 n9 c8 r7.1.arcs, .blk g2 40 [sn, sn, iv 0, sn, sn, iv 0, .int .u64 (0), .bool (false)], .blk g1 25 [.slice A1 i1.supply.length c1, .slice A2 i1.arcs.length c2], .fz (PH.of w)]) rfl ?_ ?_
     ·rintro g_o9_13_1 _
      refine WP.any3 1 6 8 rfl (by kernel_rfl) rfl rfl rfl ?_ ?_ ?_
      ·refine WP.mx_ tysOk rfl ⟨⟩ (SegAt.blk' (.tail (.tail .head)) rfl) ?_
       refine WP.useF mm14 g_o9_13_1 True.intro rfl (by kernel_rfl) ?_ ?_
       ·repeat first|exact ⟨⟩|refine ⟨rfl,?_⟩
       exact Pick.all
      ·refine WP.callS (ref17_one_S r_o9_6_1) rfl rfl rfl rfl rfl rfl rfl (by kernel_rfl) (fun w1 hw1 => (ref17_one_w hg_o9_6_1  :)) ?_
       rintro _ _ ⟨A_o9_6_1, n_o9_6_1, c_o9_6_1, rfl, hf_o9_6_1, rfl⟩
       refine WP.useF mm17 (A_o9_6_1, n_o9_6_1, c_o9_6_1, g_o9_13_1) hf_o9_6_1 rfl (by kernel_rfl) ?_ ?_
       ·repeat first|exact ⟨⟩|refine ⟨rfl,?_⟩
       exact (.cons (.tail .head) (.cons .head (.cons .head (.cons .head (.cons .head (.cons .head (.cons .head (.cons .head (.cons .head .nil)))))))))
      refine WP.mx_ tysOk rfl ⟨⟩ (SegAt.blk' (.tail .head) rfl) ?_
      refine WP.useF mm18 g_o9_13_1 True.intro rfl (by kernel_rfl) ?_ ?_
      ·repeat first|exact ⟨⟩|refine ⟨rfl,?_⟩
      exact Pick.all
     intro mm29
     refine WP.cutF (α := Nat) (fun x => True) #[true, false, true, true, false, true, false, false, true, false, false, false, false, true, false, false] 10 (fun x => [(2, pt g2), (9, pt g7), (11, pt x), (43, .agg #[.slice A1 i1.supply.length c1, .slice A2 i1.arcs.length c2]), (46, .slice A1 i1.supply.length c1), (48, iv n6), (51, .agg #[iv r7.2.hi, .int .u64 (r7.2.lo)])]) (fun x => [.blk x 40 [sn, sn, iv 0, sn, sn, iv 0, .int .u64 (0), .bool (false)], .blk g8 38 [iv r7.2.hi, .int .u64 (r7.2.lo)], .blk g7 25 [.slice A7 n8 c7, .slice A8 n9 c8], Ow (fI .i64) 2 A7 n8 c7 r7.1.supply, Ow fA 31 A8 n9 c8 r7.1.arcs, .blk g2 40 [sn, sn, iv 0, sn, sn, iv 0, .int .u64 (0), .bool (false)], .blk g1 25 [.slice A1 i1.supply.length c1, .slice A2 i1.arcs.length c2], .fz (PH.of w)]) rfl ?_ ?_
     ·rintro g_o9_13_1 _
      refine WP.any2 1 4 rfl (by kernel_rfl) rfl rfl ?_ ?_
      ·refine WP.mx_ tysOk rfl ⟨⟩ (SegAt.blk' (.tail (.tail .head)) rfl) ?_
       refine WP.useF mm15 g_o9_13_1 True.intro rfl (by kernel_rfl) ?_ ?_
       ·repeat first|exact ⟨⟩|refine ⟨rfl,?_⟩
       exact Pick.all
      refine WP.sx tysOk rfl ⟨⟨⟩, ⟨⟩⟩ ?_
      refine WP.useF mm18 g_o9_13_1 True.intro rfl (by kernel_rfl) ?_ ?_
      ·repeat first|exact ⟨⟩|refine ⟨rfl,?_⟩
      exact Pick.all
     intro mm30
     refine WP.cutF (α := (Option Addr) × Nat × Nat) (fun x => OwF x.1 x.2.1 r_o9_6_1) #[false, true, true, true, true, true, true, false, false, false, false, false, false, false, false, false] 10 (fun x => [(1, pt g1), (2, pt g2), (10, pt g8), (44, .agg #[.slice A7 n8 c7, .slice A8 n9 c8]), (49, .slice x.1 x.2.1 x.2.2)]) (fun x => [Ow fB 4 x.1 x.2.1 x.2.2 r_o9_6_1, .blk g8 38 [iv r7.2.hi, .int .u64 (r7.2.lo)], .blk g7 25 [.slice A7 n8 c7, .slice A8 n9 c8], Ow (fI .i64) 2 A7 n8 c7 r7.1.supply, Ow fA 31 A8 n9 c8 r7.1.arcs, .blk g2 40 [sn, sn, iv 0, sn, sn, iv 0, .int .u64 (0), .bool (false)], .blk g1 25 [.slice A1 i1.supply.length c1, .slice A2 i1.arcs.length c2], .fz (PH.of w)]) rfl ?_ ?_
     ·rintro ⟨A_o9_6_1, n_o9_6_1, c_o9_6_1⟩ hf_o9_6_1
      dsimp only at hf_o9_6_1 ⊢
      refine WP.any4 0 7 8 13 rfl (by kernel_rfl) rfl rfl rfl rfl ?_ ?_ ?_ ?_
      ·refine WP.mx_ tysOk rfl ⟨⟩ (SegAt.blk' (.tail (.tail (.tail (.tail (.tail (.tail .head)))))) rfl) ?_
       refine WP.useF mm12 (A_o9_6_1, n_o9_6_1, c_o9_6_1) hf_o9_6_1 rfl (by kernel_rfl) ?_ ?_
       ·repeat first|exact ⟨⟩|refine ⟨rfl,?_⟩
       exact Pick.all
      ·refine WP.callS (ref03_Without_S r_o9_7_1) rfl rfl rfl rfl rfl rfl rfl (by kernel_rfl) (fun w1 hw1 => (ref03_Without_w hg_o9_7_1 (InsZ.mk_ (hw1.ow (.tail (.tail (.tail .head))) hf5) (hw1.ow (.tail (.tail (.tail (.tail .head)))) hf6)) (hw1.ow .head hf_o9_6_1) SlF.nil_ :)) ?_
       rintro _ _ ⟨A_o9_7_1, n_o9_7_1, c_o9_7_1, A_o9_7_2, n_o9_7_2, c_o9_7_2, rfl, hf_o9_7_1, hf_o9_7_2, rfl⟩
       refine WP.any3 0 8 13 rfl (by kernel_rfl) rfl rfl rfl ?_ ?_ ?_
       ·refine WP.mx_ tysOk rfl ⟨⟩ (SegAt.blk' (.tail (.tail (.tail (.tail (.tail (.tail (.tail (.tail .head)))))))) rfl) ?_
        refine WP.useF mm4 (A_o9_6_1, n_o9_6_1, c_o9_6_1, A_o9_7_1, n_o9_7_1, c_o9_7_1, A_o9_7_2, n_o9_7_2, c_o9_7_2) ⟨hf_o9_6_1, hf_o9_7_1, hf_o9_7_2⟩ rfl (by kernel_rfl) ?_ ?_
        ·repeat first|exact ⟨⟩|refine ⟨rfl,?_⟩
        exact Pick.all
       ·refine WP.mx_ tysOk rfl ⟨⟩ (SegAt.blk' (.tail (.tail (.tail .head))) rfl) ?_
        refine WP.useF mm9 (A_o9_6_1, n_o9_6_1, c_o9_6_1, A_o9_7_1, n_o9_7_1, c_o9_7_1, A_o9_7_2, n_o9_7_2, c_o9_7_2) ⟨hf_o9_6_1, hf_o9_7_1, hf_o9_7_2⟩ rfl (by kernel_rfl) ?_ ?_
        ·repeat first|exact ⟨⟩|refine ⟨rfl,?_⟩
        exact Pick.all
       refine WP.al tysOk rfl rfl rfl rfl rfl rfl ?_
       intro g_o9_13_1
       refine WP.useF mm10 (A_o9_6_1, n_o9_6_1, c_o9_6_1, A_o9_7_1, n_o9_7_1, c_o9_7_1, A_o9_7_2, n_o9_7_2, c_o9_7_2, g_o9_13_1) ⟨hf_o9_6_1, hf_o9_7_1, hf_o9_7_2⟩ rfl (by kernel_rfl) ?_ ?_
       ·repeat first|exact ⟨⟩|refine ⟨rfl,?_⟩
       exact Pick.all
      ·refine WP.mx_ tysOk rfl ⟨⟩ (SegAt.blk' (.tail .head) rfl) ?_
       refine WP.useF mm19 (A_o9_6_1, n_o9_6_1, c_o9_6_1) hf_o9_6_1 rfl (by kernel_rfl) ?_ ?_
       ·repeat first|exact ⟨⟩|refine ⟨rfl,?_⟩
       exact Pick.all
      refine WP.al tysOk rfl rfl rfl rfl rfl rfl ?_
      intro g_o9_13_1
      refine WP.useF mm20 (A_o9_6_1, n_o9_6_1, c_o9_6_1, g_o9_13_1) hf_o9_6_1 rfl (by kernel_rfl) ?_ ?_
      ·repeat first|exact ⟨⟩|refine ⟨rfl,?_⟩
      exact Pick.all
     intro mm31
     refine WP.cutF (α := Unit) (fun x => True) #[false, true, true, true, true, true, false, false, true, false, false, false, false, false, false, false] 10 (fun x => [(1, pt g1), (2, pt g2), (44, .agg #[.slice A7 n8 c7, .slice A8 n9 c8]), (47, iv (i1.supply.length : Int)), (48, iv n6), (51, .agg #[iv r7.2.hi, .int .u64 (r7.2.lo)])]) (fun x => [.blk g8 38 [iv r7.2.hi, .int .u64 (r7.2.lo)], .blk g7 25 [.slice A7 n8 c7, .slice A8 n9 c8], Ow (fI .i64) 2 A7 n8 c7 r7.1.supply, Ow fA 31 A8 n9 c8 r7.1.arcs, .blk g2 40 [sn, sn, iv 0, sn, sn, iv 0, .int .u64 (0), .bool (false)], .blk g1 25 [.slice A1 i1.supply.length c1, .slice A2 i1.arcs.length c2], .fz (PH.of w)]) rfl ?_ ?_
     ·rintro _ _
      refine WP.any3 0 6 13 rfl (by kernel_rfl) rfl rfl rfl ?_ ?_ ?_
      ·refine WP.mx_ tysOk rfl ⟨⟩ (SegAt.blk' (.tail (.tail (.tail (.tail (.tail .head))))) rfl) ?_
       refine WP.useF mm13 () True.intro rfl (by kernel_rfl) ?_ ?_
       ·repeat first|exact ⟨⟩|refine ⟨rfl,?_⟩
       exact Pick.all
      ·refine WP.callS (ref17_one_S r_o9_6_1) rfl rfl rfl rfl rfl rfl rfl (by kernel_rfl) (fun w1 hw1 => (ref17_one_w hg_o9_6_1  :)) ?_
       rintro _ _ ⟨A_o9_6_1, n_o9_6_1, c_o9_6_1, rfl, hf_o9_6_1, rfl⟩
       refine WP.useF mm19 (A_o9_6_1, n_o9_6_1, c_o9_6_1) hf_o9_6_1 rfl (by kernel_rfl) ?_ ?_
       ·repeat first|exact ⟨⟩|refine ⟨rfl,?_⟩
       exact Pick.all
      refine WP.al tysOk rfl rfl rfl rfl rfl rfl ?_
      intro g_o9_13_1
      refine WP.useF mm21 g_o9_13_1 True.intro rfl (by kernel_rfl) ?_ ?_
      ·repeat first|exact ⟨⟩|refine ⟨rfl,?_⟩
      exact Pick.all
     intro mm32
     refine WP.cutF (α := Nat) (fun x => True) #[false, true, true, true, true, true, false, false, false, false, false, false, false, true, false, false] 10 (fun x => [(1, pt g1), (2, pt g2), (10, pt g8), (11, pt x), (44, .agg #[.slice A7 n8 c7, .slice A8 n9 c8]), (47, iv (i1.supply.length : Int)), (48, iv n6)]) (fun x => [.blk x 40 [sn, sn, iv 0, sn, sn, iv 0, .int .u64 (0), .bool (false)], .blk g8 38 [iv r7.2.hi, .int .u64 (r7.2.lo)], .blk g7 25 [.slice A7 n8 c7, .slice A8 n9 c8], Ow (fI .i64) 2 A7 n8 c7 r7.1.supply, Ow fA 31 A8 n9 c8 r7.1.arcs, .blk g2 40 [sn, sn, iv 0, sn, sn, iv 0, .int .u64 (0), .bool (false)], .blk g1 25 [.slice A1 i1.supply.length c1, .slice A2 i1.arcs.length c2], .fz (PH.of w)]) rfl ?_ ?_
     ·rintro g_o9_13_1 _
      refine WP.any3 0 6 8 rfl (by kernel_rfl) rfl rfl rfl ?_ ?_ ?_
      ·refine WP.mx_ tysOk rfl ⟨⟩ (SegAt.blk' (.tail (.tail (.tail (.tail (.tail (.tail .head)))))) rfl) ?_
       refine WP.useF mm14 g_o9_13_1 True.intro rfl (by kernel_rfl) ?_ ?_
       ·repeat first|exact ⟨⟩|refine ⟨rfl,?_⟩
       exact Pick.all
      ·refine WP.callS (ref17_one_S r_o9_6_1) rfl rfl rfl rfl rfl rfl rfl (by kernel_rfl) (fun w1 hw1 => (ref17_one_w hg_o9_6_1  :)) ?_
       rintro _ _ ⟨A_o9_6_1, n_o9_6_1, c_o9_6_1, rfl, hf_o9_6_1, rfl⟩
       refine WP.useF mm20 (A_o9_6_1, n_o9_6_1, c_o9_6_1, g_o9_13_1) hf_o9_6_1 rfl (by kernel_rfl) ?_ ?_
       ·repeat first|exact ⟨⟩|refine ⟨rfl,?_⟩
       exact (.cons (.tail .head) (.cons .head (.cons .head (.cons .head (.cons .head (.cons .head (.cons .head (.cons .head (.cons .head .nil)))))))))
      refine WP.mx_ tysOk rfl ⟨⟩ (SegAt.blk' (.tail .head) rfl) ?_
      refine WP.useF mm21 g_o9_13_1 True.intro rfl (by kernel_rfl) ?_ ?_
      ·repeat first|exact ⟨⟩|refine ⟨rfl,?_⟩
      exact Pick.all
     intro mm33
     refine WP.cutF (α := Nat) (fun x => True) #[false, true, true, true, false, true, false, false, true, false, false, false, false, true, false, false] 10 (fun x => [(1, pt g1), (2, pt g2), (11, pt x), (44, .agg #[.slice A7 n8 c7, .slice A8 n9 c8]), (46, .slice A1 i1.supply.length c1), (48, iv n6), (51, .agg #[iv r7.2.hi, .int .u64 (r7.2.lo)])]) (fun x => [.blk x 40 [sn, sn, iv 0, sn, sn, iv 0, .int .u64 (0), .bool (false)], .blk g8 38 [iv r7.2.hi, .int .u64 (r7.2.lo)], .blk g7 25 [.slice A7 n8 c7, .slice A8 n9 c8], Ow (fI .i64) 2 A7 n8 c7 r7.1.supply, Ow fA 31 A8 n9 c8 r7.1.arcs, .blk g2 40 [sn, sn, iv 0, sn, sn, iv 0, .int .u64 (0), .bool (false)], .blk g1 25 [.slice A1 i1.supply.length c1, .slice A2 i1.arcs.length c2], .fz (PH.of w)]) rfl ?_ ?_
     ·rintro g_o9_13_1 _
      refine WP.any2 0 4 rfl (by kernel_rfl) rfl rfl ?_ ?_
      ·refine WP.mx_ tysOk rfl ⟨⟩ (SegAt.blk' (.tail (.tail (.tail (.tail (.tail (.tail .head)))))) rfl) ?_
       refine WP.useF mm15 g_o9_13_1 True.intro rfl (by kernel_rfl) ?_ ?_
       ·repeat first|exact ⟨⟩|refine ⟨rfl,?_⟩
       exact Pick.all
      refine WP.sx tysOk rfl ⟨⟨⟩, ⟨⟩⟩ ?_
      refine WP.useF mm21 g_o9_13_1 True.intro rfl (by kernel_rfl) ?_ ?_
      ·repeat first|exact ⟨⟩|refine ⟨rfl,?_⟩
      exact Pick.all
     intro mm34
     refine WP.cutF (α := (Option Addr) × Nat × Nat) (fun x => OwF x.1 x.2.1 r_o9_6_1) #[false, false, true, true, true, true, true, false, true, false, false, false, false, false, false, false] 10 (fun x => [(1, pt g1), (2, pt g2), (9, pt g7), (49, .slice x.1 x.2.1 x.2.2), (51, .agg #[iv r7.2.hi, .int .u64 (r7.2.lo)])]) (fun x => [Ow fB 4 x.1 x.2.1 x.2.2 r_o9_6_1, .blk g8 38 [iv r7.2.hi, .int .u64 (r7.2.lo)], .blk g7 25 [.slice A7 n8 c7, .slice A8 n9 c8], Ow (fI .i64) 2 A7 n8 c7 r7.1.supply, Ow fA 31 A8 n9 c8 r7.1.arcs, .blk g2 40 [sn, sn, iv 0, sn, sn, iv 0, .int .u64 (0), .bool (false)], .blk g1 25 [.slice A1 i1.supply.length c1, .slice A2 i1.arcs.length c2], .fz (PH.of w)]) rfl ?_ ?_
     ·rintro ⟨A_o9_6_1, n_o9_6_1, c_o9_6_1⟩ hf_o9_6_1
      dsimp only at hf_o9_6_1 ⊢
      refine WP.any3 0 1 13 rfl (by kernel_rfl) rfl rfl rfl ?_ ?_ ?_
      ·refine WP.mx_ tysOk rfl ⟨⟩ (SegAt.blk' (.tail (.tail (.tail (.tail (.tail (.tail .head)))))) rfl) ?_
       refine WP.useF mm16 (A_o9_6_1, n_o9_6_1, c_o9_6_1) hf_o9_6_1 rfl (by kernel_rfl) ?_ ?_
       ·repeat first|exact ⟨⟩|refine ⟨rfl,?_⟩
       exact Pick.all
      ·refine WP.mx_ tysOk rfl ⟨⟩ (SegAt.blk' (.tail (.tail .head)) rfl) ?_
       refine WP.useF mm19 (A_o9_6_1, n_o9_6_1, c_o9_6_1) hf_o9_6_1 rfl (by kernel_rfl) ?_ ?_
       ·repeat first|exact ⟨⟩|refine ⟨rfl,?_⟩
       exact Pick.all
      refine WP.al tysOk rfl rfl rfl rfl rfl rfl ?_
      intro g_o9_13_1
      refine WP.useF mm22 (A_o9_6_1, n_o9_6_1, c_o9_6_1, g_o9_13_1) hf_o9_6_1 rfl (by kernel_rfl) ?_ ?_
      ·repeat first|exact ⟨⟩|refine ⟨rfl,?_⟩
      exact Pick.all
     intro mm35
     refine WP.cutF (α := (Option Addr) × Nat × Nat × Nat) (fun x => OwF x.1 x.2.1 r_o9_6_1) #[false, false, true, true, true, true, true, false, false, false, false, false, false, true, false, false] 10 (fun x => [(1, pt g1), (2, pt g2), (9, pt g7), (10, pt g8), (11, pt x.2.2.2), (49, .slice x.1 x.2.1 x.2.2.1)]) (fun x => [.blk x.2.2.2 40 [sn, sn, iv 0, sn, sn, iv 0, .int .u64 (0), .bool (false)], Ow fB 4 x.1 x.2.1 x.2.2.1 r_o9_6_1, .blk g8 38 [iv r7.2.hi, .int .u64 (r7.2.lo)], .blk g7 25 [.slice A7 n8 c7, .slice A8 n9 c8], Ow (fI .i64) 2 A7 n8 c7 r7.1.supply, Ow fA 31 A8 n9 c8 r7.1.arcs, .blk g2 40 [sn, sn, iv 0, sn, sn, iv 0, .int .u64 (0), .bool (false)], .blk g1 25 [.slice A1 i1.supply.length c1, .slice A2 i1.arcs.length c2], .fz (PH.of w)]) rfl ?_ ?_
     ·rintro ⟨A_o9_6_1, n_o9_6_1, c_o9_6_1, g_o9_13_1⟩ hf_o9_6_1
      dsimp only at hf_o9_6_1 ⊢
      refine WP.any3 0 1 8 rfl (by kernel_rfl) rfl rfl rfl ?_ ?_ ?_
      ·refine WP.mx_ tysOk rfl ⟨⟩ (SegAt.blk' (.tail (.tail (.tail (.tail (.tail (.tail (.tail .head))))))) rfl) ?_
       refine WP.useF mm17 (A_o9_6_1, n_o9_6_1, c_o9_6_1, g_o9_13_1) hf_o9_6_1 rfl (by kernel_rfl) ?_ ?_
       ·repeat first|exact ⟨⟩|refine ⟨rfl,?_⟩
       exact Pick.all
      ·refine WP.mx_ tysOk rfl ⟨⟩ (SegAt.blk' (.tail (.tail (.tail .head))) rfl) ?_
       refine WP.useF mm20 (A_o9_6_1, n_o9_6_1, c_o9_6_1, g_o9_13_1) hf_o9_6_1 rfl (by kernel_rfl) ?_ ?_
       ·repeat first|exact ⟨⟩|refine ⟨rfl,?_⟩
       exact Pick.all
      refine WP.mx_ tysOk rfl ⟨⟩ (SegAt.blk' (.tail (.tail .head)) rfl) ?_
      refine WP.useF mm22 (A_o9_6_1, n_o9_6_1, c_o9_6_1, g_o9_13_1) hf_o9_6_1 rfl (by kernel_rfl) ?_ ?_
      ·repeat first|exact ⟨⟩|refine ⟨rfl,?_⟩
      exact Pick.all
     intro mm36
     refine WP.cutF (α := Nat) (fun x => True) #[false, false, true, true, true, true, false, false, true, false, false, false, false, true, false, false] 10 (fun x => [(1, pt g1), (2, pt g2), (9, pt g7), (11, pt x), (47, iv (i1.supply.length : Int)), (48, iv n6), (51, .agg #[iv r7.2.hi, .int .u64 (r7.2.lo)])]) (fun x => [.blk x 40 [sn, sn, iv 0, sn, sn, iv 0, .int .u64 (0), .bool (false)], .blk g8 38 [iv r7.2.hi, .int .u64 (r7.2.lo)], .blk g7 25 [.slice A7 n8 c7, .slice A8 n9 c8], Ow (fI .i64) 2 A7 n8 c7 r7.1.supply, Ow fA 31 A8 n9 c8 r7.1.arcs, .blk g2 40 [sn, sn, iv 0, sn, sn, iv 0, .int .u64 (0), .bool (false)], .blk g1 25 [.slice A1 i1.supply.length c1, .slice A2 i1.arcs.length c2], .fz (PH.of w)]) rfl ?_ ?_
     ·rintro g_o9_13_1 _
      refine WP.any3 0 1 6 rfl (by kernel_rfl) rfl rfl rfl ?_ ?_ ?_
      ·refine WP.mx_ tysOk rfl ⟨⟩ (SegAt.blk' (.tail (.tail (.tail (.tail (.tail (.tail .head)))))) rfl) ?_
       refine WP.useF mm18 g_o9_13_1 True.intro rfl (by kernel_rfl) ?_ ?_
       ·repeat first|exact ⟨⟩|refine ⟨rfl,?_⟩
       exact Pick.all
      ·refine WP.mx_ tysOk rfl ⟨⟩ (SegAt.blk' (.tail (.tail .head)) rfl) ?_
       refine WP.useF mm21 g_o9_13_1 True.intro rfl (by kernel_rfl) ?_ ?_
       ·repeat first|exact ⟨⟩|refine ⟨rfl,?_⟩
       exact Pick.all
      refine WP.callS (ref17_one_S r_o9_6_1) rfl rfl rfl rfl rfl rfl rfl (by kernel_rfl) (fun w1 hw1 => (ref17_one_w hg_o9_6_1  :)) ?_
      rintro _ _ ⟨A_o9_6_1, n_o9_6_1, c_o9_6_1, rfl, hf_o9_6_1, rfl⟩
      refine WP.useF mm22 (A_o9_6_1, n_o9_6_1, c_o9_6_1, g_o9_13_1) hf_o9_6_1 rfl (by kernel_rfl) ?_ ?_
      ·repeat first|exact ⟨⟩|refine ⟨rfl,?_⟩
      exact (.cons (.tail .head) (.cons .head (.cons .head (.cons .head (.cons .head (.cons .head (.cons .head (.cons .head (.cons .head .nil)))))))))
     intro mm37
     refine WP.cutF (α := Unit) (fun x => True) #[true, true, true, true, false, true, false, false, false, false, false, false, false, false, false, false] 11 (fun x => [(2, pt g2), (10, pt g8), (43, .agg #[.slice A1 i1.supply.length c1, .slice A2 i1.arcs.length c2]), (44, .agg #[.slice A7 n8 c7, .slice A8 n9 c8]), (46, .slice A1 i1.supply.length c1), (48, iv n6)]) (fun x => [.blk g8 38 [iv r7.2.hi, .int .u64 (r7.2.lo)], .blk g7 25 [.slice A7 n8 c7, .slice A8 n9 c8], Ow (fI .i64) 2 A7 n8 c7 r7.1.supply, Ow fA 31 A8 n9 c8 r7.1.arcs, .blk g2 40 [sn, sn, iv 0, sn, sn, iv 0, .int .u64 (0), .bool (false)], .blk g1 25 [.slice A1 i1.supply.length c1, .slice A2 i1.arcs.length c2], .fz (PH.of w)]) rfl ?_ ?_
     ·rintro _ _
      refine WP.any3 4 8 13 rfl (by kernel_rfl) rfl rfl rfl ?_ ?_ ?_
      ·refine WP.sx tysOk rfl ⟨⟨⟩, ⟨⟩⟩ ?_
       refine WP.useF mm23 () True.intro rfl (by kernel_rfl) ?_ ?_
       ·repeat first|exact ⟨⟩|refine ⟨rfl,?_⟩
       exact Pick.all
      ·refine WP.mx_ tysOk rfl ⟨⟩ (SegAt.blk' .head rfl) ?_
       refine WP.useF mm24 () True.intro rfl (by kernel_rfl) ?_ ?_
       ·repeat first|exact ⟨⟩|refine ⟨rfl,?_⟩
       exact Pick.all
      refine WP.al tysOk rfl rfl rfl rfl rfl rfl ?_
      intro g_o9_13_1
      refine WP.useF mm25 g_o9_13_1 True.intro rfl (by kernel_rfl) ?_ ?_
      ·repeat first|exact ⟨⟩|refine ⟨rfl,?_⟩
      exact Pick.all
     intro mm38
     refine WP.cutF (α := Unit) (fun x => True) #[true, true, true, false, false, true, false, false, true, false, false, false, false, false, false, false] 11 (fun x => [(2, pt g2), (43, .agg #[.slice A1 i1.supply.length c1, .slice A2 i1.arcs.length c2]), (44, .agg #[.slice A7 n8 c7, .slice A8 n9 c8]), (45, pt g1), (48, iv n6), (51, .agg #[iv r7.2.hi, .int .u64 (r7.2.lo)])]) (fun x => [.blk g8 38 [iv r7.2.hi, .int .u64 (r7.2.lo)], .blk g7 25 [.slice A7 n8 c7, .slice A8 n9 c8], Ow (fI .i64) 2 A7 n8 c7 r7.1.supply, Ow fA 31 A8 n9 c8 r7.1.arcs, .blk g2 40 [sn, sn, iv 0, sn, sn, iv 0, .int .u64 (0), .bool (false)], .blk g1 25 [.slice A1 i1.supply.length c1, .slice A2 i1.arcs.length c2], .fz (PH.of w)]) rfl ?_ ?_
     ·rintro _ _
      refine WP.any2 3 13 rfl (by kernel_rfl) rfl rfl ?_ ?_
      ·refine WP.lx tysOk rfl ⟨⟩ (CellAt.blk (.tail (.tail (.tail (.tail (.tail .head))))) rfl) ?_
       refine WP.useF mm24 () True.intro rfl (by kernel_rfl) ?_ ?_
       ·repeat first|exact ⟨⟩|refine ⟨rfl,?_⟩
       exact Pick.all
      refine WP.al tysOk rfl rfl rfl rfl rfl rfl ?_
      intro g_o9_13_1
      refine WP.useF mm26 g_o9_13_1 True.intro rfl (by kernel_rfl) ?_ ?_
      ·repeat first|exact ⟨⟩|refine ⟨rfl,?_⟩
      exact Pick.all
     intro mm39
     refine WP.cutF (α := Nat) (fun x => True) #[true, true, true, false, false, true, false, false, false, false, false, false, false, true, false, false] 11 (fun x => [(2, pt g2), (10, pt g8), (11, pt x), (43, .agg #[.slice A1 i1.supply.length c1, .slice A2 i1.arcs.length c2]), (44, .agg #[.slice A7 n8 c7, .slice A8 n9 c8]), (45, pt g1), (48, iv n6)]) (fun x => [.blk x 40 [sn, sn, iv 0, sn, sn, iv 0, .int .u64 (0), .bool (false)], .blk g8 38 [iv r7.2.hi, .int .u64 (r7.2.lo)], .blk g7 25 [.slice A7 n8 c7, .slice A8 n9 c8], Ow (fI .i64) 2 A7 n8 c7 r7.1.supply, Ow fA 31 A8 n9 c8 r7.1.arcs, .blk g2 40 [sn, sn, iv 0, sn, sn, iv 0, .int .u64 (0), .bool (false)], .blk g1 25 [.slice A1 i1.supply.length c1, .slice A2 i1.arcs.length c2], .fz (PH.of w)]) rfl ?_ ?_
     ·rintro g_o9_13_1 _
      refine WP.any2 3 8 rfl (by kernel_rfl) rfl rfl ?_ ?_
      ·refine WP.lx tysOk rfl ⟨⟩ (CellAt.blk (.tail (.tail (.tail (.tail (.tail (.tail .head)))))) rfl) ?_
       refine WP.useF mm25 g_o9_13_1 True.intro rfl (by kernel_rfl) ?_ ?_
       ·repeat first|exact ⟨⟩|refine ⟨rfl,?_⟩
       exact Pick.all
      refine WP.mx_ tysOk rfl ⟨⟩ (SegAt.blk' (.tail .head) rfl) ?_
      refine WP.useF mm26 g_o9_13_1 True.intro rfl (by kernel_rfl) ?_ ?_
      ·repeat first|exact ⟨⟩|refine ⟨rfl,?_⟩
      exact Pick.all
     intro mm40
     refine WP.cutF (α := Unit) (fun x => True) #[true, false, true, true, true, true, false, false, false, false, false, false, false, false, false, false] 11 (fun x => [(2, pt g2), (9, pt g7), (10, pt g8), (43, .agg #[.slice A1 i1.supply.length c1, .slice A2 i1.arcs.length c2]), (47, iv (i1.supply.length : Int)), (48, iv n6)]) (fun x => [.blk g8 38 [iv r7.2.hi, .int .u64 (r7.2.lo)], .blk g7 25 [.slice A7 n8 c7, .slice A8 n9 c8], Ow (fI .i64) 2 A7 n8 c7 r7.1.supply, Ow fA 31 A8 n9 c8 r7.1.arcs, .blk g2 40 [sn, sn, iv 0, sn, sn, iv 0, .int .u64 (0), .bool (false)], .blk g1 25 [.slice A1 i1.supply.length c1, .slice A2 i1.arcs.length c2], .fz (PH.of w)]) rfl ?_ ?_
     ·rintro _ _
      refine WP.any4 1 6 8 13 rfl (by kernel_rfl) rfl rfl rfl rfl ?_ ?_ ?_ ?_
      ·refine WP.mx_ tysOk rfl ⟨⟩ (SegAt.blk' (.tail .head) rfl) ?_
       refine WP.useF mm23 () True.intro rfl (by kernel_rfl) ?_ ?_
       ·repeat first|exact ⟨⟩|refine ⟨rfl,?_⟩
       exact Pick.all
      ·refine WP.callS (ref17_one_S r_o9_6_1) rfl rfl rfl rfl rfl rfl rfl (by kernel_rfl) (fun w1 hw1 => (ref17_one_w hg_o9_6_1  :)) ?_
       rintro _ _ ⟨A_o9_6_1, n_o9_6_1, c_o9_6_1, rfl, hf_o9_6_1, rfl⟩
       refine WP.useF mm27 (A_o9_6_1, n_o9_6_1, c_o9_6_1) hf_o9_6_1 rfl (by kernel_rfl) ?_ ?_
       ·repeat first|exact ⟨⟩|refine ⟨rfl,?_⟩
       exact Pick.all
      ·refine WP.mx_ tysOk rfl ⟨⟩ (SegAt.blk' .head rfl) ?_
       refine WP.useF mm28 () True.intro rfl (by kernel_rfl) ?_ ?_
       ·repeat first|exact ⟨⟩|refine ⟨rfl,?_⟩
       exact Pick.all
      refine WP.al tysOk rfl rfl rfl rfl rfl rfl ?_
      intro g_o9_13_1
      refine WP.useF mm29 g_o9_13_1 True.intro rfl (by kernel_rfl) ?_ ?_
      ·repeat first|exact ⟨⟩|refine ⟨rfl,?_⟩
      exact Pick.all
     intro mm41
     refine WP.cutF (α := Unit) (fun x => True) #[true, false, true, true, false, true, false, false, true, false, false, false, false, false, false, false] 11 (fun x => [(2, pt g2), (9, pt g7), (43, .agg #[.slice A1 i1.supply.length c1, .slice A2 i1.arcs.length c2]), (46, .slice A1 i1.supply.length c1), (48, iv n6), (51, .agg #[iv r7.2.hi, .int .u64 (r7.2.lo)])]) (fun x => [.blk g8 38 [iv r7.2.hi, .int .u64 (r7.2.lo)], .blk g7 25 [.slice A7 n8 c7, .slice A8 n9 c8], Ow (fI .i64) 2 A7 n8 c7 r7.1.supply, Ow fA 31 A8 n9 c8 r7.1.arcs, .blk g2 40 [sn, sn, iv 0, sn, sn, iv 0, .int .u64 (0), .bool (false)], .blk g1 25 [.slice A1 i1.supply.length c1, .slice A2 i1.arcs.length c2], .fz (PH.of w)]) rfl ?_ ?_
     ·rintro _ _
      refine WP.any3 1 4 13 rfl (by kernel_rfl) rfl rfl rfl ?_ ?_ ?_
      ·refine WP.mx_ tysOk rfl ⟨⟩ (SegAt.blk' (.tail .head) rfl) ?_
       refine WP.useF mm24 () True.intro rfl (by kernel_rfl) ?_ ?_
       ·repeat first|exact ⟨⟩|refine ⟨rfl,?_⟩
       exact Pick.all
      ·refine WP.sx tysOk rfl ⟨⟨⟩, ⟨⟩⟩ ?_
       refine WP.useF mm28 () True.intro rfl (by kernel_rfl) ?_ ?_
       ·repeat first|exact ⟨⟩|refine ⟨rfl,?_⟩
       exact Pick.all
      refine WP.al tysOk rfl rfl rfl rfl rfl rfl ?_
      intro g_o9_13_1
      refine WP.useF mm30 g_o9_13_1 True.intro rfl (by kernel_rfl) ?_ ?_
      ·repeat first|exact ⟨⟩|refine ⟨rfl,?_⟩
      exact Pick.all
     intro mm42
     refine WP.cutF (α := Nat) (fun x => True) #[true, false, true, true, false, true, false, false, false, false, false, false, false, true, false, false] 11 (fun x => [(2, pt g2), (9, pt g7), (10, pt g8), (11, pt x), (43, .agg #[.slice A1 i1.supply.length c1, .slice A2 i1.arcs.length c2]), (46, .slice A1 i1.supply.length c1), (48, iv n6)]) (fun x => [.blk x 40 [sn, sn, iv 0, sn, sn, iv 0, .int .u64 (0), .bool (false)], .blk g8 38 [iv r7.2.hi, .int .u64 (r7.2.lo)], .blk g7 25 [.slice A7 n8 c7, .slice A8 n9 c8], Ow (fI .i64) 2 A7 n8 c7 r7.1.supply, Ow fA 31 A8 n9 c8 r7.1.arcs, .blk g2 40 [sn, sn, iv 0, sn, sn, iv 0, .int .u64 (0), .bool (false)], .blk g1 25 [.slice A1 i1.supply.length c1, .slice A2 i1.arcs.length c2], .fz (PH.of w)]) rfl ?_ ?_
     ·rintro g_o9_13_1 _
      refine WP.any3 1 4 8 rfl (by kernel_rfl) rfl rfl rfl ?_ ?_ ?_
      ·refine WP.mx_ tysOk rfl ⟨⟩ (SegAt.blk' (.tail (.tail .head)) rfl) ?_
       refine WP.useF mm25 g_o9_13_1 True.intro rfl (by kernel_rfl) ?_ ?_
       ·repeat first|exact ⟨⟩|refine ⟨rfl,?_⟩
       exact Pick.all
      ·refine WP.sx tysOk rfl ⟨⟨⟩, ⟨⟩⟩ ?_
       refine WP.useF mm29 g_o9_13_1 True.intro rfl (by kernel_rfl) ?_ ?_
       ·repeat first|exact ⟨⟩|refine ⟨rfl,?_⟩
       exact Pick.all
      refine WP.mx_ tysOk rfl ⟨⟩ (SegAt.blk' (.tail .head) rfl) ?_
      refine WP.useF mm30 g_o9_13_1 True.intro rfl (by kernel_rfl) ?_ ?_
      ·repeat first|exact ⟨⟩|refine ⟨rfl,?_⟩
      exact Pick.all
     intro mm43
     refine WP.cutF (α := Nat) (fun x => True) #[true, false, true, false, false, true, false, false, true, false, false, false, false, true, false, false] 11 (fun x => [(2, pt g2), (9, pt g7), (11, pt x), (43, .agg #[.slice A1 i1.supply.length c1, .slice A2 i1.arcs.length c2]), (45, pt g1), (48, iv n6), (51, .agg #[iv r7.2.hi, .int .u64 (r7.2.lo)])]) (fun x => [.blk x 40 [sn, sn, iv 0, sn, sn, iv 0, .int .u64 (0), .bool (false)], .blk g8 38 [iv r7.2.hi, .int .u64 (r7.2.lo)], .blk g7 25 [.slice A7 n8 c7, .slice A8 n9 c8], Ow (fI .i64) 2 A7 n8 c7 r7.1.supply, Ow fA 31 A8 n9 c8 r7.1.arcs, .blk g2 40 [sn, sn, iv 0, sn, sn, iv 0, .int .u64 (0), .bool (false)], .blk g1 25 [.slice A1 i1.supply.length c1, .slice A2 i1.arcs.length c2], .fz (PH.of w)]) rfl ?_ ?_
     ·rintro g_o9_13_1 _
      refine WP.any2 1 3 rfl (by kernel_rfl) rfl rfl ?_ ?_
      ·refine WP.mx_ tysOk rfl ⟨⟩ (SegAt.blk' (.tail (.tail .head)) rfl) ?_
       refine WP.useF mm26 g_o9_13_1 True.intro rfl (by kernel_rfl) ?_ ?_
       ·repeat first|exact ⟨⟩|refine ⟨rfl,?_⟩
       exact Pick.all
      refine WP.lx tysOk rfl ⟨⟩ (CellAt.blk (.tail (.tail (.tail (.tail (.tail (.tail .head)))))) rfl) ?_
      refine WP.useF mm30 g_o9_13_1 True.intro rfl (by kernel_rfl) ?_ ?_
      ·repeat first|exact ⟨⟩|refine ⟨rfl,?_⟩
      exact Pick.all
     intro mm44
     refine WP.cutF (α := Unit) (fun x => True) #[false, true, true, true, true, true, false, false, false, false, false, false, false, false, false, false] 11 (fun x => [(1, pt g1), (2, pt g2), (10, pt g8), (44, .agg #[.slice A7 n8 c7, .slice A8 n9 c8]), (47, iv (i1.supply.length : Int)), (48, iv n6)]) (fun x => [.blk g8 38 [iv r7.2.hi, .int .u64 (r7.2.lo)], .blk g7 25 [.slice A7 n8 c7, .slice A8 n9 c8], Ow (fI .i64) 2 A7 n8 c7 r7.1.supply, Ow fA 31 A8 n9 c8 r7.1.arcs, .blk g2 40 [sn, sn, iv 0, sn, sn, iv 0, .int .u64 (0), .bool (false)], .blk g1 25 [.slice A1 i1.supply.length c1, .slice A2 i1.arcs.length c2], .fz (PH.of w)]) rfl ?_ ?_
     ·rintro _ _
      refine WP.any4 0 6 8 13 rfl (by kernel_rfl) rfl rfl rfl rfl ?_ ?_ ?_ ?_
      ·refine WP.mx_ tysOk rfl ⟨⟩ (SegAt.blk' (.tail (.tail (.tail (.tail (.tail .head))))) rfl) ?_
       refine WP.useF mm23 () True.intro rfl (by kernel_rfl) ?_ ?_
       ·repeat first|exact ⟨⟩|refine ⟨rfl,?_⟩
       exact Pick.all
      ·refine WP.callS (ref17_one_S r_o9_6_1) rfl rfl rfl rfl rfl rfl rfl (by kernel_rfl) (fun w1 hw1 => (ref17_one_w hg_o9_6_1  :)) ?_
       rintro _ _ ⟨A_o9_6_1, n_o9_6_1, c_o9_6_1, rfl, hf_o9_6_1, rfl⟩
       refine WP.useF mm31 (A_o9_6_1, n_o9_6_1, c_o9_6_1) hf_o9_6_1 rfl (by kernel_rfl) ?_ ?_
       ·repeat first|exact ⟨⟩|refine ⟨rfl,?_⟩
       exact Pick.all
      ·refine WP.mx_ tysOk rfl ⟨⟩ (SegAt.blk' .head rfl) ?_
       refine WP.useF mm32 () True.intro rfl (by kernel_rfl) ?_ ?_
       ·repeat first|exact ⟨⟩|refine ⟨rfl,?_⟩
       exact Pick.all
      refine WP.al tysOk rfl rfl rfl rfl rfl rfl ?_
      intro g_o9_13_1
      refine WP.useF mm33 g_o9_13_1 True.intro rfl (by kernel_rfl) ?_ ?_
      ·repeat first|exact ⟨⟩|refine ⟨rfl,?_⟩
      exact Pick.all
     intro mm45
     refine WP.cutF (α := Unit) (fun x => True) #[false, true, true, true, false, true, false, false, true, false, false, false, false, false, false, false] 11 (fun x => [(1, pt g1), (2, pt g2), (44, .agg #[.slice A7 n8 c7, .slice A8 n9 c8]), (46, .slice A1 i1.supply.length c1), (48, iv n6), (51, .agg #[iv r7.2.hi, .int .u64 (r7.2.lo)])]) (fun x => [.blk g8 38 [iv r7.2.hi, .int .u64 (r7.2.lo)], .blk g7 25 [.slice A7 n8 c7, .slice A8 n9 c8], Ow (fI .i64) 2 A7 n8 c7 r7.1.supply, Ow fA 31 A8 n9 c8 r7.1.arcs, .blk g2 40 [sn, sn, iv 0, sn, sn, iv 0, .int .u64 (0), .bool (false)], .blk g1 25 [.slice A1 i1.supply.length c1, .slice A2 i1.arcs.length c2], .fz (PH.of w)]) rfl ?_ ?_
     ·rintro _ _
      refine WP.any3 0 4 13 rfl (by kernel_rfl) rfl rfl rfl ?_ ?_ ?_
      ·refine WP.mx_ tysOk rfl ⟨⟩ (SegAt.blk' (.tail (.tail (.tail (.tail (.tail .head))))) rfl) ?_
       refine WP.useF mm24 () True.intro rfl (by kernel_rfl) ?_ ?_
       ·repeat first|exact ⟨⟩|refine ⟨rfl,?_⟩
       exact Pick.all
      ·refine WP.sx tysOk rfl ⟨⟨⟩, ⟨⟩⟩ ?_
       refine WP.useF mm32 () True.intro rfl (by kernel_rfl) ?_ ?_
       ·repeat first|exact ⟨⟩|refine ⟨rfl,?_⟩
       exact Pick.all
      refine WP.al tysOk rfl rfl rfl rfl rfl rfl ?_
      intro g_o9_13_1
      refine WP.useF mm34 g_o9_13_1 True.intro rfl (by kernel_rfl) ?_ ?_
      ·repeat first|exact ⟨⟩|refine ⟨rfl,?_⟩
      exact Pick.all
     intro mm46
     refine WP.cutF (α := Nat) (fun x => True) #[false, true, true, true, false, true, false, false, false, false, false, false, false, true, false, false] 11 (fun x => [(1, pt g1), (2, pt g2), (10, pt g8), (11, pt x), (44, .agg #[.slice A7 n8 c7, .slice A8 n9 c8]), (46, .slice A1 i1.supply.length c1), (48, iv n6)]) (fun x => [.blk x 40 [sn, sn, iv 0, sn, sn, iv 0, .int .u64 (0), .bool (false)], .blk g8 38 [iv r7.2.hi, .int .u64 (r7.2.lo)], .blk g7 25 [.slice A7 n8 c7, .slice A8 n9 c8], Ow (fI .i64) 2 A7 n8 c7 r7.1.supply, Ow fA 31 A8 n9 c8 r7.1.arcs, .blk g2 40 [sn, sn, iv 0, sn, sn, iv 0, .int .u64 (0), .bool (false)], .blk g1 25 [.slice A1 i1.supply.length c1, .slice A2 i1.arcs.length c2], .fz (PH.of w)]) rfl ?_ ?_
     ·rintro g_o9_13_1 _
      refine WP.any3 0 4 8 rfl (by kernel_rfl) rfl rfl rfl ?_ ?_ ?_
      ·refine WP.mx_ tysOk rfl ⟨⟩ (SegAt.blk' (.tail (.tail (.tail (.tail (.tail (.tail .head)))))) rfl) ?_
       refine WP.useF mm25 g_o9_13_1 True.intro rfl (by kernel_rfl) ?_ ?_
       ·repeat first|exact ⟨⟩|refine ⟨rfl,?_⟩
       exact Pick.all
      ·refine WP.sx tysOk rfl ⟨⟨⟩, ⟨⟩⟩ ?_
       refine WP.useF mm33 g_o9_13_1 True.intro rfl (by kernel_rfl) ?_ ?_
       ·repeat first|exact ⟨⟩|refine ⟨rfl,?_⟩
       exact Pick.all
      refine WP.mx_ tysOk rfl ⟨⟩ (SegAt.blk' (.tail .head) rfl) ?_
      refine WP.useF mm34 g_o9_13_1 True.intro rfl (by kernel_rfl) ?_ ?_
      ·repeat first|exact ⟨⟩|refine ⟨rfl,?_⟩
      exact Pick.all
     intro mm47
     refine WP.cutF (α := Nat) (fun x => True) #[false, true, true, false, false, true, false, false, true, false, false, false, false, true, false, false] 11 (fun x => [(1, pt g1), (2, pt g2), (11, pt x), (44, .agg #[.slice A7 n8 c7, .slice A8 n9 c8]), (45, pt g1), (48, iv n6), (51, .agg #[iv r7.2.hi, .int .u64 (r7.2.lo)])]) (fun x => [.blk x 40 [sn, sn, iv 0, sn, sn, iv 0, .int .u64 (0), .bool (false)], .blk g8 38 [iv r7.2.hi, .int .u64 (r7.2.lo)], .blk g7 25 [.slice A7 n8 c7, .slice A8 n9 c8], Ow (fI .i64) 2 A7 n8 c7 r7.1.supply, Ow fA 31 A8 n9 c8 r7.1.arcs, .blk g2 40 [sn, sn, iv 0, sn, sn, iv 0, .int .u64 (0), .bool (false)], .blk g1 25 [.slice A1 i1.supply.length c1, .slice A2 i1.arcs.length c2], .fz (PH.of w)]) rfl ?_ ?_
     ·rintro g_o9_13_1 _
      refine WP.any2 0 3 rfl (by kernel_rfl) rfl rfl ?_ ?_
      ·refine WP.mx_ tysOk rfl ⟨⟩ (SegAt.blk' (.tail (.tail (.tail (.tail (.tail (.tail .head)))))) rfl) ?_
       refine WP.useF mm26 g_o9_13_1 True.intro rfl (by kernel_rfl) ?_ ?_
       ·repeat first|exact ⟨⟩|refine ⟨rfl,?_⟩
       exact Pick.all
      refine WP.lx tysOk rfl ⟨⟩ (CellAt.blk (.tail (.tail (.tail (.tail (.tail (.tail .head)))))) rfl) ?_
      refine WP.useF mm34 g_o9_13_1 True.intro rfl (by kernel_rfl) ?_ ?_
      ·repeat first|exact ⟨⟩|refine ⟨rfl,?_⟩
      exact Pick.all
     intro mm48
     refine WP.cutF (α := Unit) (fun x => True) #[false, false, true, true, true, true, false, false, true, false, false, false, false, false, false, false] 11 (fun x => [(1, pt g1), (2, pt g2), (9, pt g7), (47, iv (i1.supply.length : Int)), (48, iv n6), (51, .agg #[iv r7.2.hi, .int .u64 (r7.2.lo)])]) (fun x => [.blk g8 38 [iv r7.2.hi, .int .u64 (r7.2.lo)], .blk g7 25 [.slice A7 n8 c7, .slice A8 n9 c8], Ow (fI .i64) 2 A7 n8 c7 r7.1.supply, Ow fA 31 A8 n9 c8 r7.1.arcs, .blk g2 40 [sn, sn, iv 0, sn, sn, iv 0, .int .u64 (0), .bool (false)], .blk g1 25 [.slice A1 i1.supply.length c1, .slice A2 i1.arcs.length c2], .fz (PH.of w)]) rfl ?_ ?_
     ·rintro _ _
      refine WP.any4 0 1 6 13 rfl (by kernel_rfl) rfl rfl rfl rfl ?_ ?_ ?_ ?_
      ·refine WP.mx_ tysOk rfl ⟨⟩ (SegAt.blk' (.tail (.tail (.tail (.tail (.tail .head))))) rfl) ?_
       refine WP.useF mm28 () True.intro rfl (by kernel_rfl) ?_ ?_
       ·repeat first|exact ⟨⟩|refine ⟨rfl,?_⟩
       exact Pick.all
      ·refine WP.mx_ tysOk rfl ⟨⟩ (SegAt.blk' (.tail .head) rfl) ?_
       refine WP.useF mm32 () True.intro rfl (by kernel_rfl) ?_ ?_
       ·repeat first|exact ⟨⟩|refine ⟨rfl,?_⟩
       exact Pick.all
      ·refine WP.callS (ref17_one_S r_o9_6_1) rfl rfl rfl rfl rfl rfl rfl (by kernel_rfl) (fun w1 hw1 => (ref17_one_w hg_o9_6_1  :)) ?_
       rintro _ _ ⟨A_o9_6_1, n_o9_6_1, c_o9_6_1, rfl, hf_o9_6_1, rfl⟩
       refine WP.useF mm35 (A_o9_6_1, n_o9_6_1, c_o9_6_1) hf_o9_6_1 rfl (by kernel_rfl) ?_ ?_
       ·repeat first|exact ⟨⟩|refine ⟨rfl,?_⟩
       exact Pick.all
      refine WP.al tysOk rfl rfl rfl rfl rfl rfl ?_
      intro g_o9_13_1
      refine WP.useF mm37 g_o9_13_1 True.intro rfl (by kernel_rfl) ?_ ?_
      ·repeat first|exact ⟨⟩|refine ⟨rfl,?_⟩
      exact Pick.all
     intro mm49
     refine WP.cutF (α := Nat) (fun x => True) #[false, false, true, true, true, true, false, false, false, false, false, false, false, true, false, false] 11 (fun x => [(1, pt g1), (2, pt g2), (9, pt g7), (10, pt g8), (11, pt x), (47, iv (i1.supply.length : Int)), (48, iv n6)]) (fun x => [.blk x 40 [sn, sn, iv 0, sn, sn, iv 0, .int .u64 (0), .bool (false)], .blk g8 38 [iv r7.2.hi, .int .u64 (r7.2.lo)], .blk g7 25 [.slice A7 n8 c7, .slice A8 n9 c8], Ow (fI .i64) 2 A7 n8 c7 r7.1.supply, Ow fA 31 A8 n9 c8 r7.1.arcs, .blk g2 40 [sn, sn, iv 0, sn, sn, iv 0, .int .u64 (0), .bool (false)], .blk g1 25 [.slice A1 i1.supply.length c1, .slice A2 i1.arcs.length c2], .fz (PH.of w)]) rfl ?_ ?_
     ·rintro g_o9_13_1 _
      refine WP.any4 0 1 6 8 rfl (by kernel_rfl) rfl rfl rfl rfl ?_ ?_ ?_ ?_
      ·refine WP.mx_ tysOk rfl ⟨⟩ (SegAt.blk' (.tail (.tail (.tail (.tail (.tail (.tail .head)))))) rfl) ?_
       refine WP.useF mm29 g_o9_13_1 True.intro rfl (by kernel_rfl) ?_ ?_
       ·repeat first|exact ⟨⟩|refine ⟨rfl,?_⟩
       exact Pick.all
      ·refine WP.mx_ tysOk rfl ⟨⟩ (SegAt.blk' (.tail (.tail .head)) rfl) ?_
       refine WP.useF mm33 g_o9_13_1 True.intro rfl (by kernel_rfl) ?_ ?_
       ·repeat first|exact ⟨⟩|refine ⟨rfl,?_⟩
       exact Pick.all
      ·refine WP.callS (ref17_one_S r_o9_6_1) rfl rfl rfl rfl rfl rfl rfl (by kernel_rfl) (fun w1 hw1 => (ref17_one_w hg_o9_6_1  :)) ?_
       rintro _ _ ⟨A_o9_6_1, n_o9_6_1, c_o9_6_1, rfl, hf_o9_6_1, rfl⟩
       refine WP.useF mm36 (A_o9_6_1, n_o9_6_1, c_o9_6_1, g_o9_13_1) hf_o9_6_1 rfl (by kernel_rfl) ?_ ?_
       ·repeat first|exact ⟨⟩|refine ⟨rfl,?_⟩
       exact (.cons (.tail .head) (.cons .head (.cons .head (.cons .head (.cons .head (.cons .head (.cons .head (.cons .head (.cons .head .nil)))))))))
      refine WP.mx_ tysOk rfl ⟨⟩ (SegAt.blk' (.tail .head) rfl) ?_
      refine WP.useF mm37 g_o9_13_1 True.intro rfl (by kernel_rfl) ?_ ?_
      ·repeat first|exact ⟨⟩|refine ⟨rfl,?_⟩
      exact Pick.all
     intro mm50
     refine WP.cutF (α := Nat) (fun x => True) #[false, false, true, true, false, true, false, false, true, false, false, false, false, true, false, false] 11 (fun x => [(1, pt g1), (2, pt g2), (9, pt g7), (11, pt x), (46, .slice A1 i1.supply.length c1), (48, iv n6), (51, .agg #[iv r7.2.hi, .int .u64 (r7.2.lo)])]) (fun x => [.blk x 40 [sn, sn, iv 0, sn, sn, iv 0, .int .u64 (0), .bool (false)], .blk g8 38 [iv r7.2.hi, .int .u64 (r7.2.lo)], .blk g7 25 [.slice A7 n8 c7, .slice A8 n9 c8], Ow (fI .i64) 2 A7 n8 c7 r7.1.supply, Ow fA 31 A8 n9 c8 r7.1.arcs, .blk g2 40 [sn, sn, iv 0, sn, sn, iv 0, .int .u64 (0), .bool (false)], .blk g1 25 [.slice A1 i1.supply.length c1, .slice A2 i1.arcs.length c2], .fz (PH.of w)]) rfl ?_ ?_
     ·rintro g_o9_13_1 _
      refine WP.any3 0 1 4 rfl (by kernel_rfl) rfl rfl rfl ?_ ?_ ?_
      ·refine WP.mx_ tysOk rfl ⟨⟩ (SegAt.blk' (.tail (.tail (.tail (.tail (.tail (.tail .head)))))) rfl) ?_
       refine WP.useF mm30 g_o9_13_1 True.intro rfl (by kernel_rfl) ?_ ?_
       ·repeat first|exact ⟨⟩|refine ⟨rfl,?_⟩
       exact Pick.all
      ·refine WP.mx_ tysOk rfl ⟨⟩ (SegAt.blk' (.tail (.tail .head)) rfl) ?_
       refine WP.useF mm34 g_o9_13_1 True.intro rfl (by kernel_rfl) ?_ ?_
       ·repeat first|exact ⟨⟩|refine ⟨rfl,?_⟩
       exact Pick.all
      refine WP.sx tysOk rfl ⟨⟨⟩, ⟨⟩⟩ ?_
      refine WP.useF mm37 g_o9_13_1 True.intro rfl (by kernel_rfl) ?_ ?_
      ·repeat first|exact ⟨⟩|refine ⟨rfl,?_⟩
      exact Pick.all
     intro mm51
     refine WP.cutF (α := Unit) (fun x => True) #[true, true, true, false, false, true, false, false, false, false, false, false, false, false, false, false] 12 (fun x => [(2, pt g2), (10, pt g8), (43, .agg #[.slice A1 i1.supply.length c1, .slice A2 i1.arcs.length c2]), (44, .agg #[.slice A7 n8 c7, .slice A8 n9 c8]), (45, pt g1), (48, iv n6)]) (fun x => [.blk g8 38 [iv r7.2.hi, .int .u64 (r7.2.lo)], .blk g7 25 [.slice A7 n8 c7, .slice A8 n9 c8], Ow (fI .i64) 2 A7 n8 c7 r7.1.supply, Ow fA 31 A8 n9 c8 r7.1.arcs, .blk g2 40 [sn, sn, iv 0, sn, sn, iv 0, .int .u64 (0), .bool (false)], .blk g1 25 [.slice A1 i1.supply.length c1, .slice A2 i1.arcs.length c2], .fz (PH.of w)]) rfl ?_ ?_
     ·rintro _ _
      refine WP.any3 3 8 13 rfl (by kernel_rfl) rfl rfl rfl ?_ ?_ ?_
      ·refine WP.lx tysOk rfl ⟨⟩ (CellAt.blk (.tail (.tail (.tail (.tail (.tail .head))))) rfl) ?_
       refine WP.useF mm38 () True.intro rfl (by kernel_rfl) ?_ ?_
       ·repeat first|exact ⟨⟩|refine ⟨rfl,?_⟩
       exact Pick.all
      ·refine WP.mx_ tysOk rfl ⟨⟩ (SegAt.blk' .head rfl) ?_
       refine WP.useF mm39 () True.intro rfl (by kernel_rfl) ?_ ?_
       ·repeat first|exact ⟨⟩|refine ⟨rfl,?_⟩
       exact Pick.all
      refine WP.al tysOk rfl rfl rfl rfl rfl rfl ?_
      intro g_o9_13_1
      refine WP.useF mm40 g_o9_13_1 True.intro rfl (by kernel_rfl) ?_ ?_
      ·repeat first|exact ⟨⟩|refine ⟨rfl,?_⟩
      exact Pick.all
     intro mm52
     refine WP.cutF (α := Unit) (fun x => True) #[true, false, true, true, false, true, false, false, false, false, false, false, false, false, false, false] 12 (fun x => [(2, pt g2), (9, pt g7), (10, pt g8), (43, .agg #[.slice A1 i1.supply.length c1, .slice A2 i1.arcs.length c2]), (46, .slice A1 i1.supply.length c1), (48, iv n6)]) (fun x => [.blk g8 38 [iv r7.2.hi, .int .u64 (r7.2.lo)], .blk g7 25 [.slice A7 n8 c7, .slice A8 n9 c8], Ow (fI .i64) 2 A7 n8 c7 r7.1.supply, Ow fA 31 A8 n9 c8 r7.1.arcs, .blk g2 40 [sn, sn, iv 0, sn, sn, iv 0, .int .u64 (0), .bool (false)], .blk g1 25 [.slice A1 i1.supply.length c1, .slice A2 i1.arcs.length c2], .fz (PH.of w)]) rfl ?_ ?_
     ·rintro _ _
      refine WP.any4 1 4 8 13 rfl (by kernel_rfl) rfl rfl rfl rfl ?_ ?_ ?_ ?_
      ·refine WP.mx_ tysOk rfl ⟨⟩ (SegAt.blk' (.tail .head) rfl) ?_
       refine WP.useF mm38 () True.intro rfl (by kernel_rfl) ?_ ?_
       ·repeat first|exact ⟨⟩|refine ⟨rfl,?_⟩
       exact Pick.all
      ·refine WP.sx tysOk rfl ⟨⟨⟩, ⟨⟩⟩ ?_
       refine WP.useF mm41 () True.intro rfl (by kernel_rfl) ?_ ?_
       ·repeat first|exact ⟨⟩|refine ⟨rfl,?_⟩
       exact Pick.all
      ·refine WP.mx_ tysOk rfl ⟨⟩ (SegAt.blk' .head rfl) ?_
       refine WP.useF mm42 () True.intro rfl (by kernel_rfl) ?_ ?_
       ·repeat first|exact ⟨⟩|refine ⟨rfl,?_⟩
       exact Pick.all
      refine WP.al tysOk rfl rfl rfl rfl rfl rfl ?_
      intro g_o9_13_1
      refine WP.useF mm43 g_o9_13_1 True.intro rfl (by kernel_rfl) ?_ ?_
      ·repeat first|exact ⟨⟩|refine ⟨rfl,?_⟩
      exact Pick.all
     intro mm53
     refine WP.cutF (α := Unit) (fun x => True) #[true, false, true, false, false, true, false, false, true, false, false, false, false, false, false, false] 12 (fun x => [(2, pt g2), (9, pt g7), (43, .agg #[.slice A1 i1.supply.length c1, .slice A2 i1.arcs.length c2]), (45, pt g1), (48, iv n6), (51, .agg #[iv r7.2.hi, .int .u64 (r7.2.lo)])]) (fun x => [.blk g8 38 [iv r7.2.hi, .int .u64 (r7.2.lo)], .blk g7 25 [.slice A7 n8 c7, .slice A8 n9 c8], Ow (fI .i64) 2 A7 n8 c7 r7.1.supply, Ow fA 31 A8 n9 c8 r7.1.arcs, .blk g2 40 [sn, sn, iv 0, sn, sn, iv 0, .int .u64 (0), .bool (false)], .blk g1 25 [.slice A1 i1.supply.length c1, .slice A2 i1.arcs.length c2], .fz (PH.of w)]) rfl ?_ ?_
     ·rintro _ _
      refine WP.any3 1 3 13 rfl (by kernel_rfl) rfl rfl rfl ?_ ?_ ?_
      ·refine WP.mx_ tysOk rfl ⟨⟩ (SegAt.blk' (.tail .head) rfl) ?_
       refine WP.useF mm39 () True.intro rfl (by kernel_rfl) ?_ ?_
       ·repeat first|exact ⟨⟩|refine ⟨rfl,?_⟩
       exact Pick.all
      ·refine WP.lx tysOk rfl ⟨⟩ (CellAt.blk (.tail (.tail (.tail (.tail (.tail .head))))) rfl) ?_
       refine WP.useF mm42 () True.intro rfl (by kernel_rfl) ?_ ?_
       ·repeat first|exact ⟨⟩|refine ⟨rfl,?_⟩
       exact Pick.all
      refine WP.al tysOk rfl rfl rfl rfl rfl rfl ?_
      intro g_o9_13_1
      refine WP.useF mm44 g_o9_13_1 True.intro rfl (by kernel_rfl) ?_ ?_
      ·repeat first|exact ⟨⟩|refine ⟨rfl,?_⟩
      exact Pick.all
     intro mm54
     refine WP.cutF (α := Nat) (fun x => True) #[true, false, true, false, false, true, false, false, false, false, false, false, false, true, false, false] 12 (fun x => [(2, pt g2), (9, pt g7), (10, pt g8), (11, pt x), (43, .agg #[.slice A1 i1.supply.length c1, .slice A2 i1.arcs.length c2]), (45, pt g1), (48, iv n6)]) (fun x => [.blk x 40 [sn, sn, iv 0, sn, sn, iv 0, .int .u64 (0), .bool (false)], .blk g8 38 [iv r7.2.hi, .int .u64 (r7.2.lo)], .blk g7 25 [.slice A7 n8 c7, .slice A8 n9 c8], Ow (fI .i64) 2 A7 n8 c7 r7.1.supply, Ow fA 31 A8 n9 c8 r7.1.arcs, .blk g2 40 [sn, sn, iv 0, sn, sn, iv 0, .int .u64 (0), .bool (false)], .blk g1 25 [.slice A1 i1.supply.length c1, .slice A2 i1.arcs.length c2], .fz (PH.of w)]) rfl ?_ ?_
     ·rintro g_o9_13_1 _
      refine WP.any3 1 3 8 rfl (by kernel_rfl) rfl rfl rfl ?_ ?_ ?_
      ·refine WP.mx_ tysOk rfl ⟨⟩ (SegAt.blk' (.tail (.tail .head)) rfl) ?_
       refine WP.useF mm40 g_o9_13_1 True.intro rfl (by kernel_rfl) ?_ ?_
       ·repeat first|exact ⟨⟩|refine ⟨rfl,?_⟩
       exact Pick.all
      ·refine WP.lx tysOk rfl ⟨⟩ (CellAt.blk (.tail (.tail (.tail (.tail (.tail (.tail .head)))))) rfl) ?_
       refine WP.useF mm43 g_o9_13_1 True.intro rfl (by kernel_rfl) ?_ ?_
       ·repeat first|exact ⟨⟩|refine ⟨rfl,?_⟩
       exact Pick.all
      refine WP.mx_ tysOk rfl ⟨⟩ (SegAt.blk' (.tail .head) rfl) ?_
      refine WP.useF mm44 g_o9_13_1 True.intro rfl (by kernel_rfl) ?_ ?_
      ·repeat first|exact ⟨⟩|refine ⟨rfl,?_⟩
      exact Pick.all
     intro mm55
     refine WP.cutF (α := Unit) (fun x => True) #[false, true, true, true, false, true, false, false, false, false, false, false, false, false, false, false] 12 (fun x => [(1, pt g1), (2, pt g2), (10, pt g8), (44, .agg #[.slice A7 n8 c7, .slice A8 n9 c8]), (46, .slice A1 i1.supply.length c1), (48, iv n6)]) (fun x => [.blk g8 38 [iv r7.2.hi, .int .u64 (r7.2.lo)], .blk g7 25 [.slice A7 n8 c7, .slice A8 n9 c8], Ow (fI .i64) 2 A7 n8 c7 r7.1.supply, Ow fA 31 A8 n9 c8 r7.1.arcs, .blk g2 40 [sn, sn, iv 0, sn, sn, iv 0, .int .u64 (0), .bool (false)], .blk g1 25 [.slice A1 i1.supply.length c1, .slice A2 i1.arcs.length c2], .fz (PH.of w)]) rfl ?_ ?_
     ·rintro _ _
      refine WP.any4 0 4 8 13 rfl (by kernel_rfl) rfl rfl rfl rfl ?_ ?_ ?_ ?_
      ·refine WP.mx_ tysOk rfl ⟨⟩ (SegAt.blk' (.tail (.tail (.tail (.tail (.tail .head))))) rfl) ?_
       refine WP.useF mm38 () True.intro rfl (by kernel_rfl) ?_ ?_
       ·repeat first|exact ⟨⟩|refine ⟨rfl,?_⟩
       exact Pick.all
      ·refine WP.sx tysOk rfl ⟨⟨⟩, ⟨⟩⟩ ?_
       refine WP.useF mm45 () True.intro rfl (by kernel_rfl) ?_ ?_
       ·repeat first|exact ⟨⟩|refine ⟨rfl,?_⟩
       exact Pick.all
      ·refine WP.mx_ tysOk rfl ⟨⟩ (SegAt.blk' .head rfl) ?_
       refine WP.useF mm46 () True.intro rfl (by kernel_rfl) ?_ ?_
       ·repeat first|exact ⟨⟩|refine ⟨rfl,?_⟩
       exact Pick.all
      refine WP.al tysOk rfl rfl rfl rfl rfl rfl ?_
      intro g_o9_13_1
      refine WP.useF mm47 g_o9_13_1 True.intro rfl (by kernel_rfl) ?_ ?_
      ·repeat first|exact ⟨⟩|refine ⟨rfl,?_⟩
      exact Pick.all
     intro mm56
     refine WP.cutF (α := Unit) (fun x => True) #[false, true, true, false, false, true, false, false, true, false, false, false, false, false, false, false] 12 (fun x => [(1, pt g1), (2, pt g2), (44, .agg #[.slice A7 n8 c7, .slice A8 n9 c8]), (45, pt g1), (48, iv n6), (51, .agg #[iv r7.2.hi, .int .u64 (r7.2.lo)])]) (fun x => [.blk g8 38 [iv r7.2.hi, .int .u64 (r7.2.lo)], .blk g7 25 [.slice A7 n8 c7, .slice A8 n9 c8], Ow (fI .i64) 2 A7 n8 c7 r7.1.supply, Ow fA 31 A8 n9 c8 r7.1.arcs, .blk g2 40 [sn, sn, iv 0, sn, sn, iv 0, .int .u64 (0), .bool (false)], .blk g1 25 [.slice A1 i1.supply.length c1, .slice A2 i1.arcs.length c2], .fz (PH.of w)]) rfl ?_ ?_
     ·rintro _ _
      refine WP.any3 0 3 13 rfl (by kernel_rfl) rfl rfl rfl ?_ ?_ ?_
      ·refine WP.mx_ tysOk rfl ⟨⟩ (SegAt.blk' (.tail (.tail (.tail (.tail (.tail .head))))) rfl) ?_
       refine WP.useF mm39 () True.intro rfl (by kernel_rfl) ?_ ?_
       ·repeat first|exact ⟨⟩|refine ⟨rfl,?_⟩
       exact Pick.all
      ·refine WP.lx tysOk rfl ⟨⟩ (CellAt.blk (.tail (.tail (.tail (.tail (.tail .head))))) rfl) ?_
       refine WP.useF mm46 () True.intro rfl (by kernel_rfl) ?_ ?_
       ·repeat first|exact ⟨⟩|refine ⟨rfl,?_⟩
       exact Pick.all
      refine WP.al tysOk rfl rfl rfl rfl rfl rfl ?_
      intro g_o9_13_1
      refine WP.useF mm48 g_o9_13_1 True.intro rfl (by kernel_rfl) ?_ ?_
      ·repeat first|exact ⟨⟩|refine ⟨rfl,?_⟩
      exact Pick.all
     intro mm57
     refine WP.cutF (α := Nat) (fun x => True) #[false, true, true, false, false, true, false, false, false, false, false, false, false, true, false, false] 12 (fun x => [(1, pt g1), (2, pt g2), (10, pt g8), (11, pt x), (44, .agg #[.slice A7 n8 c7, .slice A8 n9 c8]), (45, pt g1), (48, iv n6)]) (fun x => [.blk x 40 [sn, sn, iv 0, sn, sn, iv 0, .int .u64 (0), .bool (false)], .blk g8 38 [iv r7.2.hi, .int .u64 (r7.2.lo)], .blk g7 25 [.slice A7 n8 c7, .slice A8 n9 c8], Ow (fI .i64) 2 A7 n8 c7 r7.1.supply, Ow fA 31 A8 n9 c8 r7.1.arcs, .blk g2 40 [sn, sn, iv 0, sn, sn, iv 0, .int .u64 (0), .bool (false)], .blk g1 25 [.slice A1 i1.supply.length c1, .slice A2 i1.arcs.length c2], .fz (PH.of w)]) rfl ?_ ?_
     ·rintro g_o9_13_1 _
      refine WP.any3 0 3 8 rfl (by kernel_rfl) rfl rfl rfl ?_ ?_ ?_
      ·refine WP.mx_ tysOk rfl ⟨⟩ (SegAt.blk' (.tail (.tail (.tail (.tail (.tail (.tail .head)))))) rfl) ?_
       refine WP.useF mm40 g_o9_13_1 True.intro rfl (by kernel_rfl) ?_ ?_
       ·repeat first|exact ⟨⟩|refine ⟨rfl,?_⟩
       exact Pick.all
      ·refine WP.lx tysOk rfl ⟨⟩ (CellAt.blk (.tail (.tail (.tail (.tail (.tail (.tail .head)))))) rfl) ?_
       refine WP.useF mm47 g_o9_13_1 True.intro rfl (by kernel_rfl) ?_ ?_
       ·repeat first|exact ⟨⟩|refine ⟨rfl,?_⟩
       exact Pick.all
      refine WP.mx_ tysOk rfl ⟨⟩ (SegAt.blk' (.tail .head) rfl) ?_
      refine WP.useF mm48 g_o9_13_1 True.intro rfl (by kernel_rfl) ?_ ?_
      ·repeat first|exact ⟨⟩|refine ⟨rfl,?_⟩
      exact Pick.all
     intro mm58
     refine WP.cutF (α := Unit) (fun x => True) #[false, false, true, true, false, true, false, false, true, false, false, false, false, false, false, false] 12 (fun x => [(1, pt g1), (2, pt g2), (9, pt g7), (46, .slice A1 i1.supply.length c1), (48, iv n6), (51, .agg #[iv r7.2.hi, .int .u64 (r7.2.lo)])]) (fun x => [.blk g8 38 [iv r7.2.hi, .int .u64 (r7.2.lo)], .blk g7 25 [.slice A7 n8 c7, .slice A8 n9 c8], Ow (fI .i64) 2 A7 n8 c7 r7.1.supply, Ow fA 31 A8 n9 c8 r7.1.arcs, .blk g2 40 [sn, sn, iv 0, sn, sn, iv 0, .int .u64 (0), .bool (false)], .blk g1 25 [.slice A1 i1.supply.length c1, .slice A2 i1.arcs.length c2], .fz (PH.of w)]) rfl ?_ ?_
     ·rintro _ _
      refine WP.any4 0 1 4 13 rfl (by kernel_rfl) rfl rfl rfl rfl ?_ ?_ ?_ ?_
      ·refine WP.mx_ tysOk rfl ⟨⟩ (SegAt.blk' (.tail (.tail (.tail (.tail (.tail .head))))) rfl) ?_
       refine WP.useF mm42 () True.intro rfl (by kernel_rfl) ?_ ?_
       ·repeat first|exact ⟨⟩|refine ⟨rfl,?_⟩
       exact Pick.all
      ·refine WP.mx_ tysOk rfl ⟨⟩ (SegAt.blk' (.tail .head) rfl) ?_
       refine WP.useF mm46 () True.intro rfl (by kernel_rfl) ?_ ?_
       ·repeat first|exact ⟨⟩|refine ⟨rfl,?_⟩
       exact Pick.all
      ·refine WP.sx tysOk rfl ⟨⟨⟩, ⟨⟩⟩ ?_
       refine WP.useF mm49 () True.intro rfl (by kernel_rfl) ?_ ?_
       ·repeat first|exact ⟨⟩|refine ⟨rfl,?_⟩
       exact Pick.all
      refine WP.al tysOk rfl rfl rfl rfl rfl rfl ?_
      intro g_o9_13_1
      refine WP.useF mm51 g_o9_13_1 True.intro rfl (by kernel_rfl) ?_ ?_
      ·repeat first|exact ⟨⟩|refine ⟨rfl,?_⟩
      exact Pick.all
     intro mm59
     refine WP.cutF (α := Nat) (fun x => True) #[false, false, true, true, false, true, false, false, false, false, false, false, false, true, false, false] 12 (fun x => [(1, pt g1), (2, pt g2), (9, pt g7), (10, pt g8), (11, pt x), (46, .slice A1 i1.supply.length c1), (48, iv n6)]) (fun x => [.blk x 40 [sn, sn, iv 0, sn, sn, iv 0, .int .u64 (0), .bool (false)], .blk g8 38 [iv r7.2.hi, .int .u64 (r7.2.lo)], .blk g7 25 [.slice A7 n8 c7, .slice A8 n9 c8], Ow (fI .i64) 2 A7 n8 c7 r7.1.supply, Ow fA 31 A8 n9 c8 r7.1.arcs, .blk g2 40 [sn, sn, iv 0, sn, sn, iv 0, .int .u64 (0), .bool (false)], .blk g1 25 [.slice A1 i1.supply.length c1, .slice A2 i1.arcs.length c2], .fz (PH.of w)]) rfl ?_ ?_
     ·rintro g_o9_13_1 _
      refine WP.any4 0 1 4 8 rfl (by kernel_rfl) rfl rfl rfl rfl ?_ ?_ ?_ ?_
      ·refine WP.mx_ tysOk rfl ⟨⟩ (SegAt.blk' (.tail (.tail (.tail (.tail (.tail (.tail .head)))))) rfl) ?_
       refine WP.useF mm43 g_o9_13_1 True.intro rfl (by kernel_rfl) ?_ ?_
       ·repeat first|exact ⟨⟩|refine ⟨rfl,?_⟩
       exact Pick.all
      ·refine WP.mx_ tysOk rfl ⟨⟩ (SegAt.blk' (.tail (.tail .head)) rfl) ?_
       refine WP.useF mm47 g_o9_13_1 True.intro rfl (by kernel_rfl) ?_ ?_
       ·repeat first|exact ⟨⟩|refine ⟨rfl,?_⟩
       exact Pick.all
      ·refine WP.sx tysOk rfl ⟨⟨⟩, ⟨⟩⟩ ?_
       refine WP.useF mm50 g_o9_13_1 True.intro rfl (by kernel_rfl) ?_ ?_
       ·repeat first|exact ⟨⟩|refine ⟨rfl,?_⟩
       exact Pick.all
      refine WP.mx_ tysOk rfl ⟨⟩ (SegAt.blk' (.tail .head) rfl) ?_
      refine WP.useF mm51 g_o9_13_1 True.intro rfl (by kernel_rfl) ?_ ?_
      ·repeat first|exact ⟨⟩|refine ⟨rfl,?_⟩
      exact Pick.all
     intro mm60
     refine WP.cutF (α := Nat) (fun x => True) #[false, false, true, false, false, true, false, false, true, false, false, false, false, true, false, false] 12 (fun x => [(1, pt g1), (2, pt g2), (9, pt g7), (11, pt x), (45, pt g1), (48, iv n6), (51, .agg #[iv r7.2.hi, .int .u64 (r7.2.lo)])]) (fun x => [.blk x 40 [sn, sn, iv 0, sn, sn, iv 0, .int .u64 (0), .bool (false)], .blk g8 38 [iv r7.2.hi, .int .u64 (r7.2.lo)], .blk g7 25 [.slice A7 n8 c7, .slice A8 n9 c8], Ow (fI .i64) 2 A7 n8 c7 r7.1.supply, Ow fA 31 A8 n9 c8 r7.1.arcs, .blk g2 40 [sn, sn, iv 0, sn, sn, iv 0, .int .u64 (0), .bool (false)], .blk g1 25 [.slice A1 i1.supply.length c1, .slice A2 i1.arcs.length c2], .fz (PH.of w)]) rfl ?_ ?_
     ·rintro g_o9_13_1 _
      refine WP.any3 0 1 3 rfl (by kernel_rfl) rfl rfl rfl ?_ ?_ ?_
      ·refine WP.mx_ tysOk rfl ⟨⟩ (SegAt.blk' (.tail (.tail (.tail (.tail (.tail (.tail .head)))))) rfl) ?_
       refine WP.useF mm44 g_o9_13_1 True.intro rfl (by kernel_rfl) ?_ ?_
       ·repeat first|exact ⟨⟩|refine ⟨rfl,?_⟩
       exact Pick.all
      ·refine WP.mx_ tysOk rfl ⟨⟩ (SegAt.blk' (.tail (.tail .head)) rfl) ?_
       refine WP.useF mm48 g_o9_13_1 True.intro rfl (by kernel_rfl) ?_ ?_
       ·repeat first|exact ⟨⟩|refine ⟨rfl,?_⟩
       exact Pick.all
      refine WP.lx tysOk rfl ⟨⟩ (CellAt.blk (.tail (.tail (.tail (.tail (.tail (.tail .head)))))) rfl) ?_
      refine WP.useF mm51 g_o9_13_1 True.intro rfl (by kernel_rfl) ?_ ?_
      ·repeat first|exact ⟨⟩|refine ⟨rfl,?_⟩
      exact Pick.all
     intro mm61
     refine WP.anyP 2 tysOk putInv_body rfl rfl rfl (by kernel_rfl) (by kernel_rfl) rfl rfl rfl rfl rfl True.intro ?_
     refine WP.anyP 5 tysOk putInv_body rfl rfl rfl (by kernel_rfl) (by kernel_rfl) rfl rfl rfl rfl rfl True.intro ?_
     refine WP.any5 0 1 3 8 13 rfl (by kernel_rfl) rfl rfl rfl rfl rfl ?_ ?_ ?_ ?_ ?_
     ·refine WP.mx_ tysOk rfl ⟨⟩ (SegAt.blk' (.tail (.tail (.tail (.tail (.tail .head))))) rfl) ?_
      refine WP.any4 1 3 8 13 rfl (by kernel_rfl) rfl rfl rfl rfl ?_ ?_ ?_ ?_
      ·refine WP.mx_ tysOk rfl ⟨⟩ (SegAt.blk' (.tail .head) rfl) ?_
       refine WP.useF mm52 () True.intro rfl (by kernel_rfl) ?_ ?_
       ·repeat first|exact ⟨⟩|refine ⟨rfl,?_⟩
       exact Pick.all
      ·refine WP.lx tysOk rfl ⟨⟩ (CellAt.blk (.tail (.tail (.tail (.tail (.tail .head))))) rfl) ?_
       refine WP.useF mm53 () True.intro rfl (by kernel_rfl) ?_ ?_
       ·repeat first|exact ⟨⟩|refine ⟨rfl,?_⟩
       exact Pick.all
      ·refine WP.mx_ tysOk rfl ⟨⟩ (SegAt.blk' .head rfl) ?_
       refine WP.useF mm54 () True.intro rfl (by kernel_rfl) ?_ ?_
       ·repeat first|exact ⟨⟩|refine ⟨rfl,?_⟩
       exact Pick.all
      refine WP.al tysOk rfl rfl rfl rfl rfl rfl ?_
      intro g_o9_13_1
      refine WP.useF mm55 g_o9_13_1 True.intro rfl (by kernel_rfl) ?_ ?_
      ·repeat first|exact ⟨⟩|refine ⟨rfl,?_⟩
      exact Pick.all
     ·refine WP.mx_ tysOk rfl ⟨⟩ (SegAt.blk' (.tail .head) rfl) ?_
      refine WP.any4 0 3 8 13 rfl (by kernel_rfl) rfl rfl rfl rfl ?_ ?_ ?_ ?_
      ·refine WP.mx_ tysOk rfl ⟨⟩ (SegAt.blk' (.tail (.tail (.tail (.tail (.tail .head))))) rfl) ?_
       refine WP.useF mm52 () True.intro rfl (by kernel_rfl) ?_ ?_
       ·repeat first|exact ⟨⟩|refine ⟨rfl,?_⟩
       exact Pick.all
      ·refine WP.lx tysOk rfl ⟨⟩ (CellAt.blk (.tail (.tail (.tail (.tail (.tail .head))))) rfl) ?_
       refine WP.useF mm56 () True.intro rfl (by kernel_rfl) ?_ ?_
       ·repeat first|exact ⟨⟩|refine ⟨rfl,?_⟩
       exact Pick.all
      ·refine WP.mx_ tysOk rfl ⟨⟩ (SegAt.blk' .head rfl) ?_
       refine WP.useF mm57 () True.intro rfl (by kernel_rfl) ?_ ?_
       ·repeat first|exact ⟨⟩|refine ⟨rfl,?_⟩
       exact Pick.all
      refine WP.al tysOk rfl rfl rfl rfl rfl rfl ?_
      intro g_o9_13_1
      refine WP.useF mm58 g_o9_13_1 True.intro rfl (by kernel_rfl) ?_ ?_
      ·repeat first|exact ⟨⟩|refine ⟨rfl,?_⟩
      exact Pick.all
     ·refine WP.lx tysOk rfl ⟨⟩ (CellAt.blk (.tail (.tail (.tail (.tail (.tail .head))))) rfl) ?_
      refine WP.any5 0 1 4 8 13 rfl (by kernel_rfl) rfl rfl rfl rfl rfl ?_ ?_ ?_ ?_ ?_
      ·refine WP.mx_ tysOk rfl ⟨⟩ (SegAt.blk' (.tail (.tail (.tail (.tail (.tail .head))))) rfl) ?_
       refine WP.useF mm53 () True.intro rfl (by kernel_rfl) ?_ ?_
       ·repeat first|exact ⟨⟩|refine ⟨rfl,?_⟩
       exact Pick.all
      ·refine WP.mx_ tysOk rfl ⟨⟩ (SegAt.blk' (.tail .head) rfl) ?_
       refine WP.useF mm56 () True.intro rfl (by kernel_rfl) ?_ ?_
       ·repeat first|exact ⟨⟩|refine ⟨rfl,?_⟩
       exact Pick.all
      ·refine WP.sx tysOk rfl ⟨⟨⟩, ⟨⟩⟩ ?_
       refine WP.any5 0 1 6 8 13 rfl (by kernel_rfl) rfl rfl rfl rfl rfl ?_ ?_ ?_ ?_ ?_
       ·refine WP.mx_ tysOk rfl ⟨⟩ (SegAt.blk' (.tail (.tail (.tail (.tail (.tail .head))))) rfl) ?_
        refine WP.useF mm41 () True.intro rfl (by kernel_rfl) ?_ ?_
        ·repeat first|exact ⟨⟩|refine ⟨rfl,?_⟩
        exact Pick.all
       ·refine WP.mx_ tysOk rfl ⟨⟩ (SegAt.blk' (.tail .head) rfl) ?_
        refine WP.useF mm45 () True.intro rfl (by kernel_rfl) ?_ ?_
        ·repeat first|exact ⟨⟩|refine ⟨rfl,?_⟩
        exact Pick.all
       ·refine WP.callS (ref17_one_S r_o9_6_1) rfl rfl rfl rfl rfl rfl rfl (by kernel_rfl) (fun w1 hw1 => (ref17_one_w hg_o9_6_1  :)) ?_
        rintro _ _ ⟨A_o9_6_1, n_o9_6_1, c_o9_6_1, rfl, hf_o9_6_1, rfl⟩
        refine WP.any4 0 1 8 13 rfl (by kernel_rfl) rfl rfl rfl rfl ?_ ?_ ?_ ?_
        ·refine WP.mx_ tysOk rfl ⟨⟩ (SegAt.blk' (.tail (.tail (.tail (.tail (.tail (.tail .head)))))) rfl) ?_
         refine WP.useF mm27 (A_o9_6_1, n_o9_6_1, c_o9_6_1) hf_o9_6_1 rfl (by kernel_rfl) ?_ ?_
         ·repeat first|exact ⟨⟩|refine ⟨rfl,?_⟩
         exact Pick.all
        ·refine WP.mx_ tysOk rfl ⟨⟩ (SegAt.blk' (.tail (.tail .head)) rfl) ?_
         refine WP.useF mm31 (A_o9_6_1, n_o9_6_1, c_o9_6_1) hf_o9_6_1 rfl (by kernel_rfl) ?_ ?_
         ·repeat first|exact ⟨⟩|refine ⟨rfl,?_⟩
         exact Pick.all
        ·refine WP.mx_ tysOk rfl ⟨⟩ (SegAt.blk' (.tail .head) rfl) ?_
         refine WP.useF mm35 (A_o9_6_1, n_o9_6_1, c_o9_6_1) hf_o9_6_1 rfl (by kernel_rfl) ?_ ?_
         ·repeat first|exact ⟨⟩|refine ⟨rfl,?_⟩
         exact Pick.all
        refine WP.al tysOk rfl rfl rfl rfl rfl rfl ?_
        intro g_o9_13_1
        refine WP.useF mm36 (A_o9_6_1, n_o9_6_1, c_o9_6_1, g_o9_13_1) hf_o9_6_1 rfl (by kernel_rfl) ?_ ?_
        ·repeat first|exact ⟨⟩|refine ⟨rfl,?_⟩
        exact Pick.all
       ·refine WP.mx_ tysOk rfl ⟨⟩ (SegAt.blk' .head rfl) ?_
        refine WP.useF mm49 () True.intro rfl (by kernel_rfl) ?_ ?_
        ·repeat first|exact ⟨⟩|refine ⟨rfl,?_⟩
        exact Pick.all
       refine WP.al tysOk rfl rfl rfl rfl rfl rfl ?_
       intro g_o9_13_1
       refine WP.useF mm50 g_o9_13_1 True.intro rfl (by kernel_rfl) ?_ ?_
       ·repeat first|exact ⟨⟩|refine ⟨rfl,?_⟩
       exact Pick.all
      ·refine WP.mx_ tysOk rfl ⟨⟩ (SegAt.blk' .head rfl) ?_
       refine WP.useF mm59 () True.intro rfl (by kernel_rfl) ?_ ?_
       ·repeat first|exact ⟨⟩|refine ⟨rfl,?_⟩
       exact Pick.all
      refine WP.al tysOk rfl rfl rfl rfl rfl rfl ?_
      intro g_o9_13_1
      refine WP.useF mm60 g_o9_13_1 True.intro rfl (by kernel_rfl) ?_ ?_
      ·repeat first|exact ⟨⟩|refine ⟨rfl,?_⟩
      exact Pick.all
     ·refine WP.mx_ tysOk rfl ⟨⟩ (SegAt.blk' .head rfl) ?_
      refine WP.any4 0 1 3 13 rfl (by kernel_rfl) rfl rfl rfl rfl ?_ ?_ ?_ ?_
      ·refine WP.mx_ tysOk rfl ⟨⟩ (SegAt.blk' (.tail (.tail (.tail (.tail (.tail .head))))) rfl) ?_
       refine WP.useF mm54 () True.intro rfl (by kernel_rfl) ?_ ?_
       ·repeat first|exact ⟨⟩|refine ⟨rfl,?_⟩
       exact Pick.all
      ·refine WP.mx_ tysOk rfl ⟨⟩ (SegAt.blk' (.tail .head) rfl) ?_
       refine WP.useF mm57 () True.intro rfl (by kernel_rfl) ?_ ?_
       ·repeat first|exact ⟨⟩|refine ⟨rfl,?_⟩
       exact Pick.all
      ·refine WP.lx tysOk rfl ⟨⟩ (CellAt.blk (.tail (.tail (.tail (.tail (.tail .head))))) rfl) ?_
       refine WP.useF mm59 () True.intro rfl (by kernel_rfl) ?_ ?_
       ·repeat first|exact ⟨⟩|refine ⟨rfl,?_⟩
       exact Pick.all
      refine WP.al tysOk rfl rfl rfl rfl rfl rfl ?_
      intro g_o9_13_1
      refine WP.useF mm61 g_o9_13_1 True.intro rfl (by kernel_rfl) ?_ ?_
      ·repeat first|exact ⟨⟩|refine ⟨rfl,?_⟩
      exact Pick.all
     refine WP.al tysOk rfl rfl rfl rfl rfl rfl ?_
     intro g_o9_13_1
     refine WP.any4 0 1 3 8 rfl (by kernel_rfl) rfl rfl rfl rfl ?_ ?_ ?_ ?_
     ·refine WP.mx_ tysOk rfl ⟨⟩ (SegAt.blk' (.tail (.tail (.tail (.tail (.tail (.tail .head)))))) rfl) ?_
      refine WP.useF mm55 g_o9_13_1 True.intro rfl (by kernel_rfl) ?_ ?_
      ·repeat first|exact ⟨⟩|refine ⟨rfl,?_⟩
      exact Pick.all
     ·refine WP.mx_ tysOk rfl ⟨⟩ (SegAt.blk' (.tail (.tail .head)) rfl) ?_
      refine WP.useF mm58 g_o9_13_1 True.intro rfl (by kernel_rfl) ?_ ?_
      ·repeat first|exact ⟨⟩|refine ⟨rfl,?_⟩
      exact Pick.all
     ·refine WP.lx tysOk rfl ⟨⟩ (CellAt.blk (.tail (.tail (.tail (.tail (.tail (.tail .head)))))) rfl) ?_
      refine WP.useF mm60 g_o9_13_1 True.intro rfl (by kernel_rfl) ?_ ?_
      ·repeat first|exact ⟨⟩|refine ⟨rfl,?_⟩
      exact Pick.all
     refine WP.mx_ tysOk rfl ⟨⟩ (SegAt.blk' (.tail .head) rfl) ?_
     refine WP.useF mm61 g_o9_13_1 True.intro rfl (by kernel_rfl) ?_ ?_
     ·repeat first|exact ⟨⟩|refine ⟨rfl,?_⟩
     exact Pick.all
    rintro ⟨A_o9_6_1, n_o9_6_1, c_o9_6_1, A_o9_7_1, n_o9_7_1, c_o9_7_1, A_o9_7_2, n_o9_7_2, c_o9_7_2, Zp_o9_9_1, Zp_o9_9_2, Zn_o9_9_1, A_o9_9_1, c_o9_9_1, A_o9_9_2, c_o9_9_2, A_o9_9_3, c_o9_9_3, A_o9_9_4, c_o9_9_4, g_o9_13_1⟩ ⟨hf_o9_6_1, hf_o9_7_1, hf_o9_7_2, hz_o9_9_1, hz_o9_9_2, hs_o9_9_1, hs_o9_9_2, hs_o9_9_3, hs_o9_9_4⟩
    dsimp only at hf_o9_6_1 hf_o9_7_1 hf_o9_7_2 hz_o9_9_1 hz_o9_9_2 hs_o9_9_1 hs_o9_9_2 hs_o9_9_3 hs_o9_9_4 ⊢
    refine WP.mx_ tysOk rfl ⟨⟩ (SegAt.blk' .head rfl) ?_
    refine WP.sx tysOk rfl ⟨⟨⟩, ⟨⟩⟩ ?_
    refine WP.sto' tysOk [.slice A_o9_9_1 r_o9_9_1.1.inst.supply.length c_o9_9_1, .slice A_o9_9_2 r_o9_9_1.1.inst.arcs.length c_o9_9_2, iv r_o9_9_1.1.rcd.pass, .slice A_o9_9_3 r_o9_9_1.1.rcd.was.supply.length c_o9_9_3, .slice A_o9_9_4 r_o9_9_1.1.rcd.was.arcs.length c_o9_9_4, iv r_o9_9_1.1.off.hi, .int .u64 (r_o9_9_1.1.off.lo), .bool (r_o9_9_1.1.did)] rfl rfl rfl rfl rfl rfl rfl rfl rfl (.tail (.tail (.tail (.tail (.tail (.tail (.tail (.tail (.tail .head))))))))) rfl rfl ?_
    refine WP.sx tysOk rfl ⟨⟨⟩, ⟨⟩⟩ ?_
    cases h
    refine WP.retR tysOk rfl rfl ⟨_, _, _, _, rfl, ⟨_, rfl, .inr ⟨rfl, _, rfl, rfl, (SegAt.blk' (z := 8) .head rfl).1⟩⟩, ⟨_, _, rfl, rfl, rfl⟩, rfl⟩ (fun w1 hw1 => ⟨_, _, rfl, ⟨PH.new _ w1, A_o9_9_1, r_o9_9_1.1.inst.supply.length, c_o9_9_1, A_o9_9_2, r_o9_9_1.1.inst.arcs.length, c_o9_9_2, A_o9_9_3, r_o9_9_1.1.rcd.was.supply.length, c_o9_9_3, A_o9_9_4, r_o9_9_1.1.rcd.was.arcs.length, c_o9_9_4, rfl, rfl, rfl, rfl, rfl, hs_o9_9_1.le' (PH.or_le (PH.or_le (PH.or_le (PH.le_or _ _) ((hw1.fzNew (.cons (.tail (.tail (.tail (.tail .head)))) (.cons (.tail (.tail (.tail (.tail (.tail (.tail (.tail (.tail (.tail (.tail .head)))))))))) .nil))).trans (PH.new_le_or hZ))) ((hw1.fzNew (.cons (.tail (.tail (.tail .head))) (.cons (.tail (.tail (.tail (.tail (.tail (.tail (.tail (.tail (.tail (.tail .head)))))))))) .nil))).trans (PH.new_le_or hZ))) ((hw1.fzNew (.cons (.tail (.tail .head)) (.cons (.tail (.tail (.tail (.tail (.tail (.tail (.tail (.tail (.tail (.tail .head)))))))))) .nil))).trans (PH.new_le_or hZ))), hs_o9_9_2.le' (PH.or_le (PH.or_le (PH.or_le (PH.le_or _ _) ((hw1.fzNew (.cons (.tail (.tail (.tail (.tail .head)))) (.cons (.tail (.tail (.tail (.tail (.tail (.tail (.tail (.tail (.tail (.tail .head)))))))))) .nil))).trans (PH.new_le_or hZ))) ((hw1.fzNew (.cons (.tail (.tail (.tail .head))) (.cons (.tail (.tail (.tail (.tail (.tail (.tail (.tail (.tail (.tail (.tail .head)))))))))) .nil))).trans (PH.new_le_or hZ))) ((hw1.fzNew (.cons (.tail (.tail .head)) (.cons (.tail (.tail (.tail (.tail (.tail (.tail (.tail (.tail (.tail (.tail .head)))))))))) .nil))).trans (PH.new_le_or hZ))), hs_o9_9_3.le' (PH.or_le (PH.or_le (PH.or_le (PH.le_or _ _) ((hw1.fzNew (.cons (.tail (.tail (.tail (.tail .head)))) (.cons (.tail (.tail (.tail (.tail (.tail (.tail (.tail (.tail (.tail (.tail .head)))))))))) .nil))).trans (PH.new_le_or hZ))) ((hw1.fzNew (.cons (.tail (.tail (.tail .head))) (.cons (.tail (.tail (.tail (.tail (.tail (.tail (.tail (.tail (.tail (.tail .head)))))))))) .nil))).trans (PH.new_le_or hZ))) ((hw1.fzNew (.cons (.tail (.tail .head)) (.cons (.tail (.tail (.tail (.tail (.tail (.tail (.tail (.tail (.tail (.tail .head)))))))))) .nil))).trans (PH.new_le_or hZ))), hs_o9_9_4.le' (PH.or_le (PH.or_le (PH.or_le (PH.le_or _ _) ((hw1.fzNew (.cons (.tail (.tail (.tail (.tail .head)))) (.cons (.tail (.tail (.tail (.tail (.tail (.tail (.tail (.tail (.tail (.tail .head)))))))))) .nil))).trans (PH.new_le_or hZ))) ((hw1.fzNew (.cons (.tail (.tail (.tail .head))) (.cons (.tail (.tail (.tail (.tail (.tail (.tail (.tail (.tail (.tail (.tail .head)))))))))) .nil))).trans (PH.new_le_or hZ))) ((hw1.fzNew (.cons (.tail (.tail .head)) (.cons (.tail (.tail (.tail (.tail (.tail (.tail (.tail (.tail (.tail (.tail .head)))))))))) .nil))).trans (PH.new_le_or hZ))), rfl⟩, Ret.freeze hw1 (.cons (.tail (.tail (.tail (.tail (.tail (.tail (.tail (.tail (.tail (.tail (.tail .head))))))))))) .nil)⟩)
   rw [if_neg (bneg hh7)] at h
   iterate 3 (refine WP.sx tysOk rfl ⟨⟨⟩, ⟨⟩⟩ ?_)
   refine WP.stop rfl (n7, w64 (n6 + 1)) ⟨h, Nat.lt_succ_self _⟩ ?_ ?_
   ·repeat first|exact ⟨⟩|refine ⟨rfl,?_⟩
   exact Pick.all
  rw [if_neg hh6] at h
  refine WP.mx_ tysOk rfl ⟨⟩ (SegAt.blk' (.tail .head) rfl) ?_
  refine WP.bld (cs := [.slice A1 i1.supply.length c1, .slice A2 i1.arcs.length c2, iv 0, sn, sn, iv 0, .int .u64 (0), .bool (false)]) tysOk rfl ⟨⟩ rfl rfl rfl rfl rfl rfl rfl ?_
  refine WP.sto' tysOk [.slice A1 i1.supply.length c1, .slice A2 i1.arcs.length c2, iv 0, sn, sn, iv 0, .int .u64 (0), .bool (false)] rfl rfl rfl rfl rfl rfl rfl rfl rfl .head rfl rfl ?_
  refine WP.sx tysOk rfl ⟨⟨⟩, ⟨⟩⟩ ?_
  cases h
  refine WP.retR tysOk rfl rfl ⟨_, _, _, _, rfl, ⟨_, rfl, .inr ⟨rfl, _, rfl, rfl, (SegAt.blk' (z := 8) .head rfl).1⟩⟩, ⟨_, _, rfl, rfl, rfl⟩, rfl⟩ (fun w1 hw1 => ⟨_, _, rfl, ⟨PH.new _ w1, A1, i1.supply.length, c1, A2, i1.arcs.length, c2, none, 0, 0, none, 0, 0, rfl, rfl, rfl, rfl, rfl, hs1.le' (PH.le_or _ _), hs2.le' (PH.le_or _ _), FzS.nil_, FzS.nil_, rfl⟩, Ret.freeze hw1 (.cons (.tail (.tail .head)) .nil)⟩)

set_option maxRecDepth 20000 in
set_option maxHeartbeats 8000000 in
theorem leaf_dead_1_1_w {w : World} {gg1 : Nat} {gg2 : Nat} {A1 : Option Addr} {c1 : Nat} {A2 : Option Addr} {c2 : Nat} {v0 : Value} {k1 : Int} {x1 : Inst} {x2 : Inst} {r : Unit × Bool} (h : leaf_dead_1_1 k1 x1 x2 = some r) (p2 : GraphZ (PH.of w) v0 x1) (hb1 : Zc (PH.of w) gg1 0 = some (v0)) (hs1 : FzS (fI .i64) (PH.of w) A1 c1 x2.supply) (hs2 : FzS fA (PH.of w) A2 c2 x2.arcs) (hb2 : Zc (PH.of w) gg2 0 = some (.slice A1 x2.supply.length c1)) (hb3 : Zc (PH.of w) gg2 1 = some (.slice A2 x2.arcs.length c2)) :
    Calls Tryz.prog 84 #[iv k1, .pointer (some ⟨gg1, 0, none⟩), .pointer (some ⟨gg2, 0, none⟩)] w fun e w' => e = .returned (.tuple #[.agg #[], .bool (r.2)]) ∧ Below w.heap.size w w' := by
  unfold leaf_dead_1_1 at h
  refine enter_ Tryz.func84 rfl Tryz.ntmps84 rfl ?_
  refine WP.al tysOk rfl rfl rfl rfl rfl rfl ?_
  intro g1
  refine WP.sx tysOk rfl ⟨⟨⟩, ⟨⟩⟩ ?_
  refine WP.bld (cs := []) tysOk rfl ⟨⟩ rfl rfl rfl rfl rfl rfl rfl ?_
  refine WP.lx tysOk rfl ⟨⟩ (Held.cell (Held.mem (List.Mem.tail _ (List.Mem.head _))) hb1) ?_
  refine WP.mx_ tysOk rfl ⟨⟩ (SegAt.zcs (Held.mem (List.Mem.tail _ (List.Mem.head _))) (l := [.slice A1 x2.supply.length c1, .slice A2 x2.arcs.length c2]) ⟨hb2, hb3, True.intro⟩) ?_
  refine WP.sx tysOk rfl ⟨⟨⟩, ⟨⟩⟩ ?_
  obtain ⟨r1, hg1, h⟩ := bind_some h
  refine WP.callV rfl rfl rfl rfl rfl rfl rfl (by kernel_rfl) (fun w1 hw1 => (leaf_shut_w hg1 (p2.le ((Held.mem (List.Mem.tail _ (List.Mem.head _))) _ _ hw1)) (InsZ.mk_ ((hs1.le' ((Held.mem (List.Mem.tail _ (List.Mem.head _))) _ _ hw1)).of) ((hs2.le' ((Held.mem (List.Mem.tail _ (List.Mem.head _))) _ _ hw1)).of)) :)) ⟨⟩ ?_
  refine WP.sto' tysOk [] rfl rfl rfl rfl rfl rfl rfl rfl rfl .head rfl rfl ?_
  refine WP.sx tysOk rfl ⟨⟨⟩, ⟨⟩⟩ ?_
  cases h
  refine WP.retR tysOk rfl rfl ⟨_, _, _, _, rfl, ⟨_, rfl, .inr ⟨rfl, _, rfl, rfl, (SegAt.blk' (z := 0) .head rfl).1⟩⟩, ⟨_, _, rfl, rfl, rfl⟩, rfl⟩ (fun w1 hw1 => ⟨rfl, Ret.below_ hw1 (.cons (.tail .head) .nil)⟩)

set_option maxRecDepth 20000 in
set_option maxHeartbeats 8000000 in
theorem leaf_first_struct_1_w {w : World} {gg1 : Nat} {gg2 : Nat} {A1 : Option Addr} {c1 : Nat} {A2 : Option Addr} {c2 : Nat} {v0 : Value} {n1 : Int} {x1 : Inst} {x2 : Inst} {r : Int × Unit × Bool} (h : leaf_first_struct_1 n1 x1 x2 = some r) (p2 : GraphZ (PH.of w) v0 x1) (hb1 : Zc (PH.of w) gg1 0 = some (v0)) (hs1 : FzS (fI .i64) (PH.of w) A1 c1 x2.supply) (hs2 : FzS fA (PH.of w) A2 c2 x2.arcs) (hb2 : Zc (PH.of w) gg2 0 = some (.slice A1 x2.supply.length c1)) (hb3 : Zc (PH.of w) gg2 1 = some (.slice A2 x2.arcs.length c2)) :
    Calls Tryz.prog 83 #[iv n1, .func (.func 84) #[] #[.pointer (some ⟨gg1, 0, none⟩), .pointer (some ⟨gg2, 0, none⟩)]] w fun e w' => e = .returned (.tuple #[iv r.1, .agg #[], .bool (r.2.2)]) ∧ Below w.heap.size w w' := by
  unfold leaf_first_struct_1 at h
  refine enter_ Tryz.func83 rfl Tryz.ntmps83 rfl ?_
  refine WP.sx tysOk rfl ⟨⟨⟩, ⟨⟩⟩ ?_
  refine WP.al tysOk rfl rfl rfl rfl rfl rfl ?_
  intro g1
  iterate 3 (refine WP.sx tysOk rfl ⟨⟨⟩, ⟨⟩⟩ ?_)
  refine WP.loop (α := Nat × Int) (fun x => lp (leaf_first_struct_1_b1 n1 x1 x2) x.1 x.2 = some r) (fun x => [(1, .func (.func 84) #[] #[pt gg1, pt gg2]), (5, pt g1), (11, iv n1), (12, iv x.2)]) (fun x => [.blk g1 129 [], .fz (PH.of w)]) (fun x => x.1) rfl (big, 0) h ?_ ?_ ?_
  ·repeat first|exact ⟨⟩|refine ⟨rfl,?_⟩
  ·exact Pick.all
  rintro ⟨n2, s2⟩ h
  dsimp only at h ⊢
  rcases n2 with _ | n2
  · exact (lp_no h).elim
  replace h := lp_succ h
  unfold leaf_first_struct_1_b1 at h
  try dsimp only at h
  refine WP.sx tysOk rfl ⟨⟨⟩, ⟨⟩⟩ ?_
  refine WP.cond_d rfl rfl (fun hh5 => ?_) (fun hh5 => ?_)
  ·rw [if_pos hh5] at h
   iterate 4 (refine WP.sx tysOk rfl ⟨⟨⟩, ⟨⟩⟩ ?_)
   obtain ⟨r3, hg3, h⟩ := bind_some h
   refine WP.callV rfl rfl rfl rfl rfl rfl rfl (by kernel_rfl) (fun w1 hw1 => (leaf_dead_1_1_w hg3 (p2.le ((Held.mem (List.Mem.tail _ (List.Mem.head _))) _ _ hw1)) (PH.le.cell ((Held.mem (List.Mem.tail _ (List.Mem.head _))) _ _ hw1) hb1) (hs1.le' ((Held.mem (List.Mem.tail _ (List.Mem.head _))) _ _ hw1)) (hs2.le' ((Held.mem (List.Mem.tail _ (List.Mem.head _))) _ _ hw1)) (PH.le.cell ((Held.mem (List.Mem.tail _ (List.Mem.head _))) _ _ hw1) hb2) (PH.le.cell ((Held.mem (List.Mem.tail _ (List.Mem.head _))) _ _ hw1) hb3) :)) ⟨⟩ ?_
   iterate 3 (refine WP.sx tysOk rfl ⟨⟨⟩, ⟨⟩⟩ ?_)
   refine WP.al tysOk rfl rfl rfl rfl rfl rfl ?_
   intro g6
   refine WP.sto' tysOk [] rfl rfl rfl rfl rfl rfl rfl rfl rfl .head rfl rfl ?_
   iterate 2 (refine WP.sx tysOk rfl ⟨⟨⟩, ⟨⟩⟩ ?_)
   refine WP.cond rfl rfl (fun hh6 => ?_) (fun hh6 => ?_)
   ·rw [if_pos hh6] at h
    refine WP.drawL 3 [] rfl (by kernel_rfl) (by kernel_rfl) (by kernel_rfl) ?_
    refine WP.sx tysOk rfl ⟨⟨⟨rfl, rfl⟩, rfl⟩, ⟨⟩⟩ ?_
    refine WP.mx_ tysOk rfl ⟨⟨rfl, rfl⟩, rfl⟩ (SegAt.blk' .head rfl) ?_
    refine WP.sx tysOk rfl ⟨⟨⟨rfl, rfl⟩, rfl⟩, ⟨⟩⟩ ?_
    refine WP.lend rfl ⟨rfl, rfl⟩ ?_
    refine WP.sto' tysOk [] rfl rfl rfl rfl rfl rfl rfl rfl rfl (.tail .head) rfl rfl ?_
    refine WP.sx tysOk rfl ⟨⟨⟩, ⟨⟩⟩ ?_
    cases h
    refine WP.retR tysOk rfl rfl ⟨_, _, rfl, ⟨_, _, _, _, rfl, ⟨_, rfl, .inr ⟨rfl, _, rfl, rfl, (SegAt.blk' (z := 0) .head rfl).1⟩⟩, ⟨_, _, rfl, rfl, rfl⟩, rfl⟩, rfl⟩ (fun w1 hw1 => ⟨rfl, Ret.below_ hw1 (.cons (.tail (.tail .head)) .nil)⟩)
   rw [if_neg (bneg hh6)] at h
   iterate 2 (refine WP.sx tysOk rfl ⟨⟨⟩, ⟨⟩⟩ ?_)
   refine WP.stop rfl (n2, w64 (s2 + 1)) ⟨h, Nat.lt_succ_self _⟩ ?_ ?_
   ·repeat first|exact ⟨⟩|refine ⟨rfl,?_⟩
   exact (.cons (.tail .head) (.cons (.tail .head) .nil))
  rw [if_neg hh5] at h
  refine WP.al tysOk rfl rfl rfl rfl rfl rfl ?_
  intro g7
  refine WP.drawL 2 [] rfl (by kernel_rfl) (by kernel_rfl) (by kernel_rfl) ?_
  refine WP.mx_ tysOk rfl ⟨⟨rfl, rfl⟩, rfl⟩ (SegAt.blk' .head rfl) ?_
  refine WP.sx tysOk rfl ⟨⟨⟨rfl, rfl⟩, rfl⟩, ⟨⟩⟩ ?_
  refine WP.lend rfl ⟨rfl, rfl⟩ ?_
  refine WP.sto' tysOk [] rfl rfl rfl rfl rfl rfl rfl rfl rfl (.tail .head) rfl rfl ?_
  refine WP.sx tysOk rfl ⟨⟨⟩, ⟨⟩⟩ ?_
  cases h
  refine WP.retR tysOk rfl rfl ⟨_, _, rfl, ⟨_, _, _, _, rfl, ⟨_, rfl, .inr ⟨rfl, _, rfl, rfl, (SegAt.blk' (z := 0) .head rfl).1⟩⟩, ⟨_, _, rfl, rfl, rfl⟩, rfl⟩, rfl⟩ (fun w1 hw1 => ⟨rfl, Ret.below_ hw1 (.cons (.tail (.tail .head)) .nil)⟩)

abbrev leaf_dead_S (Z : PH) (r : Step × (Option Int)) : Value → Heap → Prop := fun v L => ∃ (Zn : PH) (A1 : Option Addr) (n1 c1 : Nat) (A2 : Option Addr) (n2 c2 : Nat) (A3 : Option Addr) (n3 c3 : Nat) (A4 : Option Addr) (n4 c4 : Nat), v = .tuple #[.agg #[.slice A1 n1 c1, .slice A2 n2 c2, iv r.1.rcd.pass, .slice A3 n3 c3, .slice A4 n4 c4, iv r.1.off.hi, .int .u64 (r.1.off.lo), .bool (r.1.did)], errV r.2] ∧ n1 = r.1.inst.supply.length ∧ n2 = r.1.inst.arcs.length ∧ n3 = r.1.rcd.was.supply.length ∧ n4 = r.1.rcd.was.arcs.length ∧ FzS (fI .i64) (Z.or Zn) A1 c1 r.1.inst.supply ∧ FzS fA (Z.or Zn) A2 c2 r.1.inst.arcs ∧ FzS (fI .i64) (Z.or Zn) A3 c3 r.1.rcd.was.supply ∧ FzS fA (Z.or Zn) A4 c4 r.1.rcd.was.arcs ∧ L = [.fz Zn]
set_option maxRecDepth 20000 in
set_option maxHeartbeats 8000000 in
theorem leaf_dead_w {w : World} {Z : PH} (hZ : Z.le (PH.of w)) {v0 : Value} {i1 : Inst} {r : Step × (Option Int)} (h : leaf_dead i1 = some r) (p1 : InsZ Z v0 i1) :
    Calls Tryz.prog 54 #[v0] w fun e w' => ∃ v L, e = .returned v ∧ leaf_dead_S Z r v L ∧ Ret w w' L := by
  obtain ⟨A1, c1, A2, c2, rfl, hs1, hs2⟩ := p1
  unfold leaf_dead at h
  refine enter_ Tryz.func54 rfl Tryz.ntmps54 rfl ?_
  refine WP.box rfl rfl rfl rfl rfl rfl ?_
  intro g1
  refine WP.al tysOk rfl rfl rfl rfl rfl rfl ?_
  intro g2
  refine WP.sx tysOk rfl ⟨⟨⟩, ⟨⟩⟩ ?_
  refine WP.mx_ tysOk rfl ⟨⟩ (SegAt.blk' (.tail .head) rfl) ?_
  obtain ⟨r1, hg1, h⟩ := bind_some h
  refine WP.callS (adj_New_S r1) rfl rfl rfl rfl rfl rfl rfl (by kernel_rfl) (fun w1 hw1 => (adj_New_w hg1 (InsZ.mk_ ((hs1.le' ((Held.sub (Held.mem (List.Mem.tail _ (List.Mem.tail _ (List.Mem.head _)))) hZ) _ _ hw1)).of) ((hs2.le' ((Held.sub (Held.mem (List.Mem.tail _ (List.Mem.tail _ (List.Mem.head _)))) hZ) _ _ hw1)).of)) :)) ?_
  rintro vg1 _ ⟨Zn1, hgr1, rfl⟩
  obtain ⟨gg1, rfl⟩ := hgr1.ptr'
  refine WP.al tysOk rfl rfl rfl rfl rfl rfl ?_
  intro g3
  refine WP.sto' tysOk [.pointer (some ⟨gg1, 0, none⟩)] rfl rfl rfl rfl rfl rfl rfl rfl rfl .head rfl rfl ?_
  refine WP.sx tysOk rfl ⟨⟨⟩, ⟨⟩⟩ ?_
  refine WP.lx tysOk rfl ⟨⟩ (CellAt.blk (.tail (.tail (.tail .head))) rfl) ?_
  iterate 2 (refine WP.sx tysOk rfl ⟨⟨⟩, ⟨⟩⟩ ?_)
  obtain ⟨r2, hg2, h⟩ := bind_some h
  refine WP.callV rfl rfl rfl rfl rfl rfl rfl (by kernel_rfl) (fun w1 hw1 => (leaf_first_struct_1_w hg2 (hgr1.le ((Held.mem (List.Mem.tail _ (List.Mem.head _))) _ _ hw1)) (KH.zcb hw1 .head rfl) (hs1.le' ((Held.sub (Held.mem (List.Mem.tail _ (List.Mem.tail _ (List.Mem.tail _ (List.Mem.tail _ (List.Mem.head _)))))) hZ) _ _ hw1)) (hs2.le' ((Held.sub (Held.mem (List.Mem.tail _ (List.Mem.tail _ (List.Mem.tail _ (List.Mem.tail _ (List.Mem.head _)))))) hZ) _ _ hw1)) (KH.zcb hw1 (.tail (.tail (.tail .head))) rfl) (KH.zcb hw1 (.tail (.tail (.tail .head))) rfl) :)) ⟨⟩ ?_
  iterate 4 (refine WP.sx tysOk rfl ⟨⟨⟩, ⟨⟩⟩ ?_)
  refine WP.al tysOk rfl rfl rfl rfl rfl rfl ?_
  intro g4
  refine WP.sx tysOk rfl ⟨⟨⟩, ⟨⟩⟩ ?_
  refine WP.sto' tysOk [] rfl rfl rfl rfl rfl rfl rfl rfl rfl .head rfl rfl ?_
  iterate 3 (refine WP.sx tysOk rfl ⟨⟨⟩, ⟨⟩⟩ ?_)
  refine WP.cond_n rfl rfl (fun hh1 => ?_) (fun hh1 => ?_)
  ·rw [if_neg (bneg hh1)] at h
   refine WP.mx_ tysOk rfl ⟨⟩ (SegAt.blk' (.tail (.tail (.tail (.tail .head)))) rfl) ?_
   obtain ⟨r3, hg3, h⟩ := bind_some h
   refine WP.callS (inst_Copy_S r3) rfl rfl rfl rfl rfl rfl rfl (by kernel_rfl) (fun w1 hw1 => (inst_Copy_w hg3 (InsZ.mk_ ((hs1.le' ((Held.sub (Held.mem (List.Mem.tail _ (List.Mem.tail _ (List.Mem.tail _ (List.Mem.tail _ (List.Mem.tail _ (List.Mem.head _))))))) hZ) _ _ hw1)).of) ((hs2.le' ((Held.sub (Held.mem (List.Mem.tail _ (List.Mem.tail _ (List.Mem.tail _ (List.Mem.tail _ (List.Mem.tail _ (List.Mem.head _))))))) hZ) _ _ hw1)).of)) :)) ?_
   rintro _ _ ⟨A3, n1, c3, A4, n2, c4, rfl, hf1, hf2, rfl⟩
   refine WP.bld (cs := [.slice A3 n1 c3, .slice A4 n2 c4, iv 0, sn, sn, iv 0, .int .u64 (0), .bool (false)]) tysOk rfl ⟨⟩ rfl rfl rfl rfl rfl rfl rfl ?_
   refine WP.sto' tysOk [.slice A3 n1 c3, .slice A4 n2 c4, iv 0, sn, sn, iv 0, .int .u64 (0), .bool (false)] rfl rfl rfl rfl rfl rfl rfl rfl rfl (.tail (.tail (.tail (.tail (.tail .head))))) rfl rfl ?_
   refine WP.sx tysOk rfl ⟨⟨⟩, ⟨⟩⟩ ?_
   cases h
   refine WP.retR tysOk rfl rfl ⟨_, _, _, _, rfl, ⟨_, rfl, .inr ⟨rfl, _, rfl, rfl, (SegAt.blk' (z := 8) .head rfl).1⟩⟩, ⟨_, _, rfl, rfl, rfl⟩, rfl⟩ (fun w1 hw1 => ⟨_, _, rfl, ⟨PH.new _ w1, A3, n1, c3, A4, n2, c4, none, 0, 0, none, 0, 0, rfl, hf1.len.symm, hf2.len.symm, rfl, rfl, hw1.owFz (.cons (.tail .head) (.cons (.tail (.tail (.tail (.tail (.tail (.tail .head)))))) .nil)) hZ hf1, hw1.owFz (.cons (.tail (.tail .head)) (.cons (.tail (.tail (.tail (.tail (.tail (.tail .head)))))) .nil)) hZ hf2, FzS.nil_, FzS.nil_, rfl⟩, Ret.freeze hw1 (.cons (.tail (.tail (.tail (.tail (.tail (.tail (.tail .head))))))) .nil)⟩)
  rw [if_pos hh1] at h
  obtain ⟨r_o3_1_1, hg_o3_1_1, h⟩ := bind_some h
  obtain ⟨r_o3_3_1, hg_o3_3_1, h⟩ := bind_some h
  obtain ⟨r_o3_6_1, hg_o3_6_1, h⟩ := bind_some h
  refine WP.join (α := (Option Addr) × Nat × Nat × (Option Addr) × Nat × Nat × (Option Addr) × Nat × Nat × (Option Addr) × Nat × Nat × PH × PH × PH × PH × PH × (Option Addr) × Nat × (Option Addr) × Nat × (Option Addr) × Nat × (Option Addr) × Nat) (fun x => OwF x.1 x.2.1 r_o3_1_1.supply ∧ OwF x.2.2.2.1 x.2.2.2.2.1 r_o3_1_1.arcs ∧ OwF x.2.2.2.2.2.2.1 x.2.2.2.2.2.2.2.1 r_o3_3_1.supply ∧ OwF x.2.2.2.2.2.2.2.2.2.1 x.2.2.2.2.2.2.2.2.2.2.1 r_o3_3_1.arcs ∧ FzS (fI .i64) x.2.2.2.2.2.2.2.2.2.2.2.2.1 x.1 x.2.2.1 r_o3_1_1.supply ∧ FzS fA x.2.2.2.2.2.2.2.2.2.2.2.2.2.1 x.2.2.2.1 x.2.2.2.2.2.1 r_o3_1_1.arcs ∧ FzS (fI .i64) x.2.2.2.2.2.2.2.2.2.2.2.2.2.2.1 x.2.2.2.2.2.2.1 x.2.2.2.2.2.2.2.2.1 r_o3_3_1.supply ∧ FzS fA x.2.2.2.2.2.2.2.2.2.2.2.2.2.2.2.1 x.2.2.2.2.2.2.2.2.2.1 x.2.2.2.2.2.2.2.2.2.2.2.1 r_o3_3_1.arcs ∧ FzS (fI .i64) (PH.or (PH.or (PH.or (PH.or x.2.2.2.2.2.2.2.2.2.2.2.2.1 x.2.2.2.2.2.2.2.2.2.2.2.2.2.1) x.2.2.2.2.2.2.2.2.2.2.2.2.2.2.1) x.2.2.2.2.2.2.2.2.2.2.2.2.2.2.2.1) x.2.2.2.2.2.2.2.2.2.2.2.2.2.2.2.2.1) x.2.2.2.2.2.2.2.2.2.2.2.2.2.2.2.2.2.1 x.2.2.2.2.2.2.2.2.2.2.2.2.2.2.2.2.2.2.1 r_o3_6_1.1.inst.supply ∧ FzS fA (PH.or (PH.or (PH.or (PH.or x.2.2.2.2.2.2.2.2.2.2.2.2.1 x.2.2.2.2.2.2.2.2.2.2.2.2.2.1) x.2.2.2.2.2.2.2.2.2.2.2.2.2.2.1) x.2.2.2.2.2.2.2.2.2.2.2.2.2.2.2.1) x.2.2.2.2.2.2.2.2.2.2.2.2.2.2.2.2.1) x.2.2.2.2.2.2.2.2.2.2.2.2.2.2.2.2.2.2.2.1 x.2.2.2.2.2.2.2.2.2.2.2.2.2.2.2.2.2.2.2.2.1 r_o3_6_1.1.inst.arcs ∧ FzS (fI .i64) (PH.or (PH.or (PH.or (PH.or x.2.2.2.2.2.2.2.2.2.2.2.2.1 x.2.2.2.2.2.2.2.2.2.2.2.2.2.1) x.2.2.2.2.2.2.2.2.2.2.2.2.2.2.1) x.2.2.2.2.2.2.2.2.2.2.2.2.2.2.2.1) x.2.2.2.2.2.2.2.2.2.2.2.2.2.2.2.2.1) x.2.2.2.2.2.2.2.2.2.2.2.2.2.2.2.2.2.2.2.2.2.1 x.2.2.2.2.2.2.2.2.2.2.2.2.2.2.2.2.2.2.2.2.2.2.1 r_o3_6_1.1.rcd.was.supply ∧ FzS fA (PH.or (PH.or (PH.or (PH.or x.2.2.2.2.2.2.2.2.2.2.2.2.1 x.2.2.2.2.2.2.2.2.2.2.2.2.2.1) x.2.2.2.2.2.2.2.2.2.2.2.2.2.2.1) x.2.2.2.2.2.2.2.2.2.2.2.2.2.2.2.1) x.2.2.2.2.2.2.2.2.2.2.2.2.2.2.2.2.1) x.2.2.2.2.2.2.2.2.2.2.2.2.2.2.2.2.2.2.2.2.2.2.2.1 x.2.2.2.2.2.2.2.2.2.2.2.2.2.2.2.2.2.2.2.2.2.2.2.2 r_o3_6_1.1.rcd.was.arcs) (fun x => [(2, pt g2), (3, errV r_o3_6_1.2)]) (fun x => [.blk g2 40 [.slice x.2.2.2.2.2.2.2.2.2.2.2.2.2.2.2.2.2.1 r_o3_6_1.1.inst.supply.length x.2.2.2.2.2.2.2.2.2.2.2.2.2.2.2.2.2.2.1, .slice x.2.2.2.2.2.2.2.2.2.2.2.2.2.2.2.2.2.2.2.1 r_o3_6_1.1.inst.arcs.length x.2.2.2.2.2.2.2.2.2.2.2.2.2.2.2.2.2.2.2.2.1, iv r_o3_6_1.1.rcd.pass, .slice x.2.2.2.2.2.2.2.2.2.2.2.2.2.2.2.2.2.2.2.2.2.1 r_o3_6_1.1.rcd.was.supply.length x.2.2.2.2.2.2.2.2.2.2.2.2.2.2.2.2.2.2.2.2.2.2.1, .slice x.2.2.2.2.2.2.2.2.2.2.2.2.2.2.2.2.2.2.2.2.2.2.2.1 r_o3_6_1.1.rcd.was.arcs.length x.2.2.2.2.2.2.2.2.2.2.2.2.2.2.2.2.2.2.2.2.2.2.2.2, iv r_o3_6_1.1.off.hi, .int .u64 (r_o3_6_1.1.off.lo), .bool (r_o3_6_1.1.did)], .fz x.2.2.2.2.2.2.2.2.2.2.2.2.2.2.2.2.1, .fz x.2.2.2.2.2.2.2.2.2.2.2.2.2.2.2.1, .fz x.2.2.2.2.2.2.2.2.2.2.2.2.2.2.1, .fz x.2.2.2.2.2.2.2.2.2.2.2.2.2.1, .fz x.2.2.2.2.2.2.2.2.2.2.2.2.1, .blk g4 129 [], .blk g3 73 [.pointer (some ⟨gg1, 0, none⟩)], .fz Zn1, .blk g1 25 [.slice A1 i1.supply.length c1, .slice A2 i1.arcs.length c2], .fz (PH.of w)]) rfl ?_ ?_
  ·refine WP.drawA rfl (by kernel_rfl) ?_
   refine WP.cutF (α := (Option Addr) × Nat × Nat × (Option Addr) × Nat × Nat) (fun x => OwF x.1 x.2.1 r_o3_1_1.supply ∧ OwF x.2.2.2.1 x.2.2.2.2.1 r_o3_1_1.arcs) #[true, true, true, false, true, true, false, false, false, false, false] 6 (fun x => [(2, pt g2), (3, errV none), (25, .agg #[.slice x.1 x.2.1 x.2.2.1, .slice x.2.2.2.1 x.2.2.2.2.1 x.2.2.2.2.2]), (26, .agg #[.slice A1 i1.supply.length c1, .slice A2 i1.arcs.length c2]), (28, iv r2.1), (29, .agg #[iv 0, .int .u64 (0)])]) (fun x => [Ow (fI .i64) 2 x.1 x.2.1 x.2.2.1 r_o3_1_1.supply, Ow fA 31 x.2.2.2.1 x.2.2.2.2.1 x.2.2.2.2.2 r_o3_1_1.arcs, .blk g4 129 [], .blk g3 73 [.pointer (some ⟨gg1, 0, none⟩)], .fz Zn1, .blk g2 40 [sn, sn, iv 0, sn, sn, iv 0, .int .u64 (0), .bool (false)], .blk g1 25 [.slice A1 i1.supply.length c1, .slice A2 i1.arcs.length c2], .fz (PH.of w)]) rfl ?_ ?_
   ·rintro ⟨A_o3_1_1, n_o3_1_1, c_o3_1_1, A_o3_1_2, n_o3_1_2, c_o3_1_2⟩ ⟨hf_o3_1_1, hf_o3_1_2⟩
    dsimp only at hf_o3_1_1 hf_o3_1_2 ⊢
    refine WP.any1 3 rfl (by kernel_rfl) rfl ?_
    refine WP.callS (inst_Copy_S r_o3_3_1) rfl rfl rfl rfl rfl rfl rfl (by kernel_rfl) (fun w1 hw1 => (inst_Copy_w hg_o3_3_1 (InsZ.mk_ ((hs1.le' ((Held.sub (Held.mem (List.Mem.tail _ (List.Mem.tail _ (List.Mem.tail _ (List.Mem.tail _ (List.Mem.tail _ (List.Mem.tail _ (List.Mem.tail _ (List.Mem.head _))))))))) hZ) _ _ hw1)).of) ((hs2.le' ((Held.sub (Held.mem (List.Mem.tail _ (List.Mem.tail _ (List.Mem.tail _ (List.Mem.tail _ (List.Mem.tail _ (List.Mem.tail _ (List.Mem.tail _ (List.Mem.head _))))))))) hZ) _ _ hw1)).of)) :)) ?_
    rintro _ _ ⟨A_o3_3_1, n_o3_3_1, c_o3_3_1, A_o3_3_2, n_o3_3_2, c_o3_3_2, rfl, hf_o3_3_1, hf_o3_3_2, rfl⟩
    refine WP.any1 6 rfl (by kernel_rfl) rfl ?_
    refine WP.freezeO (.tail (.tail .head)) hf_o3_1_1 ?_
    intro Zp_o3_6_1 hz_o3_6_1
    have hl_o3_6_1 := hf_o3_1_1.len
    subst hl_o3_6_1
    refine WP.freezeO (.tail (.tail (.tail .head))) hf_o3_1_2 ?_
    intro Zp_o3_6_2 hz_o3_6_2
    have hl_o3_6_2 := hf_o3_1_2.len
    subst hl_o3_6_2
    refine WP.freezeO (.tail (.tail .head)) hf_o3_3_1 ?_
    intro Zp_o3_6_3 hz_o3_6_3
    have hl_o3_6_3 := hf_o3_3_1.len
    subst hl_o3_6_3
    refine WP.freezeO (.tail (.tail (.tail .head))) hf_o3_3_2 ?_
    intro Zp_o3_6_4 hz_o3_6_4
    have hl_o3_6_4 := hf_o3_3_2.len
    subst hl_o3_6_4
    refine WP.callS (leaf_without_S (PH.or (PH.or (PH.or Zp_o3_6_1 Zp_o3_6_2) Zp_o3_6_3) Zp_o3_6_4) r_o3_6_1) rfl rfl rfl rfl rfl rfl rfl (by kernel_rfl) (fun w1 hw1 => (leaf_without_w (Z := (PH.or (PH.or (PH.or Zp_o3_6_1 Zp_o3_6_2) Zp_o3_6_3) Zp_o3_6_4)) ((Held.or (Held.or (Held.or (Held.mem (List.Mem.tail _ (List.Mem.tail _ (List.Mem.tail _ (List.Mem.head _))))) (Held.mem (List.Mem.tail _ (List.Mem.tail _ (List.Mem.head _))))) (Held.mem (List.Mem.tail _ (List.Mem.head _)))) (Held.mem (List.Mem.head _))) _ _ hw1) hg_o3_6_1 (InsZ.mk_ ((hz_o3_6_1.le' (PH.le.trans (PH.le.trans (PH.le.trans PH.le.rfl_ (PH.le_or _ _)) (PH.le_or _ _)) (PH.le_or _ _))).of) ((hz_o3_6_2.le' (PH.le.trans (PH.le.trans (PH.ri_or ((Held.mem (List.Mem.tail _ (List.Mem.tail _ (List.Mem.tail _ (List.Mem.head _))))) _ _ hw1) ((Held.mem (List.Mem.tail _ (List.Mem.tail _ (List.Mem.head _)))) _ _ hw1)) (PH.le_or _ _)) (PH.le_or _ _))).of)) (InsZ.mk_ ((hz_o3_6_3.le' (PH.le.trans (PH.ri_or ((Held.or (Held.mem (List.Mem.tail _ (List.Mem.tail _ (List.Mem.tail _ (List.Mem.head _))))) (Held.mem (List.Mem.tail _ (List.Mem.tail _ (List.Mem.head _))))) _ _ hw1) ((Held.mem (List.Mem.tail _ (List.Mem.head _))) _ _ hw1)) (PH.le_or _ _))).of) ((hz_o3_6_4.le' (PH.ri_or ((Held.or (Held.or (Held.mem (List.Mem.tail _ (List.Mem.tail _ (List.Mem.tail _ (List.Mem.head _))))) (Held.mem (List.Mem.tail _ (List.Mem.tail _ (List.Mem.head _))))) (Held.mem (List.Mem.tail _ (List.Mem.head _)))) _ _ hw1) ((Held.mem (List.Mem.head _)) _ _ hw1))).of)) :)) ?_
    rintro _ _ ⟨Zn_o3_6_1, A_o3_6_1, _, c_o3_6_1, A_o3_6_2, _, c_o3_6_2, A_o3_6_3, _, c_o3_6_3, A_o3_6_4, _, c_o3_6_4, rfl, rfl, rfl, rfl, rfl, hs_o3_6_1, hs_o3_6_2, hs_o3_6_3, hs_o3_6_4, rfl⟩
    refine WP.anyP 7 tysOk putInv_body rfl rfl rfl (by kernel_rfl) (by kernel_rfl) rfl rfl rfl rfl rfl True.intro ?_
    refine WP.anyP 8 tysOk putInv_body rfl rfl rfl (by kernel_rfl) (by kernel_rfl) rfl rfl rfl rfl rfl True.intro ?_
    refine WP.any1 9 rfl (by kernel_rfl) rfl ?_
    refine WP.sto' tysOk [.slice A_o3_6_1 r_o3_6_1.1.inst.supply.length c_o3_6_1, .slice A_o3_6_2 r_o3_6_1.1.inst.arcs.length c_o3_6_2, iv r_o3_6_1.1.rcd.pass, .slice A_o3_6_3 r_o3_6_1.1.rcd.was.supply.length c_o3_6_3, .slice A_o3_6_4 r_o3_6_1.1.rcd.was.arcs.length c_o3_6_4, iv r_o3_6_1.1.off.hi, .int .u64 (r_o3_6_1.1.off.lo), .bool (r_o3_6_1.1.did)] rfl rfl rfl rfl rfl rfl rfl rfl rfl (.tail (.tail (.tail (.tail (.tail (.tail (.tail (.tail .head)))))))) rfl rfl ?_
    refine WP.anyP 10 tysOk putInv_body rfl rfl rfl (by kernel_rfl) (by kernel_rfl) rfl rfl rfl rfl rfl True.intro ?_
    refine WP.any0 rfl (by kernel_rfl) ?_
    refine WP.stop rfl (A_o3_1_1, (r_o3_1_1.supply.length), c_o3_1_1, A_o3_1_2, (r_o3_1_1.arcs.length), c_o3_1_2, A_o3_3_1, (r_o3_3_1.supply.length), c_o3_3_1, A_o3_3_2, (r_o3_3_1.arcs.length), c_o3_3_2, Zp_o3_6_1, Zp_o3_6_2, Zp_o3_6_3, Zp_o3_6_4, Zn_o3_6_1, A_o3_6_1, c_o3_6_1, A_o3_6_2, c_o3_6_2, A_o3_6_3, c_o3_6_3, A_o3_6_4, c_o3_6_4) ⟨hf_o3_1_1, hf_o3_1_2, hf_o3_3_1, hf_o3_3_2, hz_o3_6_1, hz_o3_6_2, hz_o3_6_3, hz_o3_6_4, hs_o3_6_1, hs_o3_6_2, hs_o3_6_3, hs_o3_6_4⟩ ?_ ?_
    ·repeat first|exact ⟨⟩|refine ⟨rfl,?_⟩
    exact Pick.all
   intro mm1
   refine WP.cutF (α := (Option Addr) × Nat × Nat × (Option Addr) × Nat × Nat) (fun x => OwF x.1 x.2.1 r_o3_1_1.supply ∧ OwF x.2.2.2.1 x.2.2.2.2.1 r_o3_1_1.arcs) #[true, true, true, false, true, false, false, false, false, false, false] 7 (fun x => [(2, pt g2), (3, errV none), (25, .agg #[.slice x.1 x.2.1 x.2.2.1, .slice x.2.2.2.1 x.2.2.2.2.1 x.2.2.2.2.2]), (26, .agg #[.slice A1 i1.supply.length c1, .slice A2 i1.arcs.length c2]), (28, iv r2.1)]) (fun x => [Ow (fI .i64) 2 x.1 x.2.1 x.2.2.1 r_o3_1_1.supply, Ow fA 31 x.2.2.2.1 x.2.2.2.2.1 x.2.2.2.2.2 r_o3_1_1.arcs, .blk g4 129 [], .blk g3 73 [.pointer (some ⟨gg1, 0, none⟩)], .fz Zn1, .blk g2 40 [sn, sn, iv 0, sn, sn, iv 0, .int .u64 (0), .bool (false)], .blk g1 25 [.slice A1 i1.supply.length c1, .slice A2 i1.arcs.length c2], .fz (PH.of w)]) rfl ?_ ?_
   ·rintro ⟨A_o3_1_1, n_o3_1_1, c_o3_1_1, A_o3_1_2, n_o3_1_2, c_o3_1_2⟩ ⟨hf_o3_1_1, hf_o3_1_2⟩
    dsimp only at hf_o3_1_1 hf_o3_1_2 ⊢
    refine WP.any2 3 5 rfl (by kernel_rfl) rfl rfl ?_ ?_
    ·refine WP.callS (inst_Copy_S r_o3_3_1) rfl rfl rfl rfl rfl rfl rfl (by kernel_rfl) (fun w1 hw1 => (inst_Copy_w hg_o3_3_1 (InsZ.mk_ ((hs1.le' ((Held.sub (Held.mem (List.Mem.tail _ (List.Mem.tail _ (List.Mem.tail _ (List.Mem.tail _ (List.Mem.tail _ (List.Mem.tail _ (List.Mem.tail _ (List.Mem.head _))))))))) hZ) _ _ hw1)).of) ((hs2.le' ((Held.sub (Held.mem (List.Mem.tail _ (List.Mem.tail _ (List.Mem.tail _ (List.Mem.tail _ (List.Mem.tail _ (List.Mem.tail _ (List.Mem.tail _ (List.Mem.head _))))))))) hZ) _ _ hw1)).of)) :)) ?_
     rintro _ _ ⟨A_o3_3_1, n_o3_3_1, c_o3_3_1, A_o3_3_2, n_o3_3_2, c_o3_3_2, rfl, hf_o3_3_1, hf_o3_3_2, rfl⟩
     refine WP.any1 5 rfl (by kernel_rfl) rfl ?_
     refine WP.bld (cs := [iv 0, .int .u64 (0)]) tysOk rfl ⟨⟩ rfl rfl rfl rfl rfl rfl rfl ?_
     refine WP.any1 6 rfl (by kernel_rfl) rfl ?_
     refine WP.freezeO (.tail (.tail .head)) hf_o3_1_1 ?_
     intro Zp_o3_6_1 hz_o3_6_1
     have hl_o3_6_1 := hf_o3_1_1.len
     subst hl_o3_6_1
     refine WP.freezeO (.tail (.tail (.tail .head))) hf_o3_1_2 ?_
     intro Zp_o3_6_2 hz_o3_6_2
     have hl_o3_6_2 := hf_o3_1_2.len
     subst hl_o3_6_2
     refine WP.freezeO (.tail (.tail .head)) hf_o3_3_1 ?_
     intro Zp_o3_6_3 hz_o3_6_3
     have hl_o3_6_3 := hf_o3_3_1.len
     subst hl_o3_6_3
     refine WP.freezeO (.tail (.tail (.tail .head))) hf_o3_3_2 ?_
     intro Zp_o3_6_4 hz_o3_6_4
     have hl_o3_6_4 := hf_o3_3_2.len
     subst hl_o3_6_4
     refine WP.callS (leaf_without_S (PH.or (PH.or (PH.or Zp_o3_6_1 Zp_o3_6_2) Zp_o3_6_3) Zp_o3_6_4) r_o3_6_1) rfl rfl rfl rfl rfl rfl rfl (by kernel_rfl) (fun w1 hw1 => (leaf_without_w (Z := (PH.or (PH.or (PH.or Zp_o3_6_1 Zp_o3_6_2) Zp_o3_6_3) Zp_o3_6_4)) ((Held.or (Held.or (Held.or (Held.mem (List.Mem.tail _ (List.Mem.tail _ (List.Mem.tail _ (List.Mem.head _))))) (Held.mem (List.Mem.tail _ (List.Mem.tail _ (List.Mem.head _))))) (Held.mem (List.Mem.tail _ (List.Mem.head _)))) (Held.mem (List.Mem.head _))) _ _ hw1) hg_o3_6_1 (InsZ.mk_ ((hz_o3_6_1.le' (PH.le.trans (PH.le.trans (PH.le.trans PH.le.rfl_ (PH.le_or _ _)) (PH.le_or _ _)) (PH.le_or _ _))).of) ((hz_o3_6_2.le' (PH.le.trans (PH.le.trans (PH.ri_or ((Held.mem (List.Mem.tail _ (List.Mem.tail _ (List.Mem.tail _ (List.Mem.head _))))) _ _ hw1) ((Held.mem (List.Mem.tail _ (List.Mem.tail _ (List.Mem.head _)))) _ _ hw1)) (PH.le_or _ _)) (PH.le_or _ _))).of)) (InsZ.mk_ ((hz_o3_6_3.le' (PH.le.trans (PH.ri_or ((Held.or (Held.mem (List.Mem.tail _ (List.Mem.tail _ (List.Mem.tail _ (List.Mem.head _))))) (Held.mem (List.Mem.tail _ (List.Mem.tail _ (List.Mem.head _))))) _ _ hw1) ((Held.mem (List.Mem.tail _ (List.Mem.head _))) _ _ hw1)) (PH.le_or _ _))).of) ((hz_o3_6_4.le' (PH.ri_or ((Held.or (Held.or (Held.mem (List.Mem.tail _ (List.Mem.tail _ (List.Mem.tail _ (List.Mem.head _))))) (Held.mem (List.Mem.tail _ (List.Mem.tail _ (List.Mem.head _))))) (Held.mem (List.Mem.tail _ (List.Mem.head _)))) _ _ hw1) ((Held.mem (List.Mem.head _)) _ _ hw1))).of)) :)) ?_
     rintro _ _ ⟨Zn_o3_6_1, A_o3_6_1, _, c_o3_6_1, A_o3_6_2, _, c_o3_6_2, A_o3_6_3, _, c_o3_6_3, A_o3_6_4, _, c_o3_6_4, rfl, rfl, rfl, rfl, rfl, hs_o3_6_1, hs_o3_6_2, hs_o3_6_3, hs_o3_6_4, rfl⟩
     refine WP.anyP 7 tysOk putInv_body rfl rfl rfl (by kernel_rfl) (by kernel_rfl) rfl rfl rfl rfl rfl True.intro ?_
     refine WP.anyP 8 tysOk putInv_body rfl rfl rfl (by kernel_rfl) (by kernel_rfl) rfl rfl rfl rfl rfl True.intro ?_
     refine WP.any1 9 rfl (by kernel_rfl) rfl ?_
     refine WP.sto' tysOk [.slice A_o3_6_1 r_o3_6_1.1.inst.supply.length c_o3_6_1, .slice A_o3_6_2 r_o3_6_1.1.inst.arcs.length c_o3_6_2, iv r_o3_6_1.1.rcd.pass, .slice A_o3_6_3 r_o3_6_1.1.rcd.was.supply.length c_o3_6_3, .slice A_o3_6_4 r_o3_6_1.1.rcd.was.arcs.length c_o3_6_4, iv r_o3_6_1.1.off.hi, .int .u64 (r_o3_6_1.1.off.lo), .bool (r_o3_6_1.1.did)] rfl rfl rfl rfl rfl rfl rfl rfl rfl (.tail (.tail (.tail (.tail (.tail (.tail (.tail (.tail .head)))))))) rfl rfl ?_
     refine WP.anyP 10 tysOk putInv_body rfl rfl rfl (by kernel_rfl) (by kernel_rfl) rfl rfl rfl rfl rfl True.intro ?_
     refine WP.any0 rfl (by kernel_rfl) ?_
     refine WP.stop rfl (A_o3_1_1, (r_o3_1_1.supply.length), c_o3_1_1, A_o3_1_2, (r_o3_1_1.arcs.length), c_o3_1_2, A_o3_3_1, (r_o3_3_1.supply.length), c_o3_3_1, A_o3_3_2, (r_o3_3_1.arcs.length), c_o3_3_2, Zp_o3_6_1, Zp_o3_6_2, Zp_o3_6_3, Zp_o3_6_4, Zn_o3_6_1, A_o3_6_1, c_o3_6_1, A_o3_6_2, c_o3_6_2, A_o3_6_3, c_o3_6_3, A_o3_6_4, c_o3_6_4) ⟨hf_o3_1_1, hf_o3_1_2, hf_o3_3_1, hf_o3_3_2, hz_o3_6_1, hz_o3_6_2, hz_o3_6_3, hz_o3_6_4, hs_o3_6_1, hs_o3_6_2, hs_o3_6_3, hs_o3_6_4⟩ ?_ ?_
     ·repeat first|exact ⟨⟩|refine ⟨rfl,?_⟩
     exact Pick.all
    refine WP.bld (cs := [iv 0, .int .u64 (0)]) tysOk rfl ⟨⟩ rfl rfl rfl rfl rfl rfl rfl ?_
    refine WP.useF mm1 (A_o3_1_1, n_o3_1_1, c_o3_1_1, A_o3_1_2, n_o3_1_2, c_o3_1_2) ⟨hf_o3_1_1, hf_o3_1_2⟩ rfl (by kernel_rfl) ?_ ?_
    ·repeat first|exact ⟨⟩|refine ⟨rfl,?_⟩
    exact Pick.all
   intro mm2
   refine WP.cutF (α := Unit) (fun x => True) #[true, false, true, false, true, true, false, false, false, false, false] 7 (fun x => [(2, pt g2), (3, errV none), (24, .agg #[.slice A1 i1.supply.length c1, .slice A2 i1.arcs.length c2]), (26, .agg #[.slice A1 i1.supply.length c1, .slice A2 i1.arcs.length c2]), (28, iv r2.1), (29, .agg #[iv 0, .int .u64 (0)])]) (fun x => [.blk g4 129 [], .blk g3 73 [.pointer (some ⟨gg1, 0, none⟩)], .fz Zn1, .blk g2 40 [sn, sn, iv 0, sn, sn, iv 0, .int .u64 (0), .bool (false)], .blk g1 25 [.slice A1 i1.supply.length c1, .slice A2 i1.arcs.length c2], .fz (PH.of w)]) rfl ?_ ?_
   ·rintro _ _
    refine WP.any1 1 rfl (by kernel_rfl) rfl ?_
    refine WP.callS (inst_Copy_S r_o3_1_1) rfl rfl rfl rfl rfl rfl rfl (by kernel_rfl) (fun w1 hw1 => (inst_Copy_w hg_o3_1_1 (InsZ.mk_ ((hs1.le' ((Held.sub (Held.mem (List.Mem.tail _ (List.Mem.tail _ (List.Mem.tail _ (List.Mem.tail _ (List.Mem.tail _ (List.Mem.head _))))))) hZ) _ _ hw1)).of) ((hs2.le' ((Held.sub (Held.mem (List.Mem.tail _ (List.Mem.tail _ (List.Mem.tail _ (List.Mem.tail _ (List.Mem.tail _ (List.Mem.head _))))))) hZ) _ _ hw1)).of)) :)) ?_
    rintro _ _ ⟨A_o3_1_1, n_o3_1_1, c_o3_1_1, A_o3_1_2, n_o3_1_2, c_o3_1_2, rfl, hf_o3_1_1, hf_o3_1_2, rfl⟩
    refine WP.useF mm1 (A_o3_1_1, n_o3_1_1, c_o3_1_1, A_o3_1_2, n_o3_1_2, c_o3_1_2) ⟨hf_o3_1_1, hf_o3_1_2⟩ rfl (by kernel_rfl) ?_ ?_
    ·repeat first|exact ⟨⟩|refine ⟨rfl,?_⟩
    exact Pick.all
   intro mm3
   refine WP.cutF (α := Unit) (fun x => True) #[true, false, true, false, true, false, false, false, false, false, false] 8 (fun x => [(2, pt g2), (3, errV none), (24, .agg #[.slice A1 i1.supply.length c1, .slice A2 i1.arcs.length c2]), (26, .agg #[.slice A1 i1.supply.length c1, .slice A2 i1.arcs.length c2]), (28, iv r2.1)]) (fun x => [.blk g4 129 [], .blk g3 73 [.pointer (some ⟨gg1, 0, none⟩)], .fz Zn1, .blk g2 40 [sn, sn, iv 0, sn, sn, iv 0, .int .u64 (0), .bool (false)], .blk g1 25 [.slice A1 i1.supply.length c1, .slice A2 i1.arcs.length c2], .fz (PH.of w)]) rfl ?_ ?_
   ·rintro _ _
    refine WP.any2 1 5 rfl (by kernel_rfl) rfl rfl ?_ ?_
    ·refine WP.callS (inst_Copy_S r_o3_1_1) rfl rfl rfl rfl rfl rfl rfl (by kernel_rfl) (fun w1 hw1 => (inst_Copy_w hg_o3_1_1 (InsZ.mk_ ((hs1.le' ((Held.sub (Held.mem (List.Mem.tail _ (List.Mem.tail _ (List.Mem.tail _ (List.Mem.tail _ (List.Mem.tail _ (List.Mem.head _))))))) hZ) _ _ hw1)).of) ((hs2.le' ((Held.sub (Held.mem (List.Mem.tail _ (List.Mem.tail _ (List.Mem.tail _ (List.Mem.tail _ (List.Mem.tail _ (List.Mem.head _))))))) hZ) _ _ hw1)).of)) :)) ?_
     rintro _ _ ⟨A_o3_1_1, n_o3_1_1, c_o3_1_1, A_o3_1_2, n_o3_1_2, c_o3_1_2, rfl, hf_o3_1_1, hf_o3_1_2, rfl⟩
     refine WP.useF mm2 (A_o3_1_1, n_o3_1_1, c_o3_1_1, A_o3_1_2, n_o3_1_2, c_o3_1_2) ⟨hf_o3_1_1, hf_o3_1_2⟩ rfl (by kernel_rfl) ?_ ?_
     ·repeat first|exact ⟨⟩|refine ⟨rfl,?_⟩
     exact Pick.all
    refine WP.bld (cs := [iv 0, .int .u64 (0)]) tysOk rfl ⟨⟩ rfl rfl rfl rfl rfl rfl rfl ?_
    refine WP.useF mm3 () True.intro rfl (by kernel_rfl) ?_ ?_
    ·repeat first|exact ⟨⟩|refine ⟨rfl,?_⟩
    exact Pick.all
   intro mm4
   refine WP.cutF (α := Unit) (fun x => True) #[true, false, false, false, true, true, false, false, false, false, false] 8 (fun x => [(1, pt g1), (2, pt g2), (3, errV none), (24, .agg #[.slice A1 i1.supply.length c1, .slice A2 i1.arcs.length c2]), (28, iv r2.1), (29, .agg #[iv 0, .int .u64 (0)])]) (fun x => [.blk g4 129 [], .blk g3 73 [.pointer (some ⟨gg1, 0, none⟩)], .fz Zn1, .blk g2 40 [sn, sn, iv 0, sn, sn, iv 0, .int .u64 (0), .bool (false)], .blk g1 25 [.slice A1 i1.supply.length c1, .slice A2 i1.arcs.length c2], .fz (PH.of w)]) rfl ?_ ?_
   ·rintro _ _
    refine WP.any2 1 2 rfl (by kernel_rfl) rfl rfl ?_ ?_
    ·refine WP.callS (inst_Copy_S r_o3_1_1) rfl rfl rfl rfl rfl rfl rfl (by kernel_rfl) (fun w1 hw1 => (inst_Copy_w hg_o3_1_1 (InsZ.mk_ ((hs1.le' ((Held.sub (Held.mem (List.Mem.tail _ (List.Mem.tail _ (List.Mem.tail _ (List.Mem.tail _ (List.Mem.tail _ (List.Mem.head _))))))) hZ) _ _ hw1)).of) ((hs2.le' ((Held.sub (Held.mem (List.Mem.tail _ (List.Mem.tail _ (List.Mem.tail _ (List.Mem.tail _ (List.Mem.tail _ (List.Mem.head _))))))) hZ) _ _ hw1)).of)) :)) ?_
     rintro _ _ ⟨A_o3_1_1, n_o3_1_1, c_o3_1_1, A_o3_1_2, n_o3_1_2, c_o3_1_2, rfl, hf_o3_1_1, hf_o3_1_2, rfl⟩
     refine WP.any1 2 rfl (by kernel_rfl) rfl ?_
     refine WP.mx_ tysOk rfl ⟨⟩ (SegAt.blk' (.tail (.tail (.tail (.tail (.tail (.tail .head)))))) rfl) ?_
     refine WP.useF mm1 (A_o3_1_1, n_o3_1_1, c_o3_1_1, A_o3_1_2, n_o3_1_2, c_o3_1_2) ⟨hf_o3_1_1, hf_o3_1_2⟩ rfl (by kernel_rfl) ?_ ?_
     ·repeat first|exact ⟨⟩|refine ⟨rfl,?_⟩
     exact Pick.all
    refine WP.mx_ tysOk rfl ⟨⟩ (SegAt.blk' (.tail (.tail (.tail (.tail .head)))) rfl) ?_
    refine WP.useF mm3 () True.intro rfl (by kernel_rfl) ?_ ?_
    ·repeat first|exact ⟨⟩|refine ⟨rfl,?_⟩
    exact Pick.all
   intro mm5
   refine WP.anyP 4 tysOk putInv_body rfl rfl rfl (by kernel_rfl) (by kernel_rfl) rfl rfl rfl rfl rfl True.intro ?_
   refine WP.any3 0 2 5 rfl (by kernel_rfl) rfl rfl rfl ?_ ?_ ?_
   ·refine WP.mx_ tysOk rfl ⟨⟩ (SegAt.blk' (.tail (.tail (.tail (.tail .head)))) rfl) ?_
    refine WP.any3 1 2 5 rfl (by kernel_rfl) rfl rfl rfl ?_ ?_ ?_
    ·refine WP.callS (inst_Copy_S r_o3_1_1) rfl rfl rfl rfl rfl rfl rfl (by kernel_rfl) (fun w1 hw1 => (inst_Copy_w hg_o3_1_1 (InsZ.mk_ ((hs1.le' ((Held.sub (Held.mem (List.Mem.tail _ (List.Mem.tail _ (List.Mem.tail _ (List.Mem.tail _ (List.Mem.tail _ (List.Mem.head _))))))) hZ) _ _ hw1)).of) ((hs2.le' ((Held.sub (Held.mem (List.Mem.tail _ (List.Mem.tail _ (List.Mem.tail _ (List.Mem.tail _ (List.Mem.tail _ (List.Mem.head _))))))) hZ) _ _ hw1)).of)) :)) ?_
     rintro _ _ ⟨A_o3_1_1, n_o3_1_1, c_o3_1_1, A_o3_1_2, n_o3_1_2, c_o3_1_2, rfl, hf_o3_1_1, hf_o3_1_2, rfl⟩
     refine WP.any2 2 5 rfl (by kernel_rfl) rfl rfl ?_ ?_
     ·refine WP.mx_ tysOk rfl ⟨⟩ (SegAt.blk' (.tail (.tail (.tail (.tail (.tail (.tail .head)))))) rfl) ?_
      refine WP.useF mm2 (A_o3_1_1, n_o3_1_1, c_o3_1_1, A_o3_1_2, n_o3_1_2, c_o3_1_2) ⟨hf_o3_1_1, hf_o3_1_2⟩ rfl (by kernel_rfl) ?_ ?_
      ·repeat first|exact ⟨⟩|refine ⟨rfl,?_⟩
      exact Pick.all
     refine WP.bld (cs := [iv 0, .int .u64 (0)]) tysOk rfl ⟨⟩ rfl rfl rfl rfl rfl rfl rfl ?_
     refine WP.any1 2 rfl (by kernel_rfl) rfl ?_
     refine WP.mx_ tysOk rfl ⟨⟩ (SegAt.blk' (.tail (.tail (.tail (.tail (.tail (.tail .head)))))) rfl) ?_
     refine WP.useF mm1 (A_o3_1_1, n_o3_1_1, c_o3_1_1, A_o3_1_2, n_o3_1_2, c_o3_1_2) ⟨hf_o3_1_1, hf_o3_1_2⟩ rfl (by kernel_rfl) ?_ ?_
     ·repeat first|exact ⟨⟩|refine ⟨rfl,?_⟩
     exact Pick.all
    ·refine WP.mx_ tysOk rfl ⟨⟩ (SegAt.blk' (.tail (.tail (.tail (.tail .head)))) rfl) ?_
     refine WP.useF mm4 () True.intro rfl (by kernel_rfl) ?_ ?_
     ·repeat first|exact ⟨⟩|refine ⟨rfl,?_⟩
     exact Pick.all
    refine WP.bld (cs := [iv 0, .int .u64 (0)]) tysOk rfl ⟨⟩ rfl rfl rfl rfl rfl rfl rfl ?_
    refine WP.useF mm5 () True.intro rfl (by kernel_rfl) ?_ ?_
    ·repeat first|exact ⟨⟩|refine ⟨rfl,?_⟩
    exact Pick.all
   ·refine WP.mx_ tysOk rfl ⟨⟩ (SegAt.blk' (.tail (.tail (.tail (.tail .head)))) rfl) ?_
    refine WP.any2 0 5 rfl (by kernel_rfl) rfl rfl ?_ ?_
    ·refine WP.mx_ tysOk rfl ⟨⟩ (SegAt.blk' (.tail (.tail (.tail (.tail .head)))) rfl) ?_
     refine WP.useF mm4 () True.intro rfl (by kernel_rfl) ?_ ?_
     ·repeat first|exact ⟨⟩|refine ⟨rfl,?_⟩
     exact Pick.all
    refine WP.bld (cs := [iv 0, .int .u64 (0)]) tysOk rfl ⟨⟩ rfl rfl rfl rfl rfl rfl rfl ?_
    refine WP.any1 0 rfl (by kernel_rfl) rfl ?_
    refine WP.mx_ tysOk rfl ⟨⟩ (SegAt.blk' (.tail (.tail (.tail (.tail .head)))) rfl) ?_
    refine WP.useF mm3 () True.intro rfl (by kernel_rfl) ?_ ?_
    ·repeat first|exact ⟨⟩|refine ⟨rfl,?_⟩
    exact Pick.all
   refine WP.bld (cs := [iv 0, .int .u64 (0)]) tysOk rfl ⟨⟩ rfl rfl rfl rfl rfl rfl rfl ?_
   refine WP.any2 0 2 rfl (by kernel_rfl) rfl rfl ?_ ?_
   ·refine WP.mx_ tysOk rfl ⟨⟩ (SegAt.blk' (.tail (.tail (.tail (.tail .head)))) rfl) ?_
    refine WP.useF mm5 () True.intro rfl (by kernel_rfl) ?_ ?_
    ·repeat first|exact ⟨⟩|refine ⟨rfl,?_⟩
    exact Pick.all
   refine WP.mx_ tysOk rfl ⟨⟩ (SegAt.blk' (.tail (.tail (.tail (.tail .head)))) rfl) ?_
   refine WP.any1 0 rfl (by kernel_rfl) rfl ?_
   refine WP.mx_ tysOk rfl ⟨⟩ (SegAt.blk' (.tail (.tail (.tail (.tail .head)))) rfl) ?_
   refine WP.useF mm3 () True.intro rfl (by kernel_rfl) ?_ ?_
   ·repeat first|exact ⟨⟩|refine ⟨rfl,?_⟩
   exact Pick.all
  rintro ⟨A_o3_1_1, n_o3_1_1, c_o3_1_1, A_o3_1_2, n_o3_1_2, c_o3_1_2, A_o3_3_1, n_o3_3_1, c_o3_3_1, A_o3_3_2, n_o3_3_2, c_o3_3_2, Zp_o3_6_1, Zp_o3_6_2, Zp_o3_6_3, Zp_o3_6_4, Zn_o3_6_1, A_o3_6_1, c_o3_6_1, A_o3_6_2, c_o3_6_2, A_o3_6_3, c_o3_6_3, A_o3_6_4, c_o3_6_4⟩ ⟨hf_o3_1_1, hf_o3_1_2, hf_o3_3_1, hf_o3_3_2, hz_o3_6_1, hz_o3_6_2, hz_o3_6_3, hz_o3_6_4, hs_o3_6_1, hs_o3_6_2, hs_o3_6_3, hs_o3_6_4⟩
  dsimp only at hf_o3_1_1 hf_o3_1_2 hf_o3_3_1 hf_o3_3_2 hz_o3_6_1 hz_o3_6_2 hz_o3_6_3 hz_o3_6_4 hs_o3_6_1 hs_o3_6_2 hs_o3_6_3 hs_o3_6_4 ⊢
  cases h
  refine WP.retR tysOk rfl rfl ⟨_, _, _, _, rfl, ⟨_, rfl, .inr ⟨rfl, _, rfl, rfl, (SegAt.blk' (z := 8) .head rfl).1⟩⟩, ⟨_, _, rfl, rfl, rfl⟩, rfl⟩ (fun w1 hw1 => ⟨_, _, rfl, ⟨PH.new _ w1, A_o3_6_1, r_o3_6_1.1.inst.supply.length, c_o3_6_1, A_o3_6_2, r_o3_6_1.1.inst.arcs.length, c_o3_6_2, A_o3_6_3, r_o3_6_1.1.rcd.was.supply.length, c_o3_6_3, A_o3_6_4, r_o3_6_1.1.rcd.was.arcs.length, c_o3_6_4, rfl, rfl, rfl, rfl, rfl, hs_o3_6_1.le' (PH.or_le (PH.or_le (PH.or_le (PH.or_le ((hw1.fzNew (.cons (.tail (.tail (.tail (.tail (.tail .head))))) (.cons (.tail (.tail (.tail (.tail (.tail (.tail (.tail (.tail (.tail .head))))))))) .nil))).trans (PH.new_le_or hZ)) ((hw1.fzNew (.cons (.tail (.tail (.tail (.tail .head)))) (.cons (.tail (.tail (.tail (.tail (.tail (.tail (.tail (.tail (.tail .head))))))))) .nil))).trans (PH.new_le_or hZ))) ((hw1.fzNew (.cons (.tail (.tail (.tail .head))) (.cons (.tail (.tail (.tail (.tail (.tail (.tail (.tail (.tail (.tail .head))))))))) .nil))).trans (PH.new_le_or hZ))) ((hw1.fzNew (.cons (.tail (.tail .head)) (.cons (.tail (.tail (.tail (.tail (.tail (.tail (.tail (.tail (.tail .head))))))))) .nil))).trans (PH.new_le_or hZ))) ((hw1.fzNew (.cons (.tail .head) (.cons (.tail (.tail (.tail (.tail (.tail (.tail (.tail (.tail (.tail .head))))))))) .nil))).trans (PH.new_le_or hZ))), hs_o3_6_2.le' (PH.or_le (PH.or_le (PH.or_le (PH.or_le ((hw1.fzNew (.cons (.tail (.tail (.tail (.tail (.tail .head))))) (.cons (.tail (.tail (.tail (.tail (.tail (.tail (.tail (.tail (.tail .head))))))))) .nil))).trans (PH.new_le_or hZ)) ((hw1.fzNew (.cons (.tail (.tail (.tail (.tail .head)))) (.cons (.tail (.tail (.tail (.tail (.tail (.tail (.tail (.tail (.tail .head))))))))) .nil))).trans (PH.new_le_or hZ))) ((hw1.fzNew (.cons (.tail (.tail (.tail .head))) (.cons (.tail (.tail (.tail (.tail (.tail (.tail (.tail (.tail (.tail .head))))))))) .nil))).trans (PH.new_le_or hZ))) ((hw1.fzNew (.cons (.tail (.tail .head)) (.cons (.tail (.tail (.tail (.tail (.tail (.tail (.tail (.tail (.tail .head))))))))) .nil))).trans (PH.new_le_or hZ))) ((hw1.fzNew (.cons (.tail .head) (.cons (.tail (.tail (.tail (.tail (.tail (.tail (.tail (.tail (.tail .head))))))))) .nil))).trans (PH.new_le_or hZ))), hs_o3_6_3.le' (PH.or_le (PH.or_le (PH.or_le (PH.or_le ((hw1.fzNew (.cons (.tail (.tail (.tail (.tail (.tail .head))))) (.cons (.tail (.tail (.tail (.tail (.tail (.tail (.tail (.tail (.tail .head))))))))) .nil))).trans (PH.new_le_or hZ)) ((hw1.fzNew (.cons (.tail (.tail (.tail (.tail .head)))) (.cons (.tail (.tail (.tail (.tail (.tail (.tail (.tail (.tail (.tail .head))))))))) .nil))).trans (PH.new_le_or hZ))) ((hw1.fzNew (.cons (.tail (.tail (.tail .head))) (.cons (.tail (.tail (.tail (.tail (.tail (.tail (.tail (.tail (.tail .head))))))))) .nil))).trans (PH.new_le_or hZ))) ((hw1.fzNew (.cons (.tail (.tail .head)) (.cons (.tail (.tail (.tail (.tail (.tail (.tail (.tail (.tail (.tail .head))))))))) .nil))).trans (PH.new_le_or hZ))) ((hw1.fzNew (.cons (.tail .head) (.cons (.tail (.tail (.tail (.tail (.tail (.tail (.tail (.tail (.tail .head))))))))) .nil))).trans (PH.new_le_or hZ))), hs_o3_6_4.le' (PH.or_le (PH.or_le (PH.or_le (PH.or_le ((hw1.fzNew (.cons (.tail (.tail (.tail (.tail (.tail .head))))) (.cons (.tail (.tail (.tail (.tail (.tail (.tail (.tail (.tail (.tail .head))))))))) .nil))).trans (PH.new_le_or hZ)) ((hw1.fzNew (.cons (.tail (.tail (.tail (.tail .head)))) (.cons (.tail (.tail (.tail (.tail (.tail (.tail (.tail (.tail (.tail .head))))))))) .nil))).trans (PH.new_le_or hZ))) ((hw1.fzNew (.cons (.tail (.tail (.tail .head))) (.cons (.tail (.tail (.tail (.tail (.tail (.tail (.tail (.tail (.tail .head))))))))) .nil))).trans (PH.new_le_or hZ))) ((hw1.fzNew (.cons (.tail (.tail .head)) (.cons (.tail (.tail (.tail (.tail (.tail (.tail (.tail (.tail (.tail .head))))))))) .nil))).trans (PH.new_le_or hZ))) ((hw1.fzNew (.cons (.tail .head) (.cons (.tail (.tail (.tail (.tail (.tail (.tail (.tail (.tail (.tail .head))))))))) .nil))).trans (PH.new_le_or hZ))), rfl⟩, Ret.freeze hw1 (.cons (.tail (.tail (.tail (.tail (.tail (.tail (.tail (.tail (.tail (.tail .head)))))))))) .nil)⟩)

abbrev leaf_run_2_S (Z : PH) (r : Step × Int) : Value → Heap → Prop := fun v L => ∃ (Zn : PH) (A1 : Option Addr) (n1 c1 : Nat) (A2 : Option Addr) (n2 c2 : Nat) (A3 : Option Addr) (n3 c3 : Nat) (A4 : Option Addr) (n4 c4 : Nat), v = .tuple #[.agg #[.slice A1 n1 c1, .slice A2 n2 c2, iv r.1.rcd.pass, .slice A3 n3 c3, .slice A4 n4 c4, iv r.1.off.hi, .int .u64 (r.1.off.lo), .bool (r.1.did)], .int .u16 (r.2)] ∧ n1 = r.1.inst.supply.length ∧ n2 = r.1.inst.arcs.length ∧ n3 = r.1.rcd.was.supply.length ∧ n4 = r.1.rcd.was.arcs.length ∧ FzS (fI .i64) (Z.or Zn) A1 c1 r.1.inst.supply ∧ FzS fA (Z.or Zn) A2 c2 r.1.inst.arcs ∧ FzS (fI .i64) (Z.or Zn) A3 c3 r.1.rcd.was.supply ∧ FzS fA (Z.or Zn) A4 c4 r.1.rcd.was.arcs ∧ L = [.fz Zn]
set_option maxRecDepth 20000 in
set_option maxHeartbeats 8000000 in
theorem leaf_run_2_w {w : World} {Z : PH} (hZ : Z.le (PH.of w)) {v0 : Value} {i1 : Inst} {r : Step × Int} (h : leaf_run_2 i1 = some r) (p1 : InsZ Z v0 i1) (pg : GlobE (PH.of w)) :
    Calls Tryz.prog 38 #[v0, .func (.func 54) #[] #[]] w fun e w' => ∃ v L, e = .returned v ∧ leaf_run_2_S Z r v L ∧ Ret w w' L := by
  obtain ⟨A1, c1, A2, c2, rfl, hs1, hs2⟩ := p1
  unfold leaf_run_2 at h
  refine enter_ Tryz.func38 rfl Tryz.ntmps38 rfl ?_
  refine WP.box rfl rfl rfl rfl rfl rfl ?_
  intro g1
  refine WP.al tysOk rfl rfl rfl rfl rfl rfl ?_
  intro g2
  refine WP.sx tysOk rfl ⟨⟨⟩, ⟨⟩⟩ ?_
  refine WP.mx_ tysOk rfl ⟨⟩ (SegAt.blk' (.tail .head) rfl) ?_
  obtain ⟨r1, hg1, h⟩ := bind_some h
  refine WP.callV rfl rfl rfl rfl rfl rfl rfl (by kernel_rfl) (fun w1 hw1 => (inst_Right_w hg1 (InsZ.mk_ ((hs1.le' ((Held.sub (Held.mem (List.Mem.tail _ (List.Mem.tail _ (List.Mem.head _)))) hZ) _ _ hw1)).of) ((hs2.le' ((Held.sub (Held.mem (List.Mem.tail _ (List.Mem.tail _ (List.Mem.head _)))) hZ) _ _ hw1)).of)) :)) ⟨⟩ ?_
  iterate 3 (refine WP.sx tysOk rfl ⟨⟨⟩, ⟨⟩⟩ ?_)
  refine WP.cond_d rfl rfl (fun hh1 => ?_) (fun hh1 => ?_)
  ·rw [if_pos hh1] at h
   refine WP.bld (cs := [sn, sn, iv 0, sn, sn, iv 0, .int .u64 (0), .bool (false)]) tysOk rfl ⟨⟩ rfl rfl rfl rfl rfl rfl rfl ?_
   refine WP.sx tysOk rfl ⟨⟨⟩, ⟨⟩⟩ ?_
   refine WP.sto' tysOk [sn, sn, iv 0, sn, sn, iv 0, .int .u64 (0), .bool (false)] rfl rfl rfl rfl rfl rfl rfl rfl rfl .head rfl rfl ?_
   refine WP.sx tysOk rfl ⟨⟨⟩, ⟨⟩⟩ ?_
   cases h
   refine WP.retR tysOk rfl rfl ⟨_, _, _, _, rfl, ⟨_, rfl, .inr ⟨rfl, _, rfl, rfl, (SegAt.blk' (z := 8) .head rfl).1⟩⟩, ⟨_, _, rfl, rfl, rfl⟩, rfl⟩ (fun w1 hw1 => ⟨_, _, rfl, ⟨PH.new _ w1, none, 0, 0, none, 0, 0, none, 0, 0, none, 0, 0, rfl, rfl, rfl, rfl, rfl, FzS.nil_, FzS.nil_, FzS.nil_, FzS.nil_, rfl⟩, Ret.freeze hw1 (.cons (.tail (.tail .head)) .nil)⟩)
  rw [if_neg hh1] at h
  refine WP.sx tysOk rfl ⟨⟨⟩, ⟨⟩⟩ ?_
  refine WP.mx_ tysOk rfl ⟨⟩ (SegAt.blk' (.tail .head) rfl) ?_
  obtain ⟨r2, hg2, h⟩ := bind_some h
  refine WP.callS (leaf_dead_S Z r2) rfl rfl rfl rfl rfl rfl rfl (by kernel_rfl) (fun w1 hw1 => (leaf_dead_w (Z := Z) ((Held.sub (Held.mem (List.Mem.tail _ (List.Mem.tail _ (List.Mem.head _)))) hZ) _ _ hw1) hg2 (InsZ.mk_ ((hs1.le' PH.le.rfl_).of) ((hs2.le' PH.le.rfl_).of)) :)) ?_
  rintro _ _ ⟨Zn1, A3, _, c3, A4, _, c4, A5, _, c5, A6, _, c6, rfl, rfl, rfl, rfl, rfl, hs3, hs4, hs5, hs6, rfl⟩
  iterate 3 (refine WP.sx tysOk rfl ⟨⟨⟩, ⟨⟩⟩ ?_)
  refine WP.al tysOk rfl rfl rfl rfl rfl rfl ?_
  intro g3
  refine WP.sto' tysOk [.slice A3 r2.1.inst.supply.length c3, .slice A4 r2.1.inst.arcs.length c4, iv r2.1.rcd.pass, .slice A5 r2.1.rcd.was.supply.length c5, .slice A6 r2.1.rcd.was.arcs.length c6, iv r2.1.off.hi, .int .u64 (r2.1.off.lo), .bool (r2.1.did)] rfl rfl rfl rfl rfl rfl rfl rfl rfl .head rfl rfl ?_
  refine WP.sx tysOk rfl ⟨⟨⟩, ⟨⟩⟩ ?_
  refine WP.al tysOk rfl rfl rfl rfl rfl rfl ?_
  intro g4
  refine WP.sx tysOk rfl ⟨⟨⟩, ⟨⟩⟩ ?_
  refine WP.mki rfl ⟨⟩ rfl rfl rfl rfl rfl (fun _ => by kernel_rfl) ?_
  refine WP.callT [.blk g3 40 [.slice A3 r2.1.inst.supply.length c3, .slice A4 r2.1.inst.arcs.length c4, iv r2.1.rcd.pass, .slice A5 r2.1.rcd.was.supply.length c5, .slice A6 r2.1.rcd.was.arcs.length c6, iv r2.1.off.hi, .int .u64 (r2.1.off.lo), .bool (r2.1.did)], .fz Zn1, .blk g2 40 [sn, sn, iv 0, sn, sn, iv 0, .int .u64 (0), .bool (false)], .blk g1 25 [.slice A1 i1.supply.length c1, .slice A2 i1.arcs.length c2], .fz (PH.of w)] (fun v L => v = .bool r2.2.isSome ∧ L = [.blk g4 106 [.int .u16 (r2.2.getD 0)]]) rfl rfl rfl rfl rfl rfl rfl (by kernel_rfl) (fun w1 hw1 => as_w r2.2 (pg.le ((Held.mem (List.Mem.tail _ (List.Mem.tail _ (List.Mem.tail _ (List.Mem.tail _ (List.Mem.tail _ (List.Mem.head _))))))) _ _ hw1)) (hw1.pick Pick.all)) ?_
  rintro _ _ ⟨rfl, rfl⟩
  refine WP.cond rfl rfl (fun hh2 => ?_) (fun hh2 => ?_)
  ·rw [if_pos hh2] at h
   refine WP.join (α := Unit) (fun x => True) (fun x => [(4, pt g2), (5, .int .u16 (r2.2.getD 0))]) (fun x => [.blk g2 40 [sn, sn, iv 0, sn, sn, iv 0, .int .u64 (0), .bool (false)], .blk g4 106 [.int .u16 (r2.2.getD 0)], .blk g3 40 [.slice A3 r2.1.inst.supply.length c3, .slice A4 r2.1.inst.arcs.length c4, iv r2.1.rcd.pass, .slice A5 r2.1.rcd.was.supply.length c5, .slice A6 r2.1.rcd.was.arcs.length c6, iv r2.1.off.hi, .int .u64 (r2.1.off.lo), .bool (r2.1.did)], .fz Zn1, .blk g1 25 [.slice A1 i1.supply.length c1, .slice A2 i1.arcs.length c2], .fz (PH.of w)]) rfl ?_ ?_
   ·refine WP.drawA rfl (by kernel_rfl) ?_
    refine WP.anyP 1 tysOk putInv_body rfl rfl rfl (by kernel_rfl) (by kernel_rfl) rfl rfl rfl rfl rfl True.intro ?_
    refine WP.any2 0 2 rfl (by kernel_rfl) rfl rfl ?_ ?_
    ·refine WP.bld (cs := [sn, sn, iv 0, sn, sn, iv 0, .int .u64 (0), .bool (false)]) tysOk rfl ⟨⟩ rfl rfl rfl rfl rfl rfl rfl ?_
     refine WP.any2 2 3 rfl (by kernel_rfl) rfl rfl ?_ ?_
     ·refine WP.lx tysOk rfl ⟨⟩ (CellAt.blk .head rfl) ?_
      refine WP.any1 3 rfl (by kernel_rfl) rfl ?_
      refine WP.sto' tysOk [sn, sn, iv 0, sn, sn, iv 0, .int .u64 (0), .bool (false)] rfl rfl rfl rfl rfl rfl rfl rfl rfl (.tail (.tail (.tail .head))) rfl rfl ?_
      refine WP.anyP 4 tysOk putInv_body rfl rfl rfl (by kernel_rfl) (by kernel_rfl) rfl rfl rfl rfl rfl True.intro ?_
      refine WP.any0 rfl (by kernel_rfl) ?_
      refine WP.stop rfl () True.intro ?_ ?_
      ·repeat first|exact ⟨⟩|refine ⟨rfl,?_⟩
      exact Pick.all
     refine WP.sto' tysOk [sn, sn, iv 0, sn, sn, iv 0, .int .u64 (0), .bool (false)] rfl rfl rfl rfl rfl rfl rfl rfl rfl (.tail (.tail (.tail .head))) rfl rfl ?_
     refine WP.any1 2 rfl (by kernel_rfl) rfl ?_
     refine WP.lx tysOk rfl ⟨⟩ (CellAt.blk (.tail .head) rfl) ?_
     refine WP.anyP 4 tysOk putInv_body rfl rfl rfl (by kernel_rfl) (by kernel_rfl) rfl rfl rfl rfl rfl True.intro ?_
     refine WP.any0 rfl (by kernel_rfl) ?_
     refine WP.stop rfl () True.intro ?_ ?_
     ·repeat first|exact ⟨⟩|refine ⟨rfl,?_⟩
     exact Pick.all
    refine WP.lx tysOk rfl ⟨⟩ (CellAt.blk .head rfl) ?_
    refine WP.any1 0 rfl (by kernel_rfl) rfl ?_
    refine WP.bld (cs := [sn, sn, iv 0, sn, sn, iv 0, .int .u64 (0), .bool (false)]) tysOk rfl ⟨⟩ rfl rfl rfl rfl rfl rfl rfl ?_
    refine WP.any1 3 rfl (by kernel_rfl) rfl ?_
    refine WP.sto' tysOk [sn, sn, iv 0, sn, sn, iv 0, .int .u64 (0), .bool (false)] rfl rfl rfl rfl rfl rfl rfl rfl rfl (.tail (.tail (.tail .head))) rfl rfl ?_
    refine WP.anyP 4 tysOk putInv_body rfl rfl rfl (by kernel_rfl) (by kernel_rfl) rfl rfl rfl rfl rfl True.intro ?_
    refine WP.any0 rfl (by kernel_rfl) ?_
    refine WP.stop rfl () True.intro ?_ ?_
    ·repeat first|exact ⟨⟩|refine ⟨rfl,?_⟩
    exact Pick.all
   rintro _ _
   cases h
   refine WP.retR tysOk rfl rfl ⟨_, _, _, _, rfl, ⟨_, rfl, .inr ⟨rfl, _, rfl, rfl, (SegAt.blk' (z := 8) .head rfl).1⟩⟩, ⟨_, _, rfl, rfl, rfl⟩, rfl⟩ (fun w1 hw1 => ⟨_, _, rfl, ⟨PH.new _ w1, none, 0, 0, none, 0, 0, none, 0, 0, none, 0, 0, rfl, rfl, rfl, rfl, rfl, FzS.nil_, FzS.nil_, FzS.nil_, FzS.nil_, rfl⟩, Ret.freeze hw1 (.cons (.tail (.tail (.tail (.tail (.tail .head))))) .nil)⟩)
  rw [if_neg (bneg hh2)] at h
  refine WP.mx_ tysOk rfl ⟨⟩ (SegAt.blk' (.tail .head) rfl) ?_
  refine WP.sto' tysOk [.slice A3 r2.1.inst.supply.length c3, .slice A4 r2.1.inst.arcs.length c4, iv r2.1.rcd.pass, .slice A5 r2.1.rcd.was.supply.length c5, .slice A6 r2.1.rcd.was.arcs.length c6, iv r2.1.off.hi, .int .u64 (r2.1.off.lo), .bool (r2.1.did)] rfl rfl rfl rfl rfl rfl rfl rfl rfl (.tail (.tail (.tail .head))) rfl rfl ?_
  refine WP.sx tysOk rfl ⟨⟨⟩, ⟨⟩⟩ ?_
  cases h
  refine WP.retR tysOk rfl rfl ⟨_, _, _, _, rfl, ⟨_, rfl, .inr ⟨rfl, _, rfl, rfl, (SegAt.blk' (z := 8) .head rfl).1⟩⟩, ⟨_, _, rfl, rfl, rfl⟩, rfl⟩ (fun w1 hw1 => ⟨_, _, rfl, ⟨PH.new _ w1, A3, r2.1.inst.supply.length, c3, A4, r2.1.inst.arcs.length, c4, A5, r2.1.rcd.was.supply.length, c5, A6, r2.1.rcd.was.arcs.length, c6, rfl, rfl, rfl, rfl, rfl, hs3.le' (PH.or_le (PH.le_or _ _) ((hw1.fzNew (.cons (.tail (.tail (.tail .head))) (.cons (.tail (.tail (.tail (.tail .head)))) .nil))).trans (PH.new_le_or hZ))), hs4.le' (PH.or_le (PH.le_or _ _) ((hw1.fzNew (.cons (.tail (.tail (.tail .head))) (.cons (.tail (.tail (.tail (.tail .head)))) .nil))).trans (PH.new_le_or hZ))), hs5.le' (PH.or_le (PH.le_or _ _) ((hw1.fzNew (.cons (.tail (.tail (.tail .head))) (.cons (.tail (.tail (.tail (.tail .head)))) .nil))).trans (PH.new_le_or hZ))), hs6.le' (PH.or_le (PH.le_or _ _) ((hw1.fzNew (.cons (.tail (.tail (.tail .head))) (.cons (.tail (.tail (.tail (.tail .head)))) .nil))).trans (PH.new_le_or hZ))), rfl⟩, Ret.freeze hw1 (.cons (.tail (.tail (.tail (.tail (.tail .head))))) .nil)⟩)

abbrev leaf_Dead_S (Z : PH) (r : Step × Int) : Value → Heap → Prop := fun v L => ∃ (Zn : PH) (A1 : Option Addr) (n1 c1 : Nat) (A2 : Option Addr) (n2 c2 : Nat) (A3 : Option Addr) (n3 c3 : Nat) (A4 : Option Addr) (n4 c4 : Nat), v = .tuple #[.agg #[.slice A1 n1 c1, .slice A2 n2 c2, iv r.1.rcd.pass, .slice A3 n3 c3, .slice A4 n4 c4, iv r.1.off.hi, .int .u64 (r.1.off.lo), .bool (r.1.did)], .int .u16 (r.2)] ∧ n1 = r.1.inst.supply.length ∧ n2 = r.1.inst.arcs.length ∧ n3 = r.1.rcd.was.supply.length ∧ n4 = r.1.rcd.was.arcs.length ∧ FzS (fI .i64) (Z.or Zn) A1 c1 r.1.inst.supply ∧ FzS fA (Z.or Zn) A2 c2 r.1.inst.arcs ∧ FzS (fI .i64) (Z.or Zn) A3 c3 r.1.rcd.was.supply ∧ FzS fA (Z.or Zn) A4 c4 r.1.rcd.was.arcs ∧ L = [.fz Zn]
set_option maxRecDepth 20000 in
set_option maxHeartbeats 8000000 in
theorem leaf_Dead_w {w : World} {Z : PH} (hZ : Z.le (PH.of w)) {v0 : Value} {i1 : Inst} {r : Step × Int} (h : leaf_Dead i1 = some r) (p1 : InsZ Z v0 i1) (pg : GlobE (PH.of w)) :
    Calls Tryz.prog 26 #[v0] w fun e w' => ∃ v L, e = .returned v ∧ leaf_Dead_S Z r v L ∧ Ret w w' L := by
  obtain ⟨A1, c1, A2, c2, rfl, hs1, hs2⟩ := p1
  unfold leaf_Dead at h
  refine enter_ Tryz.func26 rfl Tryz.ntmps26 rfl ?_
  refine WP.box rfl rfl rfl rfl rfl rfl ?_
  intro g1
  refine WP.al tysOk rfl rfl rfl rfl rfl rfl ?_
  intro g2
  refine WP.sx tysOk rfl ⟨⟨⟩, ⟨⟩⟩ ?_
  refine WP.mx_ tysOk rfl ⟨⟩ (SegAt.blk' (.tail .head) rfl) ?_
  obtain ⟨r1, hg1, h⟩ := bind_some h
  refine WP.callS (leaf_run_2_S Z r1) rfl rfl rfl rfl rfl rfl rfl (by kernel_rfl) (fun w1 hw1 => (leaf_run_2_w (Z := Z) ((Held.sub (Held.mem (List.Mem.tail _ (List.Mem.tail _ (List.Mem.head _)))) hZ) _ _ hw1) hg1 (InsZ.mk_ ((hs1.le' PH.le.rfl_).of) ((hs2.le' PH.le.rfl_).of)) (pg.le ((Held.mem (List.Mem.tail _ (List.Mem.tail _ (List.Mem.head _)))) _ _ hw1)) :)) ?_
  rintro _ _ ⟨Zn1, A3, _, c3, A4, _, c4, A5, _, c5, A6, _, c6, rfl, rfl, rfl, rfl, rfl, hs3, hs4, hs5, hs6, rfl⟩
  iterate 2 (refine WP.sx tysOk rfl ⟨⟨⟩, ⟨⟩⟩ ?_)
  refine WP.sto' tysOk [.slice A3 r1.1.inst.supply.length c3, .slice A4 r1.1.inst.arcs.length c4, iv r1.1.rcd.pass, .slice A5 r1.1.rcd.was.supply.length c5, .slice A6 r1.1.rcd.was.arcs.length c6, iv r1.1.off.hi, .int .u64 (r1.1.off.lo), .bool (r1.1.did)] rfl rfl rfl rfl rfl rfl rfl rfl rfl (.tail .head) rfl rfl ?_
  refine WP.sx tysOk rfl ⟨⟨⟩, ⟨⟩⟩ ?_
  cases h
  refine WP.retR tysOk rfl rfl ⟨_, _, _, _, rfl, ⟨_, rfl, .inr ⟨rfl, _, rfl, rfl, (SegAt.blk' (z := 8) .head rfl).1⟩⟩, ⟨_, _, rfl, rfl, rfl⟩, rfl⟩ (fun w1 hw1 => ⟨_, _, rfl, ⟨PH.new _ w1, A3, r1.1.inst.supply.length, c3, A4, r1.1.inst.arcs.length, c4, A5, r1.1.rcd.was.supply.length, c5, A6, r1.1.rcd.was.arcs.length, c6, rfl, rfl, rfl, rfl, rfl, hs3.le' (PH.or_le (PH.le_or _ _) ((hw1.fzNew (.cons (.tail .head) (.cons (.tail (.tail .head)) .nil))).trans (PH.new_le_or hZ))), hs4.le' (PH.or_le (PH.le_or _ _) ((hw1.fzNew (.cons (.tail .head) (.cons (.tail (.tail .head)) .nil))).trans (PH.new_le_or hZ))), hs5.le' (PH.or_le (PH.le_or _ _) ((hw1.fzNew (.cons (.tail .head) (.cons (.tail (.tail .head)) .nil))).trans (PH.new_le_or hZ))), hs6.le' (PH.or_le (PH.le_or _ _) ((hw1.fzNew (.cons (.tail .head) (.cons (.tail (.tail .head)) .nil))).trans (PH.new_le_or hZ))), rfl⟩, Ret.freeze hw1 (.cons (.tail (.tail (.tail .head))) .nil)⟩)

abbrev ref04_Out_S (r : (List Int)) : Value → Heap → Prop := fun v L => ∃ (A1 : Option Addr) (n1 c1 : Nat), v = .slice A1 n1 c1 ∧ OwF A1 n1 r ∧ L = [Ow (fI .i64) 3 A1 n1 c1 r]
set_option maxRecDepth 20000 in
set_option maxHeartbeats 8000000 in
theorem ref04_Out_w {w : World} {v0 : Value} {i1 : Inst} {n1 : Int} {r : (List Int)} (h : ref04_Out i1 n1 = some r) (p1 : InsZ (PH.of w) v0 i1) :
    Calls Tryz.prog 65 #[v0, iv n1] w fun e w' => ∃ v L, e = .returned v ∧ ref04_Out_S r v L ∧ Ret w w' L := by
  obtain ⟨A1, c1, A2, c2, rfl, hs1, hs2⟩ := p1
  unfold ref04_Out at h
  refine enter_ Tryz.func65 rfl Tryz.ntmps65 rfl ?_
  refine WP.box rfl rfl rfl rfl rfl rfl ?_
  intro g1
  refine WP.sx tysOk rfl ⟨⟨⟩, ⟨⟩⟩ ?_
  refine WP.mx_ tysOk rfl ⟨⟩ (SegAt.blk' .head rfl) ?_
  refine WP.sx tysOk rfl ⟨⟨⟩, ⟨⟩⟩ ?_
  obtain ⟨r1, hg1, h⟩ := bind_some h
  refine WP.callS (ref04_some_S r1) rfl rfl rfl rfl rfl rfl rfl (by kernel_rfl) (fun w1 hw1 => (ref04_some_w hg1 (InsZ.mk_ ((hs1.le' ((Held.mem (List.Mem.tail _ (List.Mem.head _))) _ _ hw1)).of) ((hs2.le' ((Held.mem (List.Mem.tail _ (List.Mem.head _))) _ _ hw1)).of)) :)) ?_
  rintro _ _ ⟨A3, n2, c3, rfl, hf1, rfl⟩
  refine WP.sx tysOk rfl ⟨⟨⟩, ⟨⟩⟩ ?_
  cases h
  refine WP.retR tysOk rfl rfl ⟨_, _, rfl, rfl, rfl⟩ (fun w1 hw1 => ⟨_, _, rfl, ⟨A3, n2, c3, rfl, hf1, rfl⟩, Ret.of_KH hw1 (.cons .head (.cons (.tail .head) .nil))⟩)

abbrev ref04_In_S (r : (List Int)) : Value → Heap → Prop := fun v L => ∃ (A1 : Option Addr) (n1 c1 : Nat), v = .slice A1 n1 c1 ∧ OwF A1 n1 r ∧ L = [Ow (fI .i64) 3 A1 n1 c1 r]
set_option maxRecDepth 20000 in
set_option maxHeartbeats 8000000 in
theorem ref04_In_w {w : World} {v0 : Value} {i1 : Inst} {n1 : Int} {r : (List Int)} (h : ref04_In i1 n1 = some r) (p1 : InsZ (PH.of w) v0 i1) :
    Calls Tryz.prog 66 #[v0, iv n1] w fun e w' => ∃ v L, e = .returned v ∧ ref04_In_S r v L ∧ Ret w w' L := by
  obtain ⟨A1, c1, A2, c2, rfl, hs1, hs2⟩ := p1
  unfold ref04_In at h
  refine enter_ Tryz.func66 rfl Tryz.ntmps66 rfl ?_
  refine WP.box rfl rfl rfl rfl rfl rfl ?_
  intro g1
  refine WP.sx tysOk rfl ⟨⟨⟩, ⟨⟩⟩ ?_
  refine WP.mx_ tysOk rfl ⟨⟩ (SegAt.blk' .head rfl) ?_
  refine WP.sx tysOk rfl ⟨⟨⟩, ⟨⟩⟩ ?_
  obtain ⟨r1, hg1, h⟩ := bind_some h
  refine WP.callS (ref04_some_S r1) rfl rfl rfl rfl rfl rfl rfl (by kernel_rfl) (fun w1 hw1 => (ref04_some_w hg1 (InsZ.mk_ ((hs1.le' ((Held.mem (List.Mem.tail _ (List.Mem.head _))) _ _ hw1)).of) ((hs2.le' ((Held.mem (List.Mem.tail _ (List.Mem.head _))) _ _ hw1)).of)) :)) ?_
  rintro _ _ ⟨A3, n2, c3, rfl, hf1, rfl⟩
  refine WP.sx tysOk rfl ⟨⟨⟩, ⟨⟩⟩ ?_
  cases h
  refine WP.retR tysOk rfl rfl ⟨_, _, rfl, rfl, rfl⟩ (fun w1 hw1 => ⟨_, _, rfl, ⟨A3, n2, c3, rfl, hf1, rfl⟩, Ret.of_KH hw1 (.cons .head (.cons (.tail .head) .nil))⟩)

set_option maxRecDepth 20000 in
set_option maxHeartbeats 8000000 in
theorem ref17_Shut_w {w : World} {v0 : Value} {d1 : Inst} {i1 : Int} {r : Bool} (h : ref17_Shut d1 i1 = some r) (p1 : InsZ (PH.of w) v0 d1) :
    Calls Tryz.prog 35 #[v0, iv i1] w fun e w' => e = .returned (.bool (r)) ∧ Below w.heap.size w w' := by
  obtain ⟨A1, c1, A2, c2, rfl, hs1, hs2⟩ := p1
  unfold ref17_Shut at h
  refine enter_ Tryz.func35 rfl Tryz.ntmps35 rfl ?_
  refine WP.box rfl rfl rfl rfl rfl rfl ?_
  intro g1
  refine WP.sx tysOk rfl ⟨⟨⟩, ⟨⟩⟩ ?_
  refine WP.mx_ tysOk rfl ⟨⟩ (SegAt.blk' .head rfl) ?_
  refine WP.sx tysOk rfl ⟨⟨⟩, ⟨⟩⟩ ?_
  obtain ⟨r1, hg1, h⟩ := bind_some h
  refine WP.callS (ref04_At_S r1) rfl rfl rfl rfl rfl rfl rfl (by kernel_rfl) (fun w1 hw1 => (ref04_At_w hg1 (InsZ.mk_ ((hs1.le' ((Held.mem (List.Mem.tail _ (List.Mem.head _))) _ _ hw1)).of) ((hs2.le' ((Held.mem (List.Mem.tail _ (List.Mem.head _))) _ _ hw1)).of)) :)) ?_
  rintro _ _ ⟨A3, n1, c3, rfl, hf1, rfl⟩
  iterate 4 (refine WP.sx tysOk rfl ⟨⟨⟩, ⟨⟩⟩ ?_)
  by_cases hh1 : i1 < 0
  ·rw [if_pos hh1] at h
   refine WP.no rfl rfl (decide_eq_true hh1) rfl rfl ?_
   iterate 4 (refine WP.no rfl rfl rfl rfl rfl ?_)
   iterate 2 (refine WP.sx tysOk rfl ⟨⟨⟩, ⟨⟩⟩ ?_)
   iterate 6 (refine WP.no rfl rfl rfl rfl rfl ?_)
   iterate 2 ((iterate 2 (refine WP.sx tysOk rfl ⟨⟨⟩, ⟨⟩⟩ ?_)); refine WP.no rfl rfl rfl rfl rfl ?_; refine WP.no rfl rfl rfl rfl rfl ?_; refine WP.no rfl rfl rfl rfl rfl ?_)
   refine WP.no rfl rfl rfl rfl rfl ?_
   refine WP.sx tysOk rfl ⟨⟨⟩, ⟨⟩⟩ ?_
   refine WP.condT rfl rfl ?_
   refine WP.sx tysOk rfl ⟨⟨⟩, ⟨⟩⟩ ?_
   cases h
   refine WP.retR tysOk rfl rfl ⟨_, _, rfl, rfl, rfl⟩ (fun w1 hw1 => ⟨rfl, Ret.below_ hw1 (.cons (.tail (.tail .head)) .nil)⟩)
  rw [if_neg hh1] at h
  refine WP.yes rfl rfl (decide_eq_false hh1) ?_
  iterate 2 (refine WP.sx tysOk rfl ⟨⟨⟩, ⟨⟩⟩ ?_; refine WP.yes rfl rfl rfl ?_)
  refine WP.lx tysOk rfl ⟨⟩ (CellAt.blk (.tail .head) rfl) ?_
  refine WP.yes rfl rfl rfl ?_
  refine WP.sx tysOk rfl ⟨⟨⟩, ⟨⟩⟩ ?_
  refine WP.yes rfl rfl rfl ?_
  iterate 3 (refine WP.sx tysOk rfl ⟨⟨⟩, ⟨⟩⟩ ?_)
  by_cases hh2 : (d1.supply.length : Int) ≤ i1
  ·rw [if_pos hh2] at h
   refine WP.no rfl rfl (decide_eq_true hh2) rfl rfl ?_
   iterate 5 (refine WP.no rfl rfl rfl rfl rfl ?_)
   iterate 2 ((iterate 2 (refine WP.sx tysOk rfl ⟨⟨⟩, ⟨⟩⟩ ?_)); refine WP.no rfl rfl rfl rfl rfl ?_; refine WP.no rfl rfl rfl rfl rfl ?_; refine WP.no rfl rfl rfl rfl rfl ?_)
   refine WP.no rfl rfl rfl rfl rfl ?_
   refine WP.sx tysOk rfl ⟨⟨⟩, ⟨⟩⟩ ?_
   refine WP.condT rfl rfl ?_
   refine WP.sx tysOk rfl ⟨⟨⟩, ⟨⟩⟩ ?_
   cases h
   refine WP.retR tysOk rfl rfl ⟨_, _, rfl, rfl, rfl⟩ (fun w1 hw1 => ⟨rfl, Ret.below_ hw1 (.cons (.tail (.tail .head)) .nil)⟩)
  rw [if_neg hh2] at h
  refine WP.yes rfl rfl (decide_eq_false hh2) ?_
  refine WP.sx tysOk rfl ⟨⟨⟩, ⟨⟩⟩ ?_
  refine WP.yes rfl rfl rfl ?_
  refine WP.lx tysOk rfl ⟨⟩ (CellAt.blk (.tail .head) rfl) ?_
  refine WP.yes rfl rfl rfl ?_
  refine WP.sx tysOk rfl ⟨⟨⟩, ⟨⟩⟩ ?_
  refine WP.yes rfl rfl rfl ?_
  obtain ⟨hj1, h⟩ := ck_some h
  refine WP.ixA tysOk rfl ⟨⟩ rfl rfl rfl rfl rfl rfl rfl rfl hj1 (hs1.ex hj1) ?_
  intro b1 b1v hA1
  refine WP.yes rfl rfl rfl ?_
  refine WP.lx tysOk rfl ⟨⟩ (hs1.at0 hA1 (Held.mem (List.Mem.tail _ (List.Mem.tail _ (List.Mem.head _)))) hj1 rfl) ?_
  refine WP.yes rfl rfl rfl ?_
  iterate 3 (refine WP.sx tysOk rfl ⟨⟨⟩, ⟨⟩⟩ ?_)
  by_cases hh3 : ¬ (gt d1.supply i1) = 0
  ·rw [if_pos hh3] at h
   refine WP.no rfl rfl (decide_eq_true hh3) rfl rfl ?_
   iterate 2 (refine WP.no rfl rfl rfl rfl rfl ?_)
   iterate 2 (refine WP.sx tysOk rfl ⟨⟨⟩, ⟨⟩⟩ ?_)
   iterate 4 (refine WP.no rfl rfl rfl rfl rfl ?_)
   refine WP.sx tysOk rfl ⟨⟨⟩, ⟨⟩⟩ ?_
   refine WP.condT rfl rfl ?_
   refine WP.sx tysOk rfl ⟨⟨⟩, ⟨⟩⟩ ?_
   cases h
   refine WP.retR tysOk rfl rfl ⟨_, _, rfl, rfl, rfl⟩ (fun w1 hw1 => ⟨rfl, Ret.below_ hw1 (.cons (.tail (.tail .head)) .nil)⟩)
  rw [if_neg hh3] at h
  refine WP.yes rfl rfl (decide_eq_false hh3) ?_
  refine WP.sx tysOk rfl ⟨⟨⟩, ⟨⟩⟩ ?_
  refine WP.yes rfl rfl rfl ?_
  refine WP.lenO (xs := r1) tysOk rfl ⟨⟩ rfl rfl rfl rfl rfl rfl hf1 ?_
  refine WP.yes rfl rfl rfl ?_
  iterate 3 (refine WP.sx tysOk rfl ⟨⟨⟩, ⟨⟩⟩ ?_)
  by_cases hh4 : (r1.length : Int) = 0
  ·rw [if_pos hh4] at h
   refine WP.no rfl rfl (decide_eq_true hh4) rfl rfl ?_
   iterate 3 (refine WP.no rfl rfl rfl rfl rfl ?_)
   refine WP.sx tysOk rfl ⟨⟨⟩, ⟨⟩⟩ ?_
   refine WP.condT rfl rfl ?_
   refine WP.sx tysOk rfl ⟨⟨⟩, ⟨⟩⟩ ?_
   cases h
   refine WP.retR tysOk rfl rfl ⟨_, _, rfl, rfl, rfl⟩ (fun w1 hw1 => ⟨rfl, Ret.below_ hw1 (.cons (.tail (.tail .head)) .nil)⟩)
  rw [if_neg hh4] at h
  refine WP.yes rfl rfl (decide_eq_false hh4) ?_
  refine WP.mx_ tysOk rfl ⟨⟩ (SegAt.blk' (.tail .head) rfl) ?_
  refine WP.yes rfl rfl rfl ?_
  refine WP.sx tysOk rfl ⟨⟨⟩, ⟨⟩⟩ ?_
  refine WP.yes rfl rfl rfl ?_
  obtain ⟨r2, hg2, h⟩ := bind_some h
  refine WP.callV rfl rfl rfl rfl rfl rfl rfl (by kernel_rfl) (fun w1 hw1 => (ref04_Loops_w hg2 (InsZ.mk_ ((hs1.le' ((Held.mem (List.Mem.tail _ (List.Mem.tail _ (List.Mem.head _)))) _ _ hw1)).of) ((hs2.le' ((Held.mem (List.Mem.tail _ (List.Mem.tail _ (List.Mem.head _)))) _ _ hw1)).of)) :)) ⟨⟩ ?_
  refine WP.yes rfl rfl rfl ?_
  iterate 2 (refine WP.sx tysOk rfl ⟨⟨⟩, ⟨⟩⟩ ?_)
  refine WP.cond_d rfl rfl (fun hh5 => ?_) (fun hh5 => ?_)
  ·rw [if_pos hh5] at h
   refine WP.sx tysOk rfl ⟨⟨⟩, ⟨⟩⟩ ?_
   cases h
   refine WP.retR tysOk rfl rfl ⟨_, _, rfl, rfl, rfl⟩ (fun w1 hw1 => ⟨rfl, Ret.below_ hw1 (.cons (.tail (.tail .head)) .nil)⟩)
  rw [if_neg hh5] at h
  refine WP.sx tysOk rfl ⟨⟨⟩, ⟨⟩⟩ ?_
  refine WP.loop (α := Nat × Int) (fun x => lp (ref17_Shut_b1 d1 i1 r1) x.1 x.2 = some r) (fun x => [(1, iv i1), (2, pt g1), (5, .slice A3 n1 c3), (6, iv x.2)]) (fun x => [Ow (fI .i64) 3 A3 n1 c3 r1, .blk g1 25 [.slice A1 d1.supply.length c1, .slice A2 d1.arcs.length c2], .fz (PH.of w)]) (fun x => x.1) rfl (big, 0) h ?_ ?_ ?_
  ·repeat first|exact ⟨⟩|refine ⟨rfl,?_⟩
  ·exact Pick.all
  rintro ⟨n6, s2⟩ h
  dsimp only at h ⊢
  rcases n6 with _ | n6
  · exact (lp_no h).elim
  replace h := lp_succ h
  unfold ref17_Shut_b1 at h
  try dsimp only at h
  iterate 2 (refine WP.sx tysOk rfl ⟨⟨⟩, ⟨⟩⟩ ?_)
  refine WP.lenO (xs := r1) tysOk rfl ⟨⟩ rfl rfl rfl rfl rfl rfl hf1 ?_
  refine WP.sx tysOk rfl ⟨⟨⟩, ⟨⟩⟩ ?_
  refine WP.cond_d rfl rfl (fun hh12 => ?_) (fun hh12 => ?_)
  ·rw [if_pos hh12] at h
   refine WP.draw rfl (by kernel_rfl) (by kernel_rfl) ?_
   refine WP.sx tysOk rfl ⟨rfl, ⟨⟩⟩ ?_
   refine WP.lx tysOk rfl rfl (CellAt.blk (.tail .head) rfl) ?_
   iterate 2 (refine WP.sx tysOk rfl ⟨rfl, ⟨⟩⟩ ?_)
   obtain ⟨hj6, h⟩ := ck_some h
   refine WP.ixO tysOk rfl rfl rfl rfl rfl rfl rfl rfl rfl rfl hf1 hj6 ?_
   intro b6 hA6
   refine WP.lx tysOk rfl rfl (OwS.at0 .head hA6 hj6 rfl) ?_
   obtain ⟨hj7, h⟩ := ck_some h
   refine WP.ixA tysOk rfl rfl rfl rfl rfl rfl rfl rfl rfl rfl hj7 (hs2.ex hj7) ?_
   intro b7 b7v hA7
   refine WP.sx tysOk rfl ⟨rfl, ⟨⟩⟩ ?_
   refine WP.lx tysOk rfl rfl (hs2.at hA7 (Held.mem (List.Mem.tail _ (List.Mem.tail _ (List.Mem.head _)))) hj7 2 rfl) ?_
   refine WP.sx tysOk rfl ⟨rfl, ⟨⟩⟩ ?_
   refine WP.qend rfl ?_
   refine WP.cond_d rfl rfl (fun hh13 => ?_) (fun hh13 => ?_)
   ·rw [if_pos hh13] at h
    refine WP.sx tysOk rfl ⟨⟨⟩, ⟨⟩⟩ ?_
    cases h
    refine WP.retR tysOk rfl rfl ⟨_, _, rfl, rfl, rfl⟩ (fun w1 hw1 => ⟨rfl, Ret.below_ hw1 (.cons (.tail (.tail .head)) .nil)⟩)
   rw [if_neg hh13] at h
   iterate 3 (refine WP.sx tysOk rfl ⟨⟨⟩, ⟨⟩⟩ ?_)
   refine WP.stop rfl (n6, w64 (s2 + 1)) ⟨h, Nat.lt_succ_self _⟩ ?_ ?_
   ·repeat first|exact ⟨⟩|refine ⟨rfl,?_⟩
   exact Pick.all
  rw [if_neg hh12] at h
  refine WP.mx_ tysOk rfl ⟨⟩ (SegAt.blk' (.tail .head) rfl) ?_
  refine WP.sx tysOk rfl ⟨⟨⟩, ⟨⟩⟩ ?_
  obtain ⟨r7, hg7, h⟩ := bind_some h
  refine WP.callS (ref04_Out_S r7) rfl rfl rfl rfl rfl rfl rfl (by kernel_rfl) (fun w1 hw1 => (ref04_Out_w hg7 (InsZ.mk_ ((hs1.le' ((Held.mem (List.Mem.tail _ (List.Mem.tail _ (List.Mem.head _)))) _ _ hw1)).of) ((hs2.le' ((Held.mem (List.Mem.tail _ (List.Mem.tail _ (List.Mem.head _)))) _ _ hw1)).of)) :)) ?_
  rintro _ _ ⟨A8, n7, c8, rfl, hf6, rfl⟩
  refine WP.lenO (xs := r7) tysOk rfl ⟨⟩ rfl rfl rfl rfl rfl rfl hf6 ?_
  iterate 2 (refine WP.sx tysOk rfl ⟨⟨⟩, ⟨⟩⟩ ?_)
  by_cases hh14 : (r7.length : Int) = 0
  ·rw [if_pos hh14] at h
   refine WP.no rfl rfl (decide_eq_true hh14) rfl rfl ?_
   iterate 4 (refine WP.no rfl rfl rfl rfl rfl ?_)
   iterate 2 (refine WP.sx tysOk rfl ⟨⟨⟩, ⟨⟩⟩ ?_)
   cases h
   refine WP.retR tysOk rfl rfl ⟨_, _, rfl, rfl, rfl⟩ (fun w1 hw1 => ⟨rfl, Ret.below_ hw1 (.cons (.tail (.tail (.tail .head))) .nil)⟩)
  rw [if_neg hh14] at h
  refine WP.yes rfl rfl (decide_eq_false hh14) ?_
  refine WP.mx_ tysOk rfl ⟨⟩ (SegAt.blk' (.tail (.tail .head)) rfl) ?_
  refine WP.yes rfl rfl rfl ?_
  refine WP.sx tysOk rfl ⟨⟨⟩, ⟨⟩⟩ ?_
  refine WP.yes rfl rfl rfl ?_
  obtain ⟨r8, hg8, h⟩ := bind_some h
  refine WP.callS (ref04_In_S r8) rfl rfl rfl rfl rfl rfl rfl (by kernel_rfl) (fun w1 hw1 => (ref04_In_w hg8 (InsZ.mk_ ((hs1.le' ((Held.mem (List.Mem.tail _ (List.Mem.tail _ (List.Mem.tail _ (List.Mem.head _))))) _ _ hw1)).of) ((hs2.le' ((Held.mem (List.Mem.tail _ (List.Mem.tail _ (List.Mem.tail _ (List.Mem.head _))))) _ _ hw1)).of)) :)) ?_
  rintro _ _ ⟨A9, n8, c9, rfl, hf7, rfl⟩
  refine WP.yes rfl rfl rfl ?_
  refine WP.lenO (xs := r8) tysOk rfl ⟨⟩ rfl rfl rfl rfl rfl rfl hf7 ?_
  refine WP.yes rfl rfl rfl ?_
  iterate 3 (refine WP.sx tysOk rfl ⟨⟨⟩, ⟨⟩⟩ ?_)
  cases h
  refine WP.retR tysOk rfl rfl ⟨_, _, rfl, rfl, rfl⟩ (fun w1 hw1 => ⟨rfl, Ret.below_ hw1 (.cons (.tail (.tail (.tail (.tail .head)))) .nil)⟩)
end Go.Proofs.YtbnjeanldechnaaGreatDoor
