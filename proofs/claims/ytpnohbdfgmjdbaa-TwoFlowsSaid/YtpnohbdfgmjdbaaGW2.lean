/- The walks: the code computes that. -/
import Derived.Test.YtpnohbdfgmjdbaaGW1
import Derived.Test.YtpnohbdfgmjdbaaTys
import Derived.Test.YtpnohbdfgmjdbaaEngG
import Derived.KernelRfl
namespace Go.Proofs.Ytpnohbdfgmjdbaa
open Go.RowKit Go.Qe
set_option maxRecDepth 20000 in
set_option maxHeartbeats 8000000 in
theorem num_Times_w {w : World} {a1 : Int} {b1 : Int} {r : Wide} (h : num_Times a1 b1 = some r) :
    Calls Try.prog 42 #[iv a1, iv b1] w fun e w' => e = .returned (.agg #[iv r.hi, .int .u64 (r.lo)]) ∧ Below w.heap.size w w' := by
  unfold num_Times at h
  refine enter_ Try.func42 rfl Try.ntmps42 rfl ?_
  refine WP.al tysOk rfl rfl rfl rfl rfl rfl ?_
  intro g1
  iterate 4 (refine WP.st tysOk true rfl True.intro rfl rfl rfl rfl True.intro ?_)
  obtain ⟨r1, hg1, h⟩ := bind_some h
  refine WP.callV rfl rfl rfl rfl rfl rfl rfl (by kernel_rfl) (fun w1 hw1 => (math_bits_Mul64_w hg1  :)) True.intro ?_
  iterate 7 (refine WP.st tysOk true rfl True.intro rfl rfl rfl rfl True.intro ?_)
  refine WP.st tysOk true rfl True.intro rfl rfl rfl rfl (by decide) ?_
  iterate 5 (refine WP.st tysOk true rfl True.intro rfl rfl rfl rfl True.intro ?_)
  obtain ⟨hi1, hx1, h⟩ := lt_some h
  refine WP.st tysOk true rfl True.intro rfl rfl rfl rfl True.intro ?_
  refine WP.retell (s := 5) (.int .u64 hi1) rfl (congrArg (Value.int .u64) hx1.symm) ?_
  iterate 2 (refine WP.st tysOk true rfl True.intro rfl rfl rfl rfl True.intro ?_)
  refine WP.st tysOk true rfl True.intro rfl rfl rfl rfl (by decide) ?_
  iterate 5 (refine WP.st tysOk true rfl True.intro rfl rfl rfl rfl True.intro ?_)
  obtain ⟨hi2, hx2, h⟩ := lt_some h
  refine WP.st tysOk true rfl True.intro rfl rfl rfl rfl True.intro ?_
  refine WP.retell (s := 5) (.int .u64 hi2) rfl (congrArg (Value.int .u64) hx2.symm) ?_
  iterate 3 (refine WP.st tysOk true rfl True.intro rfl rfl rfl rfl True.intro ?_)
  refine WP.bld (cs := [iv (w64 (hi2)), .int .u64 (r1.2)]) tysOk rfl True.intro rfl rfl rfl rfl rfl rfl rfl ?_
  refine WP.sto' tysOk [iv (w64 (hi2)), .int .u64 (r1.2)] rfl rfl rfl rfl rfl rfl rfl rfl rfl .head rfl rfl ?_
  cases h
  refine WP.retR tysOk rfl rfl ⟨_, _, _, _, rfl, ⟨_, rfl, .inr ⟨rfl, _, rfl, rfl, (SegAt.blk' (z := 2) .head rfl).1⟩⟩, rfl, rfl⟩ (fun w1 hw1 => ⟨rfl, Ret.below_ hw1 (.cons (.tail .head) .nil)⟩)

abbrev two_shape_run_1_S (r : Step × Int) : Value → Heap → Prop := fun v L => ∃ (A1 : Option Addr) (n1 c1 : Nat) (A2 : Option Addr) (n2 c2 : Nat) (A3 : Option Addr) (n3 c3 : Nat) (A4 : Option Addr) (n4 c4 : Nat), v = .tuple #[.agg #[.slice A1 n1 c1, .slice A2 n2 c2, iv r.1.rcd.pass, .slice A3 n3 c3, .slice A4 n4 c4, iv r.1.off.hi, .int .u64 (r.1.off.lo), .bool (r.1.did)], .int .u16 (r.2)] ∧ OwF A1 n1 r.1.inst.supply ∧ OwF A2 n2 r.1.inst.arcs ∧ OwF A3 n3 r.1.rcd.was.supply ∧ OwF A4 n4 r.1.rcd.was.arcs ∧ L = [Ow (fI .i64) 2 A1 n1 c1 r.1.inst.supply, Ow fA 23 A2 n2 c2 r.1.inst.arcs, Ow (fI .i64) 2 A3 n3 c3 r.1.rcd.was.supply, Ow fA 23 A4 n4 c4 r.1.rcd.was.arcs]
set_option maxRecDepth 20000 in
set_option maxHeartbeats 8000000 in
theorem two_shape_run_1_w {w : World} {v0 : Value} {i1 : Inst} {r : Step × Int} (h : two_shape_run_1 i1 = some r) (p1 : InsZ (PH.of w) v0 i1) :
    Calls Try.prog 31 #[.agg #[iv 8, .func (.func 45) #[] #[], .func (.func 46) #[] #[], .func (.func 47) #[] #[]], v0] w fun e w' => ∃ v L, e = .returned v ∧ two_shape_run_1_S r v L ∧ Ret w w' L := by
  obtain ⟨A1, c1, A2, c2, rfl, hs1, hs2⟩ := p1
  unfold two_shape_run_1 at h
  refine enter_ Try.func31 rfl Try.ntmps31 rfl ?_
  refine WP.box rfl rfl rfl rfl rfl rfl ?_
  intro g1
  refine WP.box rfl rfl rfl rfl rfl rfl ?_
  intro g2
  refine WP.al tysOk rfl rfl rfl rfl rfl rfl ?_
  intro g3
  refine WP.st tysOk true rfl True.intro rfl rfl rfl rfl True.intro ?_
  refine WP.ldm tysOk rfl True.intro rfl rfl rfl rfl rfl rfl rfl (SegAt.blk' (.tail .head) rfl) ?_
  obtain ⟨r1, hg1, h⟩ := bind_some h
  refine WP.callV rfl rfl rfl rfl rfl rfl rfl (by kernel_rfl) (fun w1 hw1 => (inst_Right_w hg1 (InsZ.mk_ ((hs1.le' ((Held.mem (List.Mem.tail _ (List.Mem.tail _ (List.Mem.tail _ (List.Mem.head _))))) _ _ hw1)).of) ((hs2.le' ((Held.mem (List.Mem.tail _ (List.Mem.tail _ (List.Mem.tail _ (List.Mem.head _))))) _ _ hw1)).of)) :)) True.intro ?_
  iterate 3 (refine WP.st tysOk true rfl True.intro rfl rfl rfl rfl True.intro ?_)
  refine WP.cond_d rfl rfl (fun hh1 => ?_) (fun hh1 => ?_)
  · rw [if_pos hh1] at h
    refine WP.bld (cs := [.slice none 0 0, .slice none 0 0, iv 0, .slice none 0 0, .slice none 0 0, iv 0, .int .u64 (0), .bool (false)]) tysOk rfl True.intro rfl rfl rfl rfl rfl rfl rfl ?_
    refine WP.st tysOk true rfl True.intro rfl rfl rfl rfl True.intro ?_
    refine WP.sto' tysOk [.slice none 0 0, .slice none 0 0, iv 0, .slice none 0 0, .slice none 0 0, iv 0, .int .u64 (0), .bool (false)] rfl rfl rfl rfl rfl rfl rfl rfl rfl .head rfl rfl ?_
    refine WP.st tysOk true rfl True.intro rfl rfl rfl rfl True.intro ?_
    cases h
    refine WP.own_nil 2 (fI .i64).z ?_
    refine WP.own_nil 23 fA.z ?_
    refine WP.own_nil 2 (fI .i64).z ?_
    refine WP.own_nil 23 fA.z ?_
    refine WP.retR tysOk rfl rfl ⟨_, _, _, _, rfl, ⟨_, rfl, .inr ⟨rfl, _, rfl, rfl, (SegAt.blk' (z := 8) (.tail (.tail (.tail (.tail .head)))) rfl).1⟩⟩, ⟨_, _, rfl, rfl, rfl⟩, rfl⟩ (fun w1 hw1 => ⟨_, _, rfl, ⟨none, 0, 0, none, 0, 0, none, 0, 0, none, 0, 0, rfl, OwF.nil_, OwF.nil_, OwF.nil_, OwF.nil_, rfl⟩, Ret.of_KH hw1 (.cons (.tail (.tail (.tail .head))) (.cons (.tail (.tail .head)) (.cons (.tail .head) (.cons .head (.cons (.tail (.tail (.tail .head))) .nil)))))⟩)
  rw [if_neg hh1] at h
  refine WP.ldm tysOk rfl True.intro rfl rfl rfl rfl rfl rfl rfl (SegAt.blk' (.tail .head) rfl) ?_
  obtain ⟨r2, hg2, h⟩ := bind_some h
  refine WP.callS (inst_Copy_S r2) rfl rfl rfl rfl rfl rfl rfl (by kernel_rfl) (fun w1 hw1 => (inst_Copy_w hg2 (InsZ.mk_ ((hs1.le' ((Held.mem (List.Mem.tail _ (List.Mem.tail _ (List.Mem.tail _ (List.Mem.head _))))) _ _ hw1)).of) ((hs2.le' ((Held.mem (List.Mem.tail _ (List.Mem.tail _ (List.Mem.tail _ (List.Mem.head _))))) _ _ hw1)).of)) :)) ?_
  rintro _ _ ⟨A3, n1, c3, A4, n2, c4, rfl, hf1, hf2, rfl⟩
  refine WP.al tysOk rfl rfl rfl rfl rfl rfl ?_
  intro g4
  refine WP.sto' tysOk [.slice A3 n1 c3, .slice A4 n2 c4] rfl rfl rfl rfl rfl rfl rfl rfl rfl .head rfl rfl ?_
  refine WP.ldm tysOk rfl True.intro rfl rfl rfl rfl rfl rfl rfl (SegAt.blk' (.tail (.tail (.tail (.tail .head)))) rfl) ?_
  obtain ⟨r3, hg3, h⟩ := bind_some h
  refine WP.callS (adj_New_S r3) rfl rfl rfl rfl rfl rfl rfl (by kernel_rfl) (fun w1 hw1 => (adj_New_w hg3 (InsZ.mk_ ((hs1.le' ((Held.mem (List.Mem.tail _ (List.Mem.tail _ (List.Mem.tail _ (List.Mem.tail _ (List.Mem.tail _ (List.Mem.tail _ (List.Mem.head _)))))))) _ _ hw1)).of) ((hs2.le' ((Held.mem (List.Mem.tail _ (List.Mem.tail _ (List.Mem.tail _ (List.Mem.tail _ (List.Mem.tail _ (List.Mem.tail _ (List.Mem.head _)))))))) _ _ hw1)).of)) :)) ?_
  rintro vg1 _ ⟨Zn1, hgr1, rfl⟩
  obtain ⟨gg1, rfl⟩ := hgr1.ptr'
  iterate 2 (refine WP.st tysOk true rfl True.intro rfl rfl rfl rfl True.intro ?_)
  refine WP.ld1 tysOk rfl True.intro rfl rfl rfl rfl rfl rfl rfl (CellAt.blk (.tail (.tail (.tail (.tail (.tail .head))))) rfl) ?_
  iterate 2 (refine WP.st tysOk true rfl True.intro rfl rfl rfl rfl True.intro ?_)
  refine WP.loop (α := Nat × Int) (fun x => lp (two_shape_run_1_b1 i1 r2 r3) x.1 x.2 = some r) (fun x => [(2, .pointer (some ⟨g1, 0, none⟩)), (3, .pointer (some ⟨g2, 0, none⟩)), (4, .pointer (some ⟨g3, 0, none⟩)), (7, .pointer (some ⟨g4, 0, none⟩)), (8, .pointer (some ⟨gg1, 0, none⟩)), (27, iv (i1.supply.length : Int)), (28, iv x.2)]) (fun x => [.fz Zn1, .blk g4 27 [.slice A3 n1 c3, .slice A4 n2 c4], Ow (fI .i64) 2 A3 n1 c3 r2.supply, Ow fA 23 A4 n2 c4 r2.arcs, .blk g3 45 [.slice none 0 0, .slice none 0 0, iv 0, .slice none 0 0, .slice none 0 0, iv 0, .int .u64 (0), .bool (false)], .blk g2 27 [.slice A1 i1.supply.length c1, .slice A2 i1.arcs.length c2], .blk g1 76 [iv 8, .func (.func 45) #[] #[], .func (.func 46) #[] #[], .func (.func 47) #[] #[]], .fz (PH.of w)]) (fun x => x.1) rfl (big, 0) h ?_ ?_ ?_
  · repeat (first | exact True.intro | refine And.intro rfl ?_)
  · exact (.cons .head (.cons .head (.cons .head (.cons .head (.cons .head (.cons .head (.cons .head (.cons .head .nil))))))))
  rintro ⟨n11, s2⟩ h
  dsimp only at h ⊢
  rcases n11 with _ | n11
  · exact (lp_no h).elim
  replace h := lp_succ h
  unfold two_shape_run_1_b1 at h
  try dsimp only at h
  refine WP.st tysOk true rfl True.intro rfl rfl rfl rfl True.intro ?_
  refine WP.cond_d rfl rfl (fun hh8 => ?_) (fun hh8 => ?_)
  · rw [if_pos hh8] at h
    iterate 2 (refine WP.st tysOk true rfl True.intro rfl rfl rfl rfl True.intro ?_)
    refine WP.ldm tysOk rfl True.intro rfl rfl rfl rfl rfl rfl rfl (SegAt.blk' (.tail (.tail (.tail (.tail (.tail (.tail .head)))))) rfl) ?_
    refine WP.st tysOk true rfl True.intro rfl rfl rfl rfl True.intro ?_
    refine WP.ldm tysOk rfl True.intro rfl rfl rfl rfl rfl rfl rfl (SegAt.blk' (.tail (.tail (.tail (.tail (.tail .head))))) rfl) ?_
    refine WP.st tysOk true rfl True.intro rfl rfl rfl rfl True.intro ?_
    obtain ⟨r18, hg18, h⟩ := bind_some h
    refine WP.callV rfl rfl rfl rfl rfl rfl rfl (by kernel_rfl) (fun w1 hw1 => (two_shape_at_1_w hg18 (hgr1.le ((Held.mem (List.Mem.head _)) _ _ hw1)) (InsZ.mk_ ((hs1.le' ((Held.mem (List.Mem.tail _ (List.Mem.tail _ (List.Mem.tail _ (List.Mem.tail _ (List.Mem.tail _ (List.Mem.tail _ (List.Mem.tail _ (List.Mem.head _))))))))) _ _ hw1)).of) ((hs2.le' ((Held.mem (List.Mem.tail _ (List.Mem.tail _ (List.Mem.tail _ (List.Mem.tail _ (List.Mem.tail _ (List.Mem.tail _ (List.Mem.tail _ (List.Mem.head _))))))))) _ _ hw1)).of)) :)) True.intro ?_
    iterate 4 (refine WP.st tysOk true rfl True.intro rfl rfl rfl rfl True.intro ?_)
    refine WP.al tysOk rfl rfl rfl rfl rfl rfl ?_
    intro g15
    refine WP.al tysOk rfl rfl rfl rfl rfl rfl ?_
    intro g16
    refine WP.sto' tysOk [iv r18.1.node, iv r18.1.a, iv r18.1.b, iv r18.1.new.src, iv r18.1.new.dst, iv r18.1.new.low, iv r18.1.new.cap, iv r18.1.new.cost] rfl rfl rfl rfl rfl rfl rfl rfl rfl (.tail .head) rfl rfl ?_
    refine WP.sto' tysOk [iv r18.2.1.x.src, iv r18.2.1.x.dst, iv r18.2.1.x.low, iv r18.2.1.x.cap, iv r18.2.1.x.cost, iv r18.2.1.y.src, iv r18.2.1.y.dst, iv r18.2.1.y.low, iv r18.2.1.y.cap, iv r18.2.1.y.cost, iv r18.2.1.n, iv r18.2.1.s] rfl rfl rfl rfl rfl rfl rfl rfl rfl (.tail .head) rfl rfl ?_
    iterate 3 (refine WP.st tysOk true rfl True.intro rfl rfl rfl rfl True.intro ?_)
    refine WP.cond_n rfl rfl (fun hh9 => ?_) (fun hh9 => ?_)
    · rw [if_neg (bneg hh9)] at h
      iterate 2 (refine WP.st tysOk true rfl True.intro rfl rfl rfl rfl True.intro ?_)
      refine WP.stop rfl (n11, w64 (s2 + 1)) ⟨h, Nat.lt_succ_self _⟩ ?_ ?_
      · repeat (first | exact True.intro | refine And.intro rfl ?_)
      exact (.cons (.tail (.tail .head)) (.cons (.tail (.tail .head)) (.cons (.tail (.tail .head)) (.cons (.tail (.tail .head)) (.cons (.tail (.tail .head)) (.cons (.tail (.tail .head)) (.cons (.tail (.tail .head)) (.cons (.tail (.tail .head)) .nil))))))))
    rw [if_pos hh9] at h
    refine WP.ldm tysOk rfl True.intro rfl rfl rfl rfl rfl rfl rfl (SegAt.blk' (.tail (.tail (.tail (.tail (.tail (.tail (.tail .head))))))) rfl) ?_
    obtain ⟨r19, hg19, h⟩ := bind_some h
    refine WP.callS (inst_Copy_S r19) rfl rfl rfl rfl rfl rfl rfl (by kernel_rfl) (fun w1 hw1 => (inst_Copy_w hg19 (InsZ.mk_ ((hs1.le' ((Held.mem (List.Mem.tail _ (List.Mem.tail _ (List.Mem.tail _ (List.Mem.tail _ (List.Mem.tail _ (List.Mem.tail _ (List.Mem.tail _ (List.Mem.tail _ (List.Mem.tail _ (List.Mem.head _))))))))))) _ _ hw1)).of) ((hs2.le' ((Held.mem (List.Mem.tail _ (List.Mem.tail _ (List.Mem.tail _ (List.Mem.tail _ (List.Mem.tail _ (List.Mem.tail _ (List.Mem.tail _ (List.Mem.tail _ (List.Mem.tail _ (List.Mem.head _))))))))))) _ _ hw1)).of)) :)) ?_
    rintro _ _ ⟨A15, n12, c15, A16, n13, c16, rfl, hf21, hf22, rfl⟩
    refine WP.al tysOk rfl rfl rfl rfl rfl rfl ?_
    intro g17
    refine WP.sto' tysOk [.slice A15 n12 c15, .slice A16 n13 c16] rfl rfl rfl rfl rfl rfl rfl rfl rfl .head rfl rfl ?_
    obtain ⟨r20, hg20, h⟩ := bind_some h
    obtain ⟨hj5, h⟩ := ck_some h
    refine WP.drawL 13 [(6, [], fun _ => constSpec (iv r20))] rfl (by kernel_rfl) (by kernel_rfl) (by kernel_rfl) ?_
    refine WP.st tysOk true rfl ⟨⟨rfl, rfl⟩, rfl⟩ rfl rfl rfl rfl True.intro ?_
    refine WP.ld1 tysOk rfl ⟨⟨rfl, rfl⟩, rfl⟩ rfl rfl rfl rfl rfl rfl rfl (CellAt.blk .head rfl) ?_
    iterate 2 (refine WP.st tysOk true rfl ⟨⟨rfl, rfl⟩, rfl⟩ rfl rfl rfl rfl True.intro ?_)
    refine WP.ld1 tysOk rfl ⟨⟨rfl, rfl⟩, rfl⟩ rfl rfl rfl rfl rfl rfl rfl (CellAt.blk (.tail (.tail (.tail (.tail .head)))) rfl) ?_
    refine WP.st tysOk true rfl ⟨⟨rfl, rfl⟩, rfl⟩ rfl rfl rfl rfl True.intro ?_
    refine WP.callV rfl rfl rfl rfl rfl rfl rfl (by kernel_rfl) (fun w1 hw1 => (adj_Graph_Other_w hg20 (hgr1.le ((Held.mem (List.Mem.tail _ (List.Mem.tail _ (List.Mem.tail _ (List.Mem.tail _ (List.Mem.tail _ (List.Mem.head _))))))) _ _ hw1)) :)) ⟨⟨rfl, rfl⟩, rfl⟩ ?_
    refine WP.ixO tysOk rfl ⟨⟨rfl, rfl⟩, rfl⟩ rfl rfl rfl rfl rfl rfl rfl rfl hf21 hj5 ?_
    intro b7 hA7
    refine WP.ld1 tysOk rfl ⟨⟨rfl, rfl⟩, rfl⟩ rfl rfl rfl rfl rfl rfl rfl (OwS.at0 (.tail .head) hA7 hj5 rfl) ?_
    refine WP.st tysOk true rfl ⟨⟨rfl, rfl⟩, rfl⟩ rfl rfl rfl rfl True.intro ?_
    refine WP.ld1 tysOk rfl ⟨⟨rfl, rfl⟩, rfl⟩ rfl rfl rfl rfl rfl rfl rfl (CellAt.blk (.tail (.tail (.tail .head))) rfl) ?_
    refine WP.st tysOk true rfl ⟨⟨rfl, rfl⟩, rfl⟩ rfl rfl rfl rfl True.intro ?_
    refine WP.ixO tysOk rfl ⟨⟨rfl, rfl⟩, rfl⟩ rfl rfl rfl rfl rfl rfl rfl rfl hf21 hj5 ?_
    intro b8 hA8
    refine WP.lend rfl ⟨rfl, rfl⟩ ?_
    obtain ⟨xs7, hx5, h⟩ := lt_some h
    refine WP.stoO (f := (fI .i64)) 0 (w64 ((gt r19.supply r20) + r18.2.1.s)) tysOk rfl rfl rfl rfl rfl rfl rfl rfl rfl (.tail .head) hA8 hf21 hj5 rfl rfl rfl hx5 ?_
    intro hf23
    refine WP.st tysOk true rfl True.intro rfl rfl rfl rfl True.intro ?_
    refine WP.ld1 tysOk rfl True.intro rfl rfl rfl rfl rfl rfl rfl (CellAt.blk (.tail .head) rfl) ?_
    refine WP.st tysOk true rfl True.intro rfl rfl rfl rfl True.intro ?_
    refine WP.ldm tysOk rfl True.intro rfl rfl rfl rfl rfl rfl rfl (SegAt.blk' (.tail (.tail (.tail (.tail .head)))) rfl) ?_
    refine WP.bsO (f := fA) [r18.1.new] tysOk rfl rfl rfl rfl rfl rfl rfl rfl rfl rfl rfl rfl rfl rfl ?_
    intro g18 hf24
    obtain ⟨hl3, h⟩ := ck_some h
    obtain ⟨xs8, hz3, h⟩ := lt_some h
    refine WP.appO (f := fA) (xs := r19.arcs) (ys := [r18.1.new]) tysOk rfl rfl rfl rfl rfl rfl rfl rfl rfl rfl rfl rfl (.tail (.tail (.tail .head))) hf22 hf24.len (OwS.app .head hf24) hl3 hz3 ?_
    intro A17 c17 hf25
    refine WP.st tysOk true rfl True.intro rfl rfl rfl rfl True.intro ?_
    refine WP.sto' tysOk [.slice A15 n12 c15, .slice A17 xs8.length c17] rfl rfl rfl rfl rfl rfl rfl rfl rfl (.tail (.tail (.tail .head))) rfl rfl ?_
    refine WP.st tysOk true rfl True.intro rfl rfl rfl rfl True.intro ?_
    refine WP.ld1 tysOk rfl True.intro rfl rfl rfl rfl rfl rfl rfl (CellAt.blk (.tail (.tail (.tail (.tail (.tail (.tail (.tail (.tail (.tail (.tail (.tail .head))))))))))) rfl) ?_
    refine WP.st tysOk true rfl True.intro rfl rfl rfl rfl True.intro ?_
    obtain ⟨hm3, h⟩ := ck_some h
    refine WP.mkO (f := fB) false tysOk rfl rfl rfl rfl rfl rfl rfl rfl rfl rfl rfl rfl hm3 ?_
    intro g19 hf26
    iterate 3 (refine WP.st tysOk true rfl True.intro rfl rfl rfl rfl True.intro ?_)
    obtain ⟨hj6, h⟩ := ck_some h
    refine WP.ixO tysOk rfl True.intro rfl rfl rfl rfl rfl rfl rfl rfl hf26 hj6 ?_
    intro b9 hA9
    obtain ⟨xs9, hx6, h⟩ := lt_some h
    refine WP.stoO (f := fB) 0 true tysOk rfl rfl rfl rfl rfl rfl rfl rfl rfl .head hA9 hf26 hj6 rfl rfl rfl hx6 ?_
    intro hf27
    refine WP.ldm tysOk rfl True.intro rfl rfl rfl rfl rfl rfl rfl (SegAt.blk' (.tail .head) rfl) ?_
    refine WP.st tysOk true rfl True.intro rfl rfl rfl rfl True.intro ?_
    obtain ⟨r21, hg21, h⟩ := bind_some h
    refine WP.callS (inst_Without_S r21) rfl rfl rfl rfl rfl rfl rfl (by kernel_rfl) (fun w1 hw1 => (inst_Without_w hg21 (InsZ.mk_ (hw1.ow (.tail (.tail (.tail (.tail .head)))) hf23) (hw1.ow (.tail (.tail .head)) hf25)) (hw1.ow .head hf27) SlF.nil_ :)) ?_
    rintro _ _ ⟨A18, n14, c18, A19, n15, c19, rfl, hf28, hf29, rfl⟩
    refine WP.sto' tysOk [.slice A18 n14 c18, .slice A19 n15 c19] rfl rfl rfl rfl rfl rfl rfl rfl rfl (.tail (.tail (.tail .head))) rfl rfl ?_
    refine WP.ldm tysOk rfl True.intro rfl rfl rfl rfl rfl rfl rfl (SegAt.blk' .head rfl) ?_
    obtain ⟨r22, hg22, h⟩ := bind_some h
    refine WP.callV rfl rfl rfl rfl rfl rfl rfl (by kernel_rfl) (fun w1 hw1 => (inst_Right_w hg22 (InsZ.mk_ (hw1.ow (.tail .head) hf28) (hw1.ow (.tail (.tail .head)) hf29)) :)) True.intro ?_
    refine WP.st tysOk true rfl True.intro rfl rfl rfl rfl True.intro ?_
    refine WP.cond_d rfl rfl (fun hh10 => ?_) (fun hh10 => ?_)
    · rw [if_pos hh10] at h
      refine WP.bld (cs := [.slice none 0 0, .slice none 0 0, iv 0, .slice none 0 0, .slice none 0 0, iv 0, .int .u64 (0), .bool (false)]) tysOk rfl True.intro rfl rfl rfl rfl rfl rfl rfl ?_
      refine WP.sto' tysOk [.slice none 0 0, .slice none 0 0, iv 0, .slice none 0 0, .slice none 0 0, iv 0, .int .u64 (0), .bool (false)] rfl rfl rfl rfl rfl rfl rfl rfl rfl (.tail (.tail (.tail (.tail (.tail (.tail (.tail (.tail (.tail (.tail (.tail (.tail (.tail .head))))))))))))) rfl rfl ?_
      refine WP.st tysOk true rfl True.intro rfl rfl rfl rfl True.intro ?_
      cases h
      refine WP.own_nil 2 (fI .i64).z ?_
      refine WP.own_nil 23 fA.z ?_
      refine WP.own_nil 2 (fI .i64).z ?_
      refine WP.own_nil 23 fA.z ?_
      refine WP.retR tysOk rfl rfl ⟨_, _, _, _, rfl, ⟨_, rfl, .inr ⟨rfl, _, rfl, rfl, (SegAt.blk' (z := 8) (.tail (.tail (.tail (.tail .head)))) rfl).1⟩⟩, ⟨_, _, rfl, rfl, rfl⟩, rfl⟩ (fun w1 hw1 => ⟨_, _, rfl, ⟨none, 0, 0, none, 0, 0, none, 0, 0, none, 0, 0, rfl, OwF.nil_, OwF.nil_, OwF.nil_, OwF.nil_, rfl⟩, Ret.of_KH hw1 (.cons (.tail (.tail (.tail .head))) (.cons (.tail (.tail .head)) (.cons (.tail .head) (.cons .head (.cons (.tail (.tail (.tail (.tail (.tail (.tail (.tail (.tail (.tail (.tail (.tail (.tail (.tail (.tail (.tail (.tail .head)))))))))))))))) .nil)))))⟩)
    rw [if_neg hh10] at h
    obtain ⟨r23, hg23, h⟩ := bind_some h
    obtain ⟨r24, hg24, h⟩ := bind_some h
    refine WP.drawL 15 [(8, [], fun _ => constSpec (iv r23)), (13, [], fun _ => constSpec (.agg #[iv r24.hi, .int .u64 (r24.lo)]))] rfl (by kernel_rfl) (by kernel_rfl) (by kernel_rfl) ?_
    refine WP.ldm tysOk rfl ⟨⟨rfl, rfl⟩, rfl⟩ rfl rfl rfl rfl rfl rfl rfl (SegAt.blk' .head rfl) ?_
    refine WP.st tysOk true rfl ⟨⟨rfl, rfl⟩, rfl⟩ rfl rfl rfl rfl True.intro ?_
    refine WP.ld1 tysOk rfl ⟨⟨rfl, rfl⟩, rfl⟩ rfl rfl rfl rfl rfl rfl rfl (CellAt.blk (.tail (.tail (.tail (.tail (.tail (.tail (.tail (.tail (.tail (.tail (.tail (.tail (.tail (.tail (.tail .head))))))))))))))) rfl) ?_
    refine WP.ldm tysOk rfl ⟨⟨rfl, rfl⟩, rfl⟩ rfl rfl rfl rfl rfl rfl rfl (SegAt.blk' (.tail (.tail (.tail (.tail (.tail (.tail (.tail (.tail (.tail (.tail .head)))))))))) rfl) ?_
    refine WP.bld (cs := [iv 8, .slice A3 n1 c3, .slice A4 n2 c4]) tysOk rfl ⟨⟨rfl, rfl⟩, rfl⟩ rfl rfl rfl rfl rfl rfl rfl ?_
    refine WP.st tysOk true rfl ⟨⟨rfl, rfl⟩, rfl⟩ rfl rfl rfl rfl True.intro ?_
    refine WP.ld1 tysOk rfl ⟨⟨rfl, rfl⟩, rfl⟩ rfl rfl rfl rfl rfl rfl rfl (CellAt.blk (.tail (.tail (.tail (.tail (.tail (.tail (.tail (.tail (.tail (.tail (.tail (.tail (.tail (.tail (.tail .head))))))))))))))) rfl) ?_
    refine WP.ldm tysOk rfl ⟨⟨rfl, rfl⟩, rfl⟩ rfl rfl rfl rfl rfl rfl rfl (SegAt.blk' (.tail (.tail (.tail (.tail (.tail (.tail (.tail .head))))))) rfl) ?_
    refine WP.callV rfl rfl rfl rfl rfl rfl rfl (by kernel_rfl) (fun w1 hw1 => (two_series_2_w hg23  :)) ⟨⟨rfl, rfl⟩, rfl⟩ ?_
    iterate 3 (refine WP.st tysOk true rfl ⟨⟨rfl, rfl⟩, rfl⟩ rfl rfl rfl rfl True.intro ?_)
    refine WP.ld1 tysOk rfl ⟨⟨rfl, rfl⟩, rfl⟩ rfl rfl rfl rfl rfl rfl rfl (CellAt.blk (.tail (.tail (.tail (.tail (.tail (.tail (.tail .head))))))) rfl) ?_
    refine WP.callV rfl rfl rfl rfl rfl rfl rfl (by kernel_rfl) (fun w1 hw1 => (num_Times_w hg24  :)) ⟨⟨rfl, rfl⟩, rfl⟩ ?_
    refine WP.bld (cs := [.slice A18 n14 c18, .slice A19 n15 c19, iv 8, .slice A3 n1 c3, .slice A4 n2 c4, iv r24.hi, .int .u64 (r24.lo), .bool (true)]) tysOk rfl ⟨⟨rfl, rfl⟩, rfl⟩ rfl rfl rfl rfl rfl rfl rfl ?_
    refine WP.lend rfl ⟨rfl, rfl⟩ ?_
    refine WP.sto' tysOk [.slice A18 n14 c18, .slice A19 n15 c19, iv 8, .slice A3 n1 c3, .slice A4 n2 c4, iv r24.hi, .int .u64 (r24.lo), .bool (true)] rfl rfl rfl rfl rfl rfl rfl rfl rfl (.tail (.tail (.tail (.tail (.tail (.tail (.tail (.tail (.tail (.tail (.tail (.tail (.tail .head))))))))))))) rfl rfl ?_
    refine WP.st tysOk true rfl True.intro rfl rfl rfl rfl True.intro ?_
    cases h
    refine WP.retR tysOk rfl rfl ⟨_, _, _, _, rfl, ⟨_, rfl, .inr ⟨rfl, _, rfl, rfl, (SegAt.blk' (z := 8) .head rfl).1⟩⟩, ⟨_, _, rfl, rfl, rfl⟩, rfl⟩ (fun w1 hw1 => ⟨_, _, rfl, ⟨A18, n14, c18, A19, n15, c19, A3, n1, c3, A4, n2, c4, rfl, hf28, hf29, hf1, hf2, rfl⟩, Ret.of_KH hw1 (.cons (.tail (.tail .head)) (.cons (.tail (.tail .head)) (.cons (.tail (.tail (.tail (.tail (.tail (.tail (.tail (.tail (.tail (.tail .head)))))))))) (.cons (.tail (.tail (.tail (.tail (.tail (.tail (.tail (.tail (.tail (.tail .head)))))))))) (.cons (.tail (.tail (.tail (.tail (.tail (.tail (.tail (.tail (.tail (.tail (.tail (.tail .head)))))))))))) .nil)))))⟩)
  rw [if_neg hh8] at h
  refine WP.ldm tysOk rfl True.intro rfl rfl rfl rfl rfl rfl rfl (SegAt.blk' (.tail .head) rfl) ?_
  refine WP.bld (cs := [.slice A3 n1 c3, .slice A4 n2 c4, iv 0, .slice none 0 0, .slice none 0 0, iv 0, .int .u64 (0), .bool (false)]) tysOk rfl True.intro rfl rfl rfl rfl rfl rfl rfl ?_
  refine WP.sto' tysOk [.slice A3 n1 c3, .slice A4 n2 c4, iv 0, .slice none 0 0, .slice none 0 0, iv 0, .int .u64 (0), .bool (false)] rfl rfl rfl rfl rfl rfl rfl rfl rfl (.tail (.tail (.tail (.tail .head)))) rfl rfl ?_
  refine WP.st tysOk true rfl True.intro rfl rfl rfl rfl True.intro ?_
  cases h
  refine WP.own_nil 2 (fI .i64).z ?_
  refine WP.own_nil 23 fA.z ?_
  refine WP.retR tysOk rfl rfl ⟨_, _, _, _, rfl, ⟨_, rfl, .inr ⟨rfl, _, rfl, rfl, (SegAt.blk' (z := 8) (.tail (.tail .head)) rfl).1⟩⟩, ⟨_, _, rfl, rfl, rfl⟩, rfl⟩ (fun w1 hw1 => ⟨_, _, rfl, ⟨A3, n1, c3, A4, n2, c4, none, 0, 0, none, 0, 0, rfl, hf1, hf2, OwF.nil_, OwF.nil_, rfl⟩, Ret.of_KH hw1 (.cons (.tail (.tail (.tail (.tail (.tail .head))))) (.cons (.tail (.tail (.tail (.tail (.tail .head))))) (.cons (.tail .head) (.cons .head (.cons (.tail (.tail (.tail (.tail (.tail .head))))) .nil)))))⟩)

abbrev two_Series_S (r : Step × Int) : Value → Heap → Prop := fun v L => ∃ (A1 : Option Addr) (n1 c1 : Nat) (A2 : Option Addr) (n2 c2 : Nat) (A3 : Option Addr) (n3 c3 : Nat) (A4 : Option Addr) (n4 c4 : Nat), v = .tuple #[.agg #[.slice A1 n1 c1, .slice A2 n2 c2, iv r.1.rcd.pass, .slice A3 n3 c3, .slice A4 n4 c4, iv r.1.off.hi, .int .u64 (r.1.off.lo), .bool (r.1.did)], .int .u16 (r.2)] ∧ OwF A1 n1 r.1.inst.supply ∧ OwF A2 n2 r.1.inst.arcs ∧ OwF A3 n3 r.1.rcd.was.supply ∧ OwF A4 n4 r.1.rcd.was.arcs ∧ L = [Ow (fI .i64) 2 A1 n1 c1 r.1.inst.supply, Ow fA 23 A2 n2 c2 r.1.inst.arcs, Ow (fI .i64) 2 A3 n3 c3 r.1.rcd.was.supply, Ow fA 23 A4 n4 c4 r.1.rcd.was.arcs]
set_option maxRecDepth 20000 in
set_option maxHeartbeats 8000000 in
theorem two_Series_w {w : World} {v0 : Value} {i1 : Inst} {r : Step × Int} (h : two_Series i1 = some r) (p1 : InsZ (PH.of w) v0 i1) :
    Calls Try.prog 16 #[v0] w fun e w' => ∃ v L, e = .returned v ∧ two_Series_S r v L ∧ Ret w w' L := by
  obtain ⟨A1, c1, A2, c2, rfl, hs1, hs2⟩ := p1
  unfold two_Series at h
  refine enter_ Try.func16 rfl Try.ntmps16 rfl ?_
  refine WP.box rfl rfl rfl rfl rfl rfl ?_
  intro g1
  refine WP.al tysOk rfl rfl rfl rfl rfl rfl ?_
  intro g2
  refine WP.st tysOk true rfl True.intro rfl rfl rfl rfl True.intro ?_
  obtain ⟨r1, hg1, h⟩ := bind_some h
  refine WP.drawL 5 [(0, [], fun _ => constSpec (.agg #[iv 8, .func (.func 45) #[] #[], .func (.func 46) #[] #[], .func (.func 47) #[] #[]])), (2, [], fun _ => two_shape_run_1_S r1)] rfl (by kernel_rfl) (by kernel_rfl) (by kernel_rfl) ?_
  refine WP.callV rfl rfl rfl rfl rfl rfl rfl (by kernel_rfl) (fun w1 hw1 => two_series_w) ⟨⟨rfl, rfl⟩, rfl⟩ ?_
  refine WP.ldm tysOk rfl ⟨⟨rfl, rfl⟩, rfl⟩ rfl rfl rfl rfl rfl rfl rfl (SegAt.blk' (.tail .head) rfl) ?_
  refine WP.lcall rfl ⟨rfl, rfl⟩ rfl rfl rfl rfl rfl rfl rfl (by kernel_rfl) (fun w1 hw1 => (two_shape_run_1_w hg1 (InsZ.mk_ ((hs1.le' ((Held.mem (List.Mem.tail _ (List.Mem.tail _ (List.Mem.head _)))) _ _ hw1)).of) ((hs2.le' ((Held.mem (List.Mem.tail _ (List.Mem.tail _ (List.Mem.head _)))) _ _ hw1)).of)) :)) ?_
  rintro _ _ ⟨A3, n1, c3, A4, n2, c4, A5, n3, c5, A6, n4, c6, rfl, hf1, hf2, hf3, hf4, rfl⟩
  iterate 2 (refine WP.st tysOk true rfl ⟨⟨rfl, rfl⟩, rfl⟩ rfl rfl rfl rfl True.intro ?_)
  refine WP.lend rfl ⟨rfl, rfl⟩ ?_
  refine WP.sto' tysOk [.slice A3 n1 c3, .slice A4 n2 c4, iv r1.1.rcd.pass, .slice A5 n3 c5, .slice A6 n4 c6, iv r1.1.off.hi, .int .u64 (r1.1.off.lo), .bool (r1.1.did)] rfl rfl rfl rfl rfl rfl rfl rfl rfl (.tail (.tail (.tail (.tail .head)))) rfl rfl ?_
  refine WP.st tysOk true rfl True.intro rfl rfl rfl rfl True.intro ?_
  cases h
  refine WP.retR tysOk rfl rfl ⟨_, _, _, _, rfl, ⟨_, rfl, .inr ⟨rfl, _, rfl, rfl, (SegAt.blk' (z := 8) .head rfl).1⟩⟩, ⟨_, _, rfl, rfl, rfl⟩, rfl⟩ (fun w1 hw1 => ⟨_, _, rfl, ⟨A3, n1, c3, A4, n2, c4, A5, n3, c5, A6, n4, c6, rfl, hf1, hf2, hf3, hf4, rfl⟩, Ret.of_KH hw1 (.cons (.tail .head) (.cons (.tail .head) (.cons (.tail .head) (.cons (.tail .head) (.cons (.tail (.tail .head)) .nil)))))⟩)

set_option maxRecDepth 20000 in
set_option maxHeartbeats 8000000 in
theorem two_fork_w {w : World} :
    Calls Try.prog 29 #[] w fun e w' => e = .returned (.agg #[iv 9, .func (.func 54) #[] #[], .func (.func 55) #[] #[], .func (.func 56) #[] #[]]) ∧ Below w.heap.size w w' := by
  refine enter_ Try.func29 rfl Try.ntmps29 rfl ?_
  refine WP.al tysOk rfl rfl rfl rfl rfl rfl ?_
  intro g1
  refine WP.bld (cs := [iv 9, .func (.func 54) #[] #[], .func (.func 55) #[] #[], .func (.func 56) #[] #[]]) tysOk rfl True.intro rfl rfl rfl rfl rfl rfl rfl ?_
  refine WP.sto' tysOk [iv 9, .func (.func 54) #[] #[], .func (.func 55) #[] #[], .func (.func 56) #[] #[]] rfl rfl rfl rfl rfl rfl rfl rfl rfl .head rfl rfl ?_
  refine WP.retR tysOk rfl rfl ⟨_, _, _, _, rfl, ⟨_, rfl, .inr ⟨rfl, _, rfl, rfl, (SegAt.blk' (z := 4) .head rfl).1⟩⟩, rfl, rfl⟩ (fun w1 hw1 => ⟨rfl, Ret.below_ hw1 (.cons (.tail .head) .nil)⟩)

set_option maxRecDepth 20000 in
set_option maxHeartbeats 8000000 in
theorem two_fork_1_w {w : World} {x1 : Arc} {y1 : Arc} {n1 : Int} {r : Bool} (h : two_fork_1 x1 y1 n1 = some r) :
    Calls Try.prog 54 #[.agg #[iv x1.src, iv x1.dst, iv x1.low, iv x1.cap, iv x1.cost], .agg #[iv y1.src, iv y1.dst, iv y1.low, iv y1.cap, iv y1.cost], iv n1] w fun e w' => e = .returned (.bool (r)) ∧ Below w.heap.size w w' := by
  unfold two_fork_1 at h
  refine enter_ Try.func54 rfl Try.ntmps54 rfl ?_
  refine WP.box rfl rfl rfl rfl rfl rfl ?_
  intro g1
  refine WP.box rfl rfl rfl rfl rfl rfl ?_
  intro g2
  iterate 2 (refine WP.st tysOk true rfl True.intro rfl rfl rfl rfl True.intro ?_)
  refine WP.ld1 tysOk rfl True.intro rfl rfl rfl rfl rfl rfl rfl (CellAt.blk (.tail .head) rfl) ?_
  iterate 3 (refine WP.st tysOk true rfl True.intro rfl rfl rfl rfl True.intro ?_)
  refine WP.ld1 tysOk rfl True.intro rfl rfl rfl rfl rfl rfl rfl (CellAt.blk .head rfl) ?_
  iterate 4 (refine WP.st tysOk true rfl True.intro rfl rfl rfl rfl True.intro ?_)
  cases h
  refine WP.retR tysOk rfl rfl ⟨_, _, rfl, rfl, rfl⟩ (fun w1 hw1 => ⟨rfl, Ret.below_ hw1 (.cons (.tail (.tail .head)) .nil)⟩)

set_option maxRecDepth 20000 in
set_option maxHeartbeats 8000000 in
theorem two_pair_both_w {w : World} {p1 : Pair} {r : Int} (h : two_pair_both p1 = some r) :
    Calls Try.prog 56 #[.agg #[iv p1.x.src, iv p1.x.dst, iv p1.x.low, iv p1.x.cap, iv p1.x.cost, iv p1.y.src, iv p1.y.dst, iv p1.y.low, iv p1.y.cap, iv p1.y.cost, iv p1.n, iv p1.s]] w fun e w' => e = .returned (iv r) ∧ Below w.heap.size w w' := by
  unfold two_pair_both at h
  refine enter_ Try.func56 rfl Try.ntmps56 rfl ?_
  refine WP.box rfl rfl rfl rfl rfl rfl ?_
  intro g1
  iterate 4 (refine WP.st tysOk true rfl True.intro rfl rfl rfl rfl True.intro ?_)
  refine WP.ld1 tysOk rfl True.intro rfl rfl rfl rfl rfl rfl rfl (CellAt.blk .head rfl) ?_
  refine WP.st tysOk true rfl True.intro rfl rfl rfl rfl True.intro ?_
  refine WP.ld1 tysOk rfl True.intro rfl rfl rfl rfl rfl rfl rfl (CellAt.blk .head rfl) ?_
  refine WP.st tysOk true rfl True.intro rfl rfl rfl rfl True.intro ?_
  refine WP.cond_d rfl rfl (fun hh1 => ?_) (fun hh1 => ?_)
  · rw [if_pos hh1] at h
    refine WP.st tysOk true rfl True.intro rfl rfl rfl rfl True.intro ?_
    refine WP.ld1 tysOk rfl True.intro rfl rfl rfl rfl rfl rfl rfl (CellAt.blk .head rfl) ?_
    iterate 2 (refine WP.st tysOk true rfl True.intro rfl rfl rfl rfl True.intro ?_)
    cases h
    refine WP.retR tysOk rfl rfl ⟨_, _, rfl, rfl, rfl⟩ (fun w1 hw1 => ⟨rfl, Ret.below_ hw1 (.cons (.tail .head) .nil)⟩)
  rw [if_neg hh1] at h
  refine WP.st tysOk true rfl True.intro rfl rfl rfl rfl True.intro ?_
  refine WP.ld1 tysOk rfl True.intro rfl rfl rfl rfl rfl rfl rfl (CellAt.blk .head rfl) ?_
  refine WP.st tysOk true rfl True.intro rfl rfl rfl rfl True.intro ?_
  cases h
  refine WP.retR tysOk rfl rfl ⟨_, _, rfl, rfl, rfl⟩ (fun w1 hw1 => ⟨rfl, Ret.below_ hw1 (.cons (.tail .head) .nil)⟩)

set_option maxRecDepth 20000 in
set_option maxHeartbeats 8000000 in
theorem two_pair_split_w {w : World} {d1 : Pair} {r : Arc} (h : two_pair_split d1 = some r) :
    Calls Try.prog 55 #[.agg #[iv d1.x.src, iv d1.x.dst, iv d1.x.low, iv d1.x.cap, iv d1.x.cost, iv d1.y.src, iv d1.y.dst, iv d1.y.low, iv d1.y.cap, iv d1.y.cost, iv d1.n, iv d1.s]] w fun e w' => e = .returned (.agg #[iv r.src, iv r.dst, iv r.low, iv r.cap, iv r.cost]) ∧ Below w.heap.size w w' := by
  unfold two_pair_split at h
  refine enter_ Try.func55 rfl Try.ntmps55 rfl ?_
  refine WP.box rfl rfl rfl rfl rfl rfl ?_
  intro g1
  refine WP.al tysOk rfl rfl rfl rfl rfl rfl ?_
  intro g2
  refine WP.ldm tysOk rfl True.intro rfl rfl rfl rfl rfl rfl rfl (SegAt.blk' (.tail .head) rfl) ?_
  obtain ⟨r1, hg1, h⟩ := bind_some h
  refine WP.callV rfl rfl rfl rfl rfl rfl rfl (by kernel_rfl) (fun w1 hw1 => (two_pair_both_w hg1  :)) True.intro ?_
  iterate 4 (refine WP.st tysOk true rfl True.intro rfl rfl rfl rfl True.intro ?_)
  refine WP.ld1 tysOk rfl True.intro rfl rfl rfl rfl rfl rfl rfl (CellAt.blk (.tail .head) rfl) ?_
  iterate 3 (refine WP.st tysOk true rfl True.intro rfl rfl rfl rfl True.intro ?_)
  refine WP.ld1 tysOk rfl True.intro rfl rfl rfl rfl rfl rfl rfl (CellAt.blk (.tail .head) rfl) ?_
  iterate 3 (refine WP.st tysOk true rfl True.intro rfl rfl rfl rfl True.intro ?_)
  refine WP.ld1 tysOk rfl True.intro rfl rfl rfl rfl rfl rfl rfl (CellAt.blk (.tail .head) rfl) ?_
  iterate 3 (refine WP.st tysOk true rfl True.intro rfl rfl rfl rfl True.intro ?_)
  refine WP.ld1 tysOk rfl True.intro rfl rfl rfl rfl rfl rfl rfl (CellAt.blk (.tail .head) rfl) ?_
  iterate 4 (refine WP.st tysOk true rfl True.intro rfl rfl rfl rfl True.intro ?_)
  refine WP.ld1 tysOk rfl True.intro rfl rfl rfl rfl rfl rfl rfl (CellAt.blk (.tail .head) rfl) ?_
  refine WP.st tysOk true rfl True.intro rfl rfl rfl rfl True.intro ?_
  refine WP.mn rfl True.intro rfl rfl rfl rfl rfl rfl ?_
  iterate 3 (refine WP.st tysOk true rfl True.intro rfl rfl rfl rfl True.intro ?_)
  refine WP.ld1 tysOk rfl True.intro rfl rfl rfl rfl rfl rfl rfl (CellAt.blk (.tail .head) rfl) ?_
  iterate 3 (refine WP.st tysOk true rfl True.intro rfl rfl rfl rfl True.intro ?_)
  refine WP.ld1 tysOk rfl True.intro rfl rfl rfl rfl rfl rfl rfl (CellAt.blk (.tail .head) rfl) ?_
  refine WP.st tysOk true rfl True.intro rfl rfl rfl rfl True.intro ?_
  refine WP.bld (cs := [iv d1.y.dst, iv d1.x.dst, iv d1.x.low, iv (if (w64 (r1 - d1.y.low)) < d1.x.cap then w64 (r1 - d1.y.low) else d1.x.cap), iv (w64 (d1.x.cost - d1.y.cost))]) tysOk rfl True.intro rfl rfl rfl rfl rfl rfl rfl ?_
  refine WP.al tysOk rfl rfl rfl rfl rfl rfl ?_
  intro g3
  refine WP.sto' tysOk [iv d1.y.dst, iv d1.x.dst, iv d1.x.low, iv (if (w64 (r1 - d1.y.low)) < d1.x.cap then w64 (r1 - d1.y.low) else d1.x.cap), iv (w64 (d1.x.cost - d1.y.cost))] rfl rfl rfl rfl rfl rfl rfl rfl rfl .head rfl rfl ?_
  iterate 3 (refine WP.st tysOk true rfl True.intro rfl rfl rfl rfl True.intro ?_)
  refine WP.ld1 tysOk rfl True.intro rfl rfl rfl rfl rfl rfl rfl (CellAt.blk (.tail (.tail .head)) rfl) ?_
  refine WP.st tysOk true rfl True.intro rfl rfl rfl rfl True.intro ?_
  refine WP.ld1 tysOk rfl True.intro rfl rfl rfl rfl rfl rfl rfl (CellAt.blk (.tail (.tail .head)) rfl) ?_
  refine WP.st tysOk true rfl True.intro rfl rfl rfl rfl True.intro ?_
  refine WP.cond_d rfl rfl (fun hh1 => ?_) (fun hh1 => ?_)
  · rw [if_pos hh1] at h
    refine WP.join (α := Unit) (fun _ => True) (fun _ => [(1, .pointer (some ⟨g1, 0, none⟩)), (2, .pointer (some ⟨g2, 0, none⟩)), (3, iv r1), (4, .pointer (some ⟨g3, 0, none⟩))]) (fun _ => [.blk g3 23 [iv d1.x.src, iv d1.y.src, iv d1.x.low, iv (if (w64 (r1 - d1.y.low)) < d1.x.cap then w64 (r1 - d1.y.low) else d1.x.cap), iv (w64 (d1.x.cost - d1.y.cost))], .blk g2 23 [iv 0, iv 0, iv 0, iv 0, iv 0], .blk g1 70 [iv d1.x.src, iv d1.x.dst, iv d1.x.low, iv d1.x.cap, iv d1.x.cost, iv d1.y.src, iv d1.y.dst, iv d1.y.low, iv d1.y.cap, iv d1.y.cost, iv d1.n, iv d1.s], .fz (PH.of w)]) rfl ?_ ?_
    · refine WP.drawA rfl (by kernel_rfl) ?_
      refine WP.anyP 0 tysOk putInv_body rfl rfl rfl (by kernel_rfl) (by kernel_rfl) rfl rfl rfl rfl rfl True.intro ?_
      refine WP.anyP 1 tysOk putInv_body rfl rfl rfl (by kernel_rfl) (by kernel_rfl) rfl rfl rfl rfl rfl True.intro ?_
      refine WP.anyP 2 tysOk putInv_body rfl rfl rfl (by kernel_rfl) (by kernel_rfl) rfl rfl rfl rfl rfl True.intro ?_
      refine WP.anyP 4 tysOk putInv_body rfl rfl rfl (by kernel_rfl) (by kernel_rfl) rfl rfl rfl rfl rfl True.intro ?_
      refine WP.anyP 5 tysOk putInv_body rfl rfl rfl (by kernel_rfl) (by kernel_rfl) rfl rfl rfl rfl rfl True.intro ?_
      refine WP.anyP 6 tysOk putInv_body rfl rfl rfl (by kernel_rfl) (by kernel_rfl) rfl rfl rfl rfl rfl True.intro ?_
      refine WP.any2 3 7 rfl (by kernel_rfl) rfl rfl ?_ ?_
      · refine WP.ld1 tysOk rfl True.intro rfl rfl rfl rfl rfl rfl rfl (CellAt.blk (.tail (.tail .head)) rfl) ?_
        refine WP.anyP 8 tysOk putInv_body rfl rfl rfl (by kernel_rfl) (by kernel_rfl) rfl rfl rfl rfl rfl True.intro ?_
        refine WP.any2 7 9 rfl (by kernel_rfl) rfl rfl ?_ ?_
        · refine WP.ld1 tysOk rfl True.intro rfl rfl rfl rfl rfl rfl rfl (CellAt.blk (.tail (.tail .head)) rfl) ?_
          refine WP.any1 9 rfl (by kernel_rfl) rfl ?_
          refine WP.sto' tysOk [iv d1.x.src, iv d1.x.dst, iv d1.x.low, iv (if (w64 (r1 - d1.y.low)) < d1.x.cap then w64 (r1 - d1.y.low) else d1.x.cap), iv (w64 (d1.x.cost - d1.y.cost))] rfl rfl rfl rfl rfl rfl rfl rfl rfl .head rfl rfl ?_
          refine WP.anyP 10 tysOk putInv_body rfl rfl rfl (by kernel_rfl) (by kernel_rfl) rfl rfl rfl rfl rfl True.intro ?_
          refine WP.any1 11 rfl (by kernel_rfl) rfl ?_
          refine WP.sto' tysOk [iv d1.x.src, iv d1.y.src, iv d1.x.low, iv (if (w64 (r1 - d1.y.low)) < d1.x.cap then w64 (r1 - d1.y.low) else d1.x.cap), iv (w64 (d1.x.cost - d1.y.cost))] rfl rfl rfl rfl rfl rfl rfl rfl rfl .head rfl rfl ?_
          refine WP.any0 rfl (by kernel_rfl) ?_
          refine WP.stop rfl () True.intro ?_ ?_
          · repeat (first | exact True.intro | refine And.intro rfl ?_)
          exact (.cons .head (.cons .head (.cons .head (.cons .head .nil))))
        refine WP.sto' tysOk [iv d1.x.src, iv d1.x.dst, iv d1.x.low, iv (if (w64 (r1 - d1.y.low)) < d1.x.cap then w64 (r1 - d1.y.low) else d1.x.cap), iv (w64 (d1.x.cost - d1.y.cost))] rfl rfl rfl rfl rfl rfl rfl rfl rfl .head rfl rfl ?_
        refine WP.any1 7 rfl (by kernel_rfl) rfl ?_
        refine WP.ld1 tysOk rfl True.intro rfl rfl rfl rfl rfl rfl rfl (CellAt.blk (.tail (.tail .head)) rfl) ?_
        refine WP.anyP 10 tysOk putInv_body rfl rfl rfl (by kernel_rfl) (by kernel_rfl) rfl rfl rfl rfl rfl True.intro ?_
        refine WP.any1 11 rfl (by kernel_rfl) rfl ?_
        refine WP.sto' tysOk [iv d1.x.src, iv d1.y.src, iv d1.x.low, iv (if (w64 (r1 - d1.y.low)) < d1.x.cap then w64 (r1 - d1.y.low) else d1.x.cap), iv (w64 (d1.x.cost - d1.y.cost))] rfl rfl rfl rfl rfl rfl rfl rfl rfl .head rfl rfl ?_
        refine WP.any0 rfl (by kernel_rfl) ?_
        refine WP.stop rfl () True.intro ?_ ?_
        · repeat (first | exact True.intro | refine And.intro rfl ?_)
        exact (.cons .head (.cons .head (.cons .head (.cons .head .nil))))
      refine WP.ld1 tysOk rfl True.intro rfl rfl rfl rfl rfl rfl rfl (CellAt.blk (.tail (.tail .head)) rfl) ?_
      refine WP.any1 3 rfl (by kernel_rfl) rfl ?_
      refine WP.ld1 tysOk rfl True.intro rfl rfl rfl rfl rfl rfl rfl (CellAt.blk (.tail (.tail .head)) rfl) ?_
      refine WP.anyP 8 tysOk putInv_body rfl rfl rfl (by kernel_rfl) (by kernel_rfl) rfl rfl rfl rfl rfl True.intro ?_
      refine WP.any1 9 rfl (by kernel_rfl) rfl ?_
      refine WP.sto' tysOk [iv d1.x.src, iv d1.x.dst, iv d1.x.low, iv (if (w64 (r1 - d1.y.low)) < d1.x.cap then w64 (r1 - d1.y.low) else d1.x.cap), iv (w64 (d1.x.cost - d1.y.cost))] rfl rfl rfl rfl rfl rfl rfl rfl rfl .head rfl rfl ?_
      refine WP.anyP 10 tysOk putInv_body rfl rfl rfl (by kernel_rfl) (by kernel_rfl) rfl rfl rfl rfl rfl True.intro ?_
      refine WP.any1 11 rfl (by kernel_rfl) rfl ?_
      refine WP.sto' tysOk [iv d1.x.src, iv d1.y.src, iv d1.x.low, iv (if (w64 (r1 - d1.y.low)) < d1.x.cap then w64 (r1 - d1.y.low) else d1.x.cap), iv (w64 (d1.x.cost - d1.y.cost))] rfl rfl rfl rfl rfl rfl rfl rfl rfl .head rfl rfl ?_
      refine WP.any0 rfl (by kernel_rfl) ?_
      refine WP.stop rfl () True.intro ?_ ?_
      · repeat (first | exact True.intro | refine And.intro rfl ?_)
      exact (.cons .head (.cons .head (.cons .head (.cons .head .nil))))
    intro _ _
    iterate 3 (refine WP.st tysOk true rfl True.intro rfl rfl rfl rfl True.intro ?_)
    refine WP.ld1 tysOk rfl True.intro rfl rfl rfl rfl rfl rfl rfl (CellAt.blk (.tail (.tail .head)) rfl) ?_
    by_cases hh2 : d1.y.cap = 4611686018427387904
    · rw [if_pos hh2] at h
      refine WP.callV rfl rfl rfl rfl rfl rfl rfl (by kernel_rfl) (fun w1 hw1 => two_bound_nil hh2) True.intro ?_
      iterate 3 (refine WP.st tysOk true rfl True.intro rfl rfl rfl rfl True.intro ?_)
      refine WP.condF rfl rfl ?_
      refine WP.ldm tysOk rfl True.intro rfl rfl rfl rfl rfl rfl rfl (SegAt.blk' .head rfl) ?_
      refine WP.sto' tysOk [iv d1.x.src, iv d1.y.src, iv d1.x.low, iv (if (w64 (r1 - d1.y.low)) < d1.x.cap then w64 (r1 - d1.y.low) else d1.x.cap), iv (w64 (d1.x.cost - d1.y.cost))] rfl rfl rfl rfl rfl rfl rfl rfl rfl (.tail .head) rfl rfl ?_
      cases h
      refine WP.retR tysOk rfl rfl ⟨_, _, _, _, rfl, ⟨_, rfl, .inr ⟨rfl, _, rfl, rfl, (SegAt.blk' (z := 5) .head rfl).1⟩⟩, rfl, rfl⟩ (fun w1 hw1 => ⟨rfl, Ret.below_ hw1 (.cons (.tail (.tail (.tail .head))) .nil)⟩)
    rw [if_neg hh2] at h
    refine WP.callS (two_bound_S d1.y.cap) rfl rfl rfl rfl rfl rfl rfl (by kernel_rfl) (fun w1 hw1 => two_bound_some hh2) ?_
    rintro _ _ ⟨g4, rfl, rfl⟩
    iterate 3 (refine WP.st tysOk true rfl True.intro rfl rfl rfl rfl True.intro ?_)
    refine WP.condT rfl rfl ?_
    refine WP.drawL 9 [] rfl (by kernel_rfl) (by kernel_rfl) (by kernel_rfl) ?_
    refine WP.st tysOk true rfl ⟨⟨rfl, rfl⟩, rfl⟩ rfl rfl rfl rfl True.intro ?_
    refine WP.ld1 tysOk rfl ⟨⟨rfl, rfl⟩, rfl⟩ rfl rfl rfl rfl rfl rfl rfl (CellAt.blk (.tail .head) rfl) ?_
    iterate 3 (refine WP.st tysOk true rfl ⟨⟨rfl, rfl⟩, rfl⟩ rfl rfl rfl rfl True.intro ?_)
    refine WP.ld1 tysOk rfl ⟨⟨rfl, rfl⟩, rfl⟩ rfl rfl rfl rfl rfl rfl rfl (CellAt.blk .head rfl) ?_
    refine WP.st tysOk true rfl ⟨⟨rfl, rfl⟩, rfl⟩ rfl rfl rfl rfl True.intro ?_
    refine WP.mx rfl ⟨⟨rfl, rfl⟩, rfl⟩ rfl rfl rfl rfl rfl rfl ?_
    refine WP.st tysOk true rfl ⟨⟨rfl, rfl⟩, rfl⟩ rfl rfl rfl rfl True.intro ?_
    refine WP.lend rfl ⟨rfl, rfl⟩ ?_
    refine WP.sto' tysOk [iv d1.x.src, iv d1.y.src, iv (if (w64 (r1 - d1.y.cap)) > d1.x.low then w64 (r1 - d1.y.cap) else d1.x.low), iv (if (w64 (r1 - d1.y.low)) < d1.x.cap then w64 (r1 - d1.y.low) else d1.x.cap), iv (w64 (d1.x.cost - d1.y.cost))] rfl rfl rfl rfl rfl rfl rfl rfl rfl (.tail .head) rfl rfl ?_
    refine WP.ldm tysOk rfl True.intro rfl rfl rfl rfl rfl rfl rfl (SegAt.blk' .head rfl) ?_
    refine WP.sto' tysOk [iv d1.x.src, iv d1.y.src, iv (if (w64 (r1 - d1.y.cap)) > d1.x.low then w64 (r1 - d1.y.cap) else d1.x.low), iv (if (w64 (r1 - d1.y.low)) < d1.x.cap then w64 (r1 - d1.y.low) else d1.x.cap), iv (w64 (d1.x.cost - d1.y.cost))] rfl rfl rfl rfl rfl rfl rfl rfl rfl (.tail (.tail .head)) rfl rfl ?_
    cases h
    refine WP.retR tysOk rfl rfl ⟨_, _, _, _, rfl, ⟨_, rfl, .inr ⟨rfl, _, rfl, rfl, (SegAt.blk' (z := 5) .head rfl).1⟩⟩, rfl, rfl⟩ (fun w1 hw1 => ⟨rfl, Ret.below_ hw1 (.cons (.tail (.tail (.tail (.tail .head)))) .nil)⟩)
  rw [if_neg hh1] at h
  iterate 3 (refine WP.st tysOk true rfl True.intro rfl rfl rfl rfl True.intro ?_)
  refine WP.ld1 tysOk rfl True.intro rfl rfl rfl rfl rfl rfl rfl (CellAt.blk (.tail (.tail .head)) rfl) ?_
  by_cases hh3 : d1.y.cap = 4611686018427387904
  · rw [if_pos hh3] at h
    refine WP.callV rfl rfl rfl rfl rfl rfl rfl (by kernel_rfl) (fun w1 hw1 => two_bound_nil hh3) True.intro ?_
    iterate 3 (refine WP.st tysOk true rfl True.intro rfl rfl rfl rfl True.intro ?_)
    refine WP.condF rfl rfl ?_
    refine WP.ldm tysOk rfl True.intro rfl rfl rfl rfl rfl rfl rfl (SegAt.blk' .head rfl) ?_
    refine WP.sto' tysOk [iv d1.y.dst, iv d1.x.dst, iv d1.x.low, iv (if (w64 (r1 - d1.y.low)) < d1.x.cap then w64 (r1 - d1.y.low) else d1.x.cap), iv (w64 (d1.x.cost - d1.y.cost))] rfl rfl rfl rfl rfl rfl rfl rfl rfl (.tail .head) rfl rfl ?_
    cases h
    refine WP.retR tysOk rfl rfl ⟨_, _, _, _, rfl, ⟨_, rfl, .inr ⟨rfl, _, rfl, rfl, (SegAt.blk' (z := 5) .head rfl).1⟩⟩, rfl, rfl⟩ (fun w1 hw1 => ⟨rfl, Ret.below_ hw1 (.cons (.tail (.tail (.tail .head))) .nil)⟩)
  rw [if_neg hh3] at h
  refine WP.callS (two_bound_S d1.y.cap) rfl rfl rfl rfl rfl rfl rfl (by kernel_rfl) (fun w1 hw1 => two_bound_some hh3) ?_
  rintro _ _ ⟨g5, rfl, rfl⟩
  iterate 3 (refine WP.st tysOk true rfl True.intro rfl rfl rfl rfl True.intro ?_)
  refine WP.condT rfl rfl ?_
  refine WP.drawL 9 [] rfl (by kernel_rfl) (by kernel_rfl) (by kernel_rfl) ?_
  refine WP.st tysOk true rfl ⟨⟨rfl, rfl⟩, rfl⟩ rfl rfl rfl rfl True.intro ?_
  refine WP.ld1 tysOk rfl ⟨⟨rfl, rfl⟩, rfl⟩ rfl rfl rfl rfl rfl rfl rfl (CellAt.blk (.tail .head) rfl) ?_
  iterate 3 (refine WP.st tysOk true rfl ⟨⟨rfl, rfl⟩, rfl⟩ rfl rfl rfl rfl True.intro ?_)
  refine WP.ld1 tysOk rfl ⟨⟨rfl, rfl⟩, rfl⟩ rfl rfl rfl rfl rfl rfl rfl (CellAt.blk .head rfl) ?_
  refine WP.st tysOk true rfl ⟨⟨rfl, rfl⟩, rfl⟩ rfl rfl rfl rfl True.intro ?_
  refine WP.mx rfl ⟨⟨rfl, rfl⟩, rfl⟩ rfl rfl rfl rfl rfl rfl ?_
  refine WP.st tysOk true rfl ⟨⟨rfl, rfl⟩, rfl⟩ rfl rfl rfl rfl True.intro ?_
  refine WP.lend rfl ⟨rfl, rfl⟩ ?_
  refine WP.sto' tysOk [iv d1.y.dst, iv d1.x.dst, iv (if (w64 (r1 - d1.y.cap)) > d1.x.low then w64 (r1 - d1.y.cap) else d1.x.low), iv (if (w64 (r1 - d1.y.low)) < d1.x.cap then w64 (r1 - d1.y.low) else d1.x.cap), iv (w64 (d1.x.cost - d1.y.cost))] rfl rfl rfl rfl rfl rfl rfl rfl rfl (.tail .head) rfl rfl ?_
  refine WP.ldm tysOk rfl True.intro rfl rfl rfl rfl rfl rfl rfl (SegAt.blk' .head rfl) ?_
  refine WP.sto' tysOk [iv d1.y.dst, iv d1.x.dst, iv (if (w64 (r1 - d1.y.cap)) > d1.x.low then w64 (r1 - d1.y.cap) else d1.x.low), iv (if (w64 (r1 - d1.y.low)) < d1.x.cap then w64 (r1 - d1.y.low) else d1.x.cap), iv (w64 (d1.x.cost - d1.y.cost))] rfl rfl rfl rfl rfl rfl rfl rfl rfl (.tail (.tail .head)) rfl rfl ?_
  cases h
  refine WP.retR tysOk rfl rfl ⟨_, _, _, _, rfl, ⟨_, rfl, .inr ⟨rfl, _, rfl, rfl, (SegAt.blk' (z := 5) .head rfl).1⟩⟩, rfl, rfl⟩ (fun w1 hw1 => ⟨rfl, Ret.below_ hw1 (.cons (.tail (.tail (.tail (.tail .head)))) .nil)⟩)

set_option maxRecDepth 20000 in
set_option maxHeartbeats 8000000 in
theorem two_shape_at_2_w {w : World} {v0 : Value} {v1 : Value} {i1 : Inst} {x1 : Inst} {x2 : Int} {r : Spot × Pair × Bool} (h : two_shape_at_2 i1 x1 x2 = some r) (p1 : GraphZ (PH.of w) v0 i1) (p2 : InsZ (PH.of w) v1 x1) :
    Calls Try.prog 27 #[.agg #[iv 9, .func (.func 54) #[] #[], .func (.func 55) #[] #[], .func (.func 56) #[] #[]], v0, v1, iv x2] w fun e w' => e = .returned (.tuple #[.agg #[iv r.1.node, iv r.1.a, iv r.1.b, iv r.1.new.src, iv r.1.new.dst, iv r.1.new.low, iv r.1.new.cap, iv r.1.new.cost], .agg #[iv r.2.1.x.src, iv r.2.1.x.dst, iv r.2.1.x.low, iv r.2.1.x.cap, iv r.2.1.x.cost, iv r.2.1.y.src, iv r.2.1.y.dst, iv r.2.1.y.low, iv r.2.1.y.cap, iv r.2.1.y.cost, iv r.2.1.n, iv r.2.1.s], .bool (r.2.2)]) ∧ Below w.heap.size w w' := by
  obtain ⟨gg1, rfl⟩ := p1.ptr'
  obtain ⟨A1, c1, A2, c2, rfl, hs1, hs2⟩ := p2
  unfold two_shape_at_2 at h
  refine enter_ Try.func27 rfl Try.ntmps27 rfl ?_
  refine WP.box rfl rfl rfl rfl rfl rfl ?_
  intro g1
  refine WP.box rfl rfl rfl rfl rfl rfl ?_
  intro g2
  refine WP.al tysOk rfl rfl rfl rfl rfl rfl ?_
  intro g3
  refine WP.al tysOk rfl rfl rfl rfl rfl rfl ?_
  intro g4
  iterate 3 (refine WP.st tysOk true rfl True.intro rfl rfl rfl rfl True.intro ?_)
  obtain ⟨r1, hg1, h⟩ := bind_some h
  refine WP.callS (adj_Graph_At_S r1) rfl rfl rfl rfl rfl rfl rfl (by kernel_rfl) (fun w1 hw1 => (adj_Graph_At_w hg1 (p1.le ((Held.mem (List.Mem.tail _ (List.Mem.tail _ (List.Mem.tail _ (List.Mem.tail _ (List.Mem.head _)))))) _ _ hw1)) :)) ?_
  rintro _ _ ⟨A3, n1, c3, rfl, hf1, rfl⟩
  iterate 2 (refine WP.st tysOk true rfl True.intro rfl rfl rfl rfl True.intro ?_)
  refine WP.lenO (xs := r1) tysOk rfl True.intro rfl rfl rfl rfl rfl rfl hf1 ?_
  iterate 2 (refine WP.st tysOk true rfl True.intro rfl rfl rfl rfl True.intro ?_)
  by_cases hh1 : ¬ (r1.length : Int) = 2
  · rw [if_pos hh1] at h
    refine WP.no rfl rfl (decide_eq_true hh1) rfl rfl ?_
    iterate 3 (refine WP.no rfl rfl rfl rfl rfl ?_)
    refine WP.st tysOk true rfl True.intro rfl rfl rfl rfl True.intro ?_
    refine WP.condT rfl rfl ?_
    refine WP.bld (cs := [iv 0, iv 0, iv 0, iv 0, iv 0, iv 0, iv 0, iv 0]) tysOk rfl True.intro rfl rfl rfl rfl rfl rfl rfl ?_
    refine WP.bld (cs := [iv 0, iv 0, iv 0, iv 0, iv 0, iv 0, iv 0, iv 0, iv 0, iv 0, iv 0, iv 0]) tysOk rfl True.intro rfl rfl rfl rfl rfl rfl rfl ?_
    refine WP.sto' tysOk [iv 0, iv 0, iv 0, iv 0, iv 0, iv 0, iv 0, iv 0] rfl rfl rfl rfl rfl rfl rfl rfl rfl (.tail (.tail .head)) rfl rfl ?_
    refine WP.sto' tysOk [iv 0, iv 0, iv 0, iv 0, iv 0, iv 0, iv 0, iv 0, iv 0, iv 0, iv 0, iv 0] rfl rfl rfl rfl rfl rfl rfl rfl rfl (.tail (.tail .head)) rfl rfl ?_
    refine WP.st tysOk true rfl True.intro rfl rfl rfl rfl True.intro ?_
    cases h
    refine WP.retR tysOk rfl rfl ⟨_, _, _, _, rfl, ⟨_, rfl, .inr ⟨rfl, _, rfl, rfl, (SegAt.blk' (z := 8) (.tail .head) rfl).1⟩⟩, ⟨_, _, _, _, rfl, ⟨_, rfl, .inr ⟨rfl, _, rfl, rfl, (SegAt.blk' (z := 12) .head rfl).1⟩⟩, ⟨_, _, rfl, rfl, rfl⟩, rfl⟩, rfl⟩ (fun w1 hw1 => ⟨rfl, Ret.below_ hw1 (.cons (.tail (.tail (.tail (.tail (.tail .head))))) .nil)⟩)
  rw [if_neg hh1] at h
  refine WP.yes rfl rfl (decide_eq_false hh1) ?_
  iterate 2 (refine WP.st tysOk true rfl True.intro rfl rfl rfl rfl True.intro ?_; refine WP.yes rfl rfl rfl ?_)
  obtain ⟨r2, hg2, h⟩ := bind_some h
  refine WP.callV rfl rfl rfl rfl rfl rfl rfl (by kernel_rfl) (fun w1 hw1 => (adj_Graph_Loops_w hg2 (p1.le ((Held.mem (List.Mem.tail _ (List.Mem.tail _ (List.Mem.tail _ (List.Mem.tail _ (List.Mem.tail _ (List.Mem.head _))))))) _ _ hw1)) :)) True.intro ?_
  refine WP.yes rfl rfl rfl ?_
  iterate 2 (refine WP.st tysOk true rfl True.intro rfl rfl rfl rfl True.intro ?_)
  refine WP.cond_d rfl rfl (fun hh2 => ?_) (fun hh2 => ?_)
  · rw [if_pos hh2] at h
    refine WP.bld (cs := [iv 0, iv 0, iv 0, iv 0, iv 0, iv 0, iv 0, iv 0]) tysOk rfl True.intro rfl rfl rfl rfl rfl rfl rfl ?_
    refine WP.bld (cs := [iv 0, iv 0, iv 0, iv 0, iv 0, iv 0, iv 0, iv 0, iv 0, iv 0, iv 0, iv 0]) tysOk rfl True.intro rfl rfl rfl rfl rfl rfl rfl ?_
    refine WP.sto' tysOk [iv 0, iv 0, iv 0, iv 0, iv 0, iv 0, iv 0, iv 0] rfl rfl rfl rfl rfl rfl rfl rfl rfl (.tail (.tail .head)) rfl rfl ?_
    refine WP.sto' tysOk [iv 0, iv 0, iv 0, iv 0, iv 0, iv 0, iv 0, iv 0, iv 0, iv 0, iv 0, iv 0] rfl rfl rfl rfl rfl rfl rfl rfl rfl (.tail (.tail .head)) rfl rfl ?_
    refine WP.st tysOk true rfl True.intro rfl rfl rfl rfl True.intro ?_
    cases h
    refine WP.retR tysOk rfl rfl ⟨_, _, _, _, rfl, ⟨_, rfl, .inr ⟨rfl, _, rfl, rfl, (SegAt.blk' (z := 8) (.tail .head) rfl).1⟩⟩, ⟨_, _, _, _, rfl, ⟨_, rfl, .inr ⟨rfl, _, rfl, rfl, (SegAt.blk' (z := 12) .head rfl).1⟩⟩, ⟨_, _, rfl, rfl, rfl⟩, rfl⟩, rfl⟩ (fun w1 hw1 => ⟨rfl, Ret.below_ hw1 (.cons (.tail (.tail (.tail (.tail (.tail .head))))) .nil)⟩)
  rw [if_neg hh2] at h
  refine WP.draw rfl (by kernel_rfl) (by kernel_rfl) ?_
  refine WP.st tysOk true rfl rfl rfl rfl rfl rfl True.intro ?_
  obtain ⟨hj1, h⟩ := ck_some h
  refine WP.ixO tysOk rfl rfl rfl rfl rfl rfl rfl rfl rfl rfl hf1 hj1 ?_
  intro b1 hA1
  refine WP.ld1 tysOk rfl rfl rfl rfl rfl rfl rfl rfl rfl (OwS.at0 .head hA1 hj1 rfl) ?_
  refine WP.st tysOk true rfl rfl rfl rfl rfl rfl True.intro ?_
  obtain ⟨hj2, h⟩ := ck_some h
  refine WP.ixO tysOk rfl rfl rfl rfl rfl rfl rfl rfl rfl rfl hf1 hj2 ?_
  intro b2 hA2
  refine WP.ld1 tysOk rfl rfl rfl rfl rfl rfl rfl rfl rfl (OwS.at0 .head hA2 hj2 rfl) ?_
  iterate 2 (refine WP.st tysOk true rfl rfl rfl rfl rfl rfl True.intro ?_)
  refine WP.qend rfl ?_
  obtain ⟨hj3, h⟩ := ck_some h
  obtain ⟨hj4, h⟩ := ck_some h
  obtain ⟨r3, hg3, h⟩ := bind_some h
  refine WP.drawL 15 [(13, [], fun _ => constSpec (.bool (r3)))] rfl (by kernel_rfl) (by kernel_rfl) (by kernel_rfl) ?_
  refine WP.st tysOk true rfl ⟨⟨rfl, rfl⟩, rfl⟩ rfl rfl rfl rfl True.intro ?_
  refine WP.ld1 tysOk rfl ⟨⟨rfl, rfl⟩, rfl⟩ rfl rfl rfl rfl rfl rfl rfl (CellAt.blk (.tail (.tail (.tail (.tail .head)))) rfl) ?_
  refine WP.st tysOk true rfl ⟨⟨rfl, rfl⟩, rfl⟩ rfl rfl rfl rfl True.intro ?_
  refine WP.ld1 tysOk rfl ⟨⟨rfl, rfl⟩, rfl⟩ rfl rfl rfl rfl rfl rfl rfl (CellAt.blk (.tail (.tail (.tail .head))) rfl) ?_
  refine WP.st tysOk true rfl ⟨⟨rfl, rfl⟩, rfl⟩ rfl rfl rfl rfl True.intro ?_
  refine WP.ixA tysOk rfl ⟨⟨rfl, rfl⟩, rfl⟩ rfl rfl rfl rfl rfl rfl rfl rfl hj3 (hs2.ex hj3) ?_
  intro b3 _ hA3
  refine WP.ldm tysOk rfl ⟨⟨rfl, rfl⟩, rfl⟩ rfl rfl rfl rfl rfl rfl rfl (hs2.seg hA3 (Held.mem (List.Mem.tail _ (List.Mem.tail _ (List.Mem.tail _ (List.Mem.tail _ (List.Mem.tail _ (List.Mem.head _))))))) hj3) ?_
  refine WP.st tysOk true rfl ⟨⟨rfl, rfl⟩, rfl⟩ rfl rfl rfl rfl True.intro ?_
  refine WP.ld1 tysOk rfl ⟨⟨rfl, rfl⟩, rfl⟩ rfl rfl rfl rfl rfl rfl rfl (CellAt.blk (.tail (.tail (.tail .head))) rfl) ?_
  refine WP.st tysOk true rfl ⟨⟨rfl, rfl⟩, rfl⟩ rfl rfl rfl rfl True.intro ?_
  refine WP.ixA tysOk rfl ⟨⟨rfl, rfl⟩, rfl⟩ rfl rfl rfl rfl rfl rfl rfl rfl hj4 (hs2.ex hj4) ?_
  intro b4 _ hA4
  refine WP.ldm tysOk rfl ⟨⟨rfl, rfl⟩, rfl⟩ rfl rfl rfl rfl rfl rfl rfl (hs2.seg hA4 (Held.mem (List.Mem.tail _ (List.Mem.tail _ (List.Mem.tail _ (List.Mem.tail _ (List.Mem.tail _ (List.Mem.head _))))))) hj4) ?_
  refine WP.st tysOk true rfl ⟨⟨rfl, rfl⟩, rfl⟩ rfl rfl rfl rfl True.intro ?_
  refine WP.callV rfl rfl rfl rfl rfl rfl rfl (by kernel_rfl) (fun w1 hw1 => (two_fork_1_w hg3  :)) ⟨⟨rfl, rfl⟩, rfl⟩ ?_
  refine WP.st tysOk true rfl ⟨⟨rfl, rfl⟩, rfl⟩ rfl rfl rfl rfl True.intro ?_
  refine WP.lend rfl ⟨rfl, rfl⟩ ?_
  refine WP.cond_n rfl rfl (fun hh3 => ?_) (fun hh3 => ?_)
  · rw [if_neg (bneg hh3)] at h
    iterate 4 (refine WP.st tysOk true rfl True.intro rfl rfl rfl rfl True.intro ?_)
    obtain ⟨r4, hg4, h⟩ := bind_some h
    refine WP.drawL 15 [(13, [], fun _ => constSpec (.bool (r4)))] rfl (by kernel_rfl) (by kernel_rfl) (by kernel_rfl) ?_
    refine WP.st tysOk true rfl ⟨⟨rfl, rfl⟩, rfl⟩ rfl rfl rfl rfl True.intro ?_
    refine WP.ld1 tysOk rfl ⟨⟨rfl, rfl⟩, rfl⟩ rfl rfl rfl rfl rfl rfl rfl (CellAt.blk (.tail (.tail (.tail (.tail .head)))) rfl) ?_
    refine WP.st tysOk true rfl ⟨⟨rfl, rfl⟩, rfl⟩ rfl rfl rfl rfl True.intro ?_
    refine WP.ld1 tysOk rfl ⟨⟨rfl, rfl⟩, rfl⟩ rfl rfl rfl rfl rfl rfl rfl (CellAt.blk (.tail (.tail (.tail .head))) rfl) ?_
    refine WP.st tysOk true rfl ⟨⟨rfl, rfl⟩, rfl⟩ rfl rfl rfl rfl True.intro ?_
    refine WP.ixA tysOk rfl ⟨⟨rfl, rfl⟩, rfl⟩ rfl rfl rfl rfl rfl rfl rfl rfl hj4 (hs2.ex hj4) ?_
    intro b5 _ hA5
    refine WP.ldm tysOk rfl ⟨⟨rfl, rfl⟩, rfl⟩ rfl rfl rfl rfl rfl rfl rfl (hs2.seg hA5 (Held.mem (List.Mem.tail _ (List.Mem.tail _ (List.Mem.tail _ (List.Mem.tail _ (List.Mem.tail _ (List.Mem.head _))))))) hj4) ?_
    refine WP.st tysOk true rfl ⟨⟨rfl, rfl⟩, rfl⟩ rfl rfl rfl rfl True.intro ?_
    refine WP.ld1 tysOk rfl ⟨⟨rfl, rfl⟩, rfl⟩ rfl rfl rfl rfl rfl rfl rfl (CellAt.blk (.tail (.tail (.tail .head))) rfl) ?_
    refine WP.st tysOk true rfl ⟨⟨rfl, rfl⟩, rfl⟩ rfl rfl rfl rfl True.intro ?_
    refine WP.ixA tysOk rfl ⟨⟨rfl, rfl⟩, rfl⟩ rfl rfl rfl rfl rfl rfl rfl rfl hj3 (hs2.ex hj3) ?_
    intro b6 _ hA6
    refine WP.ldm tysOk rfl ⟨⟨rfl, rfl⟩, rfl⟩ rfl rfl rfl rfl rfl rfl rfl (hs2.seg hA6 (Held.mem (List.Mem.tail _ (List.Mem.tail _ (List.Mem.tail _ (List.Mem.tail _ (List.Mem.tail _ (List.Mem.head _))))))) hj3) ?_
    refine WP.st tysOk true rfl ⟨⟨rfl, rfl⟩, rfl⟩ rfl rfl rfl rfl True.intro ?_
    refine WP.callV rfl rfl rfl rfl rfl rfl rfl (by kernel_rfl) (fun w1 hw1 => (two_fork_1_w hg4  :)) ⟨⟨rfl, rfl⟩, rfl⟩ ?_
    refine WP.st tysOk true rfl ⟨⟨rfl, rfl⟩, rfl⟩ rfl rfl rfl rfl True.intro ?_
    refine WP.lend rfl ⟨rfl, rfl⟩ ?_
    refine WP.cond_n rfl rfl (fun hh4 => ?_) (fun hh4 => ?_)
    · rw [if_neg (bneg hh4)] at h
      refine WP.bld (cs := [iv 0, iv 0, iv 0, iv 0, iv 0, iv 0, iv 0, iv 0]) tysOk rfl True.intro rfl rfl rfl rfl rfl rfl rfl ?_
      refine WP.bld (cs := [iv 0, iv 0, iv 0, iv 0, iv 0, iv 0, iv 0, iv 0, iv 0, iv 0, iv 0, iv 0]) tysOk rfl True.intro rfl rfl rfl rfl rfl rfl rfl ?_
      refine WP.sto' tysOk [iv 0, iv 0, iv 0, iv 0, iv 0, iv 0, iv 0, iv 0] rfl rfl rfl rfl rfl rfl rfl rfl rfl (.tail (.tail .head)) rfl rfl ?_
      refine WP.sto' tysOk [iv 0, iv 0, iv 0, iv 0, iv 0, iv 0, iv 0, iv 0, iv 0, iv 0, iv 0, iv 0] rfl rfl rfl rfl rfl rfl rfl rfl rfl (.tail (.tail .head)) rfl rfl ?_
      refine WP.st tysOk true rfl True.intro rfl rfl rfl rfl True.intro ?_
      cases h
      refine WP.retR tysOk rfl rfl ⟨_, _, _, _, rfl, ⟨_, rfl, .inr ⟨rfl, _, rfl, rfl, (SegAt.blk' (z := 8) (.tail .head) rfl).1⟩⟩, ⟨_, _, _, _, rfl, ⟨_, rfl, .inr ⟨rfl, _, rfl, rfl, (SegAt.blk' (z := 12) .head rfl).1⟩⟩, ⟨_, _, rfl, rfl, rfl⟩, rfl⟩, rfl⟩ (fun w1 hw1 => ⟨rfl, Ret.below_ hw1 (.cons (.tail (.tail (.tail (.tail (.tail .head))))) .nil)⟩)
    rw [if_pos hh4] at h
    obtain ⟨hj5, h⟩ := ck_some h
    refine WP.drawL 20 [(19, [], fun _ => blkSpec 70 [iv 0, iv 0, iv 0, iv 0, iv 0, iv 0, iv 0, iv 0, iv 0, iv 0, iv 0, iv 0])] rfl (by kernel_rfl) (by kernel_rfl) (by kernel_rfl) ?_
    refine WP.st tysOk true rfl ⟨⟨rfl, rfl⟩, rfl⟩ rfl rfl rfl rfl True.intro ?_
    refine WP.ld1 tysOk rfl ⟨⟨rfl, rfl⟩, rfl⟩ rfl rfl rfl rfl rfl rfl rfl (CellAt.blk (.tail (.tail (.tail .head))) rfl) ?_
    refine WP.st tysOk true rfl ⟨⟨rfl, rfl⟩, rfl⟩ rfl rfl rfl rfl True.intro ?_
    refine WP.ixA tysOk rfl ⟨⟨rfl, rfl⟩, rfl⟩ rfl rfl rfl rfl rfl rfl rfl rfl hj4 (hs2.ex hj4) ?_
    intro b7 _ hA7
    refine WP.ldm tysOk rfl ⟨⟨rfl, rfl⟩, rfl⟩ rfl rfl rfl rfl rfl rfl rfl (hs2.seg hA7 (Held.mem (List.Mem.tail _ (List.Mem.tail _ (List.Mem.tail _ (List.Mem.tail _ (List.Mem.tail _ (List.Mem.head _))))))) hj4) ?_
    refine WP.bld (cs := [iv ((gt x1.arcs (gt r1 1)).src), iv ((gt x1.arcs (gt r1 1)).dst), iv ((gt x1.arcs (gt r1 1)).low), iv ((gt x1.arcs (gt r1 1)).cap), iv ((gt x1.arcs (gt r1 1)).cost)]) tysOk rfl ⟨⟨rfl, rfl⟩, rfl⟩ rfl rfl rfl rfl rfl rfl rfl ?_
    refine WP.st tysOk true rfl ⟨⟨rfl, rfl⟩, rfl⟩ rfl rfl rfl rfl True.intro ?_
    refine WP.ld1 tysOk rfl ⟨⟨rfl, rfl⟩, rfl⟩ rfl rfl rfl rfl rfl rfl rfl (CellAt.blk (.tail (.tail (.tail .head))) rfl) ?_
    refine WP.st tysOk true rfl ⟨⟨rfl, rfl⟩, rfl⟩ rfl rfl rfl rfl True.intro ?_
    refine WP.ixA tysOk rfl ⟨⟨rfl, rfl⟩, rfl⟩ rfl rfl rfl rfl rfl rfl rfl rfl hj3 (hs2.ex hj3) ?_
    intro b8 _ hA8
    refine WP.ldm tysOk rfl ⟨⟨rfl, rfl⟩, rfl⟩ rfl rfl rfl rfl rfl rfl rfl (hs2.seg hA8 (Held.mem (List.Mem.tail _ (List.Mem.tail _ (List.Mem.tail _ (List.Mem.tail _ (List.Mem.tail _ (List.Mem.head _))))))) hj3) ?_
    refine WP.bld (cs := [iv ((gt x1.arcs (gt r1 0)).src), iv ((gt x1.arcs (gt r1 0)).dst), iv ((gt x1.arcs (gt r1 0)).low), iv ((gt x1.arcs (gt r1 0)).cap), iv ((gt x1.arcs (gt r1 0)).cost)]) tysOk rfl ⟨⟨rfl, rfl⟩, rfl⟩ rfl rfl rfl rfl rfl rfl rfl ?_
    iterate 2 (refine WP.st tysOk true rfl ⟨⟨rfl, rfl⟩, rfl⟩ rfl rfl rfl rfl True.intro ?_)
    refine WP.ld1 tysOk rfl ⟨⟨rfl, rfl⟩, rfl⟩ rfl rfl rfl rfl rfl rfl rfl (CellAt.blk (.tail (.tail (.tail .head))) rfl) ?_
    refine WP.st tysOk true rfl ⟨⟨rfl, rfl⟩, rfl⟩ rfl rfl rfl rfl True.intro ?_
    refine WP.ixA tysOk rfl ⟨⟨rfl, rfl⟩, rfl⟩ rfl rfl rfl rfl rfl rfl rfl rfl hj5 (hs1.ex hj5) ?_
    intro b9 _ hA9
    refine WP.ld1 tysOk rfl ⟨⟨rfl, rfl⟩, rfl⟩ rfl rfl rfl rfl rfl rfl rfl (hs1.at0 hA9 (Held.mem (List.Mem.tail _ (List.Mem.tail _ (List.Mem.tail _ (List.Mem.tail _ (List.Mem.tail _ (List.Mem.head _))))))) hj5 rfl) ?_
    refine WP.bld (cs := [iv ((gt x1.arcs (gt r1 1)).src), iv ((gt x1.arcs (gt r1 1)).dst), iv ((gt x1.arcs (gt r1 1)).low), iv ((gt x1.arcs (gt r1 1)).cap), iv ((gt x1.arcs (gt r1 1)).cost), iv ((gt x1.arcs (gt r1 0)).src), iv ((gt x1.arcs (gt r1 0)).dst), iv ((gt x1.arcs (gt r1 0)).low), iv ((gt x1.arcs (gt r1 0)).cap), iv ((gt x1.arcs (gt r1 0)).cost), iv x2, iv (gt x1.supply x2)]) tysOk rfl ⟨⟨rfl, rfl⟩, rfl⟩ rfl rfl rfl rfl rfl rfl rfl ?_
    refine WP.lal tysOk rfl ⟨rfl, rfl⟩ rfl rfl rfl rfl rfl rfl rfl ?_
    intro g5
    refine WP.lend rfl ⟨rfl, rfl⟩ ?_
    refine WP.sto' tysOk [iv ((gt x1.arcs (gt r1 1)).src), iv ((gt x1.arcs (gt r1 1)).dst), iv ((gt x1.arcs (gt r1 1)).low), iv ((gt x1.arcs (gt r1 1)).cap), iv ((gt x1.arcs (gt r1 1)).cost), iv ((gt x1.arcs (gt r1 0)).src), iv ((gt x1.arcs (gt r1 0)).dst), iv ((gt x1.arcs (gt r1 0)).low), iv ((gt x1.arcs (gt r1 0)).cap), iv ((gt x1.arcs (gt r1 0)).cost), iv x2, iv (gt x1.supply x2)] rfl rfl rfl rfl rfl rfl rfl rfl rfl .head rfl rfl ?_
    refine WP.st tysOk true rfl True.intro rfl rfl rfl rfl True.intro ?_
    refine WP.ld1 tysOk rfl True.intro rfl rfl rfl rfl rfl rfl rfl (CellAt.blk (.tail (.tail (.tail (.tail (.tail .head))))) rfl) ?_
    refine WP.ldm tysOk rfl True.intro rfl rfl rfl rfl rfl rfl rfl (SegAt.blk' .head rfl) ?_
    obtain ⟨r5, hg5, h⟩ := bind_some h
    refine WP.callV rfl rfl rfl rfl rfl rfl rfl (by kernel_rfl) (fun w1 hw1 => (two_pair_split_w hg5  :)) True.intro ?_
    refine WP.al tysOk rfl rfl rfl rfl rfl rfl ?_
    intro g6
    refine WP.sto' tysOk [iv r5.src, iv r5.dst, iv r5.low, iv r5.cap, iv r5.cost] rfl rfl rfl rfl rfl rfl rfl rfl rfl .head rfl rfl ?_
    refine WP.st tysOk true rfl True.intro rfl rfl rfl rfl True.intro ?_
    refine WP.ld1 tysOk rfl True.intro rfl rfl rfl rfl rfl rfl rfl (CellAt.blk .head rfl) ?_
    refine WP.st tysOk true rfl True.intro rfl rfl rfl rfl True.intro ?_
    refine WP.ld1 tysOk rfl True.intro rfl rfl rfl rfl rfl rfl rfl (CellAt.blk .head rfl) ?_
    refine WP.st tysOk true rfl True.intro rfl rfl rfl rfl True.intro ?_
    refine WP.cond_d rfl rfl (fun hh5 => ?_) (fun hh5 => ?_)
    · rw [if_pos hh5] at h
      refine WP.bld (cs := [iv 0, iv 0, iv 0, iv 0, iv 0, iv 0, iv 0, iv 0]) tysOk rfl True.intro rfl rfl rfl rfl rfl rfl rfl ?_
      refine WP.bld (cs := [iv 0, iv 0, iv 0, iv 0, iv 0, iv 0, iv 0, iv 0, iv 0, iv 0, iv 0, iv 0]) tysOk rfl True.intro rfl rfl rfl rfl rfl rfl rfl ?_
      refine WP.sto' tysOk [iv 0, iv 0, iv 0, iv 0, iv 0, iv 0, iv 0, iv 0] rfl rfl rfl rfl rfl rfl rfl rfl rfl (.tail (.tail (.tail (.tail .head)))) rfl rfl ?_
      refine WP.sto' tysOk [iv 0, iv 0, iv 0, iv 0, iv 0, iv 0, iv 0, iv 0, iv 0, iv 0, iv 0, iv 0] rfl rfl rfl rfl rfl rfl rfl rfl rfl (.tail (.tail (.tail (.tail .head)))) rfl rfl ?_
      refine WP.st tysOk true rfl True.intro rfl rfl rfl rfl True.intro ?_
      cases h
      refine WP.retR tysOk rfl rfl ⟨_, _, _, _, rfl, ⟨_, rfl, .inr ⟨rfl, _, rfl, rfl, (SegAt.blk' (z := 8) (.tail .head) rfl).1⟩⟩, ⟨_, _, _, _, rfl, ⟨_, rfl, .inr ⟨rfl, _, rfl, rfl, (SegAt.blk' (z := 12) .head rfl).1⟩⟩, ⟨_, _, rfl, rfl, rfl⟩, rfl⟩, rfl⟩ (fun w1 hw1 => ⟨rfl, Ret.below_ hw1 (.cons (.tail (.tail (.tail (.tail (.tail (.tail (.tail .head))))))) .nil)⟩)
    rw [if_neg hh5] at h
    refine WP.join (α := Unit) (fun _ => True) (fun _ => [(8, .pointer (some ⟨g3, 0, none⟩)), (9, .pointer (some ⟨g4, 0, none⟩)), (10, .bool (true))]) (fun _ => [.blk g4 70 [iv ((gt x1.arcs (gt r1 1)).src), iv ((gt x1.arcs (gt r1 1)).dst), iv ((gt x1.arcs (gt r1 1)).low), iv ((gt x1.arcs (gt r1 1)).cap), iv ((gt x1.arcs (gt r1 1)).cost), iv ((gt x1.arcs (gt r1 0)).src), iv ((gt x1.arcs (gt r1 0)).dst), iv ((gt x1.arcs (gt r1 0)).low), iv ((gt x1.arcs (gt r1 0)).cap), iv ((gt x1.arcs (gt r1 0)).cost), iv x2, iv (gt x1.supply x2)], .blk g3 31 [iv x2, iv (gt r1 1), iv (gt r1 0), iv r5.src, iv r5.dst, iv r5.low, iv r5.cap, iv r5.cost], .blk g6 23 [iv r5.src, iv r5.dst, iv r5.low, iv r5.cap, iv r5.cost], .blk g5 70 [iv ((gt x1.arcs (gt r1 1)).src), iv ((gt x1.arcs (gt r1 1)).dst), iv ((gt x1.arcs (gt r1 1)).low), iv ((gt x1.arcs (gt r1 1)).cap), iv ((gt x1.arcs (gt r1 1)).cost), iv ((gt x1.arcs (gt r1 0)).src), iv ((gt x1.arcs (gt r1 0)).dst), iv ((gt x1.arcs (gt r1 0)).low), iv ((gt x1.arcs (gt r1 0)).cap), iv ((gt x1.arcs (gt r1 0)).cost), iv x2, iv (gt x1.supply x2)], Ow (fI .i64) 3 A3 n1 c3 r1, .blk g2 27 [.slice A1 x1.supply.length c1, .slice A2 x1.arcs.length c2], .blk g1 76 [iv 9, .func (.func 54) #[] #[], .func (.func 55) #[] #[], .func (.func 56) #[] #[]], .fz (PH.of w)]) rfl ?_ ?_
    · refine WP.drawA rfl (by kernel_rfl) ?_
      refine WP.anyP 0 tysOk putInv_body rfl rfl rfl (by kernel_rfl) (by kernel_rfl) rfl rfl rfl rfl rfl True.intro ?_
      refine WP.anyP 1 tysOk putInv_body rfl rfl rfl (by kernel_rfl) (by kernel_rfl) rfl rfl rfl rfl rfl True.intro ?_
      refine WP.anyP 2 tysOk putInv_body rfl rfl rfl (by kernel_rfl) (by kernel_rfl) rfl rfl rfl rfl rfl True.intro ?_
      refine WP.any2 3 5 rfl (by kernel_rfl) rfl rfl ?_ ?_
      · refine WP.ldm tysOk rfl True.intro rfl rfl rfl rfl rfl rfl rfl (SegAt.blk' .head rfl) ?_
        refine WP.any2 4 5 rfl (by kernel_rfl) rfl rfl ?_ ?_
        · refine WP.bld (cs := [iv x2, iv (gt r1 1), iv (gt r1 0), iv r5.src, iv r5.dst, iv r5.low, iv r5.cap, iv r5.cost]) tysOk rfl True.intro rfl rfl rfl rfl rfl rfl rfl ?_
          refine WP.any2 5 6 rfl (by kernel_rfl) rfl rfl ?_ ?_
          · refine WP.ldm tysOk rfl True.intro rfl rfl rfl rfl rfl rfl rfl (SegAt.blk' (.tail .head) rfl) ?_
            refine WP.any1 6 rfl (by kernel_rfl) rfl ?_
            refine WP.sto' tysOk [iv x2, iv (gt r1 1), iv (gt r1 0), iv r5.src, iv r5.dst, iv r5.low, iv r5.cap, iv r5.cost] rfl rfl rfl rfl rfl rfl rfl rfl rfl (.tail (.tail (.tail (.tail .head)))) rfl rfl ?_
            refine WP.any1 7 rfl (by kernel_rfl) rfl ?_
            refine WP.sto' tysOk [iv ((gt x1.arcs (gt r1 1)).src), iv ((gt x1.arcs (gt r1 1)).dst), iv ((gt x1.arcs (gt r1 1)).low), iv ((gt x1.arcs (gt r1 1)).cap), iv ((gt x1.arcs (gt r1 1)).cost), iv ((gt x1.arcs (gt r1 0)).src), iv ((gt x1.arcs (gt r1 0)).dst), iv ((gt x1.arcs (gt r1 0)).low), iv ((gt x1.arcs (gt r1 0)).cap), iv ((gt x1.arcs (gt r1 0)).cost), iv x2, iv (gt x1.supply x2)] rfl rfl rfl rfl rfl rfl rfl rfl rfl (.tail (.tail (.tail (.tail .head)))) rfl rfl ?_
            refine WP.anyP 8 tysOk putInv_body rfl rfl rfl (by kernel_rfl) (by kernel_rfl) rfl rfl rfl rfl rfl True.intro ?_
            refine WP.any0 rfl (by kernel_rfl) ?_
            refine WP.stop rfl () True.intro ?_ ?_
            · repeat (first | exact True.intro | refine And.intro rfl ?_)
            exact (.cons .head (.cons .head (.cons .head (.cons .head (.cons .head (.cons .head (.cons .head (.cons .head .nil))))))))
          refine WP.sto' tysOk [iv x2, iv (gt r1 1), iv (gt r1 0), iv r5.src, iv r5.dst, iv r5.low, iv r5.cap, iv r5.cost] rfl rfl rfl rfl rfl rfl rfl rfl rfl (.tail (.tail (.tail (.tail .head)))) rfl rfl ?_
          refine WP.any1 5 rfl (by kernel_rfl) rfl ?_
          refine WP.ldm tysOk rfl True.intro rfl rfl rfl rfl rfl rfl rfl (SegAt.blk' (.tail (.tail .head)) rfl) ?_
          refine WP.any1 7 rfl (by kernel_rfl) rfl ?_
          refine WP.sto' tysOk [iv ((gt x1.arcs (gt r1 1)).src), iv ((gt x1.arcs (gt r1 1)).dst), iv ((gt x1.arcs (gt r1 1)).low), iv ((gt x1.arcs (gt r1 1)).cap), iv ((gt x1.arcs (gt r1 1)).cost), iv ((gt x1.arcs (gt r1 0)).src), iv ((gt x1.arcs (gt r1 0)).dst), iv ((gt x1.arcs (gt r1 0)).low), iv ((gt x1.arcs (gt r1 0)).cap), iv ((gt x1.arcs (gt r1 0)).cost), iv x2, iv (gt x1.supply x2)] rfl rfl rfl rfl rfl rfl rfl rfl rfl (.tail (.tail (.tail (.tail .head)))) rfl rfl ?_
          refine WP.anyP 8 tysOk putInv_body rfl rfl rfl (by kernel_rfl) (by kernel_rfl) rfl rfl rfl rfl rfl True.intro ?_
          refine WP.any0 rfl (by kernel_rfl) ?_
          refine WP.stop rfl () True.intro ?_ ?_
          · repeat (first | exact True.intro | refine And.intro rfl ?_)
          exact (.cons .head (.cons .head (.cons .head (.cons .head (.cons .head (.cons .head (.cons .head (.cons .head .nil))))))))
        refine WP.ldm tysOk rfl True.intro rfl rfl rfl rfl rfl rfl rfl (SegAt.blk' (.tail .head) rfl) ?_
        refine WP.any1 4 rfl (by kernel_rfl) rfl ?_
        refine WP.bld (cs := [iv x2, iv (gt r1 1), iv (gt r1 0), iv r5.src, iv r5.dst, iv r5.low, iv r5.cap, iv r5.cost]) tysOk rfl True.intro rfl rfl rfl rfl rfl rfl rfl ?_
        refine WP.any1 6 rfl (by kernel_rfl) rfl ?_
        refine WP.sto' tysOk [iv x2, iv (gt r1 1), iv (gt r1 0), iv r5.src, iv r5.dst, iv r5.low, iv r5.cap, iv r5.cost] rfl rfl rfl rfl rfl rfl rfl rfl rfl (.tail (.tail (.tail (.tail .head)))) rfl rfl ?_
        refine WP.any1 7 rfl (by kernel_rfl) rfl ?_
        refine WP.sto' tysOk [iv ((gt x1.arcs (gt r1 1)).src), iv ((gt x1.arcs (gt r1 1)).dst), iv ((gt x1.arcs (gt r1 1)).low), iv ((gt x1.arcs (gt r1 1)).cap), iv ((gt x1.arcs (gt r1 1)).cost), iv ((gt x1.arcs (gt r1 0)).src), iv ((gt x1.arcs (gt r1 0)).dst), iv ((gt x1.arcs (gt r1 0)).low), iv ((gt x1.arcs (gt r1 0)).cap), iv ((gt x1.arcs (gt r1 0)).cost), iv x2, iv (gt x1.supply x2)] rfl rfl rfl rfl rfl rfl rfl rfl rfl (.tail (.tail (.tail (.tail .head)))) rfl rfl ?_
        refine WP.anyP 8 tysOk putInv_body rfl rfl rfl (by kernel_rfl) (by kernel_rfl) rfl rfl rfl rfl rfl True.intro ?_
        refine WP.any0 rfl (by kernel_rfl) ?_
        refine WP.stop rfl () True.intro ?_ ?_
        · repeat (first | exact True.intro | refine And.intro rfl ?_)
        exact (.cons .head (.cons .head (.cons .head (.cons .head (.cons .head (.cons .head (.cons .head (.cons .head .nil))))))))
      refine WP.ldm tysOk rfl True.intro rfl rfl rfl rfl rfl rfl rfl (SegAt.blk' (.tail .head) rfl) ?_
      refine WP.any1 3 rfl (by kernel_rfl) rfl ?_
      refine WP.ldm tysOk rfl True.intro rfl rfl rfl rfl rfl rfl rfl (SegAt.blk' .head rfl) ?_
      refine WP.any1 4 rfl (by kernel_rfl) rfl ?_
      refine WP.bld (cs := [iv x2, iv (gt r1 1), iv (gt r1 0), iv r5.src, iv r5.dst, iv r5.low, iv r5.cap, iv r5.cost]) tysOk rfl True.intro rfl rfl rfl rfl rfl rfl rfl ?_
      refine WP.any1 6 rfl (by kernel_rfl) rfl ?_
      refine WP.sto' tysOk [iv x2, iv (gt r1 1), iv (gt r1 0), iv r5.src, iv r5.dst, iv r5.low, iv r5.cap, iv r5.cost] rfl rfl rfl rfl rfl rfl rfl rfl rfl (.tail (.tail (.tail (.tail .head)))) rfl rfl ?_
      refine WP.any1 7 rfl (by kernel_rfl) rfl ?_
      refine WP.sto' tysOk [iv ((gt x1.arcs (gt r1 1)).src), iv ((gt x1.arcs (gt r1 1)).dst), iv ((gt x1.arcs (gt r1 1)).low), iv ((gt x1.arcs (gt r1 1)).cap), iv ((gt x1.arcs (gt r1 1)).cost), iv ((gt x1.arcs (gt r1 0)).src), iv ((gt x1.arcs (gt r1 0)).dst), iv ((gt x1.arcs (gt r1 0)).low), iv ((gt x1.arcs (gt r1 0)).cap), iv ((gt x1.arcs (gt r1 0)).cost), iv x2, iv (gt x1.supply x2)] rfl rfl rfl rfl rfl rfl rfl rfl rfl (.tail (.tail (.tail (.tail .head)))) rfl rfl ?_
      refine WP.anyP 8 tysOk putInv_body rfl rfl rfl (by kernel_rfl) (by kernel_rfl) rfl rfl rfl rfl rfl True.intro ?_
      refine WP.any0 rfl (by kernel_rfl) ?_
      refine WP.stop rfl () True.intro ?_ ?_
      · repeat (first | exact True.intro | refine And.intro rfl ?_)
      exact (.cons .head (.cons .head (.cons .head (.cons .head (.cons .head (.cons .head (.cons .head (.cons .head .nil))))))))
    intro _ _
    cases h
    refine WP.retR tysOk rfl rfl ⟨_, _, _, _, rfl, ⟨_, rfl, .inr ⟨rfl, _, rfl, rfl, (SegAt.blk' (z := 8) (.tail .head) rfl).1⟩⟩, ⟨_, _, _, _, rfl, ⟨_, rfl, .inr ⟨rfl, _, rfl, rfl, (SegAt.blk' (z := 12) .head rfl).1⟩⟩, ⟨_, _, rfl, rfl, rfl⟩, rfl⟩, rfl⟩ (fun w1 hw1 => ⟨rfl, Ret.below_ hw1 (.cons (.tail (.tail (.tail (.tail (.tail (.tail (.tail .head))))))) .nil)⟩)
  rw [if_pos hh3] at h
  obtain ⟨r6, hg6, h⟩ := bind_some h
  refine WP.drawL 15 [(13, [], fun _ => constSpec (.bool (r6)))] rfl (by kernel_rfl) (by kernel_rfl) (by kernel_rfl) ?_
  refine WP.st tysOk true rfl ⟨⟨rfl, rfl⟩, rfl⟩ rfl rfl rfl rfl True.intro ?_
  refine WP.ld1 tysOk rfl ⟨⟨rfl, rfl⟩, rfl⟩ rfl rfl rfl rfl rfl rfl rfl (CellAt.blk (.tail (.tail (.tail (.tail .head)))) rfl) ?_
  refine WP.st tysOk true rfl ⟨⟨rfl, rfl⟩, rfl⟩ rfl rfl rfl rfl True.intro ?_
  refine WP.ld1 tysOk rfl ⟨⟨rfl, rfl⟩, rfl⟩ rfl rfl rfl rfl rfl rfl rfl (CellAt.blk (.tail (.tail (.tail .head))) rfl) ?_
  refine WP.st tysOk true rfl ⟨⟨rfl, rfl⟩, rfl⟩ rfl rfl rfl rfl True.intro ?_
  refine WP.ixA tysOk rfl ⟨⟨rfl, rfl⟩, rfl⟩ rfl rfl rfl rfl rfl rfl rfl rfl hj3 (hs2.ex hj3) ?_
  intro b10 _ hA10
  refine WP.ldm tysOk rfl ⟨⟨rfl, rfl⟩, rfl⟩ rfl rfl rfl rfl rfl rfl rfl (hs2.seg hA10 (Held.mem (List.Mem.tail _ (List.Mem.tail _ (List.Mem.tail _ (List.Mem.tail _ (List.Mem.tail _ (List.Mem.head _))))))) hj3) ?_
  refine WP.st tysOk true rfl ⟨⟨rfl, rfl⟩, rfl⟩ rfl rfl rfl rfl True.intro ?_
  refine WP.ld1 tysOk rfl ⟨⟨rfl, rfl⟩, rfl⟩ rfl rfl rfl rfl rfl rfl rfl (CellAt.blk (.tail (.tail (.tail .head))) rfl) ?_
  refine WP.st tysOk true rfl ⟨⟨rfl, rfl⟩, rfl⟩ rfl rfl rfl rfl True.intro ?_
  refine WP.ixA tysOk rfl ⟨⟨rfl, rfl⟩, rfl⟩ rfl rfl rfl rfl rfl rfl rfl rfl hj4 (hs2.ex hj4) ?_
  intro b11 _ hA11
  refine WP.ldm tysOk rfl ⟨⟨rfl, rfl⟩, rfl⟩ rfl rfl rfl rfl rfl rfl rfl (hs2.seg hA11 (Held.mem (List.Mem.tail _ (List.Mem.tail _ (List.Mem.tail _ (List.Mem.tail _ (List.Mem.tail _ (List.Mem.head _))))))) hj4) ?_
  refine WP.st tysOk true rfl ⟨⟨rfl, rfl⟩, rfl⟩ rfl rfl rfl rfl True.intro ?_
  refine WP.callV rfl rfl rfl rfl rfl rfl rfl (by kernel_rfl) (fun w1 hw1 => (two_fork_1_w hg6  :)) ⟨⟨rfl, rfl⟩, rfl⟩ ?_
  refine WP.st tysOk true rfl ⟨⟨rfl, rfl⟩, rfl⟩ rfl rfl rfl rfl True.intro ?_
  refine WP.lend rfl ⟨rfl, rfl⟩ ?_
  refine WP.cond_n rfl rfl (fun hh6 => ?_) (fun hh6 => ?_)
  · rw [if_neg (bneg hh6)] at h
    refine WP.bld (cs := [iv 0, iv 0, iv 0, iv 0, iv 0, iv 0, iv 0, iv 0]) tysOk rfl True.intro rfl rfl rfl rfl rfl rfl rfl ?_
    refine WP.bld (cs := [iv 0, iv 0, iv 0, iv 0, iv 0, iv 0, iv 0, iv 0, iv 0, iv 0, iv 0, iv 0]) tysOk rfl True.intro rfl rfl rfl rfl rfl rfl rfl ?_
    refine WP.sto' tysOk [iv 0, iv 0, iv 0, iv 0, iv 0, iv 0, iv 0, iv 0] rfl rfl rfl rfl rfl rfl rfl rfl rfl (.tail (.tail .head)) rfl rfl ?_
    refine WP.sto' tysOk [iv 0, iv 0, iv 0, iv 0, iv 0, iv 0, iv 0, iv 0, iv 0, iv 0, iv 0, iv 0] rfl rfl rfl rfl rfl rfl rfl rfl rfl (.tail (.tail .head)) rfl rfl ?_
    refine WP.st tysOk true rfl True.intro rfl rfl rfl rfl True.intro ?_
    cases h
    refine WP.retR tysOk rfl rfl ⟨_, _, _, _, rfl, ⟨_, rfl, .inr ⟨rfl, _, rfl, rfl, (SegAt.blk' (z := 8) (.tail .head) rfl).1⟩⟩, ⟨_, _, _, _, rfl, ⟨_, rfl, .inr ⟨rfl, _, rfl, rfl, (SegAt.blk' (z := 12) .head rfl).1⟩⟩, ⟨_, _, rfl, rfl, rfl⟩, rfl⟩, rfl⟩ (fun w1 hw1 => ⟨rfl, Ret.below_ hw1 (.cons (.tail (.tail (.tail (.tail (.tail .head))))) .nil)⟩)
  rw [if_pos hh6] at h
  obtain ⟨hj6, h⟩ := ck_some h
  refine WP.drawL 20 [(19, [], fun _ => blkSpec 70 [iv 0, iv 0, iv 0, iv 0, iv 0, iv 0, iv 0, iv 0, iv 0, iv 0, iv 0, iv 0])] rfl (by kernel_rfl) (by kernel_rfl) (by kernel_rfl) ?_
  refine WP.st tysOk true rfl ⟨⟨rfl, rfl⟩, rfl⟩ rfl rfl rfl rfl True.intro ?_
  refine WP.ld1 tysOk rfl ⟨⟨rfl, rfl⟩, rfl⟩ rfl rfl rfl rfl rfl rfl rfl (CellAt.blk (.tail (.tail (.tail .head))) rfl) ?_
  refine WP.st tysOk true rfl ⟨⟨rfl, rfl⟩, rfl⟩ rfl rfl rfl rfl True.intro ?_
  refine WP.ixA tysOk rfl ⟨⟨rfl, rfl⟩, rfl⟩ rfl rfl rfl rfl rfl rfl rfl rfl hj3 (hs2.ex hj3) ?_
  intro b12 _ hA12
  refine WP.ldm tysOk rfl ⟨⟨rfl, rfl⟩, rfl⟩ rfl rfl rfl rfl rfl rfl rfl (hs2.seg hA12 (Held.mem (List.Mem.tail _ (List.Mem.tail _ (List.Mem.tail _ (List.Mem.tail _ (List.Mem.tail _ (List.Mem.head _))))))) hj3) ?_
  refine WP.bld (cs := [iv ((gt x1.arcs (gt r1 0)).src), iv ((gt x1.arcs (gt r1 0)).dst), iv ((gt x1.arcs (gt r1 0)).low), iv ((gt x1.arcs (gt r1 0)).cap), iv ((gt x1.arcs (gt r1 0)).cost)]) tysOk rfl ⟨⟨rfl, rfl⟩, rfl⟩ rfl rfl rfl rfl rfl rfl rfl ?_
  refine WP.st tysOk true rfl ⟨⟨rfl, rfl⟩, rfl⟩ rfl rfl rfl rfl True.intro ?_
  refine WP.ld1 tysOk rfl ⟨⟨rfl, rfl⟩, rfl⟩ rfl rfl rfl rfl rfl rfl rfl (CellAt.blk (.tail (.tail (.tail .head))) rfl) ?_
  refine WP.st tysOk true rfl ⟨⟨rfl, rfl⟩, rfl⟩ rfl rfl rfl rfl True.intro ?_
  refine WP.ixA tysOk rfl ⟨⟨rfl, rfl⟩, rfl⟩ rfl rfl rfl rfl rfl rfl rfl rfl hj4 (hs2.ex hj4) ?_
  intro b13 _ hA13
  refine WP.ldm tysOk rfl ⟨⟨rfl, rfl⟩, rfl⟩ rfl rfl rfl rfl rfl rfl rfl (hs2.seg hA13 (Held.mem (List.Mem.tail _ (List.Mem.tail _ (List.Mem.tail _ (List.Mem.tail _ (List.Mem.tail _ (List.Mem.head _))))))) hj4) ?_
  refine WP.bld (cs := [iv ((gt x1.arcs (gt r1 1)).src), iv ((gt x1.arcs (gt r1 1)).dst), iv ((gt x1.arcs (gt r1 1)).low), iv ((gt x1.arcs (gt r1 1)).cap), iv ((gt x1.arcs (gt r1 1)).cost)]) tysOk rfl ⟨⟨rfl, rfl⟩, rfl⟩ rfl rfl rfl rfl rfl rfl rfl ?_
  iterate 2 (refine WP.st tysOk true rfl ⟨⟨rfl, rfl⟩, rfl⟩ rfl rfl rfl rfl True.intro ?_)
  refine WP.ld1 tysOk rfl ⟨⟨rfl, rfl⟩, rfl⟩ rfl rfl rfl rfl rfl rfl rfl (CellAt.blk (.tail (.tail (.tail .head))) rfl) ?_
  refine WP.st tysOk true rfl ⟨⟨rfl, rfl⟩, rfl⟩ rfl rfl rfl rfl True.intro ?_
  refine WP.ixA tysOk rfl ⟨⟨rfl, rfl⟩, rfl⟩ rfl rfl rfl rfl rfl rfl rfl rfl hj6 (hs1.ex hj6) ?_
  intro b14 _ hA14
  refine WP.ld1 tysOk rfl ⟨⟨rfl, rfl⟩, rfl⟩ rfl rfl rfl rfl rfl rfl rfl (hs1.at0 hA14 (Held.mem (List.Mem.tail _ (List.Mem.tail _ (List.Mem.tail _ (List.Mem.tail _ (List.Mem.tail _ (List.Mem.head _))))))) hj6 rfl) ?_
  refine WP.bld (cs := [iv ((gt x1.arcs (gt r1 0)).src), iv ((gt x1.arcs (gt r1 0)).dst), iv ((gt x1.arcs (gt r1 0)).low), iv ((gt x1.arcs (gt r1 0)).cap), iv ((gt x1.arcs (gt r1 0)).cost), iv ((gt x1.arcs (gt r1 1)).src), iv ((gt x1.arcs (gt r1 1)).dst), iv ((gt x1.arcs (gt r1 1)).low), iv ((gt x1.arcs (gt r1 1)).cap), iv ((gt x1.arcs (gt r1 1)).cost), iv x2, iv (gt x1.supply x2)]) tysOk rfl ⟨⟨rfl, rfl⟩, rfl⟩ rfl rfl rfl rfl rfl rfl rfl ?_
  refine WP.lal tysOk rfl ⟨rfl, rfl⟩ rfl rfl rfl rfl rfl rfl rfl ?_
  intro g7
  refine WP.lend rfl ⟨rfl, rfl⟩ ?_
  refine WP.sto' tysOk [iv ((gt x1.arcs (gt r1 0)).src), iv ((gt x1.arcs (gt r1 0)).dst), iv ((gt x1.arcs (gt r1 0)).low), iv ((gt x1.arcs (gt r1 0)).cap), iv ((gt x1.arcs (gt r1 0)).cost), iv ((gt x1.arcs (gt r1 1)).src), iv ((gt x1.arcs (gt r1 1)).dst), iv ((gt x1.arcs (gt r1 1)).low), iv ((gt x1.arcs (gt r1 1)).cap), iv ((gt x1.arcs (gt r1 1)).cost), iv x2, iv (gt x1.supply x2)] rfl rfl rfl rfl rfl rfl rfl rfl rfl .head rfl rfl ?_
  refine WP.st tysOk true rfl True.intro rfl rfl rfl rfl True.intro ?_
  refine WP.ld1 tysOk rfl True.intro rfl rfl rfl rfl rfl rfl rfl (CellAt.blk (.tail (.tail (.tail (.tail (.tail .head))))) rfl) ?_
  refine WP.ldm tysOk rfl True.intro rfl rfl rfl rfl rfl rfl rfl (SegAt.blk' .head rfl) ?_
  obtain ⟨r7, hg7, h⟩ := bind_some h
  refine WP.callV rfl rfl rfl rfl rfl rfl rfl (by kernel_rfl) (fun w1 hw1 => (two_pair_split_w hg7  :)) True.intro ?_
  refine WP.al tysOk rfl rfl rfl rfl rfl rfl ?_
  intro g8
  refine WP.sto' tysOk [iv r7.src, iv r7.dst, iv r7.low, iv r7.cap, iv r7.cost] rfl rfl rfl rfl rfl rfl rfl rfl rfl .head rfl rfl ?_
  refine WP.st tysOk true rfl True.intro rfl rfl rfl rfl True.intro ?_
  refine WP.ld1 tysOk rfl True.intro rfl rfl rfl rfl rfl rfl rfl (CellAt.blk .head rfl) ?_
  refine WP.st tysOk true rfl True.intro rfl rfl rfl rfl True.intro ?_
  refine WP.ld1 tysOk rfl True.intro rfl rfl rfl rfl rfl rfl rfl (CellAt.blk .head rfl) ?_
  refine WP.st tysOk true rfl True.intro rfl rfl rfl rfl True.intro ?_
  refine WP.cond_d rfl rfl (fun hh7 => ?_) (fun hh7 => ?_)
  · rw [if_pos hh7] at h
    refine WP.bld (cs := [iv 0, iv 0, iv 0, iv 0, iv 0, iv 0, iv 0, iv 0]) tysOk rfl True.intro rfl rfl rfl rfl rfl rfl rfl ?_
    refine WP.bld (cs := [iv 0, iv 0, iv 0, iv 0, iv 0, iv 0, iv 0, iv 0, iv 0, iv 0, iv 0, iv 0]) tysOk rfl True.intro rfl rfl rfl rfl rfl rfl rfl ?_
    refine WP.sto' tysOk [iv 0, iv 0, iv 0, iv 0, iv 0, iv 0, iv 0, iv 0] rfl rfl rfl rfl rfl rfl rfl rfl rfl (.tail (.tail (.tail (.tail .head)))) rfl rfl ?_
    refine WP.sto' tysOk [iv 0, iv 0, iv 0, iv 0, iv 0, iv 0, iv 0, iv 0, iv 0, iv 0, iv 0, iv 0] rfl rfl rfl rfl rfl rfl rfl rfl rfl (.tail (.tail (.tail (.tail .head)))) rfl rfl ?_
    refine WP.st tysOk true rfl True.intro rfl rfl rfl rfl True.intro ?_
    cases h
    refine WP.retR tysOk rfl rfl ⟨_, _, _, _, rfl, ⟨_, rfl, .inr ⟨rfl, _, rfl, rfl, (SegAt.blk' (z := 8) (.tail .head) rfl).1⟩⟩, ⟨_, _, _, _, rfl, ⟨_, rfl, .inr ⟨rfl, _, rfl, rfl, (SegAt.blk' (z := 12) .head rfl).1⟩⟩, ⟨_, _, rfl, rfl, rfl⟩, rfl⟩, rfl⟩ (fun w1 hw1 => ⟨rfl, Ret.below_ hw1 (.cons (.tail (.tail (.tail (.tail (.tail (.tail (.tail .head))))))) .nil)⟩)
  rw [if_neg hh7] at h
  refine WP.join (α := Unit) (fun _ => True) (fun _ => [(8, .pointer (some ⟨g3, 0, none⟩)), (9, .pointer (some ⟨g4, 0, none⟩)), (10, .bool (true))]) (fun _ => [.blk g4 70 [iv ((gt x1.arcs (gt r1 0)).src), iv ((gt x1.arcs (gt r1 0)).dst), iv ((gt x1.arcs (gt r1 0)).low), iv ((gt x1.arcs (gt r1 0)).cap), iv ((gt x1.arcs (gt r1 0)).cost), iv ((gt x1.arcs (gt r1 1)).src), iv ((gt x1.arcs (gt r1 1)).dst), iv ((gt x1.arcs (gt r1 1)).low), iv ((gt x1.arcs (gt r1 1)).cap), iv ((gt x1.arcs (gt r1 1)).cost), iv x2, iv (gt x1.supply x2)], .blk g3 31 [iv x2, iv (gt r1 0), iv (gt r1 1), iv r7.src, iv r7.dst, iv r7.low, iv r7.cap, iv r7.cost], .blk g8 23 [iv r7.src, iv r7.dst, iv r7.low, iv r7.cap, iv r7.cost], .blk g7 70 [iv ((gt x1.arcs (gt r1 0)).src), iv ((gt x1.arcs (gt r1 0)).dst), iv ((gt x1.arcs (gt r1 0)).low), iv ((gt x1.arcs (gt r1 0)).cap), iv ((gt x1.arcs (gt r1 0)).cost), iv ((gt x1.arcs (gt r1 1)).src), iv ((gt x1.arcs (gt r1 1)).dst), iv ((gt x1.arcs (gt r1 1)).low), iv ((gt x1.arcs (gt r1 1)).cap), iv ((gt x1.arcs (gt r1 1)).cost), iv x2, iv (gt x1.supply x2)], Ow (fI .i64) 3 A3 n1 c3 r1, .blk g2 27 [.slice A1 x1.supply.length c1, .slice A2 x1.arcs.length c2], .blk g1 76 [iv 9, .func (.func 54) #[] #[], .func (.func 55) #[] #[], .func (.func 56) #[] #[]], .fz (PH.of w)]) rfl ?_ ?_
  · refine WP.drawA rfl (by kernel_rfl) ?_
    refine WP.anyP 0 tysOk putInv_body rfl rfl rfl (by kernel_rfl) (by kernel_rfl) rfl rfl rfl rfl rfl True.intro ?_
    refine WP.anyP 1 tysOk putInv_body rfl rfl rfl (by kernel_rfl) (by kernel_rfl) rfl rfl rfl rfl rfl True.intro ?_
    refine WP.anyP 2 tysOk putInv_body rfl rfl rfl (by kernel_rfl) (by kernel_rfl) rfl rfl rfl rfl rfl True.intro ?_
    refine WP.any2 3 5 rfl (by kernel_rfl) rfl rfl ?_ ?_
    · refine WP.ldm tysOk rfl True.intro rfl rfl rfl rfl rfl rfl rfl (SegAt.blk' .head rfl) ?_
      refine WP.any2 4 5 rfl (by kernel_rfl) rfl rfl ?_ ?_
      · refine WP.bld (cs := [iv x2, iv (gt r1 0), iv (gt r1 1), iv r7.src, iv r7.dst, iv r7.low, iv r7.cap, iv r7.cost]) tysOk rfl True.intro rfl rfl rfl rfl rfl rfl rfl ?_
        refine WP.any2 5 6 rfl (by kernel_rfl) rfl rfl ?_ ?_
        · refine WP.ldm tysOk rfl True.intro rfl rfl rfl rfl rfl rfl rfl (SegAt.blk' (.tail .head) rfl) ?_
          refine WP.any1 6 rfl (by kernel_rfl) rfl ?_
          refine WP.sto' tysOk [iv x2, iv (gt r1 0), iv (gt r1 1), iv r7.src, iv r7.dst, iv r7.low, iv r7.cap, iv r7.cost] rfl rfl rfl rfl rfl rfl rfl rfl rfl (.tail (.tail (.tail (.tail .head)))) rfl rfl ?_
          refine WP.any1 7 rfl (by kernel_rfl) rfl ?_
          refine WP.sto' tysOk [iv ((gt x1.arcs (gt r1 0)).src), iv ((gt x1.arcs (gt r1 0)).dst), iv ((gt x1.arcs (gt r1 0)).low), iv ((gt x1.arcs (gt r1 0)).cap), iv ((gt x1.arcs (gt r1 0)).cost), iv ((gt x1.arcs (gt r1 1)).src), iv ((gt x1.arcs (gt r1 1)).dst), iv ((gt x1.arcs (gt r1 1)).low), iv ((gt x1.arcs (gt r1 1)).cap), iv ((gt x1.arcs (gt r1 1)).cost), iv x2, iv (gt x1.supply x2)] rfl rfl rfl rfl rfl rfl rfl rfl rfl (.tail (.tail (.tail (.tail .head)))) rfl rfl ?_
          refine WP.anyP 8 tysOk putInv_body rfl rfl rfl (by kernel_rfl) (by kernel_rfl) rfl rfl rfl rfl rfl True.intro ?_
          refine WP.any0 rfl (by kernel_rfl) ?_
          refine WP.stop rfl () True.intro ?_ ?_
          · repeat (first | exact True.intro | refine And.intro rfl ?_)
          exact (.cons .head (.cons .head (.cons .head (.cons .head (.cons .head (.cons .head (.cons .head (.cons .head .nil))))))))
        refine WP.sto' tysOk [iv x2, iv (gt r1 0), iv (gt r1 1), iv r7.src, iv r7.dst, iv r7.low, iv r7.cap, iv r7.cost] rfl rfl rfl rfl rfl rfl rfl rfl rfl (.tail (.tail (.tail (.tail .head)))) rfl rfl ?_
        refine WP.any1 5 rfl (by kernel_rfl) rfl ?_
        refine WP.ldm tysOk rfl True.intro rfl rfl rfl rfl rfl rfl rfl (SegAt.blk' (.tail (.tail .head)) rfl) ?_
        refine WP.any1 7 rfl (by kernel_rfl) rfl ?_
        refine WP.sto' tysOk [iv ((gt x1.arcs (gt r1 0)).src), iv ((gt x1.arcs (gt r1 0)).dst), iv ((gt x1.arcs (gt r1 0)).low), iv ((gt x1.arcs (gt r1 0)).cap), iv ((gt x1.arcs (gt r1 0)).cost), iv ((gt x1.arcs (gt r1 1)).src), iv ((gt x1.arcs (gt r1 1)).dst), iv ((gt x1.arcs (gt r1 1)).low), iv ((gt x1.arcs (gt r1 1)).cap), iv ((gt x1.arcs (gt r1 1)).cost), iv x2, iv (gt x1.supply x2)] rfl rfl rfl rfl rfl rfl rfl rfl rfl (.tail (.tail (.tail (.tail .head)))) rfl rfl ?_
        refine WP.anyP 8 tysOk putInv_body rfl rfl rfl (by kernel_rfl) (by kernel_rfl) rfl rfl rfl rfl rfl True.intro ?_
        refine WP.any0 rfl (by kernel_rfl) ?_
        refine WP.stop rfl () True.intro ?_ ?_
        · repeat (first | exact True.intro | refine And.intro rfl ?_)
        exact (.cons .head (.cons .head (.cons .head (.cons .head (.cons .head (.cons .head (.cons .head (.cons .head .nil))))))))
      refine WP.ldm tysOk rfl True.intro rfl rfl rfl rfl rfl rfl rfl (SegAt.blk' (.tail .head) rfl) ?_
      refine WP.any1 4 rfl (by kernel_rfl) rfl ?_
      refine WP.bld (cs := [iv x2, iv (gt r1 0), iv (gt r1 1), iv r7.src, iv r7.dst, iv r7.low, iv r7.cap, iv r7.cost]) tysOk rfl True.intro rfl rfl rfl rfl rfl rfl rfl ?_
      refine WP.any1 6 rfl (by kernel_rfl) rfl ?_
      refine WP.sto' tysOk [iv x2, iv (gt r1 0), iv (gt r1 1), iv r7.src, iv r7.dst, iv r7.low, iv r7.cap, iv r7.cost] rfl rfl rfl rfl rfl rfl rfl rfl rfl (.tail (.tail (.tail (.tail .head)))) rfl rfl ?_
      refine WP.any1 7 rfl (by kernel_rfl) rfl ?_
      refine WP.sto' tysOk [iv ((gt x1.arcs (gt r1 0)).src), iv ((gt x1.arcs (gt r1 0)).dst), iv ((gt x1.arcs (gt r1 0)).low), iv ((gt x1.arcs (gt r1 0)).cap), iv ((gt x1.arcs (gt r1 0)).cost), iv ((gt x1.arcs (gt r1 1)).src), iv ((gt x1.arcs (gt r1 1)).dst), iv ((gt x1.arcs (gt r1 1)).low), iv ((gt x1.arcs (gt r1 1)).cap), iv ((gt x1.arcs (gt r1 1)).cost), iv x2, iv (gt x1.supply x2)] rfl rfl rfl rfl rfl rfl rfl rfl rfl (.tail (.tail (.tail (.tail .head)))) rfl rfl ?_
      refine WP.anyP 8 tysOk putInv_body rfl rfl rfl (by kernel_rfl) (by kernel_rfl) rfl rfl rfl rfl rfl True.intro ?_
      refine WP.any0 rfl (by kernel_rfl) ?_
      refine WP.stop rfl () True.intro ?_ ?_
      · repeat (first | exact True.intro | refine And.intro rfl ?_)
      exact (.cons .head (.cons .head (.cons .head (.cons .head (.cons .head (.cons .head (.cons .head (.cons .head .nil))))))))
    refine WP.ldm tysOk rfl True.intro rfl rfl rfl rfl rfl rfl rfl (SegAt.blk' (.tail .head) rfl) ?_
    refine WP.any1 3 rfl (by kernel_rfl) rfl ?_
    refine WP.ldm tysOk rfl True.intro rfl rfl rfl rfl rfl rfl rfl (SegAt.blk' .head rfl) ?_
    refine WP.any1 4 rfl (by kernel_rfl) rfl ?_
    refine WP.bld (cs := [iv x2, iv (gt r1 0), iv (gt r1 1), iv r7.src, iv r7.dst, iv r7.low, iv r7.cap, iv r7.cost]) tysOk rfl True.intro rfl rfl rfl rfl rfl rfl rfl ?_
    refine WP.any1 6 rfl (by kernel_rfl) rfl ?_
    refine WP.sto' tysOk [iv x2, iv (gt r1 0), iv (gt r1 1), iv r7.src, iv r7.dst, iv r7.low, iv r7.cap, iv r7.cost] rfl rfl rfl rfl rfl rfl rfl rfl rfl (.tail (.tail (.tail (.tail .head)))) rfl rfl ?_
    refine WP.any1 7 rfl (by kernel_rfl) rfl ?_
    refine WP.sto' tysOk [iv ((gt x1.arcs (gt r1 0)).src), iv ((gt x1.arcs (gt r1 0)).dst), iv ((gt x1.arcs (gt r1 0)).low), iv ((gt x1.arcs (gt r1 0)).cap), iv ((gt x1.arcs (gt r1 0)).cost), iv ((gt x1.arcs (gt r1 1)).src), iv ((gt x1.arcs (gt r1 1)).dst), iv ((gt x1.arcs (gt r1 1)).low), iv ((gt x1.arcs (gt r1 1)).cap), iv ((gt x1.arcs (gt r1 1)).cost), iv x2, iv (gt x1.supply x2)] rfl rfl rfl rfl rfl rfl rfl rfl rfl (.tail (.tail (.tail (.tail .head)))) rfl rfl ?_
    refine WP.anyP 8 tysOk putInv_body rfl rfl rfl (by kernel_rfl) (by kernel_rfl) rfl rfl rfl rfl rfl True.intro ?_
    refine WP.any0 rfl (by kernel_rfl) ?_
    refine WP.stop rfl () True.intro ?_ ?_
    · repeat (first | exact True.intro | refine And.intro rfl ?_)
    exact (.cons .head (.cons .head (.cons .head (.cons .head (.cons .head (.cons .head (.cons .head (.cons .head .nil))))))))
  intro _ _
  cases h
  refine WP.retR tysOk rfl rfl ⟨_, _, _, _, rfl, ⟨_, rfl, .inr ⟨rfl, _, rfl, rfl, (SegAt.blk' (z := 8) (.tail .head) rfl).1⟩⟩, ⟨_, _, _, _, rfl, ⟨_, rfl, .inr ⟨rfl, _, rfl, rfl, (SegAt.blk' (z := 12) .head rfl).1⟩⟩, ⟨_, _, rfl, rfl, rfl⟩, rfl⟩, rfl⟩ (fun w1 hw1 => ⟨rfl, Ret.below_ hw1 (.cons (.tail (.tail (.tail (.tail (.tail (.tail (.tail .head))))))) .nil)⟩)

abbrev two_shape_run_2_S (r : Step × Int) : Value → Heap → Prop := fun v L => ∃ (A1 : Option Addr) (n1 c1 : Nat) (A2 : Option Addr) (n2 c2 : Nat) (A3 : Option Addr) (n3 c3 : Nat) (A4 : Option Addr) (n4 c4 : Nat), v = .tuple #[.agg #[.slice A1 n1 c1, .slice A2 n2 c2, iv r.1.rcd.pass, .slice A3 n3 c3, .slice A4 n4 c4, iv r.1.off.hi, .int .u64 (r.1.off.lo), .bool (r.1.did)], .int .u16 (r.2)] ∧ OwF A1 n1 r.1.inst.supply ∧ OwF A2 n2 r.1.inst.arcs ∧ OwF A3 n3 r.1.rcd.was.supply ∧ OwF A4 n4 r.1.rcd.was.arcs ∧ L = [Ow (fI .i64) 2 A1 n1 c1 r.1.inst.supply, Ow fA 23 A2 n2 c2 r.1.inst.arcs, Ow (fI .i64) 2 A3 n3 c3 r.1.rcd.was.supply, Ow fA 23 A4 n4 c4 r.1.rcd.was.arcs]
set_option maxRecDepth 20000 in
set_option maxHeartbeats 8000000 in
theorem two_shape_run_2_w {w : World} {v0 : Value} {i1 : Inst} {r : Step × Int} (h : two_shape_run_2 i1 = some r) (p1 : InsZ (PH.of w) v0 i1) :
    Calls Try.prog 31 #[.agg #[iv 9, .func (.func 54) #[] #[], .func (.func 55) #[] #[], .func (.func 56) #[] #[]], v0] w fun e w' => ∃ v L, e = .returned v ∧ two_shape_run_2_S r v L ∧ Ret w w' L := by
  obtain ⟨A1, c1, A2, c2, rfl, hs1, hs2⟩ := p1
  unfold two_shape_run_2 at h
  refine enter_ Try.func31 rfl Try.ntmps31 rfl ?_
  refine WP.box rfl rfl rfl rfl rfl rfl ?_
  intro g1
  refine WP.box rfl rfl rfl rfl rfl rfl ?_
  intro g2
  refine WP.al tysOk rfl rfl rfl rfl rfl rfl ?_
  intro g3
  refine WP.st tysOk true rfl True.intro rfl rfl rfl rfl True.intro ?_
  refine WP.ldm tysOk rfl True.intro rfl rfl rfl rfl rfl rfl rfl (SegAt.blk' (.tail .head) rfl) ?_
  obtain ⟨r1, hg1, h⟩ := bind_some h
  refine WP.callV rfl rfl rfl rfl rfl rfl rfl (by kernel_rfl) (fun w1 hw1 => (inst_Right_w hg1 (InsZ.mk_ ((hs1.le' ((Held.mem (List.Mem.tail _ (List.Mem.tail _ (List.Mem.tail _ (List.Mem.head _))))) _ _ hw1)).of) ((hs2.le' ((Held.mem (List.Mem.tail _ (List.Mem.tail _ (List.Mem.tail _ (List.Mem.head _))))) _ _ hw1)).of)) :)) True.intro ?_
  iterate 3 (refine WP.st tysOk true rfl True.intro rfl rfl rfl rfl True.intro ?_)
  refine WP.cond_d rfl rfl (fun hh1 => ?_) (fun hh1 => ?_)
  · rw [if_pos hh1] at h
    refine WP.bld (cs := [.slice none 0 0, .slice none 0 0, iv 0, .slice none 0 0, .slice none 0 0, iv 0, .int .u64 (0), .bool (false)]) tysOk rfl True.intro rfl rfl rfl rfl rfl rfl rfl ?_
    refine WP.st tysOk true rfl True.intro rfl rfl rfl rfl True.intro ?_
    refine WP.sto' tysOk [.slice none 0 0, .slice none 0 0, iv 0, .slice none 0 0, .slice none 0 0, iv 0, .int .u64 (0), .bool (false)] rfl rfl rfl rfl rfl rfl rfl rfl rfl .head rfl rfl ?_
    refine WP.st tysOk true rfl True.intro rfl rfl rfl rfl True.intro ?_
    cases h
    refine WP.own_nil 2 (fI .i64).z ?_
    refine WP.own_nil 23 fA.z ?_
    refine WP.own_nil 2 (fI .i64).z ?_
    refine WP.own_nil 23 fA.z ?_
    refine WP.retR tysOk rfl rfl ⟨_, _, _, _, rfl, ⟨_, rfl, .inr ⟨rfl, _, rfl, rfl, (SegAt.blk' (z := 8) (.tail (.tail (.tail (.tail .head)))) rfl).1⟩⟩, ⟨_, _, rfl, rfl, rfl⟩, rfl⟩ (fun w1 hw1 => ⟨_, _, rfl, ⟨none, 0, 0, none, 0, 0, none, 0, 0, none, 0, 0, rfl, OwF.nil_, OwF.nil_, OwF.nil_, OwF.nil_, rfl⟩, Ret.of_KH hw1 (.cons (.tail (.tail (.tail .head))) (.cons (.tail (.tail .head)) (.cons (.tail .head) (.cons .head (.cons (.tail (.tail (.tail .head))) .nil)))))⟩)
  rw [if_neg hh1] at h
  refine WP.ldm tysOk rfl True.intro rfl rfl rfl rfl rfl rfl rfl (SegAt.blk' (.tail .head) rfl) ?_
  obtain ⟨r2, hg2, h⟩ := bind_some h
  refine WP.callS (inst_Copy_S r2) rfl rfl rfl rfl rfl rfl rfl (by kernel_rfl) (fun w1 hw1 => (inst_Copy_w hg2 (InsZ.mk_ ((hs1.le' ((Held.mem (List.Mem.tail _ (List.Mem.tail _ (List.Mem.tail _ (List.Mem.head _))))) _ _ hw1)).of) ((hs2.le' ((Held.mem (List.Mem.tail _ (List.Mem.tail _ (List.Mem.tail _ (List.Mem.head _))))) _ _ hw1)).of)) :)) ?_
  rintro _ _ ⟨A3, n1, c3, A4, n2, c4, rfl, hf1, hf2, rfl⟩
  refine WP.al tysOk rfl rfl rfl rfl rfl rfl ?_
  intro g4
  refine WP.sto' tysOk [.slice A3 n1 c3, .slice A4 n2 c4] rfl rfl rfl rfl rfl rfl rfl rfl rfl .head rfl rfl ?_
  refine WP.ldm tysOk rfl True.intro rfl rfl rfl rfl rfl rfl rfl (SegAt.blk' (.tail (.tail (.tail (.tail .head)))) rfl) ?_
  obtain ⟨r3, hg3, h⟩ := bind_some h
  refine WP.callS (adj_New_S r3) rfl rfl rfl rfl rfl rfl rfl (by kernel_rfl) (fun w1 hw1 => (adj_New_w hg3 (InsZ.mk_ ((hs1.le' ((Held.mem (List.Mem.tail _ (List.Mem.tail _ (List.Mem.tail _ (List.Mem.tail _ (List.Mem.tail _ (List.Mem.tail _ (List.Mem.head _)))))))) _ _ hw1)).of) ((hs2.le' ((Held.mem (List.Mem.tail _ (List.Mem.tail _ (List.Mem.tail _ (List.Mem.tail _ (List.Mem.tail _ (List.Mem.tail _ (List.Mem.head _)))))))) _ _ hw1)).of)) :)) ?_
  rintro vg1 _ ⟨Zn1, hgr1, rfl⟩
  obtain ⟨gg1, rfl⟩ := hgr1.ptr'
  iterate 2 (refine WP.st tysOk true rfl True.intro rfl rfl rfl rfl True.intro ?_)
  refine WP.ld1 tysOk rfl True.intro rfl rfl rfl rfl rfl rfl rfl (CellAt.blk (.tail (.tail (.tail (.tail (.tail .head))))) rfl) ?_
  iterate 2 (refine WP.st tysOk true rfl True.intro rfl rfl rfl rfl True.intro ?_)
  refine WP.loop (α := Nat × Int) (fun x => lp (two_shape_run_2_b1 i1 r2 r3) x.1 x.2 = some r) (fun x => [(2, .pointer (some ⟨g1, 0, none⟩)), (3, .pointer (some ⟨g2, 0, none⟩)), (4, .pointer (some ⟨g3, 0, none⟩)), (7, .pointer (some ⟨g4, 0, none⟩)), (8, .pointer (some ⟨gg1, 0, none⟩)), (27, iv (i1.supply.length : Int)), (28, iv x.2)]) (fun x => [.fz Zn1, .blk g4 27 [.slice A3 n1 c3, .slice A4 n2 c4], Ow (fI .i64) 2 A3 n1 c3 r2.supply, Ow fA 23 A4 n2 c4 r2.arcs, .blk g3 45 [.slice none 0 0, .slice none 0 0, iv 0, .slice none 0 0, .slice none 0 0, iv 0, .int .u64 (0), .bool (false)], .blk g2 27 [.slice A1 i1.supply.length c1, .slice A2 i1.arcs.length c2], .blk g1 76 [iv 9, .func (.func 54) #[] #[], .func (.func 55) #[] #[], .func (.func 56) #[] #[]], .fz (PH.of w)]) (fun x => x.1) rfl (big, 0) h ?_ ?_ ?_
  · repeat (first | exact True.intro | refine And.intro rfl ?_)
  · exact (.cons .head (.cons .head (.cons .head (.cons .head (.cons .head (.cons .head (.cons .head (.cons .head .nil))))))))
  rintro ⟨n11, s2⟩ h
  dsimp only at h ⊢
  rcases n11 with _ | n11
  · exact (lp_no h).elim
  replace h := lp_succ h
  unfold two_shape_run_2_b1 at h
  try dsimp only at h
  refine WP.st tysOk true rfl True.intro rfl rfl rfl rfl True.intro ?_
  refine WP.cond_d rfl rfl (fun hh8 => ?_) (fun hh8 => ?_)
  · rw [if_pos hh8] at h
    iterate 2 (refine WP.st tysOk true rfl True.intro rfl rfl rfl rfl True.intro ?_)
    refine WP.ldm tysOk rfl True.intro rfl rfl rfl rfl rfl rfl rfl (SegAt.blk' (.tail (.tail (.tail (.tail (.tail (.tail .head)))))) rfl) ?_
    refine WP.st tysOk true rfl True.intro rfl rfl rfl rfl True.intro ?_
    refine WP.ldm tysOk rfl True.intro rfl rfl rfl rfl rfl rfl rfl (SegAt.blk' (.tail (.tail (.tail (.tail (.tail .head))))) rfl) ?_
    refine WP.st tysOk true rfl True.intro rfl rfl rfl rfl True.intro ?_
    obtain ⟨r18, hg18, h⟩ := bind_some h
    refine WP.callV rfl rfl rfl rfl rfl rfl rfl (by kernel_rfl) (fun w1 hw1 => (two_shape_at_2_w hg18 (hgr1.le ((Held.mem (List.Mem.head _)) _ _ hw1)) (InsZ.mk_ ((hs1.le' ((Held.mem (List.Mem.tail _ (List.Mem.tail _ (List.Mem.tail _ (List.Mem.tail _ (List.Mem.tail _ (List.Mem.tail _ (List.Mem.tail _ (List.Mem.head _))))))))) _ _ hw1)).of) ((hs2.le' ((Held.mem (List.Mem.tail _ (List.Mem.tail _ (List.Mem.tail _ (List.Mem.tail _ (List.Mem.tail _ (List.Mem.tail _ (List.Mem.tail _ (List.Mem.head _))))))))) _ _ hw1)).of)) :)) True.intro ?_
    iterate 4 (refine WP.st tysOk true rfl True.intro rfl rfl rfl rfl True.intro ?_)
    refine WP.al tysOk rfl rfl rfl rfl rfl rfl ?_
    intro g15
    refine WP.al tysOk rfl rfl rfl rfl rfl rfl ?_
    intro g16
    refine WP.sto' tysOk [iv r18.1.node, iv r18.1.a, iv r18.1.b, iv r18.1.new.src, iv r18.1.new.dst, iv r18.1.new.low, iv r18.1.new.cap, iv r18.1.new.cost] rfl rfl rfl rfl rfl rfl rfl rfl rfl (.tail .head) rfl rfl ?_
    refine WP.sto' tysOk [iv r18.2.1.x.src, iv r18.2.1.x.dst, iv r18.2.1.x.low, iv r18.2.1.x.cap, iv r18.2.1.x.cost, iv r18.2.1.y.src, iv r18.2.1.y.dst, iv r18.2.1.y.low, iv r18.2.1.y.cap, iv r18.2.1.y.cost, iv r18.2.1.n, iv r18.2.1.s] rfl rfl rfl rfl rfl rfl rfl rfl rfl (.tail .head) rfl rfl ?_
    iterate 3 (refine WP.st tysOk true rfl True.intro rfl rfl rfl rfl True.intro ?_)
    refine WP.cond_n rfl rfl (fun hh9 => ?_) (fun hh9 => ?_)
    · rw [if_neg (bneg hh9)] at h
      iterate 2 (refine WP.st tysOk true rfl True.intro rfl rfl rfl rfl True.intro ?_)
      refine WP.stop rfl (n11, w64 (s2 + 1)) ⟨h, Nat.lt_succ_self _⟩ ?_ ?_
      · repeat (first | exact True.intro | refine And.intro rfl ?_)
      exact (.cons (.tail (.tail .head)) (.cons (.tail (.tail .head)) (.cons (.tail (.tail .head)) (.cons (.tail (.tail .head)) (.cons (.tail (.tail .head)) (.cons (.tail (.tail .head)) (.cons (.tail (.tail .head)) (.cons (.tail (.tail .head)) .nil))))))))
    rw [if_pos hh9] at h
    refine WP.ldm tysOk rfl True.intro rfl rfl rfl rfl rfl rfl rfl (SegAt.blk' (.tail (.tail (.tail (.tail (.tail (.tail (.tail .head))))))) rfl) ?_
    obtain ⟨r19, hg19, h⟩ := bind_some h
    refine WP.callS (inst_Copy_S r19) rfl rfl rfl rfl rfl rfl rfl (by kernel_rfl) (fun w1 hw1 => (inst_Copy_w hg19 (InsZ.mk_ ((hs1.le' ((Held.mem (List.Mem.tail _ (List.Mem.tail _ (List.Mem.tail _ (List.Mem.tail _ (List.Mem.tail _ (List.Mem.tail _ (List.Mem.tail _ (List.Mem.tail _ (List.Mem.tail _ (List.Mem.head _))))))))))) _ _ hw1)).of) ((hs2.le' ((Held.mem (List.Mem.tail _ (List.Mem.tail _ (List.Mem.tail _ (List.Mem.tail _ (List.Mem.tail _ (List.Mem.tail _ (List.Mem.tail _ (List.Mem.tail _ (List.Mem.tail _ (List.Mem.head _))))))))))) _ _ hw1)).of)) :)) ?_
    rintro _ _ ⟨A15, n12, c15, A16, n13, c16, rfl, hf21, hf22, rfl⟩
    refine WP.al tysOk rfl rfl rfl rfl rfl rfl ?_
    intro g17
    refine WP.sto' tysOk [.slice A15 n12 c15, .slice A16 n13 c16] rfl rfl rfl rfl rfl rfl rfl rfl rfl .head rfl rfl ?_
    obtain ⟨r20, hg20, h⟩ := bind_some h
    obtain ⟨hj5, h⟩ := ck_some h
    refine WP.drawL 13 [(6, [], fun _ => constSpec (iv r20))] rfl (by kernel_rfl) (by kernel_rfl) (by kernel_rfl) ?_
    refine WP.st tysOk true rfl ⟨⟨rfl, rfl⟩, rfl⟩ rfl rfl rfl rfl True.intro ?_
    refine WP.ld1 tysOk rfl ⟨⟨rfl, rfl⟩, rfl⟩ rfl rfl rfl rfl rfl rfl rfl (CellAt.blk .head rfl) ?_
    iterate 2 (refine WP.st tysOk true rfl ⟨⟨rfl, rfl⟩, rfl⟩ rfl rfl rfl rfl True.intro ?_)
    refine WP.ld1 tysOk rfl ⟨⟨rfl, rfl⟩, rfl⟩ rfl rfl rfl rfl rfl rfl rfl (CellAt.blk (.tail (.tail (.tail (.tail .head)))) rfl) ?_
    refine WP.st tysOk true rfl ⟨⟨rfl, rfl⟩, rfl⟩ rfl rfl rfl rfl True.intro ?_
    refine WP.callV rfl rfl rfl rfl rfl rfl rfl (by kernel_rfl) (fun w1 hw1 => (adj_Graph_Other_w hg20 (hgr1.le ((Held.mem (List.Mem.tail _ (List.Mem.tail _ (List.Mem.tail _ (List.Mem.tail _ (List.Mem.tail _ (List.Mem.head _))))))) _ _ hw1)) :)) ⟨⟨rfl, rfl⟩, rfl⟩ ?_
    refine WP.ixO tysOk rfl ⟨⟨rfl, rfl⟩, rfl⟩ rfl rfl rfl rfl rfl rfl rfl rfl hf21 hj5 ?_
    intro b7 hA7
    refine WP.ld1 tysOk rfl ⟨⟨rfl, rfl⟩, rfl⟩ rfl rfl rfl rfl rfl rfl rfl (OwS.at0 (.tail .head) hA7 hj5 rfl) ?_
    refine WP.st tysOk true rfl ⟨⟨rfl, rfl⟩, rfl⟩ rfl rfl rfl rfl True.intro ?_
    refine WP.ld1 tysOk rfl ⟨⟨rfl, rfl⟩, rfl⟩ rfl rfl rfl rfl rfl rfl rfl (CellAt.blk (.tail (.tail (.tail .head))) rfl) ?_
    refine WP.st tysOk true rfl ⟨⟨rfl, rfl⟩, rfl⟩ rfl rfl rfl rfl True.intro ?_
    refine WP.ixO tysOk rfl ⟨⟨rfl, rfl⟩, rfl⟩ rfl rfl rfl rfl rfl rfl rfl rfl hf21 hj5 ?_
    intro b8 hA8
    refine WP.lend rfl ⟨rfl, rfl⟩ ?_
    obtain ⟨xs7, hx5, h⟩ := lt_some h
    refine WP.stoO (f := (fI .i64)) 0 (w64 ((gt r19.supply r20) + r18.2.1.s)) tysOk rfl rfl rfl rfl rfl rfl rfl rfl rfl (.tail .head) hA8 hf21 hj5 rfl rfl rfl hx5 ?_
    intro hf23
    refine WP.st tysOk true rfl True.intro rfl rfl rfl rfl True.intro ?_
    refine WP.ld1 tysOk rfl True.intro rfl rfl rfl rfl rfl rfl rfl (CellAt.blk (.tail .head) rfl) ?_
    refine WP.st tysOk true rfl True.intro rfl rfl rfl rfl True.intro ?_
    refine WP.ldm tysOk rfl True.intro rfl rfl rfl rfl rfl rfl rfl (SegAt.blk' (.tail (.tail (.tail (.tail .head)))) rfl) ?_
    refine WP.bsO (f := fA) [r18.1.new] tysOk rfl rfl rfl rfl rfl rfl rfl rfl rfl rfl rfl rfl rfl rfl ?_
    intro g18 hf24
    obtain ⟨hl3, h⟩ := ck_some h
    obtain ⟨xs8, hz3, h⟩ := lt_some h
    refine WP.appO (f := fA) (xs := r19.arcs) (ys := [r18.1.new]) tysOk rfl rfl rfl rfl rfl rfl rfl rfl rfl rfl rfl rfl (.tail (.tail (.tail .head))) hf22 hf24.len (OwS.app .head hf24) hl3 hz3 ?_
    intro A17 c17 hf25
    refine WP.st tysOk true rfl True.intro rfl rfl rfl rfl True.intro ?_
    refine WP.sto' tysOk [.slice A15 n12 c15, .slice A17 xs8.length c17] rfl rfl rfl rfl rfl rfl rfl rfl rfl (.tail (.tail (.tail .head))) rfl rfl ?_
    refine WP.st tysOk true rfl True.intro rfl rfl rfl rfl True.intro ?_
    refine WP.ld1 tysOk rfl True.intro rfl rfl rfl rfl rfl rfl rfl (CellAt.blk (.tail (.tail (.tail (.tail (.tail (.tail (.tail (.tail (.tail (.tail (.tail .head))))))))))) rfl) ?_
    refine WP.st tysOk true rfl True.intro rfl rfl rfl rfl True.intro ?_
    obtain ⟨hm3, h⟩ := ck_some h
    refine WP.mkO (f := fB) false tysOk rfl rfl rfl rfl rfl rfl rfl rfl rfl rfl rfl rfl hm3 ?_
    intro g19 hf26
    iterate 3 (refine WP.st tysOk true rfl True.intro rfl rfl rfl rfl True.intro ?_)
    obtain ⟨hj6, h⟩ := ck_some h
    refine WP.ixO tysOk rfl True.intro rfl rfl rfl rfl rfl rfl rfl rfl hf26 hj6 ?_
    intro b9 hA9
    obtain ⟨xs9, hx6, h⟩ := lt_some h
    refine WP.stoO (f := fB) 0 true tysOk rfl rfl rfl rfl rfl rfl rfl rfl rfl .head hA9 hf26 hj6 rfl rfl rfl hx6 ?_
    intro hf27
    refine WP.ldm tysOk rfl True.intro rfl rfl rfl rfl rfl rfl rfl (SegAt.blk' (.tail .head) rfl) ?_
    refine WP.st tysOk true rfl True.intro rfl rfl rfl rfl True.intro ?_
    obtain ⟨r21, hg21, h⟩ := bind_some h
    refine WP.callS (inst_Without_S r21) rfl rfl rfl rfl rfl rfl rfl (by kernel_rfl) (fun w1 hw1 => (inst_Without_w hg21 (InsZ.mk_ (hw1.ow (.tail (.tail (.tail (.tail .head)))) hf23) (hw1.ow (.tail (.tail .head)) hf25)) (hw1.ow .head hf27) SlF.nil_ :)) ?_
    rintro _ _ ⟨A18, n14, c18, A19, n15, c19, rfl, hf28, hf29, rfl⟩
    refine WP.sto' tysOk [.slice A18 n14 c18, .slice A19 n15 c19] rfl rfl rfl rfl rfl rfl rfl rfl rfl (.tail (.tail (.tail .head))) rfl rfl ?_
    refine WP.ldm tysOk rfl True.intro rfl rfl rfl rfl rfl rfl rfl (SegAt.blk' .head rfl) ?_
    obtain ⟨r22, hg22, h⟩ := bind_some h
    refine WP.callV rfl rfl rfl rfl rfl rfl rfl (by kernel_rfl) (fun w1 hw1 => (inst_Right_w hg22 (InsZ.mk_ (hw1.ow (.tail .head) hf28) (hw1.ow (.tail (.tail .head)) hf29)) :)) True.intro ?_
    refine WP.st tysOk true rfl True.intro rfl rfl rfl rfl True.intro ?_
    refine WP.cond_d rfl rfl (fun hh10 => ?_) (fun hh10 => ?_)
    · rw [if_pos hh10] at h
      refine WP.bld (cs := [.slice none 0 0, .slice none 0 0, iv 0, .slice none 0 0, .slice none 0 0, iv 0, .int .u64 (0), .bool (false)]) tysOk rfl True.intro rfl rfl rfl rfl rfl rfl rfl ?_
      refine WP.sto' tysOk [.slice none 0 0, .slice none 0 0, iv 0, .slice none 0 0, .slice none 0 0, iv 0, .int .u64 (0), .bool (false)] rfl rfl rfl rfl rfl rfl rfl rfl rfl (.tail (.tail (.tail (.tail (.tail (.tail (.tail (.tail (.tail (.tail (.tail (.tail (.tail .head))))))))))))) rfl rfl ?_
      refine WP.st tysOk true rfl True.intro rfl rfl rfl rfl True.intro ?_
      cases h
      refine WP.own_nil 2 (fI .i64).z ?_
      refine WP.own_nil 23 fA.z ?_
      refine WP.own_nil 2 (fI .i64).z ?_
      refine WP.own_nil 23 fA.z ?_
      refine WP.retR tysOk rfl rfl ⟨_, _, _, _, rfl, ⟨_, rfl, .inr ⟨rfl, _, rfl, rfl, (SegAt.blk' (z := 8) (.tail (.tail (.tail (.tail .head)))) rfl).1⟩⟩, ⟨_, _, rfl, rfl, rfl⟩, rfl⟩ (fun w1 hw1 => ⟨_, _, rfl, ⟨none, 0, 0, none, 0, 0, none, 0, 0, none, 0, 0, rfl, OwF.nil_, OwF.nil_, OwF.nil_, OwF.nil_, rfl⟩, Ret.of_KH hw1 (.cons (.tail (.tail (.tail .head))) (.cons (.tail (.tail .head)) (.cons (.tail .head) (.cons .head (.cons (.tail (.tail (.tail (.tail (.tail (.tail (.tail (.tail (.tail (.tail (.tail (.tail (.tail (.tail (.tail (.tail .head)))))))))))))))) .nil)))))⟩)
    rw [if_neg hh10] at h
    obtain ⟨r23, hg23, h⟩ := bind_some h
    obtain ⟨r24, hg24, h⟩ := bind_some h
    refine WP.drawL 15 [(8, [], fun _ => constSpec (iv r23)), (13, [], fun _ => constSpec (.agg #[iv r24.hi, .int .u64 (r24.lo)]))] rfl (by kernel_rfl) (by kernel_rfl) (by kernel_rfl) ?_
    refine WP.ldm tysOk rfl ⟨⟨rfl, rfl⟩, rfl⟩ rfl rfl rfl rfl rfl rfl rfl (SegAt.blk' .head rfl) ?_
    refine WP.st tysOk true rfl ⟨⟨rfl, rfl⟩, rfl⟩ rfl rfl rfl rfl True.intro ?_
    refine WP.ld1 tysOk rfl ⟨⟨rfl, rfl⟩, rfl⟩ rfl rfl rfl rfl rfl rfl rfl (CellAt.blk (.tail (.tail (.tail (.tail (.tail (.tail (.tail (.tail (.tail (.tail (.tail (.tail (.tail (.tail (.tail .head))))))))))))))) rfl) ?_
    refine WP.ldm tysOk rfl ⟨⟨rfl, rfl⟩, rfl⟩ rfl rfl rfl rfl rfl rfl rfl (SegAt.blk' (.tail (.tail (.tail (.tail (.tail (.tail (.tail (.tail (.tail (.tail .head)))))))))) rfl) ?_
    refine WP.bld (cs := [iv 9, .slice A3 n1 c3, .slice A4 n2 c4]) tysOk rfl ⟨⟨rfl, rfl⟩, rfl⟩ rfl rfl rfl rfl rfl rfl rfl ?_
    refine WP.st tysOk true rfl ⟨⟨rfl, rfl⟩, rfl⟩ rfl rfl rfl rfl True.intro ?_
    refine WP.ld1 tysOk rfl ⟨⟨rfl, rfl⟩, rfl⟩ rfl rfl rfl rfl rfl rfl rfl (CellAt.blk (.tail (.tail (.tail (.tail (.tail (.tail (.tail (.tail (.tail (.tail (.tail (.tail (.tail (.tail (.tail .head))))))))))))))) rfl) ?_
    refine WP.ldm tysOk rfl ⟨⟨rfl, rfl⟩, rfl⟩ rfl rfl rfl rfl rfl rfl rfl (SegAt.blk' (.tail (.tail (.tail (.tail (.tail (.tail (.tail .head))))))) rfl) ?_
    refine WP.callV rfl rfl rfl rfl rfl rfl rfl (by kernel_rfl) (fun w1 hw1 => (two_pair_both_w hg23  :)) ⟨⟨rfl, rfl⟩, rfl⟩ ?_
    iterate 3 (refine WP.st tysOk true rfl ⟨⟨rfl, rfl⟩, rfl⟩ rfl rfl rfl rfl True.intro ?_)
    refine WP.ld1 tysOk rfl ⟨⟨rfl, rfl⟩, rfl⟩ rfl rfl rfl rfl rfl rfl rfl (CellAt.blk (.tail (.tail (.tail (.tail (.tail (.tail (.tail .head))))))) rfl) ?_
    refine WP.callV rfl rfl rfl rfl rfl rfl rfl (by kernel_rfl) (fun w1 hw1 => (num_Times_w hg24  :)) ⟨⟨rfl, rfl⟩, rfl⟩ ?_
    refine WP.bld (cs := [.slice A18 n14 c18, .slice A19 n15 c19, iv 9, .slice A3 n1 c3, .slice A4 n2 c4, iv r24.hi, .int .u64 (r24.lo), .bool (true)]) tysOk rfl ⟨⟨rfl, rfl⟩, rfl⟩ rfl rfl rfl rfl rfl rfl rfl ?_
    refine WP.lend rfl ⟨rfl, rfl⟩ ?_
    refine WP.sto' tysOk [.slice A18 n14 c18, .slice A19 n15 c19, iv 9, .slice A3 n1 c3, .slice A4 n2 c4, iv r24.hi, .int .u64 (r24.lo), .bool (true)] rfl rfl rfl rfl rfl rfl rfl rfl rfl (.tail (.tail (.tail (.tail (.tail (.tail (.tail (.tail (.tail (.tail (.tail (.tail (.tail .head))))))))))))) rfl rfl ?_
    refine WP.st tysOk true rfl True.intro rfl rfl rfl rfl True.intro ?_
    cases h
    refine WP.retR tysOk rfl rfl ⟨_, _, _, _, rfl, ⟨_, rfl, .inr ⟨rfl, _, rfl, rfl, (SegAt.blk' (z := 8) .head rfl).1⟩⟩, ⟨_, _, rfl, rfl, rfl⟩, rfl⟩ (fun w1 hw1 => ⟨_, _, rfl, ⟨A18, n14, c18, A19, n15, c19, A3, n1, c3, A4, n2, c4, rfl, hf28, hf29, hf1, hf2, rfl⟩, Ret.of_KH hw1 (.cons (.tail (.tail .head)) (.cons (.tail (.tail .head)) (.cons (.tail (.tail (.tail (.tail (.tail (.tail (.tail (.tail (.tail (.tail .head)))))))))) (.cons (.tail (.tail (.tail (.tail (.tail (.tail (.tail (.tail (.tail (.tail .head)))))))))) (.cons (.tail (.tail (.tail (.tail (.tail (.tail (.tail (.tail (.tail (.tail (.tail (.tail .head)))))))))))) .nil)))))⟩)
  rw [if_neg hh8] at h
  refine WP.ldm tysOk rfl True.intro rfl rfl rfl rfl rfl rfl rfl (SegAt.blk' (.tail .head) rfl) ?_
  refine WP.bld (cs := [.slice A3 n1 c3, .slice A4 n2 c4, iv 0, .slice none 0 0, .slice none 0 0, iv 0, .int .u64 (0), .bool (false)]) tysOk rfl True.intro rfl rfl rfl rfl rfl rfl rfl ?_
  refine WP.sto' tysOk [.slice A3 n1 c3, .slice A4 n2 c4, iv 0, .slice none 0 0, .slice none 0 0, iv 0, .int .u64 (0), .bool (false)] rfl rfl rfl rfl rfl rfl rfl rfl rfl (.tail (.tail (.tail (.tail .head)))) rfl rfl ?_
  refine WP.st tysOk true rfl True.intro rfl rfl rfl rfl True.intro ?_
  cases h
  refine WP.own_nil 2 (fI .i64).z ?_
  refine WP.own_nil 23 fA.z ?_
  refine WP.retR tysOk rfl rfl ⟨_, _, _, _, rfl, ⟨_, rfl, .inr ⟨rfl, _, rfl, rfl, (SegAt.blk' (z := 8) (.tail (.tail .head)) rfl).1⟩⟩, ⟨_, _, rfl, rfl, rfl⟩, rfl⟩ (fun w1 hw1 => ⟨_, _, rfl, ⟨A3, n1, c3, A4, n2, c4, none, 0, 0, none, 0, 0, rfl, hf1, hf2, OwF.nil_, OwF.nil_, rfl⟩, Ret.of_KH hw1 (.cons (.tail (.tail (.tail (.tail (.tail .head))))) (.cons (.tail (.tail (.tail (.tail (.tail .head))))) (.cons (.tail .head) (.cons .head (.cons (.tail (.tail (.tail (.tail (.tail .head))))) .nil)))))⟩)

abbrev two_Fork_S (r : Step × Int) : Value → Heap → Prop := fun v L => ∃ (A1 : Option Addr) (n1 c1 : Nat) (A2 : Option Addr) (n2 c2 : Nat) (A3 : Option Addr) (n3 c3 : Nat) (A4 : Option Addr) (n4 c4 : Nat), v = .tuple #[.agg #[.slice A1 n1 c1, .slice A2 n2 c2, iv r.1.rcd.pass, .slice A3 n3 c3, .slice A4 n4 c4, iv r.1.off.hi, .int .u64 (r.1.off.lo), .bool (r.1.did)], .int .u16 (r.2)] ∧ OwF A1 n1 r.1.inst.supply ∧ OwF A2 n2 r.1.inst.arcs ∧ OwF A3 n3 r.1.rcd.was.supply ∧ OwF A4 n4 r.1.rcd.was.arcs ∧ L = [Ow (fI .i64) 2 A1 n1 c1 r.1.inst.supply, Ow fA 23 A2 n2 c2 r.1.inst.arcs, Ow (fI .i64) 2 A3 n3 c3 r.1.rcd.was.supply, Ow fA 23 A4 n4 c4 r.1.rcd.was.arcs]
set_option maxRecDepth 20000 in
set_option maxHeartbeats 8000000 in
theorem two_Fork_w {w : World} {v0 : Value} {i1 : Inst} {r : Step × Int} (h : two_Fork i1 = some r) (p1 : InsZ (PH.of w) v0 i1) :
    Calls Try.prog 33 #[v0] w fun e w' => ∃ v L, e = .returned v ∧ two_Fork_S r v L ∧ Ret w w' L := by
  obtain ⟨A1, c1, A2, c2, rfl, hs1, hs2⟩ := p1
  unfold two_Fork at h
  refine enter_ Try.func33 rfl Try.ntmps33 rfl ?_
  refine WP.box rfl rfl rfl rfl rfl rfl ?_
  intro g1
  refine WP.al tysOk rfl rfl rfl rfl rfl rfl ?_
  intro g2
  refine WP.st tysOk true rfl True.intro rfl rfl rfl rfl True.intro ?_
  obtain ⟨r1, hg1, h⟩ := bind_some h
  refine WP.drawL 5 [(0, [], fun _ => constSpec (.agg #[iv 9, .func (.func 54) #[] #[], .func (.func 55) #[] #[], .func (.func 56) #[] #[]])), (2, [], fun _ => two_shape_run_2_S r1)] rfl (by kernel_rfl) (by kernel_rfl) (by kernel_rfl) ?_
  refine WP.callV rfl rfl rfl rfl rfl rfl rfl (by kernel_rfl) (fun w1 hw1 => two_fork_w) ⟨⟨rfl, rfl⟩, rfl⟩ ?_
  refine WP.ldm tysOk rfl ⟨⟨rfl, rfl⟩, rfl⟩ rfl rfl rfl rfl rfl rfl rfl (SegAt.blk' (.tail .head) rfl) ?_
  refine WP.lcall rfl ⟨rfl, rfl⟩ rfl rfl rfl rfl rfl rfl rfl (by kernel_rfl) (fun w1 hw1 => (two_shape_run_2_w hg1 (InsZ.mk_ ((hs1.le' ((Held.mem (List.Mem.tail _ (List.Mem.tail _ (List.Mem.head _)))) _ _ hw1)).of) ((hs2.le' ((Held.mem (List.Mem.tail _ (List.Mem.tail _ (List.Mem.head _)))) _ _ hw1)).of)) :)) ?_
  rintro _ _ ⟨A3, n1, c3, A4, n2, c4, A5, n3, c5, A6, n4, c6, rfl, hf1, hf2, hf3, hf4, rfl⟩
  iterate 2 (refine WP.st tysOk true rfl ⟨⟨rfl, rfl⟩, rfl⟩ rfl rfl rfl rfl True.intro ?_)
  refine WP.lend rfl ⟨rfl, rfl⟩ ?_
  refine WP.sto' tysOk [.slice A3 n1 c3, .slice A4 n2 c4, iv r1.1.rcd.pass, .slice A5 n3 c5, .slice A6 n4 c6, iv r1.1.off.hi, .int .u64 (r1.1.off.lo), .bool (r1.1.did)] rfl rfl rfl rfl rfl rfl rfl rfl rfl (.tail (.tail (.tail (.tail .head)))) rfl rfl ?_
  refine WP.st tysOk true rfl True.intro rfl rfl rfl rfl True.intro ?_
  cases h
  refine WP.retR tysOk rfl rfl ⟨_, _, _, _, rfl, ⟨_, rfl, .inr ⟨rfl, _, rfl, rfl, (SegAt.blk' (z := 8) .head rfl).1⟩⟩, ⟨_, _, rfl, rfl, rfl⟩, rfl⟩ (fun w1 hw1 => ⟨_, _, rfl, ⟨A3, n1, c3, A4, n2, c4, A5, n3, c5, A6, n4, c6, rfl, hf1, hf2, hf3, hf4, rfl⟩, Ret.of_KH hw1 (.cons (.tail .head) (.cons (.tail .head) (.cons (.tail .head) (.cons (.tail .head) (.cons (.tail (.tail .head)) .nil)))))⟩)

set_option maxRecDepth 20000 in
set_option maxHeartbeats 8000000 in
theorem two_Chain_w {w : World} {v0 : Value} {i1 : Inst} {n1 : Int} {r : Spot × Bool} (h : two_Chain i1 n1 = some r) (p1 : InsZ (PH.of w) v0 i1) :
    Calls Try.prog 11 #[v0, iv n1] w fun e w' => e = .returned (.tuple #[.agg #[iv r.1.node, iv r.1.a, iv r.1.b, iv r.1.new.src, iv r.1.new.dst, iv r.1.new.low, iv r.1.new.cap, iv r.1.new.cost], .bool (r.2)]) ∧ Below w.heap.size w w' := by
  obtain ⟨A1, c1, A2, c2, rfl, hs1, hs2⟩ := p1
  unfold two_Chain at h
  refine enter_ Try.func11 rfl Try.ntmps11 rfl ?_
  refine WP.box rfl rfl rfl rfl rfl rfl ?_
  intro g1
  refine WP.al tysOk rfl rfl rfl rfl rfl rfl ?_
  intro g2
  refine WP.st tysOk true rfl True.intro rfl rfl rfl rfl True.intro ?_
  obtain ⟨r1, hg1, h⟩ := bind_some h
  obtain ⟨r2, hg2, h⟩ := bind_some h
  refine WP.edges [(12, 8), (12, 9), (13, 9)] putInv_body rfl rfl (by kernel_rfl) (by kernel_rfl) ?_
  refine WP.heads [0, 1, 2, 3, 4, 5, 6, 7, 8, 9, 10, 11] [12, 13, 14] [(0, [], fun _ => constSpec (.agg #[iv 8, .func (.func 45) #[] #[], .func (.func 46) #[] #[], .func (.func 47) #[] #[]])), (2, [], fun _ => adj_New_S r1), (5, [2], fun _ => constSpec (.tuple #[.agg #[iv r2.1.node, iv r2.1.a, iv r2.1.b, iv r2.1.new.src, iv r2.1.new.dst, iv r2.1.new.low, iv r2.1.new.cap, iv r2.1.new.cost], .agg #[iv r2.2.1.x.src, iv r2.2.1.x.dst, iv r2.2.1.x.low, iv r2.2.1.x.cap, iv r2.2.1.x.cost, iv r2.2.1.y.src, iv r2.2.1.y.dst, iv r2.2.1.y.low, iv r2.2.1.y.cap, iv r2.2.1.y.cost, iv r2.2.1.n, iv r2.2.1.s], .bool (r2.2.2)])), (10, [], fun _ => blkSpec 31 [iv 0, iv 0, iv 0, iv 0, iv 0, iv 0, iv 0, iv 0]), (11, [], fun _ => blkSpec 70 [iv 0, iv 0, iv 0, iv 0, iv 0, iv 0, iv 0, iv 0, iv 0, iv 0, iv 0, iv 0])] rfl (by kernel_rfl) (by decide) rfl (by kernel_rfl) (by kernel_rfl) ?_
  refine WP.callV rfl rfl rfl rfl rfl rfl rfl (by kernel_rfl) (fun w1 hw1 => two_series_w) ⟨⟨rfl, rfl⟩, rfl⟩ ?_
  refine WP.ldm tysOk rfl ⟨⟨rfl, rfl⟩, rfl⟩ rfl rfl rfl rfl rfl rfl rfl (SegAt.blk' (.tail .head) rfl) ?_
  refine WP.lcall rfl ⟨rfl, rfl⟩ rfl rfl rfl rfl rfl rfl rfl (by kernel_rfl) (fun w1 hw1 => (adj_New_w hg1 (InsZ.mk_ ((hs1.le' ((Held.mem (List.Mem.tail _ (List.Mem.tail _ (List.Mem.head _)))) _ _ hw1)).of) ((hs2.le' ((Held.mem (List.Mem.tail _ (List.Mem.tail _ (List.Mem.head _)))) _ _ hw1)).of)) :)) ?_
  rintro vg1 _ ⟨Zn1, hgr1, rfl⟩
  obtain ⟨gg1, rfl⟩ := hgr1.ptr'
  refine WP.ldm tysOk rfl ⟨⟨rfl, rfl⟩, rfl⟩ rfl rfl rfl rfl rfl rfl rfl (SegAt.blk' (.tail .head) rfl) ?_
  refine WP.st tysOk true rfl ⟨⟨rfl, rfl⟩, rfl⟩ rfl rfl rfl rfl True.intro ?_
  refine WP.lcall rfl ⟨rfl, rfl⟩ rfl rfl rfl rfl rfl rfl rfl (by kernel_rfl) (fun w1 hw1 => ((two_shape_at_1_w hg2 (hgr1.le ((Held.mem (List.Mem.head _)) _ _ hw1)) (InsZ.mk_ ((hs1.le' ((Held.mem (List.Mem.tail _ (List.Mem.tail _ (List.Mem.tail _ (List.Mem.head _))))) _ _ hw1)).of) ((hs2.le' ((Held.mem (List.Mem.tail _ (List.Mem.tail _ (List.Mem.tail _ (List.Mem.head _))))) _ _ hw1)).of)) :)).mono fun e w' h => ⟨_, [], h.1, ⟨rfl, rfl⟩, Ret.nil h.2⟩) ?_
  rintro _ _ ⟨rfl, rfl⟩
  iterate 4 (refine WP.st tysOk true rfl ⟨⟨rfl, rfl⟩, rfl⟩ rfl rfl rfl rfl True.intro ?_)
  refine WP.lal tysOk rfl ⟨rfl, rfl⟩ rfl rfl rfl rfl rfl rfl rfl ?_
  intro g3
  refine WP.lal tysOk rfl ⟨rfl, rfl⟩ rfl rfl rfl rfl rfl rfl rfl ?_
  intro g4
  refine WP.lend rfl ⟨rfl, rfl⟩ ?_
  refine WP.joinA (α := Unit) (fun _ => True) (fun _ => [(4, .pointer (some ⟨g2, 0, none⟩)), (6, .pointer (some ⟨g3, 0, none⟩)), (8, .bool (r2.2.2))]) (fun _ => [.blk g4 70 [iv r2.2.1.x.src, iv r2.2.1.x.dst, iv r2.2.1.x.low, iv r2.2.1.x.cap, iv r2.2.1.x.cost, iv r2.2.1.y.src, iv r2.2.1.y.dst, iv r2.2.1.y.low, iv r2.2.1.y.cap, iv r2.2.1.y.cost, iv r2.2.1.n, iv r2.2.1.s], .blk g3 31 [iv r2.1.node, iv r2.1.a, iv r2.1.b, iv r2.1.new.src, iv r2.1.new.dst, iv r2.1.new.low, iv r2.1.new.cap, iv r2.1.new.cost], .fz Zn1, .blk g2 31 [iv 0, iv 0, iv 0, iv 0, iv 0, iv 0, iv 0, iv 0], .blk g1 27 [.slice A1 i1.supply.length c1, .slice A2 i1.arcs.length c2], .fz (PH.of w)]) rfl ?_ ?_
  · refine WP.any1 12 rfl (by kernel_rfl) rfl ?_
    refine WP.sto' tysOk [iv r2.1.node, iv r2.1.a, iv r2.1.b, iv r2.1.new.src, iv r2.1.new.dst, iv r2.1.new.low, iv r2.1.new.cap, iv r2.1.new.cost] rfl rfl rfl rfl rfl rfl rfl rfl rfl (.tail .head) rfl rfl ?_
    refine WP.any1 13 rfl (by kernel_rfl) rfl ?_
    refine WP.sto' tysOk [iv r2.2.1.x.src, iv r2.2.1.x.dst, iv r2.2.1.x.low, iv r2.2.1.x.cap, iv r2.2.1.x.cost, iv r2.2.1.y.src, iv r2.2.1.y.dst, iv r2.2.1.y.low, iv r2.2.1.y.cap, iv r2.2.1.y.cost, iv r2.2.1.n, iv r2.2.1.s] rfl rfl rfl rfl rfl rfl rfl rfl rfl (.tail .head) rfl rfl ?_
    refine WP.anyP 14 tysOk putInv_body rfl rfl rfl (by kernel_rfl) (by kernel_rfl) rfl rfl rfl rfl rfl True.intro ?_
    refine WP.any0 rfl (by kernel_rfl) ?_
    refine WP.stop rfl () True.intro ?_ ?_
    · repeat (first | exact True.intro | refine And.intro rfl ?_)
    exact (.cons .head (.cons .head (.cons .head (.cons .head (.cons .head (.cons .head .nil))))))
  intro _ _
  refine WP.ldm tysOk rfl True.intro rfl rfl rfl rfl rfl rfl rfl (SegAt.blk' (.tail .head) rfl) ?_
  refine WP.st tysOk true rfl True.intro rfl rfl rfl rfl True.intro ?_
  refine WP.sto' tysOk [iv r2.1.node, iv r2.1.a, iv r2.1.b, iv r2.1.new.src, iv r2.1.new.dst, iv r2.1.new.low, iv r2.1.new.cap, iv r2.1.new.cost] rfl rfl rfl rfl rfl rfl rfl rfl rfl (.tail (.tail (.tail .head))) rfl rfl ?_
  refine WP.st tysOk true rfl True.intro rfl rfl rfl rfl True.intro ?_
  cases h
  refine WP.retR tysOk rfl rfl ⟨_, _, _, _, rfl, ⟨_, rfl, .inr ⟨rfl, _, rfl, rfl, (SegAt.blk' (z := 8) .head rfl).1⟩⟩, ⟨_, _, rfl, rfl, rfl⟩, rfl⟩ (fun w1 hw1 => ⟨rfl, Ret.below_ hw1 (.cons (.tail (.tail (.tail (.tail (.tail .head))))) .nil)⟩)

set_option maxRecDepth 20000 in
set_option maxHeartbeats 8000000 in
theorem two_Split_w {w : World} {v0 : Value} {i1 : Inst} {n1 : Int} {r : Spot × Bool} (h : two_Split i1 n1 = some r) (p1 : InsZ (PH.of w) v0 i1) :
    Calls Try.prog 12 #[v0, iv n1] w fun e w' => e = .returned (.tuple #[.agg #[iv r.1.node, iv r.1.a, iv r.1.b, iv r.1.new.src, iv r.1.new.dst, iv r.1.new.low, iv r.1.new.cap, iv r.1.new.cost], .bool (r.2)]) ∧ Below w.heap.size w w' := by
  obtain ⟨A1, c1, A2, c2, rfl, hs1, hs2⟩ := p1
  unfold two_Split at h
  refine enter_ Try.func12 rfl Try.ntmps12 rfl ?_
  refine WP.box rfl rfl rfl rfl rfl rfl ?_
  intro g1
  refine WP.al tysOk rfl rfl rfl rfl rfl rfl ?_
  intro g2
  refine WP.st tysOk true rfl True.intro rfl rfl rfl rfl True.intro ?_
  obtain ⟨r1, hg1, h⟩ := bind_some h
  obtain ⟨r2, hg2, h⟩ := bind_some h
  refine WP.edges [(12, 8), (12, 9), (13, 9)] putInv_body rfl rfl (by kernel_rfl) (by kernel_rfl) ?_
  refine WP.heads [0, 1, 2, 3, 4, 5, 6, 7, 8, 9, 10, 11] [12, 13, 14] [(0, [], fun _ => constSpec (.agg #[iv 9, .func (.func 54) #[] #[], .func (.func 55) #[] #[], .func (.func 56) #[] #[]])), (2, [], fun _ => adj_New_S r1), (5, [2], fun _ => constSpec (.tuple #[.agg #[iv r2.1.node, iv r2.1.a, iv r2.1.b, iv r2.1.new.src, iv r2.1.new.dst, iv r2.1.new.low, iv r2.1.new.cap, iv r2.1.new.cost], .agg #[iv r2.2.1.x.src, iv r2.2.1.x.dst, iv r2.2.1.x.low, iv r2.2.1.x.cap, iv r2.2.1.x.cost, iv r2.2.1.y.src, iv r2.2.1.y.dst, iv r2.2.1.y.low, iv r2.2.1.y.cap, iv r2.2.1.y.cost, iv r2.2.1.n, iv r2.2.1.s], .bool (r2.2.2)])), (10, [], fun _ => blkSpec 31 [iv 0, iv 0, iv 0, iv 0, iv 0, iv 0, iv 0, iv 0]), (11, [], fun _ => blkSpec 70 [iv 0, iv 0, iv 0, iv 0, iv 0, iv 0, iv 0, iv 0, iv 0, iv 0, iv 0, iv 0])] rfl (by kernel_rfl) (by decide) rfl (by kernel_rfl) (by kernel_rfl) ?_
  refine WP.callV rfl rfl rfl rfl rfl rfl rfl (by kernel_rfl) (fun w1 hw1 => two_fork_w) ⟨⟨rfl, rfl⟩, rfl⟩ ?_
  refine WP.ldm tysOk rfl ⟨⟨rfl, rfl⟩, rfl⟩ rfl rfl rfl rfl rfl rfl rfl (SegAt.blk' (.tail .head) rfl) ?_
  refine WP.lcall rfl ⟨rfl, rfl⟩ rfl rfl rfl rfl rfl rfl rfl (by kernel_rfl) (fun w1 hw1 => (adj_New_w hg1 (InsZ.mk_ ((hs1.le' ((Held.mem (List.Mem.tail _ (List.Mem.tail _ (List.Mem.head _)))) _ _ hw1)).of) ((hs2.le' ((Held.mem (List.Mem.tail _ (List.Mem.tail _ (List.Mem.head _)))) _ _ hw1)).of)) :)) ?_
  rintro vg1 _ ⟨Zn1, hgr1, rfl⟩
  obtain ⟨gg1, rfl⟩ := hgr1.ptr'
  refine WP.ldm tysOk rfl ⟨⟨rfl, rfl⟩, rfl⟩ rfl rfl rfl rfl rfl rfl rfl (SegAt.blk' (.tail .head) rfl) ?_
  refine WP.st tysOk true rfl ⟨⟨rfl, rfl⟩, rfl⟩ rfl rfl rfl rfl True.intro ?_
  refine WP.lcall rfl ⟨rfl, rfl⟩ rfl rfl rfl rfl rfl rfl rfl (by kernel_rfl) (fun w1 hw1 => ((two_shape_at_2_w hg2 (hgr1.le ((Held.mem (List.Mem.head _)) _ _ hw1)) (InsZ.mk_ ((hs1.le' ((Held.mem (List.Mem.tail _ (List.Mem.tail _ (List.Mem.tail _ (List.Mem.head _))))) _ _ hw1)).of) ((hs2.le' ((Held.mem (List.Mem.tail _ (List.Mem.tail _ (List.Mem.tail _ (List.Mem.head _))))) _ _ hw1)).of)) :)).mono fun e w' h => ⟨_, [], h.1, ⟨rfl, rfl⟩, Ret.nil h.2⟩) ?_
  rintro _ _ ⟨rfl, rfl⟩
  iterate 4 (refine WP.st tysOk true rfl ⟨⟨rfl, rfl⟩, rfl⟩ rfl rfl rfl rfl True.intro ?_)
  refine WP.lal tysOk rfl ⟨rfl, rfl⟩ rfl rfl rfl rfl rfl rfl rfl ?_
  intro g3
  refine WP.lal tysOk rfl ⟨rfl, rfl⟩ rfl rfl rfl rfl rfl rfl rfl ?_
  intro g4
  refine WP.lend rfl ⟨rfl, rfl⟩ ?_
  refine WP.joinA (α := Unit) (fun _ => True) (fun _ => [(4, .pointer (some ⟨g2, 0, none⟩)), (6, .pointer (some ⟨g3, 0, none⟩)), (8, .bool (r2.2.2))]) (fun _ => [.blk g4 70 [iv r2.2.1.x.src, iv r2.2.1.x.dst, iv r2.2.1.x.low, iv r2.2.1.x.cap, iv r2.2.1.x.cost, iv r2.2.1.y.src, iv r2.2.1.y.dst, iv r2.2.1.y.low, iv r2.2.1.y.cap, iv r2.2.1.y.cost, iv r2.2.1.n, iv r2.2.1.s], .blk g3 31 [iv r2.1.node, iv r2.1.a, iv r2.1.b, iv r2.1.new.src, iv r2.1.new.dst, iv r2.1.new.low, iv r2.1.new.cap, iv r2.1.new.cost], .fz Zn1, .blk g2 31 [iv 0, iv 0, iv 0, iv 0, iv 0, iv 0, iv 0, iv 0], .blk g1 27 [.slice A1 i1.supply.length c1, .slice A2 i1.arcs.length c2], .fz (PH.of w)]) rfl ?_ ?_
  · refine WP.any1 12 rfl (by kernel_rfl) rfl ?_
    refine WP.sto' tysOk [iv r2.1.node, iv r2.1.a, iv r2.1.b, iv r2.1.new.src, iv r2.1.new.dst, iv r2.1.new.low, iv r2.1.new.cap, iv r2.1.new.cost] rfl rfl rfl rfl rfl rfl rfl rfl rfl (.tail .head) rfl rfl ?_
    refine WP.any1 13 rfl (by kernel_rfl) rfl ?_
    refine WP.sto' tysOk [iv r2.2.1.x.src, iv r2.2.1.x.dst, iv r2.2.1.x.low, iv r2.2.1.x.cap, iv r2.2.1.x.cost, iv r2.2.1.y.src, iv r2.2.1.y.dst, iv r2.2.1.y.low, iv r2.2.1.y.cap, iv r2.2.1.y.cost, iv r2.2.1.n, iv r2.2.1.s] rfl rfl rfl rfl rfl rfl rfl rfl rfl (.tail .head) rfl rfl ?_
    refine WP.anyP 14 tysOk putInv_body rfl rfl rfl (by kernel_rfl) (by kernel_rfl) rfl rfl rfl rfl rfl True.intro ?_
    refine WP.any0 rfl (by kernel_rfl) ?_
    refine WP.stop rfl () True.intro ?_ ?_
    · repeat (first | exact True.intro | refine And.intro rfl ?_)
    exact (.cons .head (.cons .head (.cons .head (.cons .head (.cons .head (.cons .head .nil))))))
  intro _ _
  refine WP.ldm tysOk rfl True.intro rfl rfl rfl rfl rfl rfl rfl (SegAt.blk' (.tail .head) rfl) ?_
  refine WP.st tysOk true rfl True.intro rfl rfl rfl rfl True.intro ?_
  refine WP.sto' tysOk [iv r2.1.node, iv r2.1.a, iv r2.1.b, iv r2.1.new.src, iv r2.1.new.dst, iv r2.1.new.low, iv r2.1.new.cap, iv r2.1.new.cost] rfl rfl rfl rfl rfl rfl rfl rfl rfl (.tail (.tail (.tail .head))) rfl rfl ?_
  refine WP.st tysOk true rfl True.intro rfl rfl rfl rfl True.intro ?_
  cases h
  refine WP.retR tysOk rfl rfl ⟨_, _, _, _, rfl, ⟨_, rfl, .inr ⟨rfl, _, rfl, rfl, (SegAt.blk' (z := 8) .head rfl).1⟩⟩, ⟨_, _, rfl, rfl, rfl⟩, rfl⟩ (fun w1 hw1 => ⟨rfl, Ret.below_ hw1 (.cons (.tail (.tail (.tail (.tail (.tail .head))))) .nil)⟩)
end Go.Proofs.Ytpnohbdfgmjdbaa
