/- The walks: the code computes that. -/
import Derived.Test.YtbnjeanldechnaaGreatDoorGW2
import Derived.Test.YtbnjeanldechnaaGreatDoorTys
import Derived.Test.YtbnjeanldechnaaGreatDoorEngG
import Derived.KernelRfl
namespace Go.Proofs.YtbnjeanldechnaaGreatDoor
open Go.RowKit Go.Qe
set_option maxRecDepth 20000 in
set_option maxHeartbeats 8000000 in
theorem cut_Room_w {w : World} {v0 : Value} {v1 : Value} {i1 : Inst} {side1 : List Bool} {r : Wide × Bool} (h : cut_Room i1 side1 = some r) (p1 : InsZ (PH.of w) v0 i1) (p2 : SlF fB (PH.of w) v1 side1) :
    Calls Tryz.prog 17 #[v0, v1] w fun e w' => e = .returned (.tuple #[.agg #[iv r.1.hi, .int .u64 (r.1.lo)], .bool (r.2)]) ∧ Below w.heap.size w w' := by
  obtain ⟨A1, c1, A2, c2, rfl, hs1, hs2⟩ := p1
  obtain ⟨A3, c3, rfl, hs3⟩ := p2
  unfold cut_Room at h
  refine enterM_ Tryz.func17 rfl Tryz.ntmps17 rfl ?_
  refine WP.box rfl rfl rfl rfl rfl rfl ?_
  intro g1
  refine WP.al tysOk rfl rfl rfl rfl rfl rfl ?_
  intro g2
  refine WP.al tysOk rfl rfl rfl rfl rfl rfl ?_
  intro g3
  refine WP.al tysOk rfl rfl rfl rfl rfl rfl ?_
  intro g4
  refine WP.mx_ tysOk rfl ⟨⟩ (SegAt.blk' (.tail (.tail (.tail .head))) rfl) ?_
  refine WP.sx tysOk rfl ⟨⟨⟩, ⟨⟩⟩ ?_
  refine WP.callS (cut_over_S A1 i1.supply.length c1 A2 i1.arcs.length c2 A3 side1.length c3) rfl rfl rfl rfl rfl rfl rfl (by kernel_rfl) (fun w1 hw1 => cut_over_w) ?_
  rintro _ _ ⟨g5, g6, rfl, rfl⟩
  obtain ⟨xs1, hxs1, h⟩ := bind_some h
  obtain ⟨kd1, hkd1, h⟩ := lt_some h
  refine WP.rangeG (α := Arc × Bool) (σ := Int × Int) (β := Nat) xs1 (Jc := fun pre st => ∃ post, xs1 = pre ++ post ∧ fe cut_Room_r1 post kd1 (st.1, st.2) = some r) (Hc := fun st => [.blk g4 38 [iv st.1, .int .u64 (st.2)], .blk g3 4 [.bool (false)], .blk g2 38 [iv 0, .int .u64 (0)], .blk g1 25 [.slice A1 i1.supply.length c1, .slice A2 i1.arcs.length c2]]) (Jx := fun c pre st => c = .ret ∧ (some ((Wide.mk 0 0), false)) = some r) (fun x y => [(4, pt g2), (5, pt g3), (6, pt g4), (7, pt y), (8, .bool (x.2))]) (fun x y => [.blk y 31 [iv x.1.src, iv x.1.dst, iv x.1.low, iv x.1.cap, iv x.1.cost]]) [.blk g5 25 [.slice A1 i1.supply.length c1, .slice A2 i1.arcs.length c2], .blk g6 47 [.slice A3 side1.length c3], .fz (PH.of w)] (0, 0) rfl rfl (by kernel_rfl) (fun _ => rfl) rfl ⟨xs1, rfl, h⟩ ?_ (cut_over_1_it hxs1 hs1 hs2 hs3) ?_ ?_ ?_ ?_
  ·exact (.cons (.tail (.tail .head)) (.cons (.tail (.tail .head)) (.cons (.tail (.tail .head)) (.cons (.tail (.tail .head)) (.cons .head (.cons .head (.cons .head .nil)))))))
  ·intro l1 x1 W1 Zr1
   refine WP.al tysOk rfl rfl rfl rfl rfl rfl ?_
   intro g8
   refine WP.sto' tysOk [iv x1.1.src, iv x1.1.dst, iv x1.1.low, iv x1.1.cap, iv x1.1.cost] rfl rfl rfl rfl rfl rfl rfl rfl rfl .head rfl rfl ?_
   refine WP.sx tysOk rfl ⟨⟨⟩, ⟨⟩⟩ ?_
   refine WP.stop rfl g8 True.intro ?_ ?_
   ·repeat first|exact ⟨⟩|refine ⟨rfl,?_⟩
   exact Pick.all
  ·rintro l1 pre1 x1 post1 ⟨s3, s4⟩ g7 W2 Zr1 e1 ⟨postq1, e2, h⟩
   obtain rfl := cancel_post e1 e2
   dsimp only at h ⊢
   replace h := fe_cons h
   unfold cut_Room_r1 at h
   try dsimp only at h
   iterate 3 (refine WP.sx tysOk rfl ⟨⟨⟩, ⟨⟩⟩ ?_)
   refine WP.cond_n rfl rfl (fun hh5 => ?_) (fun hh5 => ?_)
   ·rw [if_neg (bneg hh5)] at h
    obtain ⟨r9, hg9, h⟩ := bind_some h
    obtain ⟨r10, hg10, h⟩ := bind_some h
    refine WP.drawL 5 [(3, [], fun _ => constSpec (.agg #[iv r9.hi, .int .u64 (r9.lo)])), (4, [], fun _ => constSpec (.agg #[iv r10.hi, .int .u64 (r10.lo)]))] rfl (by kernel_rfl) (by kernel_rfl) (by kernel_rfl) ?_
    refine WP.mx_ tysOk rfl ⟨⟨rfl, rfl⟩, rfl⟩ (SegAt.blk' (.tail .head) rfl) ?_
    refine WP.sx tysOk rfl ⟨⟨⟨rfl, rfl⟩, rfl⟩, ⟨⟩⟩ ?_
    refine WP.lx tysOk rfl ⟨⟨rfl, rfl⟩, rfl⟩ (CellAt.blk .head rfl) ?_
    refine WP.callV rfl rfl rfl rfl rfl rfl rfl (by kernel_rfl) (fun w1 hw1 => (num_Of_w hg9  :)) ⟨⟨rfl, rfl⟩, rfl⟩ ?_
    refine WP.callV rfl rfl rfl rfl rfl rfl rfl (by kernel_rfl) (fun w1 hw1 => (num_Minus_w hg10  :)) ⟨⟨rfl, rfl⟩, rfl⟩ ?_
    refine WP.lend rfl ⟨rfl, rfl⟩ ?_
    refine WP.sto' tysOk [iv r10.hi, .int .u64 (r10.lo)] rfl rfl rfl rfl rfl rfl rfl rfl rfl (.tail .head) rfl rfl ?_
    refine WP.stop rfl (r10.hi, r10.lo) ⟨post1, snoc_post e1, h⟩ ?_ ?_
    ·repeat first|exact ⟨⟩|refine ⟨rfl,?_⟩
    exact (.cons .head (.cons (.tail .head) (.cons (.tail .head) (.cons (.tail .head) (.cons (.tail .head) .nil)))))
   rw [if_pos hh5] at h
   refine WP.sx tysOk rfl ⟨⟨⟩, ⟨⟩⟩ ?_
   refine WP.lx tysOk rfl ⟨⟩ (CellAt.blk .head rfl) ?_
   iterate 2 (refine WP.sx tysOk rfl ⟨⟨⟩, ⟨⟩⟩ ?_)
   refine WP.cond_d rfl rfl (fun hh6 => ?_) (fun hh6 => ?_)
   ·rw [if_pos hh6] at h
    refine WP.bld (cs := [iv 0, .int .u64 (0)]) tysOk rfl ⟨⟩ rfl rfl rfl rfl rfl rfl rfl ?_
    refine WP.sto' tysOk [iv 0, .int .u64 (0)] rfl rfl rfl rfl rfl rfl rfl rfl rfl (.tail (.tail (.tail .head))) rfl rfl ?_
    refine WP.sto' tysOk [.bool (false)] rfl rfl rfl rfl rfl rfl rfl rfl rfl (.tail (.tail (.tail .head))) rfl rfl ?_
    refine WP.leaveRet (s3, s4) rfl ⟨rfl, h⟩ ?_
    exact (.cons (.tail (.tail (.tail .head))) (.cons .head (.cons .head (.cons (.tail .head) (.cons (.tail .head) .nil)))))
   rw [if_neg hh6] at h
   obtain ⟨r11, hg11, h⟩ := bind_some h
   obtain ⟨r12, hg12, h⟩ := bind_some h
   refine WP.drawL 5 [(3, [], fun _ => constSpec (.agg #[iv r11.hi, .int .u64 (r11.lo)])), (4, [], fun _ => constSpec (.agg #[iv r12.hi, .int .u64 (r12.lo)]))] rfl (by kernel_rfl) (by kernel_rfl) (by kernel_rfl) ?_
   refine WP.mx_ tysOk rfl ⟨⟨rfl, rfl⟩, rfl⟩ (SegAt.blk' (.tail .head) rfl) ?_
   refine WP.sx tysOk rfl ⟨⟨⟨rfl, rfl⟩, rfl⟩, ⟨⟩⟩ ?_
   refine WP.lx tysOk rfl ⟨⟨rfl, rfl⟩, rfl⟩ (CellAt.blk .head rfl) ?_
   refine WP.callV rfl rfl rfl rfl rfl rfl rfl (by kernel_rfl) (fun w1 hw1 => (num_Of_w hg11  :)) ⟨⟨rfl, rfl⟩, rfl⟩ ?_
   refine WP.callV rfl rfl rfl rfl rfl rfl rfl (by kernel_rfl) (fun w1 hw1 => (num_Plus_w hg12  :)) ⟨⟨rfl, rfl⟩, rfl⟩ ?_
   refine WP.lend rfl ⟨rfl, rfl⟩ ?_
   refine WP.sto' tysOk [iv r12.hi, .int .u64 (r12.lo)] rfl rfl rfl rfl rfl rfl rfl rfl rfl (.tail .head) rfl rfl ?_
   refine WP.stop rfl (r12.hi, r12.lo) ⟨post1, snoc_post e1, h⟩ ?_ ?_
   ·repeat first|exact ⟨⟩|refine ⟨rfl,?_⟩
   exact (.cons .head (.cons (.tail .head) (.cons (.tail .head) (.cons (.tail .head) (.cons (.tail .head) .nil)))))
  ·rintro Dd1 Zd1 ⟨s3, s4⟩ hZd1 ⟨post1, e1, h⟩
   obtain rfl : post1 = [] := by simpa using e1
   replace h := (show _ = some r from h)
   dsimp only [fe] at h ⊢
   subst hkd1
   try dsimp only at h
   refine WP.mx_ tysOk rfl ⟨⟩ (SegAt.blk' .head rfl) ?_
   refine WP.sto' tysOk [iv s3, .int .u64 (s4)] rfl rfl rfl rfl rfl rfl rfl rfl rfl (.tail (.tail .head)) rfl rfl ?_
   refine WP.sto' tysOk [.bool (true)] rfl rfl rfl rfl rfl rfl rfl rfl rfl (.tail (.tail .head)) rfl rfl ?_
   cases h
   refine WP.retM1 tysOk rfl hZd1 (.tail (.tail (.tail (.tail (.tail (.tail (.tail .head))))))) rfl ⟨_, _, _, _, rfl, ⟨_, rfl, .inr ⟨rfl, _, rfl, rfl, (SegAt.blk' (z := 2) (.tail .head) rfl).1⟩⟩, ⟨_, _, _, _, rfl, ⟨_, rfl, .inl ⟨rfl, CellAt.blk .head rfl⟩⟩, rfl, rfl⟩, rfl⟩ (fun w1 hw1 => ⟨rfl, Ret.below_ hw1 (.cons (.tail (.tail (.tail (.tail (.tail (.tail .head)))))) .nil)⟩)
  rintro Dd1 Zd1 c4 pre2 ⟨s3, s4⟩ hZd1 ⟨rfl, h⟩
  dsimp only at h ⊢
  cases h
  refine WP.retM1 tysOk rfl hZd1 (.tail (.tail (.tail (.tail (.tail (.tail (.tail .head))))))) rfl ⟨_, _, _, _, rfl, ⟨_, rfl, .inr ⟨rfl, _, rfl, rfl, (SegAt.blk' (z := 2) (.tail (.tail .head)) rfl).1⟩⟩, ⟨_, _, _, _, rfl, ⟨_, rfl, .inl ⟨rfl, CellAt.blk (.tail .head) rfl⟩⟩, rfl, rfl⟩, rfl⟩ (fun w1 hw1 => ⟨rfl, Ret.below_ hw1 (.cons (.tail (.tail (.tail (.tail (.tail (.tail .head)))))) .nil)⟩)

set_option maxRecDepth 20000 in
set_option maxHeartbeats 8000000 in
theorem num_Sum_w {w : World} {v0 : Value} {l1 : List Int} {r : Wide} (h : num_Sum l1 = some r) (p1 : SlF (fI .i64) (PH.of w) v0 l1) :
    Calls Tryz.prog 45 #[v0] w fun e w' => e = .returned (.agg #[iv r.hi, .int .u64 (r.lo)]) ∧ Below w.heap.size w w' := by
  obtain ⟨A1, c1, rfl, hs1⟩ := p1
  unfold num_Sum at h
  refine enter_ Tryz.func45 rfl Tryz.ntmps45 rfl ?_
  refine WP.al tysOk rfl rfl rfl rfl rfl rfl ?_
  intro g1
  refine WP.al tysOk rfl rfl rfl rfl rfl rfl ?_
  intro g2
  iterate 3 (refine WP.sx tysOk rfl ⟨⟨⟩, ⟨⟩⟩ ?_)
  refine WP.loop (α := Nat × Int × Int × Int) (fun x => lp (num_Sum_b1 l1) x.1 (x.2.1, x.2.2.1, x.2.2.2) = some r) (fun x => [(2, pt g1), (3, pt g2), (6, .slice A1 l1.length c1), (7, iv (l1.length : Int)), (8, iv x.2.1)]) (fun x => [.blk g2 38 [iv x.2.2.1, .int .u64 (x.2.2.2)], .blk g1 38 [iv 0, .int .u64 (0)], .fz (PH.of w)]) (fun x => x.1) rfl (big, 0, 0, 0) h ?_ ?_ ?_
  ·repeat first|exact ⟨⟩|refine ⟨rfl,?_⟩
  ·exact Pick.all
  rintro ⟨n1, s4, s5, s6⟩ h
  dsimp only at h ⊢
  rcases n1 with _ | n1
  · exact (lp_no h).elim
  replace h := lp_succ h
  unfold num_Sum_b1 at h
  try dsimp only at h
  refine WP.sx tysOk rfl ⟨⟨⟩, ⟨⟩⟩ ?_
  refine WP.cond_d rfl rfl (fun hh3 => ?_) (fun hh3 => ?_)
  ·rw [if_pos hh3] at h
   obtain ⟨hj3, h⟩ := ck_some h
   refine WP.ixA tysOk rfl ⟨⟩ rfl rfl rfl rfl rfl rfl rfl rfl hj3 (hs1.ex hj3) ?_
   intro b3 b3v hA3
   refine WP.lx tysOk rfl ⟨⟩ (hs1.at0 hA3 (Held.mem (List.Mem.tail _ (List.Mem.tail _ (List.Mem.head _)))) hj3 rfl) ?_
   refine WP.sx tysOk rfl ⟨⟨⟩, ⟨⟩⟩ ?_
   obtain ⟨r5, hg5, h⟩ := bind_some h
   obtain ⟨r6, hg6, h⟩ := bind_some h
   refine WP.drawL 4 [(2, [], fun _ => constSpec (.agg #[iv r5.hi, .int .u64 (r5.lo)])), (3, [], fun _ => constSpec (.agg #[iv r6.hi, .int .u64 (r6.lo)]))] rfl (by kernel_rfl) (by kernel_rfl) (by kernel_rfl) ?_
   refine WP.mx_ tysOk rfl ⟨⟨rfl, rfl⟩, rfl⟩ (SegAt.blk' .head rfl) ?_
   refine WP.sx tysOk rfl ⟨⟨⟨rfl, rfl⟩, rfl⟩, ⟨⟩⟩ ?_
   refine WP.callV rfl rfl rfl rfl rfl rfl rfl (by kernel_rfl) (fun w1 hw1 => (num_Of_w hg5  :)) ⟨⟨rfl, rfl⟩, rfl⟩ ?_
   refine WP.callV rfl rfl rfl rfl rfl rfl rfl (by kernel_rfl) (fun w1 hw1 => (num_Plus_w hg6  :)) ⟨⟨rfl, rfl⟩, rfl⟩ ?_
   refine WP.lend rfl ⟨rfl, rfl⟩ ?_
   refine WP.sto' tysOk [iv r6.hi, .int .u64 (r6.lo)] rfl rfl rfl rfl rfl rfl rfl rfl rfl .head rfl rfl ?_
   iterate 2 (refine WP.sx tysOk rfl ⟨⟨⟩, ⟨⟩⟩ ?_)
   refine WP.stop rfl (n1, w64 (s4 + 1), r6.hi, r6.lo) ⟨h, Nat.lt_succ_self _⟩ ?_ ?_
   ·repeat first|exact ⟨⟩|refine ⟨rfl,?_⟩
   exact Pick.all
  rw [if_neg hh3] at h
  refine WP.mx_ tysOk rfl ⟨⟩ (SegAt.blk' .head rfl) ?_
  refine WP.sto' tysOk [iv s5, .int .u64 (s6)] rfl rfl rfl rfl rfl rfl rfl rfl rfl (.tail .head) rfl rfl ?_
  cases h
  refine WP.retR tysOk rfl rfl ⟨_, _, _, _, rfl, ⟨_, rfl, .inr ⟨rfl, _, rfl, rfl, (SegAt.blk' (z := 2) .head rfl).1⟩⟩, rfl, rfl⟩ (fun w1 hw1 => ⟨rfl, Ret.below_ hw1 (.cons (.tail (.tail .head)) .nil)⟩)

set_option maxRecDepth 20000 in
set_option maxHeartbeats 8000000 in
theorem cut_Need_w {w : World} {v0 : Value} {v1 : Value} {i1 : Inst} {side1 : List Bool} {r : Wide} (h : cut_Need i1 side1 = some r) (p1 : InsZ (PH.of w) v0 i1) (p2 : SlF fB (PH.of w) v1 side1) :
    Calls Tryz.prog 19 #[v0, v1] w fun e w' => e = .returned (.agg #[iv r.hi, .int .u64 (r.lo)]) ∧ Below w.heap.size w w' := by
  obtain ⟨A1, c1, A2, c2, rfl, hs1, hs2⟩ := p1
  obtain ⟨A3, c3, rfl, hs3⟩ := p2
  unfold cut_Need at h
  refine enter_ Tryz.func19 rfl Tryz.ntmps19 rfl ?_
  refine WP.box rfl rfl rfl rfl rfl rfl ?_
  intro g1
  refine WP.al tysOk rfl rfl rfl rfl rfl rfl ?_
  intro g2
  iterate 2 (refine WP.sx tysOk rfl ⟨⟨⟩, ⟨⟩⟩ ?_)
  refine WP.lx tysOk rfl ⟨⟩ (CellAt.blk (.tail .head) rfl) ?_
  iterate 2 (refine WP.sx tysOk rfl ⟨⟨⟩, ⟨⟩⟩ ?_)
  refine WP.own_nil 2 (fI .i64).z ?_
  refine WP.loop (α := Nat × Int × (List Int) × (Option Addr) × Nat × Nat) (fun x => lp (cut_Need_b1 i1 side1) x.1 (x.2.1, x.2.2.1) = some r ∧ OwF x.2.2.2.1 x.2.2.2.2.1 x.2.2.1) (fun x => [(1, .slice A3 side1.length c3), (4, pt g2), (5, .slice x.2.2.2.1 x.2.2.2.2.1 x.2.2.2.2.2), (9, .slice A1 i1.supply.length c1), (10, iv (i1.supply.length : Int)), (11, iv x.2.1)]) (fun x => [Ow (fI .i64) 2 x.2.2.2.1 x.2.2.2.2.1 x.2.2.2.2.2 x.2.2.1, .blk g2 38 [iv 0, .int .u64 (0)], .fz (PH.of w)]) (fun x => x.1) rfl (big, 0, ([] : List Int), none, 0, 0) ⟨h, OwF.nil_⟩ ?_ ?_ ?_
  ·repeat first|exact ⟨⟩|refine ⟨rfl,?_⟩
  ·exact (.cons .head (.cons .head (.cons (.tail .head) .nil)))
  rintro ⟨n1, s3, xs6, A9, m2, c9⟩ ⟨h, hf10⟩
  dsimp only at h hf10 ⊢
  rcases n1 with _ | n1
  · exact (lp_no h).elim
  replace h := lp_succ h
  unfold cut_Need_b1 at h
  try dsimp only at h
  refine WP.sx tysOk rfl ⟨⟨⟩, ⟨⟩⟩ ?_
  refine WP.cond_d rfl rfl (fun hh9 => ?_) (fun hh9 => ?_)
  ·rw [if_pos hh9] at h
   refine WP.sx tysOk rfl ⟨⟨⟩, ⟨⟩⟩ ?_
   obtain ⟨hj5, h⟩ := ck_some h
   refine WP.ixA tysOk rfl ⟨⟩ rfl rfl rfl rfl rfl rfl rfl rfl hj5 (hs1.ex hj5) ?_
   intro b5 b5v hA5
   refine WP.lx tysOk rfl ⟨⟩ (hs1.at0 hA5 (Held.mem (List.Mem.tail _ (List.Mem.tail _ (List.Mem.head _)))) hj5 rfl) ?_
   iterate 4 (refine WP.sx tysOk rfl ⟨⟨⟩, ⟨⟩⟩ ?_)
   obtain ⟨r9, hg9, h⟩ := bind_some h
   refine WP.callV rfl rfl rfl rfl rfl rfl rfl (by kernel_rfl) (fun w1 hw1 => (cut_on_w hg9 (hs3.le' ((Held.mem (List.Mem.tail _ (List.Mem.tail _ (List.Mem.head _)))) _ _ hw1)).of :)) ⟨⟩ ?_
   refine WP.cond rfl rfl (fun hh10 => ?_) (fun hh10 => ?_)
   ·rw [if_pos hh10] at h
    iterate 2 (refine WP.sx tysOk rfl ⟨⟨⟩, ⟨⟩⟩ ?_)
    refine WP.bsO (f := (fI .i64)) [(gt i1.supply s3)] tysOk rfl rfl rfl rfl rfl rfl rfl rfl rfl rfl rfl rfl rfl rfl ?_
    intro g7 hf11
    obtain ⟨hl5, h⟩ := ck_some h
    obtain ⟨xs7, hz5, h⟩ := lt_some h
    refine WP.appO (f := (fI .i64)) (xs := xs6) (ys := [(gt i1.supply s3)]) tysOk rfl rfl rfl rfl rfl rfl rfl rfl rfl rfl rfl rfl (.tail .head) hf10 hf11.len (OwS.app .head hf11) hl5 hz5 ?_
    intro A10 c10 hf12
    iterate 3 (refine WP.sx tysOk rfl ⟨⟨⟩, ⟨⟩⟩ ?_)
    refine WP.stop rfl (n1, w64 (s3 + 1), xs7, A10, xs7.length, c10) ⟨⟨h, hf12⟩, Nat.lt_succ_self _⟩ ?_ ?_
    ·repeat first|exact ⟨⟩|refine ⟨rfl,?_⟩
    exact (.cons .head (.cons (.tail .head) (.cons (.tail .head) .nil)))
   rw [if_neg (bneg hh10)] at h
   iterate 2 (refine WP.sx tysOk rfl ⟨⟨⟩, ⟨⟩⟩ ?_)
   refine WP.stop rfl (n1, w64 (s3 + 1), xs6, A9, m2, c9) ⟨⟨h, hf10⟩, Nat.lt_succ_self _⟩ ?_ ?_
   ·repeat first|exact ⟨⟩|refine ⟨rfl,?_⟩
   exact Pick.all
  rw [if_neg hh9] at h
  refine WP.sx tysOk rfl ⟨⟨⟩, ⟨⟩⟩ ?_
  obtain ⟨r10, hg10, h⟩ := bind_some h
  refine WP.callV rfl rfl rfl rfl rfl rfl rfl (by kernel_rfl) (fun w1 hw1 => (num_Sum_w hg10 (hw1.ow .head hf10) :)) ⟨⟩ ?_
  refine WP.sto' tysOk [iv r10.hi, .int .u64 (r10.lo)] rfl rfl rfl rfl rfl rfl rfl rfl rfl (.tail .head) rfl rfl ?_
  cases h
  refine WP.retR tysOk rfl rfl ⟨_, _, _, _, rfl, ⟨_, rfl, .inr ⟨rfl, _, rfl, rfl, (SegAt.blk' (z := 2) .head rfl).1⟩⟩, rfl, rfl⟩ (fun w1 hw1 => ⟨rfl, Ret.below_ hw1 (.cons (.tail (.tail .head)) .nil)⟩)

set_option maxRecDepth 20000 in
set_option maxHeartbeats 8000000 in
theorem law17_LeafSides_w {w : World} {v0 : Value} {v1 : Value} {v2 : Value} {d1 : List Int} {i1 : List Int} {x1 : List Int} {r : Bool} (h : law17_LeafSides d1 i1 x1 = some r) (p1 : SlF (fI .u8) (PH.of w) v0 d1) (p2 : SlF (fI .u8) (PH.of w) v1 i1) (p3 : SlF (fI .u8) (PH.of w) v2 x1) (pg : GlobE (PH.of w)) :
    Calls Tryz.prog 4 #[v0, v1, v2] w fun e w' => e = .returned (.bool (r)) ∧ Below w.heap.size w w' := by
  obtain ⟨A1, c1, rfl, hs1⟩ := p1
  obtain ⟨A2, c2, rfl, hs2⟩ := p2
  obtain ⟨A3, c3, rfl, hs3⟩ := p3
  unfold law17_LeafSides at h
  refine enter_ Tryz.func4 rfl Tryz.ntmps4 rfl ?_
  iterate 3 (refine WP.sx tysOk rfl ⟨⟨⟩, ⟨⟩⟩ ?_)
  obtain ⟨r1, hg1, h⟩ := bind_some h
  refine WP.callS (law17_Tree_S r1) rfl rfl rfl rfl rfl rfl rfl (by kernel_rfl) (fun w1 hw1 => (law17_Tree_w hg1 (hs1.le' ((Held.mem (List.Mem.head _)) _ _ hw1)).of (hs2.le' ((Held.mem (List.Mem.head _)) _ _ hw1)).of :)) ?_
  rintro _ _ ⟨A4, n1, c4, A5, n2, c5, rfl, hf1, hf2, rfl⟩
  refine WP.al tysOk rfl rfl rfl rfl rfl rfl ?_
  intro g1
  refine WP.sto' tysOk [.slice A4 n1 c4, .slice A5 n2 c5] rfl rfl rfl rfl rfl rfl rfl rfl rfl .head rfl rfl ?_
  refine WP.mx_ tysOk rfl ⟨⟩ (SegAt.blk' .head rfl) ?_
  obtain ⟨r2, hg2, h⟩ := bind_some h
  refine WP.freezeO (.tail .head) hf1 ?_
  intro Zp1 hz1
  have hl1 := hf1.len
  subst hl1
  refine WP.freezeO (.tail (.tail .head)) hf2 ?_
  intro Zp2 hz2
  have hl2 := hf2.len
  subst hl2
  refine WP.callS (leaf_Leaf_S (PH.or Zp1 Zp2) r2) rfl rfl rfl rfl rfl rfl rfl (by kernel_rfl) (fun w1 hw1 => (leaf_Leaf_w (Z := (PH.or Zp1 Zp2)) ((Held.or (Held.mem (List.Mem.tail _ (List.Mem.head _))) (Held.mem (List.Mem.head _))) _ _ hw1) hg2 (InsZ.mk_ ((hz1.le' (PH.le.trans PH.le.rfl_ (PH.le_or _ _))).of) ((hz2.le' (PH.ri_or ((Held.mem (List.Mem.tail _ (List.Mem.head _))) _ _ hw1) ((Held.mem (List.Mem.head _)) _ _ hw1))).of)) (pg.le ((Held.mem (List.Mem.tail _ (List.Mem.tail _ (List.Mem.tail _ (List.Mem.head _))))) _ _ hw1)) :)) ?_
  rintro _ _ ⟨Zn1, A6, _, c6, A7, _, c7, A8, _, c8, A9, _, c9, rfl, rfl, rfl, rfl, rfl, hs4, hs5, hs6, hs7, rfl⟩
  iterate 3 (refine WP.sx tysOk rfl ⟨⟨⟩, ⟨⟩⟩ ?_)
  refine WP.al tysOk rfl rfl rfl rfl rfl rfl ?_
  intro g2
  refine WP.sto' tysOk [.slice A6 r2.1.inst.supply.length c6, .slice A7 r2.1.inst.arcs.length c7, iv r2.1.rcd.pass, .slice A8 r2.1.rcd.was.supply.length c8, .slice A9 r2.1.rcd.was.arcs.length c9, iv r2.1.off.hi, .int .u64 (r2.1.off.lo), .bool (r2.1.did)] rfl rfl rfl rfl rfl rfl rfl rfl rfl .head rfl rfl ?_
  iterate 4 (refine WP.sx tysOk rfl ⟨⟨⟩, ⟨⟩⟩ ?_)
  by_cases hh1 : ¬ r2.2 = 0
  ·rw [if_pos hh1] at h
   refine WP.no rfl rfl (decide_eq_true hh1) rfl rfl ?_
   iterate 2 (refine WP.no rfl rfl rfl rfl rfl ?_)
   refine WP.sx tysOk rfl ⟨⟨⟩, ⟨⟩⟩ ?_
   refine WP.condT rfl rfl ?_
   obtain ⟨r3, hg3, h⟩ := bind_some h
   refine WP.callV rfl rfl rfl rfl rfl rfl rfl (by kernel_rfl) (fun w1 hw1 => (law17_known_w hg3 (pg.le ((Held.mem (List.Mem.tail _ (List.Mem.tail _ (List.Mem.tail _ (List.Mem.tail _ (List.Mem.tail _ (List.Mem.head _))))))) _ _ hw1)) :)) ⟨⟩ ?_
   refine WP.sx tysOk rfl ⟨⟨⟩, ⟨⟩⟩ ?_
   cases h
   refine WP.retR tysOk rfl rfl ⟨_, _, rfl, rfl, rfl⟩ (fun w1 hw1 => ⟨rfl, Ret.below_ hw1 (.cons (.tail (.tail (.tail (.tail (.tail .head))))) .nil)⟩)
  rw [if_neg hh1] at h
  refine WP.yes rfl rfl (decide_eq_false hh1) ?_
  refine WP.sx tysOk rfl ⟨⟨⟩, ⟨⟩⟩ ?_
  refine WP.yes rfl rfl rfl ?_
  refine WP.lx tysOk rfl ⟨⟩ (CellAt.blk .head rfl) ?_
  refine WP.yes rfl rfl rfl ?_
  iterate 2 (refine WP.sx tysOk rfl ⟨⟨⟩, ⟨⟩⟩ ?_)
  refine WP.cond_n rfl rfl (fun hh2 => ?_) (fun hh2 => ?_)
  ·rw [if_neg (bneg hh2)] at h
   obtain ⟨r4, hg4, h⟩ := bind_some h
   refine WP.callV rfl rfl rfl rfl rfl rfl rfl (by kernel_rfl) (fun w1 hw1 => (law17_known_w hg4 (pg.le ((Held.mem (List.Mem.tail _ (List.Mem.tail _ (List.Mem.tail _ (List.Mem.tail _ (List.Mem.tail _ (List.Mem.head _))))))) _ _ hw1)) :)) ⟨⟩ ?_
   refine WP.sx tysOk rfl ⟨⟨⟩, ⟨⟩⟩ ?_
   cases h
   refine WP.retR tysOk rfl rfl ⟨_, _, rfl, rfl, rfl⟩ (fun w1 hw1 => ⟨rfl, Ret.below_ hw1 (.cons (.tail (.tail (.tail (.tail (.tail .head))))) .nil)⟩)
  rw [if_pos hh2] at h
  refine WP.sx tysOk rfl ⟨⟨⟩, ⟨⟩⟩ ?_
  refine WP.lx tysOk rfl ⟨⟩ (CellAt.blk (.tail (.tail (.tail (.tail .head)))) rfl) ?_
  iterate 3 (refine WP.sx tysOk rfl ⟨⟨⟩, ⟨⟩⟩ ?_)
  refine WP.lx tysOk rfl ⟨⟩ (CellAt.blk (.tail (.tail (.tail (.tail .head)))) rfl) ?_
  iterate 3 (refine WP.sx tysOk rfl ⟨⟨⟩, ⟨⟩⟩ ?_)
  refine WP.loop (α := Nat × Int × Int) (fun x => lp (law17_LeafSides_b1 x1 r1 r2) x.1 (x.2.1, x.2.2) = some r) (fun x => [(2, .slice A3 x1.length c3), (7, pt g1), (8, pt g2), (10, iv x.2.1), (11, iv x.2.2)]) (fun x => [.blk g2 40 [.slice A6 r2.1.inst.supply.length c6, .slice A7 r2.1.inst.arcs.length c7, iv r2.1.rcd.pass, .slice A8 r2.1.rcd.was.supply.length c8, .slice A9 r2.1.rcd.was.arcs.length c9, iv r2.1.off.hi, .int .u64 (r2.1.off.lo), .bool (r2.1.did)], .fz Zn1, .fz Zp2, .fz Zp1, .blk g1 25 [.slice A4 r1.supply.length c4, .slice A5 r1.arcs.length c5], .fz (PH.of w)]) (fun x => x.1) rfl (big, (r1.supply.length : Int), w64 ((r1.supply.length : Int) - 1)) h ?_ ?_ ?_
  ·repeat first|exact ⟨⟩|refine ⟨rfl,?_⟩
  ·exact Pick.all
  rintro ⟨n5, s3, s4⟩ h
  dsimp only at h ⊢
  rcases n5 with _ | n5
  · exact (lp_no h).elim
  replace h := lp_succ h
  unfold law17_LeafSides_b1 at h
  try dsimp only at h
  iterate 2 (refine WP.sx tysOk rfl ⟨⟨⟩, ⟨⟩⟩ ?_)
  refine WP.cond_d rfl rfl (fun hh27 => ?_) (fun hh27 => ?_)
  ·rw [if_pos hh27] at h
   refine WP.mx_ tysOk rfl ⟨⟩ (SegAt.blk' (.tail (.tail (.tail (.tail .head)))) rfl) ?_
   refine WP.sx tysOk rfl ⟨⟨⟩, ⟨⟩⟩ ?_
   obtain ⟨r39, hg39, h⟩ := bind_some h
   refine WP.callV rfl rfl rfl rfl rfl rfl rfl (by kernel_rfl) (fun w1 hw1 => (leaf_Tip_w hg39 (InsZ.mk_ ((hz1.le' ((Held.mem (List.Mem.tail _ (List.Mem.tail _ (List.Mem.tail _ (List.Mem.head _))))) _ _ hw1)).of) ((hz2.le' ((Held.mem (List.Mem.tail _ (List.Mem.tail _ (List.Mem.head _)))) _ _ hw1)).of)) :)) ⟨⟩ ?_
   iterate 8 (refine WP.sx tysOk rfl ⟨⟨⟩, ⟨⟩⟩ ?_)
   refine WP.cond rfl rfl (fun hh28 => ?_) (fun hh28 => ?_)
   ·rw [if_pos hh28] at h
    iterate 5 (refine WP.sx tysOk rfl ⟨⟨⟩, ⟨⟩⟩ ?_)
    refine WP.stop rfl (n5, s4, w64 (s4 - 1)) ⟨h, Nat.lt_succ_self _⟩ ?_ ?_
    ·repeat first|exact ⟨⟩|refine ⟨rfl,?_⟩
    exact Pick.all
   rw [if_neg (bneg hh28)] at h
   iterate 3 (refine WP.sx tysOk rfl ⟨⟨⟩, ⟨⟩⟩ ?_)
   refine WP.stop rfl (n5, s3, w64 (s4 - 1)) ⟨h, Nat.lt_succ_self _⟩ ?_ ?_
   ·repeat first|exact ⟨⟩|refine ⟨rfl,?_⟩
   exact Pick.all
  rw [if_neg hh27] at h
  refine WP.mx_ tysOk rfl ⟨⟩ (SegAt.blk' (.tail (.tail (.tail (.tail .head)))) rfl) ?_
  refine WP.sx tysOk rfl ⟨⟨⟩, ⟨⟩⟩ ?_
  obtain ⟨r40, hg40, h⟩ := bind_some h
  refine WP.callV rfl rfl rfl rfl rfl rfl rfl (by kernel_rfl) (fun w1 hw1 => (leaf_Tip_w hg40 (InsZ.mk_ ((hz1.le' ((Held.mem (List.Mem.tail _ (List.Mem.tail _ (List.Mem.tail _ (List.Mem.head _))))) _ _ hw1)).of) ((hz2.le' ((Held.mem (List.Mem.tail _ (List.Mem.tail _ (List.Mem.head _)))) _ _ hw1)).of)) :)) ⟨⟩ ?_
  iterate 10 (refine WP.sx tysOk rfl ⟨⟨⟩, ⟨⟩⟩ ?_)
  by_cases hh29 : r40.2.2 = true
  ·rw [if_pos hh29] at h
   refine WP.yes rfl rfl (by simp [hh29]) ?_
   refine WP.sx tysOk rfl ⟨⟨⟩, ⟨⟩⟩ ?_
   refine WP.yes rfl rfl rfl ?_
   iterate 3 (refine WP.sx tysOk rfl ⟨⟨⟩, ⟨⟩⟩ ?_)
   by_cases hh30 : r40.1 < 0
   ·rw [if_pos hh30] at h
    refine WP.no rfl rfl (decide_eq_true hh30) rfl rfl ?_
    iterate 4 (refine WP.no rfl rfl rfl rfl rfl ?_)
    refine WP.sx tysOk rfl ⟨⟨⟩, ⟨⟩⟩ ?_
    refine WP.condT rfl rfl ?_
    refine WP.sx tysOk rfl ⟨⟨⟩, ⟨⟩⟩ ?_
    cases h
    refine WP.retR tysOk rfl rfl ⟨_, _, rfl, rfl, rfl⟩ (fun w1 hw1 => ⟨rfl, Ret.below_ hw1 (.cons (.tail (.tail (.tail (.tail (.tail .head))))) .nil)⟩)
   rw [if_neg hh30] at h
   refine WP.yes rfl rfl (decide_eq_false hh30) ?_
   iterate 2 (refine WP.sx tysOk rfl ⟨⟨⟩, ⟨⟩⟩ ?_; refine WP.yes rfl rfl rfl ?_)
   refine WP.lx tysOk rfl ⟨⟩ (CellAt.blk (.tail (.tail (.tail (.tail .head)))) rfl) ?_
   refine WP.yes rfl rfl rfl ?_
   refine WP.sx tysOk rfl ⟨⟨⟩, ⟨⟩⟩ ?_
   refine WP.yes rfl rfl rfl ?_
   iterate 2 (refine WP.sx tysOk rfl ⟨⟨⟩, ⟨⟩⟩ ?_)
   refine WP.cond_d rfl rfl (fun hh31 => ?_) (fun hh31 => ?_)
   ·rw [if_pos hh31] at h
    refine WP.sx tysOk rfl ⟨⟨⟩, ⟨⟩⟩ ?_
    cases h
    refine WP.retR tysOk rfl rfl ⟨_, _, rfl, rfl, rfl⟩ (fun w1 hw1 => ⟨rfl, Ret.below_ hw1 (.cons (.tail (.tail (.tail (.tail (.tail .head))))) .nil)⟩)
   rw [if_neg hh31] at h
   refine WP.sx tysOk rfl ⟨⟨⟩, ⟨⟩⟩ ?_
   refine WP.lx tysOk rfl ⟨⟩ (CellAt.blk (.tail (.tail (.tail (.tail .head)))) rfl) ?_
   refine WP.sx tysOk rfl ⟨⟨⟩, ⟨⟩⟩ ?_
   obtain ⟨hm3, h⟩ := ck_some h
   refine WP.mkO (f := fB) false tysOk rfl rfl rfl rfl rfl rfl rfl rfl rfl rfl rfl rfl hm3 ?_
   intro g13 hf21
   iterate 4 (refine WP.sx tysOk rfl ⟨⟨⟩, ⟨⟩⟩ ?_)
   refine WP.lenO (xs := (List.replicate (r1.supply.length : Int).toNat false)) tysOk rfl ⟨⟩ rfl rfl rfl rfl rfl rfl hf21 ?_
   obtain ⟨r41, hg41, h⟩ := bind_some h
   refine WP.callS (law03_Marks_S r41) rfl rfl rfl rfl rfl rfl rfl (by kernel_rfl) (fun w1 hw1 => (law03_Marks_w hg41 (hs3.le' ((Held.mem (List.Mem.tail _ (List.Mem.tail _ (List.Mem.tail _ (List.Mem.tail _ (List.Mem.tail _ (List.Mem.tail _ (List.Mem.head _)))))))) _ _ hw1)).of :)) ?_
   rintro _ _ ⟨A28, n6, c20, rfl, hf22, rfl⟩
   obtain ⟨xs15, hz13, h⟩ := lt_some h
   refine WP.cpyO (f := fB) (xs := (List.replicate (r1.supply.length : Int).toNat false)) (ys := r41) tysOk rfl rfl rfl rfl rfl rfl rfl rfl rfl rfl (.tail .head) hf21 hf22.len (OwS.app .head hf22) hz13 ?_
   intro hf23
   refine WP.sx tysOk rfl ⟨⟨⟩, ⟨⟩⟩ ?_
   refine WP.lx tysOk rfl ⟨⟩ (CellAt.blk (.tail (.tail (.tail (.tail (.tail (.tail .head)))))) rfl) ?_
   refine WP.sx tysOk rfl ⟨⟨⟩, ⟨⟩⟩ ?_
   obtain ⟨hj11, h⟩ := ck_some h
   refine WP.ixA tysOk rfl ⟨⟩ rfl rfl rfl rfl rfl rfl rfl rfl hj11 (hz2.ex hj11) ?_
   intro b13 b13v hA13
   refine WP.sx tysOk rfl ⟨⟨⟩, ⟨⟩⟩ ?_
   refine WP.lx tysOk rfl ⟨⟩ (hz2.at0 hA13 (Held.mem (List.Mem.tail _ (List.Mem.tail _ (List.Mem.tail _ (List.Mem.tail _ (List.Mem.head _)))))) hj11 rfl) ?_
   iterate 4 (refine WP.sx tysOk rfl ⟨⟨⟩, ⟨⟩⟩ ?_)
   refine WP.cond_d rfl rfl (fun hh32 => ?_) (fun hh32 => ?_)
   ·rw [if_pos hh32] at h
    refine WP.sx tysOk rfl ⟨⟨⟩, ⟨⟩⟩ ?_
    refine WP.lx tysOk rfl ⟨⟩ (CellAt.blk (.tail (.tail (.tail (.tail (.tail (.tail .head)))))) rfl) ?_
    refine WP.sx tysOk rfl ⟨⟨⟩, ⟨⟩⟩ ?_
    refine WP.ixA tysOk rfl ⟨⟩ rfl rfl rfl rfl rfl rfl rfl rfl hj11 (hz2.ex hj11) ?_
    intro b14 b14v hA14
    refine WP.sx tysOk rfl ⟨⟨⟩, ⟨⟩⟩ ?_
    refine WP.lx tysOk rfl ⟨⟩ (hz2.at hA14 (Held.mem (List.Mem.tail _ (List.Mem.tail _ (List.Mem.tail _ (List.Mem.tail _ (List.Mem.head _)))))) hj11 1 rfl) ?_
    iterate 5 (refine WP.sx tysOk rfl ⟨⟨⟩, ⟨⟩⟩ ?_)
    obtain ⟨hj12, h⟩ := ck_some h
    refine WP.ixO tysOk rfl ⟨⟩ rfl rfl rfl rfl rfl rfl rfl rfl hf23 hj12 ?_
    intro b15 hA15
    refine WP.lx tysOk rfl ⟨⟩ (OwS.at0 .head hA15 hj12 rfl) ?_
    obtain ⟨hj13, h⟩ := ck_some h
    refine WP.ixO tysOk rfl ⟨⟩ rfl rfl rfl rfl rfl rfl rfl rfl hf23 hj13 ?_
    intro b16 hA16
    obtain ⟨xs16, hx5, h⟩ := lt_some h
    refine WP.stoO (f := fB) 0 (gt xs15 ((gt r1.arcs r40.1).dst)) tysOk rfl rfl rfl rfl rfl rfl rfl rfl rfl .head hA16 hf23 hj13 rfl rfl rfl hx5 ?_
    intro hf24
    iterate 4 (refine WP.sx tysOk rfl ⟨⟨⟩, ⟨⟩⟩ ?_)
    obtain ⟨hb9, h⟩ := ck_some h
    refine WP.slO (f := fB) (xs := xs16) (0 : Int) s3 tysOk rfl ⟨⟩ rfl rfl rfl rfl rfl rfl rfl rfl ⟨_, rfl⟩ .head hf24 hb9 ?_
    intro A29 hp9
    refine WP.own_nil 4 fB.z ?_
    obtain ⟨hl11, h⟩ := ck_some h
    obtain ⟨xs17, hz14, h⟩ := lt_some h
    refine WP.appO (f := fB) (xs := ([] : List Bool)) (ys := (prt xs16 (0 : Int) s3)) tysOk rfl rfl rfl rfl rfl rfl rfl rfl rfl rfl rfl rfl .head OwF.nil_ rfl (OwS.appPt (.tail .head) hb9 hp9) hl11 hz14 ?_
    intro A30 c21 hf25
    iterate 5 (refine WP.sx tysOk rfl ⟨⟨⟩, ⟨⟩⟩ ?_)
    obtain ⟨hb10, h⟩ := ck_some h
    refine WP.slO (f := fB) (xs := xs16) (w64 (s3 + 1)) (xs16.length : Int) tysOk rfl ⟨⟩ rfl rfl rfl rfl rfl rfl rfl ⟨_, rfl⟩ (congrArg (fun x : Nat => (x : Int)) hf24.len) (.tail .head) hf24 hb10 ?_
    intro A31 hp10
    obtain ⟨hl12, h⟩ := ck_some h
    obtain ⟨xs18, hz15, h⟩ := lt_some h
    refine WP.appO (f := fB) (xs := xs17) (ys := (prt xs16 (w64 (s3 + 1)) (xs16.length : Int))) tysOk rfl rfl rfl rfl rfl rfl rfl rfl rfl rfl rfl rfl .head hf25 rfl (OwS.appPt (.tail .head) hb10 hp10) hl12 hz15 ?_
    intro A32 c22 hf26
    refine WP.sx tysOk rfl ⟨⟨⟩, ⟨⟩⟩ ?_
    refine WP.mx_ tysOk rfl ⟨⟩ (SegAt.blk' (.tail (.tail (.tail (.tail (.tail (.tail (.tail .head))))))) rfl) ?_
    refine WP.sx tysOk rfl ⟨⟨⟩, ⟨⟩⟩ ?_
    obtain ⟨r42, hg42, h⟩ := bind_some h
    refine WP.callV rfl rfl rfl rfl rfl rfl rfl (by kernel_rfl) (fun w1 hw1 => (cut_Room_w hg42 (InsZ.mk_ ((hz1.le' ((Held.mem (List.Mem.tail _ (List.Mem.tail _ (List.Mem.tail _ (List.Mem.tail _ (List.Mem.tail _ (List.Mem.tail _ (List.Mem.head _)))))))) _ _ hw1)).of) ((hz2.le' ((Held.mem (List.Mem.tail _ (List.Mem.tail _ (List.Mem.tail _ (List.Mem.tail _ (List.Mem.tail _ (List.Mem.head _))))))) _ _ hw1)).of)) (hw1.ow (.tail .head) hf24) :)) ⟨⟩ ?_
    iterate 3 (refine WP.sx tysOk rfl ⟨⟨⟩, ⟨⟩⟩ ?_)
    refine WP.al tysOk rfl rfl rfl rfl rfl rfl ?_
    intro g14
    refine WP.sto' tysOk [iv r42.1.hi, .int .u64 (r42.1.lo)] rfl rfl rfl rfl rfl rfl rfl rfl rfl .head rfl rfl ?_
    iterate 2 (refine WP.sx tysOk rfl ⟨⟨⟩, ⟨⟩⟩ ?_)
    refine WP.mx_ tysOk rfl ⟨⟩ (SegAt.blk' (.tail (.tail (.tail (.tail .head)))) rfl) ?_
    refine WP.sx tysOk rfl ⟨⟨⟩, ⟨⟩⟩ ?_
    obtain ⟨r43, hg43, h⟩ := bind_some h
    refine WP.callV rfl rfl rfl rfl rfl rfl rfl (by kernel_rfl) (fun w1 hw1 => (cut_Room_w hg43 (InsZ.mk_ ((hs4.le' ((Held.or (Held.or (Held.mem (List.Mem.tail _ (List.Mem.tail _ (List.Mem.tail _ (List.Mem.tail _ (List.Mem.tail _ (List.Mem.tail _ (List.Mem.tail _ (List.Mem.head _))))))))) (Held.mem (List.Mem.tail _ (List.Mem.tail _ (List.Mem.tail _ (List.Mem.tail _ (List.Mem.tail _ (List.Mem.tail _ (List.Mem.head _))))))))) (Held.mem (List.Mem.tail _ (List.Mem.tail _ (List.Mem.tail _ (List.Mem.tail _ (List.Mem.tail _ (List.Mem.head _)))))))) _ _ hw1)).of) ((hs5.le' ((Held.or (Held.or (Held.mem (List.Mem.tail _ (List.Mem.tail _ (List.Mem.tail _ (List.Mem.tail _ (List.Mem.tail _ (List.Mem.tail _ (List.Mem.tail _ (List.Mem.head _))))))))) (Held.mem (List.Mem.tail _ (List.Mem.tail _ (List.Mem.tail _ (List.Mem.tail _ (List.Mem.tail _ (List.Mem.tail _ (List.Mem.head _))))))))) (Held.mem (List.Mem.tail _ (List.Mem.tail _ (List.Mem.tail _ (List.Mem.tail _ (List.Mem.tail _ (List.Mem.head _)))))))) _ _ hw1)).of)) (hw1.ow (.tail .head) hf26) :)) ⟨⟩ ?_
    iterate 3 (refine WP.sx tysOk rfl ⟨⟨⟩, ⟨⟩⟩ ?_)
    refine WP.al tysOk rfl rfl rfl rfl rfl rfl ?_
    intro g15
    refine WP.sto' tysOk [iv r43.1.hi, .int .u64 (r43.1.lo)] rfl rfl rfl rfl rfl rfl rfl rfl rfl .head rfl rfl ?_
    refine WP.sx tysOk rfl ⟨⟨⟩, ⟨⟩⟩ ?_
    refine WP.draw rfl (by kernel_rfl) (by kernel_rfl) ?_
    obtain ⟨r44, hg44, h⟩ := bind_some h
    refine WP.callV rfl rfl rfl rfl rfl rfl rfl (by kernel_rfl) (fun w1 hw1 => (law17_known_w hg44 (pg.le ((Held.mem (List.Mem.tail _ (List.Mem.tail _ (List.Mem.tail _ (List.Mem.tail _ (List.Mem.tail _ (List.Mem.tail _ (List.Mem.tail _ (List.Mem.tail _ (List.Mem.tail _ (List.Mem.tail _ (List.Mem.head _)))))))))))) _ _ hw1)) :)) rfl ?_
    refine WP.sx tysOk rfl ⟨rfl, ⟨⟩⟩ ?_
    by_cases hh33 : r44 = true
    ·rw [if_pos hh33] at h
     refine WP.yes rfl rfl hh33 ?_
     iterate 2 (refine WP.sx tysOk rfl ⟨rfl, ⟨⟩⟩ ?_; refine WP.yes rfl rfl rfl ?_)
     iterate 3 (refine WP.sx tysOk rfl ⟨rfl, ⟨⟩⟩ ?_)
     by_cases hh34 : (r42.2 == r43.2) = true
     ·rw [if_pos hh34] at h
      refine WP.yes rfl rfl hh34 ?_
      iterate 2 (refine WP.sx tysOk rfl ⟨rfl, ⟨⟩⟩ ?_; refine WP.yes rfl rfl rfl ?_)
      refine WP.sx tysOk rfl ⟨rfl, ⟨⟩⟩ ?_
      by_cases hh35 : r42.2 = true
      ·rw [if_pos hh35] at h
       refine WP.yes rfl rfl (by simp [hh35]) ?_
       refine WP.mx_ tysOk rfl rfl (SegAt.blk' (.tail .head) rfl) ?_
       refine WP.yes rfl rfl rfl ?_
       refine WP.mx_ tysOk rfl rfl (SegAt.blk' (.tail (.tail (.tail (.tail (.tail (.tail (.tail (.tail (.tail .head))))))))) rfl) ?_
       refine WP.yes rfl rfl rfl ?_
       refine WP.sx tysOk rfl ⟨rfl, ⟨⟩⟩ ?_
       refine WP.yes rfl rfl rfl ?_
       obtain ⟨r45, hg45, h⟩ := bind_some h
       refine WP.callV rfl rfl rfl rfl rfl rfl rfl (by kernel_rfl) (fun w1 hw1 => (cut_Need_w hg45 (InsZ.mk_ ((hz1.le' ((Held.mem (List.Mem.tail _ (List.Mem.tail _ (List.Mem.tail _ (List.Mem.tail _ (List.Mem.tail _ (List.Mem.tail _ (List.Mem.tail _ (List.Mem.tail _ (List.Mem.head _)))))))))) _ _ hw1)).of) ((hz2.le' ((Held.mem (List.Mem.tail _ (List.Mem.tail _ (List.Mem.tail _ (List.Mem.tail _ (List.Mem.tail _ (List.Mem.tail _ (List.Mem.tail _ (List.Mem.head _))))))))) _ _ hw1)).of)) (hw1.ow (.tail (.tail (.tail .head))) hf24) :)) rfl ?_
       refine WP.yes rfl rfl rfl ?_
       obtain ⟨r46, hg46, h⟩ := bind_some h
       refine WP.callV rfl rfl rfl rfl rfl rfl rfl (by kernel_rfl) (fun w1 hw1 => (num_Minus_w hg46  :)) rfl ?_
       refine WP.yes rfl rfl rfl ?_
       refine WP.mx_ tysOk rfl rfl (SegAt.blk' .head rfl) ?_
       refine WP.yes rfl rfl rfl ?_
       refine WP.sx tysOk rfl ⟨rfl, ⟨⟩⟩ ?_
       refine WP.yes rfl rfl rfl ?_
       refine WP.mx_ tysOk rfl rfl (SegAt.blk' (.tail (.tail (.tail (.tail (.tail .head))))) rfl) ?_
       refine WP.yes rfl rfl rfl ?_
       refine WP.sx tysOk rfl ⟨rfl, ⟨⟩⟩ ?_
       refine WP.yes rfl rfl rfl ?_
       obtain ⟨r47, hg47, h⟩ := bind_some h
       refine WP.callV rfl rfl rfl rfl rfl rfl rfl (by kernel_rfl) (fun w1 hw1 => (cut_Need_w hg47 (InsZ.mk_ ((hs4.le' ((Held.or (Held.or (Held.mem (List.Mem.tail _ (List.Mem.tail _ (List.Mem.tail _ (List.Mem.tail _ (List.Mem.tail _ (List.Mem.tail _ (List.Mem.tail _ (List.Mem.tail _ (List.Mem.head _)))))))))) (Held.mem (List.Mem.tail _ (List.Mem.tail _ (List.Mem.tail _ (List.Mem.tail _ (List.Mem.tail _ (List.Mem.tail _ (List.Mem.tail _ (List.Mem.head _)))))))))) (Held.mem (List.Mem.tail _ (List.Mem.tail _ (List.Mem.tail _ (List.Mem.tail _ (List.Mem.tail _ (List.Mem.tail _ (List.Mem.head _))))))))) _ _ hw1)).of) ((hs5.le' ((Held.or (Held.or (Held.mem (List.Mem.tail _ (List.Mem.tail _ (List.Mem.tail _ (List.Mem.tail _ (List.Mem.tail _ (List.Mem.tail _ (List.Mem.tail _ (List.Mem.tail _ (List.Mem.head _)))))))))) (Held.mem (List.Mem.tail _ (List.Mem.tail _ (List.Mem.tail _ (List.Mem.tail _ (List.Mem.tail _ (List.Mem.tail _ (List.Mem.tail _ (List.Mem.head _)))))))))) (Held.mem (List.Mem.tail _ (List.Mem.tail _ (List.Mem.tail _ (List.Mem.tail _ (List.Mem.tail _ (List.Mem.tail _ (List.Mem.head _))))))))) _ _ hw1)).of)) (hw1.ow (.tail (.tail .head)) hf26) :)) rfl ?_
       refine WP.yes rfl rfl rfl ?_
       obtain ⟨r48, hg48, h⟩ := bind_some h
       refine WP.callV rfl rfl rfl rfl rfl rfl rfl (by kernel_rfl) (fun w1 hw1 => (num_Minus_w hg48  :)) rfl ?_
       refine WP.yes rfl rfl rfl ?_
       refine WP.eqS rfl rfl rfl rfl rfl rfl rfl rfl (by kernel_rfl) (eq38 r46 r48) ?_
       refine WP.yes rfl rfl rfl ?_
       iterate 3 (refine WP.sx tysOk rfl ⟨rfl, ⟨⟩⟩ ?_)
       refine WP.qend rfl ?_
       cases h
       refine WP.retR tysOk rfl rfl ⟨_, _, rfl, rfl, rfl⟩ (fun w1 hw1 => ⟨rfl, Ret.below_ hw1 (.cons (.tail (.tail (.tail (.tail (.tail (.tail (.tail (.tail (.tail (.tail .head)))))))))) .nil)⟩)
      rw [if_neg hh35] at h
      refine WP.no rfl rfl (by simp [hh35]) rfl rfl ?_
      iterate 11 (refine WP.no rfl rfl rfl rfl rfl ?_)
      refine WP.yes rfl rfl rfl ?_
      iterate 3 (refine WP.sx tysOk rfl ⟨rfl, ⟨⟩⟩ ?_)
      refine WP.qend rfl ?_
      cases h
      refine WP.retR tysOk rfl rfl ⟨_, _, rfl, rfl, rfl⟩ (fun w1 hw1 => ⟨rfl, Ret.below_ hw1 (.cons (.tail (.tail (.tail (.tail (.tail (.tail (.tail (.tail (.tail (.tail .head)))))))))) .nil)⟩)
     rw [if_neg hh34] at h
     refine WP.no rfl rfl (bfalse hh34) rfl rfl ?_
     iterate 2 (refine WP.no rfl rfl rfl rfl rfl ?_)
     iterate 12 (refine WP.noU rfl rfl rfl rfl ?_)
     refine WP.no rfl rfl rfl rfl rfl ?_
     iterate 2 (refine WP.sx tysOk rfl ⟨rfl, ⟨⟩⟩ ?_)
     refine WP.qend rfl ?_
     cases h
     refine WP.retR tysOk rfl rfl ⟨_, _, rfl, rfl, rfl⟩ (fun w1 hw1 => ⟨rfl, Ret.below_ hw1 (.cons (.tail (.tail (.tail (.tail (.tail (.tail (.tail (.tail (.tail (.tail .head)))))))))) .nil)⟩)
    rw [if_neg hh33] at h
    refine WP.no rfl rfl (bfalse hh33) rfl rfl ?_
    iterate 2 (refine WP.no rfl rfl rfl rfl rfl ?_)
    iterate 2 (refine WP.sx tysOk rfl ⟨rfl, ⟨⟩⟩ ?_)
    iterate 3 (refine WP.no rfl rfl rfl rfl rfl ?_)
    iterate 12 (refine WP.noU rfl rfl rfl rfl ?_)
    refine WP.no rfl rfl rfl rfl rfl ?_
    iterate 2 (refine WP.sx tysOk rfl ⟨rfl, ⟨⟩⟩ ?_)
    refine WP.qend rfl ?_
    cases h
    refine WP.retR tysOk rfl rfl ⟨_, _, rfl, rfl, rfl⟩ (fun w1 hw1 => ⟨rfl, Ret.below_ hw1 (.cons (.tail (.tail (.tail (.tail (.tail (.tail (.tail (.tail (.tail (.tail .head)))))))))) .nil)⟩)
   rw [if_neg hh32] at h
   iterate 4 (refine WP.sx tysOk rfl ⟨⟨⟩, ⟨⟩⟩ ?_)
   obtain ⟨hj14, h⟩ := ck_some h
   refine WP.ixO tysOk rfl ⟨⟩ rfl rfl rfl rfl rfl rfl rfl rfl hf23 hj14 ?_
   intro b17 hA17
   refine WP.lx tysOk rfl ⟨⟩ (OwS.at0 .head hA17 hj14 rfl) ?_
   obtain ⟨hj15, h⟩ := ck_some h
   refine WP.ixO tysOk rfl ⟨⟩ rfl rfl rfl rfl rfl rfl rfl rfl hf23 hj15 ?_
   intro b18 hA18
   obtain ⟨xs19, hx6, h⟩ := lt_some h
   refine WP.stoO (f := fB) 0 (gt xs15 ((gt r1.arcs r40.1).src)) tysOk rfl rfl rfl rfl rfl rfl rfl rfl rfl .head hA18 hf23 hj15 rfl rfl rfl hx6 ?_
   intro hf27
   iterate 4 (refine WP.sx tysOk rfl ⟨⟨⟩, ⟨⟩⟩ ?_)
   obtain ⟨hb11, h⟩ := ck_some h
   refine WP.slO (f := fB) (xs := xs19) (0 : Int) s3 tysOk rfl ⟨⟩ rfl rfl rfl rfl rfl rfl rfl rfl ⟨_, rfl⟩ .head hf27 hb11 ?_
   intro A33 hp11
   refine WP.own_nil 4 fB.z ?_
   obtain ⟨hl13, h⟩ := ck_some h
   obtain ⟨xs20, hz16, h⟩ := lt_some h
   refine WP.appO (f := fB) (xs := ([] : List Bool)) (ys := (prt xs19 (0 : Int) s3)) tysOk rfl rfl rfl rfl rfl rfl rfl rfl rfl rfl rfl rfl .head OwF.nil_ rfl (OwS.appPt (.tail .head) hb11 hp11) hl13 hz16 ?_
   intro A34 c23 hf28
   iterate 5 (refine WP.sx tysOk rfl ⟨⟨⟩, ⟨⟩⟩ ?_)
   obtain ⟨hb12, h⟩ := ck_some h
   refine WP.slO (f := fB) (xs := xs19) (w64 (s3 + 1)) (xs19.length : Int) tysOk rfl ⟨⟩ rfl rfl rfl rfl rfl rfl rfl ⟨_, rfl⟩ (congrArg (fun x : Nat => (x : Int)) hf27.len) (.tail .head) hf27 hb12 ?_
   intro A35 hp12
   obtain ⟨hl14, h⟩ := ck_some h
   obtain ⟨xs21, hz17, h⟩ := lt_some h
   refine WP.appO (f := fB) (xs := xs20) (ys := (prt xs19 (w64 (s3 + 1)) (xs19.length : Int))) tysOk rfl rfl rfl rfl rfl rfl rfl rfl rfl rfl rfl rfl .head hf28 rfl (OwS.appPt (.tail .head) hb12 hp12) hl14 hz17 ?_
   intro A36 c24 hf29
   refine WP.sx tysOk rfl ⟨⟨⟩, ⟨⟩⟩ ?_
   refine WP.mx_ tysOk rfl ⟨⟩ (SegAt.blk' (.tail (.tail (.tail (.tail (.tail (.tail (.tail .head))))))) rfl) ?_
   refine WP.sx tysOk rfl ⟨⟨⟩, ⟨⟩⟩ ?_
   obtain ⟨r49, hg49, h⟩ := bind_some h
   refine WP.callV rfl rfl rfl rfl rfl rfl rfl (by kernel_rfl) (fun w1 hw1 => (cut_Room_w hg49 (InsZ.mk_ ((hz1.le' ((Held.mem (List.Mem.tail _ (List.Mem.tail _ (List.Mem.tail _ (List.Mem.tail _ (List.Mem.tail _ (List.Mem.tail _ (List.Mem.head _)))))))) _ _ hw1)).of) ((hz2.le' ((Held.mem (List.Mem.tail _ (List.Mem.tail _ (List.Mem.tail _ (List.Mem.tail _ (List.Mem.tail _ (List.Mem.head _))))))) _ _ hw1)).of)) (hw1.ow (.tail .head) hf27) :)) ⟨⟩ ?_
   iterate 3 (refine WP.sx tysOk rfl ⟨⟨⟩, ⟨⟩⟩ ?_)
   refine WP.al tysOk rfl rfl rfl rfl rfl rfl ?_
   intro g16
   refine WP.sto' tysOk [iv r49.1.hi, .int .u64 (r49.1.lo)] rfl rfl rfl rfl rfl rfl rfl rfl rfl .head rfl rfl ?_
   iterate 2 (refine WP.sx tysOk rfl ⟨⟨⟩, ⟨⟩⟩ ?_)
   refine WP.mx_ tysOk rfl ⟨⟩ (SegAt.blk' (.tail (.tail (.tail (.tail .head)))) rfl) ?_
   refine WP.sx tysOk rfl ⟨⟨⟩, ⟨⟩⟩ ?_
   obtain ⟨r50, hg50, h⟩ := bind_some h
   refine WP.callV rfl rfl rfl rfl rfl rfl rfl (by kernel_rfl) (fun w1 hw1 => (cut_Room_w hg50 (InsZ.mk_ ((hs4.le' ((Held.or (Held.or (Held.mem (List.Mem.tail _ (List.Mem.tail _ (List.Mem.tail _ (List.Mem.tail _ (List.Mem.tail _ (List.Mem.tail _ (List.Mem.tail _ (List.Mem.head _))))))))) (Held.mem (List.Mem.tail _ (List.Mem.tail _ (List.Mem.tail _ (List.Mem.tail _ (List.Mem.tail _ (List.Mem.tail _ (List.Mem.head _))))))))) (Held.mem (List.Mem.tail _ (List.Mem.tail _ (List.Mem.tail _ (List.Mem.tail _ (List.Mem.tail _ (List.Mem.head _)))))))) _ _ hw1)).of) ((hs5.le' ((Held.or (Held.or (Held.mem (List.Mem.tail _ (List.Mem.tail _ (List.Mem.tail _ (List.Mem.tail _ (List.Mem.tail _ (List.Mem.tail _ (List.Mem.tail _ (List.Mem.head _))))))))) (Held.mem (List.Mem.tail _ (List.Mem.tail _ (List.Mem.tail _ (List.Mem.tail _ (List.Mem.tail _ (List.Mem.tail _ (List.Mem.head _))))))))) (Held.mem (List.Mem.tail _ (List.Mem.tail _ (List.Mem.tail _ (List.Mem.tail _ (List.Mem.tail _ (List.Mem.head _)))))))) _ _ hw1)).of)) (hw1.ow (.tail .head) hf29) :)) ⟨⟩ ?_
   iterate 3 (refine WP.sx tysOk rfl ⟨⟨⟩, ⟨⟩⟩ ?_)
   refine WP.al tysOk rfl rfl rfl rfl rfl rfl ?_
   intro g17
   refine WP.sto' tysOk [iv r50.1.hi, .int .u64 (r50.1.lo)] rfl rfl rfl rfl rfl rfl rfl rfl rfl .head rfl rfl ?_
   refine WP.sx tysOk rfl ⟨⟨⟩, ⟨⟩⟩ ?_
   refine WP.draw rfl (by kernel_rfl) (by kernel_rfl) ?_
   obtain ⟨r51, hg51, h⟩ := bind_some h
   refine WP.callV rfl rfl rfl rfl rfl rfl rfl (by kernel_rfl) (fun w1 hw1 => (law17_known_w hg51 (pg.le ((Held.mem (List.Mem.tail _ (List.Mem.tail _ (List.Mem.tail _ (List.Mem.tail _ (List.Mem.tail _ (List.Mem.tail _ (List.Mem.tail _ (List.Mem.tail _ (List.Mem.tail _ (List.Mem.tail _ (List.Mem.head _)))))))))))) _ _ hw1)) :)) rfl ?_
   refine WP.sx tysOk rfl ⟨rfl, ⟨⟩⟩ ?_
   by_cases hh36 : r51 = true
   ·rw [if_pos hh36] at h
    refine WP.yes rfl rfl hh36 ?_
    iterate 2 (refine WP.sx tysOk rfl ⟨rfl, ⟨⟩⟩ ?_; refine WP.yes rfl rfl rfl ?_)
    iterate 3 (refine WP.sx tysOk rfl ⟨rfl, ⟨⟩⟩ ?_)
    by_cases hh37 : (r49.2 == r50.2) = true
    ·rw [if_pos hh37] at h
     refine WP.yes rfl rfl hh37 ?_
     iterate 2 (refine WP.sx tysOk rfl ⟨rfl, ⟨⟩⟩ ?_; refine WP.yes rfl rfl rfl ?_)
     refine WP.sx tysOk rfl ⟨rfl, ⟨⟩⟩ ?_
     by_cases hh38 : r49.2 = true
     ·rw [if_pos hh38] at h
      refine WP.yes rfl rfl (by simp [hh38]) ?_
      refine WP.mx_ tysOk rfl rfl (SegAt.blk' (.tail .head) rfl) ?_
      refine WP.yes rfl rfl rfl ?_
      refine WP.mx_ tysOk rfl rfl (SegAt.blk' (.tail (.tail (.tail (.tail (.tail (.tail (.tail (.tail (.tail .head))))))))) rfl) ?_
      refine WP.yes rfl rfl rfl ?_
      refine WP.sx tysOk rfl ⟨rfl, ⟨⟩⟩ ?_
      refine WP.yes rfl rfl rfl ?_
      obtain ⟨r52, hg52, h⟩ := bind_some h
      refine WP.callV rfl rfl rfl rfl rfl rfl rfl (by kernel_rfl) (fun w1 hw1 => (cut_Need_w hg52 (InsZ.mk_ ((hz1.le' ((Held.mem (List.Mem.tail _ (List.Mem.tail _ (List.Mem.tail _ (List.Mem.tail _ (List.Mem.tail _ (List.Mem.tail _ (List.Mem.tail _ (List.Mem.tail _ (List.Mem.head _)))))))))) _ _ hw1)).of) ((hz2.le' ((Held.mem (List.Mem.tail _ (List.Mem.tail _ (List.Mem.tail _ (List.Mem.tail _ (List.Mem.tail _ (List.Mem.tail _ (List.Mem.tail _ (List.Mem.head _))))))))) _ _ hw1)).of)) (hw1.ow (.tail (.tail (.tail .head))) hf27) :)) rfl ?_
      refine WP.yes rfl rfl rfl ?_
      obtain ⟨r53, hg53, h⟩ := bind_some h
      refine WP.callV rfl rfl rfl rfl rfl rfl rfl (by kernel_rfl) (fun w1 hw1 => (num_Minus_w hg53  :)) rfl ?_
      refine WP.yes rfl rfl rfl ?_
      refine WP.mx_ tysOk rfl rfl (SegAt.blk' .head rfl) ?_
      refine WP.yes rfl rfl rfl ?_
      refine WP.sx tysOk rfl ⟨rfl, ⟨⟩⟩ ?_
      refine WP.yes rfl rfl rfl ?_
      refine WP.mx_ tysOk rfl rfl (SegAt.blk' (.tail (.tail (.tail (.tail (.tail .head))))) rfl) ?_
      refine WP.yes rfl rfl rfl ?_
      refine WP.sx tysOk rfl ⟨rfl, ⟨⟩⟩ ?_
      refine WP.yes rfl rfl rfl ?_
      obtain ⟨r54, hg54, h⟩ := bind_some h
      refine WP.callV rfl rfl rfl rfl rfl rfl rfl (by kernel_rfl) (fun w1 hw1 => (cut_Need_w hg54 (InsZ.mk_ ((hs4.le' ((Held.or (Held.or (Held.mem (List.Mem.tail _ (List.Mem.tail _ (List.Mem.tail _ (List.Mem.tail _ (List.Mem.tail _ (List.Mem.tail _ (List.Mem.tail _ (List.Mem.tail _ (List.Mem.head _)))))))))) (Held.mem (List.Mem.tail _ (List.Mem.tail _ (List.Mem.tail _ (List.Mem.tail _ (List.Mem.tail _ (List.Mem.tail _ (List.Mem.tail _ (List.Mem.head _)))))))))) (Held.mem (List.Mem.tail _ (List.Mem.tail _ (List.Mem.tail _ (List.Mem.tail _ (List.Mem.tail _ (List.Mem.tail _ (List.Mem.head _))))))))) _ _ hw1)).of) ((hs5.le' ((Held.or (Held.or (Held.mem (List.Mem.tail _ (List.Mem.tail _ (List.Mem.tail _ (List.Mem.tail _ (List.Mem.tail _ (List.Mem.tail _ (List.Mem.tail _ (List.Mem.tail _ (List.Mem.head _)))))))))) (Held.mem (List.Mem.tail _ (List.Mem.tail _ (List.Mem.tail _ (List.Mem.tail _ (List.Mem.tail _ (List.Mem.tail _ (List.Mem.tail _ (List.Mem.head _)))))))))) (Held.mem (List.Mem.tail _ (List.Mem.tail _ (List.Mem.tail _ (List.Mem.tail _ (List.Mem.tail _ (List.Mem.tail _ (List.Mem.head _))))))))) _ _ hw1)).of)) (hw1.ow (.tail (.tail .head)) hf29) :)) rfl ?_
      refine WP.yes rfl rfl rfl ?_
      obtain ⟨r55, hg55, h⟩ := bind_some h
      refine WP.callV rfl rfl rfl rfl rfl rfl rfl (by kernel_rfl) (fun w1 hw1 => (num_Minus_w hg55  :)) rfl ?_
      refine WP.yes rfl rfl rfl ?_
      refine WP.eqS rfl rfl rfl rfl rfl rfl rfl rfl (by kernel_rfl) (eq38 r53 r55) ?_
      refine WP.yes rfl rfl rfl ?_
      iterate 3 (refine WP.sx tysOk rfl ⟨rfl, ⟨⟩⟩ ?_)
      refine WP.qend rfl ?_
      cases h
      refine WP.retR tysOk rfl rfl ⟨_, _, rfl, rfl, rfl⟩ (fun w1 hw1 => ⟨rfl, Ret.below_ hw1 (.cons (.tail (.tail (.tail (.tail (.tail (.tail (.tail (.tail (.tail (.tail .head)))))))))) .nil)⟩)
     rw [if_neg hh38] at h
     refine WP.no rfl rfl (by simp [hh38]) rfl rfl ?_
     iterate 11 (refine WP.no rfl rfl rfl rfl rfl ?_)
     refine WP.yes rfl rfl rfl ?_
     iterate 3 (refine WP.sx tysOk rfl ⟨rfl, ⟨⟩⟩ ?_)
     refine WP.qend rfl ?_
     cases h
     refine WP.retR tysOk rfl rfl ⟨_, _, rfl, rfl, rfl⟩ (fun w1 hw1 => ⟨rfl, Ret.below_ hw1 (.cons (.tail (.tail (.tail (.tail (.tail (.tail (.tail (.tail (.tail (.tail .head)))))))))) .nil)⟩)
    rw [if_neg hh37] at h
    refine WP.no rfl rfl (bfalse hh37) rfl rfl ?_
    iterate 2 (refine WP.no rfl rfl rfl rfl rfl ?_)
    iterate 12 (refine WP.noU rfl rfl rfl rfl ?_)
    refine WP.no rfl rfl rfl rfl rfl ?_
    iterate 2 (refine WP.sx tysOk rfl ⟨rfl, ⟨⟩⟩ ?_)
    refine WP.qend rfl ?_
    cases h
    refine WP.retR tysOk rfl rfl ⟨_, _, rfl, rfl, rfl⟩ (fun w1 hw1 => ⟨rfl, Ret.below_ hw1 (.cons (.tail (.tail (.tail (.tail (.tail (.tail (.tail (.tail (.tail (.tail .head)))))))))) .nil)⟩)
   rw [if_neg hh36] at h
   refine WP.no rfl rfl (bfalse hh36) rfl rfl ?_
   iterate 2 (refine WP.no rfl rfl rfl rfl rfl ?_)
   iterate 2 (refine WP.sx tysOk rfl ⟨rfl, ⟨⟩⟩ ?_)
   iterate 3 (refine WP.no rfl rfl rfl rfl rfl ?_)
   iterate 12 (refine WP.noU rfl rfl rfl rfl ?_)
   refine WP.no rfl rfl rfl rfl rfl ?_
   iterate 2 (refine WP.sx tysOk rfl ⟨rfl, ⟨⟩⟩ ?_)
   refine WP.qend rfl ?_
   cases h
   refine WP.retR tysOk rfl rfl ⟨_, _, rfl, rfl, rfl⟩ (fun w1 hw1 => ⟨rfl, Ret.below_ hw1 (.cons (.tail (.tail (.tail (.tail (.tail (.tail (.tail (.tail (.tail (.tail .head)))))))))) .nil)⟩)
  rw [if_neg hh29] at h
  refine WP.no rfl rfl (by simp [hh29]) rfl rfl ?_
  refine WP.no rfl rfl rfl rfl rfl ?_
  iterate 2 (refine WP.sx tysOk rfl ⟨⟨⟩, ⟨⟩⟩ ?_)
  iterate 5 (refine WP.no rfl rfl rfl rfl rfl ?_)
  refine WP.sx tysOk rfl ⟨⟨⟩, ⟨⟩⟩ ?_
  refine WP.condT rfl rfl ?_
  refine WP.sx tysOk rfl ⟨⟨⟩, ⟨⟩⟩ ?_
  cases h
  refine WP.retR tysOk rfl rfl ⟨_, _, rfl, rfl, rfl⟩ (fun w1 hw1 => ⟨rfl, Ret.below_ hw1 (.cons (.tail (.tail (.tail (.tail (.tail .head))))) .nil)⟩)
end Go.Proofs.YtbnjeanldechnaaGreatDoor
