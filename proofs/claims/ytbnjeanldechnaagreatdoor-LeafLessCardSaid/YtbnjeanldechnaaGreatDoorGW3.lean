/- The walks: the code computes that. -/
import Derived.Test.YtbnjeanldechnaaGreatDoorGW2
import Derived.Test.YtbnjeanldechnaaGreatDoorTys
import Derived.Test.YtbnjeanldechnaaGreatDoorEngG
import Derived.KernelRfl
namespace Go.Proofs.YtbnjeanldechnaaGreatDoor
open Go.RowKit Go.Qe
set_option maxRecDepth 20000 in
set_option maxHeartbeats 8000000 in
theorem flow_Cost_w {w : World} {v0 : Value} {v1 : Value} {i1 : Inst} {x1 : List Int} {r : Wide} (h : flow_Cost i1 x1 = some r) (p1 : InsZ (PH.of w) v0 i1) (p2 : SlF (fI .i64) (PH.of w) v1 x1) :
    Calls Tryz.prog 23 #[v0, v1] w fun e w' => e = .returned (.agg #[iv r.hi, .int .u64 (r.lo)]) ∧ Below w.heap.size w w' := by
  obtain ⟨A1, c1, A2, c2, rfl, hs1, hs2⟩ := p1
  obtain ⟨A3, c3, rfl, hs3⟩ := p2
  unfold flow_Cost at h
  refine enter_ Tryz.func23 rfl Tryz.ntmps23 rfl ?_
  refine WP.box rfl rfl rfl rfl rfl rfl ?_
  intro g1
  refine WP.al tysOk rfl rfl rfl rfl rfl rfl ?_
  intro g2
  refine WP.al tysOk rfl rfl rfl rfl rfl rfl ?_
  intro g3
  refine WP.sx tysOk rfl ⟨⟨⟩, ⟨⟩⟩ ?_
  refine WP.lx tysOk rfl ⟨⟩ (CellAt.blk (.tail (.tail .head)) rfl) ?_
  iterate 2 (refine WP.sx tysOk rfl ⟨⟨⟩, ⟨⟩⟩ ?_)
  refine WP.loop (α := Nat × Int × Int × Int) (fun x => lp (flow_Cost_b1 i1 x1) x.1 (x.2.1, x.2.2.1, x.2.2.2) = some r) (fun x => [(1, .slice A3 x1.length c3), (4, .pointer (some ⟨g2, 0, none⟩)), (5, .pointer (some ⟨g3, 0, none⟩)), (9, .slice A2 i1.arcs.length c2), (10, iv (i1.arcs.length : Int)), (11, iv x.2.1)]) (fun x => [.blk g3 38 [iv x.2.2.1, .int .u64 (x.2.2.2)], .blk g2 38 [iv 0, .int .u64 (0)], .fz (PH.of w)]) (fun x => x.1) rfl (big, 0, 0, 0) h ?_ ?_ ?_
  ·repeat first | exact ⟨⟩ | refine ⟨rfl, ?_⟩
  ·exact (.cons .head (.cons .head (.cons (.tail .head) .nil)))
  rintro ⟨n1, s4, s5, s6⟩ h
  dsimp only at h ⊢
  rcases n1 with _ | n1
  · exact (lp_no h).elim
  replace h := lp_succ h
  unfold flow_Cost_b1 at h
  try dsimp only at h
  refine WP.sx tysOk rfl ⟨⟨⟩, ⟨⟩⟩ ?_
  refine WP.cond_d rfl rfl (fun hh3 => ?_) (fun hh3 => ?_)
  ·rw [if_pos hh3] at h
   refine WP.sx tysOk rfl ⟨⟨⟩, ⟨⟩⟩ ?_
   obtain ⟨hj3, h⟩ := ck_some h
   refine WP.ixA tysOk rfl ⟨⟩ rfl rfl rfl rfl rfl rfl rfl rfl hj3 (hs2.ex hj3) ?_
   intro b3 b3v hA3
   refine WP.mx_ tysOk rfl ⟨⟩ (hs2.seg hA3 (Held.mem (List.Mem.tail _ (List.Mem.tail _ (List.Mem.head _)))) hj3) ?_
   refine WP.al tysOk rfl rfl rfl rfl rfl rfl ?_
   intro g6
   refine WP.sx tysOk rfl ⟨⟨⟩, ⟨⟩⟩ ?_
   refine WP.sto' tysOk [iv ((gt i1.arcs s4).src), iv ((gt i1.arcs s4).dst), iv ((gt i1.arcs s4).low), iv ((gt i1.arcs s4).cap), iv ((gt i1.arcs s4).cost)] rfl rfl rfl rfl rfl rfl rfl rfl rfl .head rfl rfl ?_
   obtain ⟨r7, hg7, h⟩ := bind_some h
   obtain ⟨r8, hg8, h⟩ := bind_some h
   obtain ⟨r9, hg9, h⟩ := bind_some h
   refine WP.drawL 8 [(5, [], fun _ => constSpec (iv r7)), (6, [], fun _ => constSpec (.agg #[iv r8.hi, .int .u64 (r8.lo)])), (7, [], fun _ => constSpec (.agg #[iv r9.hi, .int .u64 (r9.lo)]))] rfl (by kernel_rfl) (by kernel_rfl) (by kernel_rfl) ?_
   refine WP.mx_ tysOk rfl ⟨⟨rfl, rfl⟩, rfl⟩ (SegAt.blk' (.tail .head) rfl) ?_
   refine WP.sx tysOk rfl ⟨⟨⟨rfl, rfl⟩, rfl⟩, ⟨⟩⟩ ?_
   refine WP.lx tysOk rfl ⟨⟨rfl, rfl⟩, rfl⟩ (CellAt.blk .head rfl) ?_
   iterate 2 (refine WP.sx tysOk rfl ⟨⟨⟨rfl, rfl⟩, rfl⟩, ⟨⟩⟩ ?_)
   refine WP.callV rfl rfl rfl rfl rfl rfl rfl (by kernel_rfl) (fun w1 hw1 => (flow_at_w hg7 (hs3.le' ((Held.mem (List.Mem.tail _ (List.Mem.tail _ (List.Mem.tail _ (List.Mem.head _))))) _ _ hw1)).of :)) ⟨⟨rfl, rfl⟩, rfl⟩ ?_
   refine WP.callV rfl rfl rfl rfl rfl rfl rfl (by kernel_rfl) (fun w1 hw1 => (num_Times_w hg8  :)) ⟨⟨rfl, rfl⟩, rfl⟩ ?_
   refine WP.callV rfl rfl rfl rfl rfl rfl rfl (by kernel_rfl) (fun w1 hw1 => (num_Plus_w hg9  :)) ⟨⟨rfl, rfl⟩, rfl⟩ ?_
   refine WP.lend rfl ⟨rfl, rfl⟩ ?_
   refine WP.sto' tysOk [iv r9.hi, .int .u64 (r9.lo)] rfl rfl rfl rfl rfl rfl rfl rfl rfl (.tail .head) rfl rfl ?_
   iterate 2 (refine WP.sx tysOk rfl ⟨⟨⟩, ⟨⟩⟩ ?_)
   refine WP.stop rfl (n1, w64 (s4 + 1), r9.hi, r9.lo) ⟨h, Nat.lt_succ_self _⟩ ?_ ?_
   ·repeat first | exact ⟨⟩ | refine ⟨rfl, ?_⟩
   exact (.cons .head (.cons (.tail .head) (.cons (.tail .head) .nil)))
  rw [if_neg hh3] at h
  refine WP.mx_ tysOk rfl ⟨⟩ (SegAt.blk' .head rfl) ?_
  refine WP.sto' tysOk [iv s5, .int .u64 (s6)] rfl rfl rfl rfl rfl rfl rfl rfl rfl (.tail .head) rfl rfl ?_
  cases h
  refine WP.retR tysOk rfl rfl ⟨_, _, _, _, rfl, ⟨_, rfl, .inr ⟨rfl, _, rfl, rfl, (SegAt.blk' (z := 2) .head rfl).1⟩⟩, rfl, rfl⟩ (fun w1 hw1 => ⟨rfl, Ret.below_ hw1 (.cons (.tail (.tail .head)) .nil)⟩)

set_option maxRecDepth 20000 in
set_option maxHeartbeats 8000000 in
theorem flow_fits_w {w : World} {a1 : Arc} {n1 : Int} {r : Bool} (h : flow_fits a1 n1 = some r) :
    Calls Tryz.prog 52 #[.agg #[iv a1.src, iv a1.dst, iv a1.low, iv a1.cap, iv a1.cost], iv n1] w fun e w' => e = .returned (.bool (r)) ∧ Below w.heap.size w w' := by
  unfold flow_fits at h
  refine enter_ Tryz.func52 rfl Tryz.ntmps52 rfl ?_
  refine WP.box rfl rfl rfl rfl rfl rfl ?_
  intro g1
  iterate 3 (refine WP.sx tysOk rfl ⟨⟨⟩, ⟨⟩⟩ ?_)
  refine WP.lx tysOk rfl ⟨⟩ (CellAt.blk .head rfl) ?_
  iterate 2 (refine WP.sx tysOk rfl ⟨⟨⟩, ⟨⟩⟩ ?_)
  by_cases hh1 : a1.low ≤ n1
  ·rw [if_pos hh1] at h
   refine WP.yes rfl rfl (decide_eq_true hh1) ?_
   refine WP.sx tysOk rfl ⟨⟨⟩, ⟨⟩⟩ ?_
   refine WP.yes rfl rfl rfl ?_
   refine WP.lx tysOk rfl ⟨⟩ (CellAt.blk .head rfl) ?_
   iterate 2 (refine WP.yes rfl rfl rfl ?_; refine WP.sx tysOk rfl ⟨⟨⟩, ⟨⟩⟩ ?_)
   by_cases hh2 : a1.cap = 4611686018427387904
   ·rw [if_pos hh2] at h
    refine WP.no rfl rfl (decide_eq_true hh2) rfl rfl ?_
    iterate 3 (refine WP.no rfl rfl rfl rfl rfl ?_)
    refine WP.yes rfl rfl rfl ?_
    iterate 3 (refine WP.sx tysOk rfl ⟨⟨⟩, ⟨⟩⟩ ?_)
    cases h
    refine WP.retR tysOk rfl rfl ⟨_, _, rfl, rfl, rfl⟩ (fun w1 hw1 => ⟨rfl, Ret.below_ hw1 (.cons (.tail .head) .nil)⟩)
   rw [if_neg hh2] at h
   refine WP.yes rfl rfl (decide_eq_false hh2) ?_
   iterate 2 (refine WP.sx tysOk rfl ⟨⟨⟩, ⟨⟩⟩ ?_; refine WP.yes rfl rfl rfl ?_)
   refine WP.lx tysOk rfl ⟨⟩ (CellAt.blk .head rfl) ?_
   refine WP.yes rfl rfl rfl ?_
   refine WP.sx tysOk rfl ⟨⟨⟩, ⟨⟩⟩ ?_
   refine WP.yes rfl rfl rfl ?_
   iterate 3 (refine WP.sx tysOk rfl ⟨⟨⟩, ⟨⟩⟩ ?_)
   cases h
   refine WP.retR tysOk rfl rfl ⟨_, _, rfl, rfl, rfl⟩ (fun w1 hw1 => ⟨rfl, Ret.below_ hw1 (.cons (.tail .head) .nil)⟩)
  rw [if_neg hh1] at h
  refine WP.no rfl rfl (decide_eq_false hh1) rfl rfl ?_
  iterate 3 (refine WP.no rfl rfl rfl rfl rfl ?_)
  iterate 4 (refine WP.noU rfl rfl rfl rfl ?_)
  refine WP.no rfl rfl rfl rfl rfl ?_
  iterate 2 (refine WP.sx tysOk rfl ⟨⟨⟩, ⟨⟩⟩ ?_)
  cases h
  refine WP.retR tysOk rfl rfl ⟨_, _, rfl, rfl, rfl⟩ (fun w1 hw1 => ⟨rfl, Ret.below_ hw1 (.cons (.tail .head) .nil)⟩)

abbrev flow_sums_add_S (A1 : Option Addr) (m1 c1 : Nat) (r : (List Wide)) : Value → Heap → Prop := fun v L => v = .tuple #[] ∧ OwF A1 m1 r ∧ L = [Ow fW 38 A1 m1 c1 r]
set_option maxRecDepth 20000 in
set_option maxHeartbeats 8000000 in
theorem flow_sums_add_w {w0 w : World} {F : Heap} {Z : PH} (hZ : Held F Z) {A1 : Option Addr} {m1 c1 : Nat} {s1 : List Wide} {n1 : Int} {w1 : Wide} {r : (List Wide)} (h : flow_sums_add s1 n1 w1 = some r) (hf1 : OwF A1 m1 s1) (hw : KH w0 (Ow fW 38 A1 m1 c1 s1 :: F) w) :
    Calls Tryz.prog 108 #[.slice A1 m1 c1, iv n1, .agg #[iv w1.hi, .int .u64 (w1.lo)]] w fun e w' => ∃ v L, e = .returned v ∧ flow_sums_add_S A1 m1 c1 r v L ∧ KH w0 (L ++ F) w' := by
  unfold flow_sums_add at h
  refine enterH Tryz.func108 rfl Tryz.ntmps108 rfl hw ?_
  refine WP.box rfl rfl rfl rfl rfl rfl ?_
  intro g1
  obtain ⟨hj1, h⟩ := ck_some h
  obtain ⟨r1, hg1, h⟩ := bind_some h
  refine WP.drawL 9 [(7, [], fun _ => constSpec (.agg #[iv r1.hi, .int .u64 (r1.lo)]))] rfl (by kernel_rfl) (by kernel_rfl) (by kernel_rfl) ?_
  iterate 4 (refine WP.sx tysOk rfl ⟨⟨⟨rfl, rfl⟩, rfl⟩, ⟨⟩⟩ ?_)
  refine WP.ixO tysOk rfl ⟨⟨rfl, rfl⟩, rfl⟩ rfl rfl rfl rfl rfl rfl rfl rfl hf1 hj1 ?_
  intro b1 hA1
  refine WP.mx_ tysOk rfl ⟨⟨rfl, rfl⟩, rfl⟩ (OwS.seg (.tail .head) hA1 hj1) ?_
  refine WP.mx_ tysOk rfl ⟨⟨rfl, rfl⟩, rfl⟩ (SegAt.blk' .head rfl) ?_
  refine WP.callV rfl rfl rfl rfl rfl rfl rfl (by kernel_rfl) (fun w1 hw1 => (num_Plus_w hg1  :)) ⟨⟨rfl, rfl⟩, rfl⟩ ?_
  refine WP.ixO tysOk rfl ⟨⟨rfl, rfl⟩, rfl⟩ rfl rfl rfl rfl rfl rfl rfl rfl hf1 hj1 ?_
  intro b2 hA2
  refine WP.lend rfl ⟨rfl, rfl⟩ ?_
  obtain ⟨s2, hx1, h⟩ := lt_some h
  refine WP.stoO (f := fW) 0 r1 tysOk rfl rfl rfl rfl rfl rfl rfl rfl rfl (.tail .head) hA2 hf1 hj1 rfl rfl rfl hx1 ?_
  intro hf2
  cases h
  refine WP.end0 rfl rfl (fun w1 hw1 => ⟨_, _, rfl, ⟨rfl, hf2, rfl⟩, hw1.pick (.cons .head (Pick.skip Pick.self))⟩)

set_option maxRecDepth 20000 in
set_option maxHeartbeats 8000000 in
theorem num_Minus_w {w : World} {a1 : Wide} {b1 : Wide} {r : Wide} (h : num_Minus a1 b1 = some r) :
    Calls Tryz.prog 18 #[.agg #[iv a1.hi, .int .u64 (a1.lo)], .agg #[iv b1.hi, .int .u64 (b1.lo)]] w fun e w' => e = .returned (.agg #[iv r.hi, .int .u64 (r.lo)]) ∧ Below w.heap.size w w' := by
  unfold num_Minus at h
  refine enter_ Tryz.func18 rfl Tryz.ntmps18 rfl ?_
  refine WP.box rfl rfl rfl rfl rfl rfl ?_
  intro g1
  refine WP.box rfl rfl rfl rfl rfl rfl ?_
  intro g2
  refine WP.al tysOk rfl rfl rfl rfl rfl rfl ?_
  intro g3
  refine WP.sx tysOk rfl ⟨⟨⟩, ⟨⟩⟩ ?_
  refine WP.lx tysOk rfl ⟨⟩ (CellAt.blk (.tail (.tail .head)) rfl) ?_
  refine WP.sx tysOk rfl ⟨⟨⟩, ⟨⟩⟩ ?_
  refine WP.lx tysOk rfl ⟨⟩ (CellAt.blk (.tail .head) rfl) ?_
  refine WP.ext rfl ⟨⟩ rfl rfl rfl rfl rfl rfl (fun w => sub64_w _ _ _ (by decide) w) ?_
  iterate 6 (refine WP.sx tysOk rfl ⟨⟨⟩, ⟨⟩⟩ ?_)
  refine WP.lx tysOk rfl ⟨⟩ (CellAt.blk (.tail (.tail .head)) rfl) ?_
  iterate 2 (refine WP.sx tysOk rfl ⟨⟨⟩, ⟨⟩⟩ ?_)
  refine WP.lx tysOk rfl ⟨⟩ (CellAt.blk (.tail .head) rfl) ?_
  iterate 2 (refine WP.sx tysOk rfl ⟨⟨⟩, ⟨⟩⟩ ?_)
  obtain ⟨hc1, h⟩ := ck_some h
  refine WP.ext rfl ⟨⟩ rfl rfl rfl rfl rfl rfl (fun w => sub64_w _ _ _ hc1 w) ?_
  iterate 3 (refine WP.sx tysOk rfl ⟨⟨⟩, ⟨⟩⟩ ?_)
  obtain ⟨hi1, hx1, h⟩ := lt_some h
  refine WP.sx tysOk rfl ⟨⟨⟩, ⟨⟩⟩ ?_
  refine WP.retell (s := 7) (.int .u64 hi1) rfl (congrArg (Value.int .u64) hx1.symm) ?_
  obtain ⟨_1, hx2, h⟩ := lt_some h
  refine WP.sx tysOk rfl ⟨⟨⟩, ⟨⟩⟩ ?_
  refine WP.retell (s := 8) (.int .u64 _1) rfl (congrArg (Value.int .u64) hx2.symm) ?_
  iterate 3 (refine WP.sx tysOk rfl ⟨⟨⟩, ⟨⟩⟩ ?_)
  refine WP.bld (cs := [iv (w64 (hi1)), .int .u64 ((sub64 a1.lo b1.lo 0).1)]) tysOk rfl ⟨⟩ rfl rfl rfl rfl rfl rfl rfl ?_
  refine WP.sto' tysOk [iv (w64 (hi1)), .int .u64 ((sub64 a1.lo b1.lo 0).1)] rfl rfl rfl rfl rfl rfl rfl rfl rfl .head rfl rfl ?_
  cases h
  refine WP.retR tysOk rfl rfl ⟨_, _, _, _, rfl, ⟨_, rfl, .inr ⟨rfl, _, rfl, rfl, (SegAt.blk' (z := 2) .head rfl).1⟩⟩, rfl, rfl⟩ (fun w1 hw1 => ⟨rfl, Ret.below_ hw1 (.cons (.tail (.tail (.tail .head))) .nil)⟩)

abbrev flow_book_put_S (A1 : Option Addr) (m1 c1 : Nat) (r : (List Wide)) : Value → Heap → Prop := fun v L => v = .tuple #[] ∧ OwF A1 m1 r ∧ L = [Ow fW 38 A1 m1 c1 r]
set_option maxRecDepth 20000 in
set_option maxHeartbeats 8000000 in
theorem flow_book_put_w {w0 w : World} {F : Heap} {Z : PH} (hZ : Held F Z) {A1 : Option Addr} {m1 c1 : Nat} {v0 : Value} {x1 : List Wide} {x2 : Inst} {a1 : Int} {n1 : Int} {r : (List Wide)} (h : flow_book_put x1 x2 a1 n1 = some r) (hf1 : OwF A1 m1 x1) (p1 : GraphZ Z v0 x2) (hw : KH w0 (Ow fW 38 A1 m1 c1 x1 :: F) w) :
    Calls Tryz.prog 82 #[.agg #[.slice A1 m1 c1, v0], iv a1, iv n1] w fun e w' => ∃ v L, e = .returned v ∧ flow_book_put_S A1 m1 c1 r v L ∧ KH w0 (L ++ F) w' := by
  obtain ⟨gg1, rfl⟩ := p1.ptr'
  unfold flow_book_put at h
  refine enterH Tryz.func82 rfl Tryz.ntmps82 rfl hw ?_
  refine WP.box rfl rfl rfl rfl rfl rfl ?_
  intro g1
  refine WP.sx tysOk rfl ⟨⟨⟩, ⟨⟩⟩ ?_
  refine WP.lx tysOk rfl ⟨⟩ (CellAt.blk .head rfl) ?_
  refine WP.sx tysOk rfl ⟨⟨⟩, ⟨⟩⟩ ?_
  obtain ⟨r1, hg1, h⟩ := bind_some h
  refine WP.callV rfl rfl rfl rfl rfl rfl rfl (by kernel_rfl) (fun w1 hw1 => (adj_Graph_Arc_w hg1 (p1.le ((Held.cons (Held.cons hZ)) _ _ hw1)) :)) ⟨⟩ ?_
  iterate 3 (refine WP.sx tysOk rfl ⟨⟨⟩, ⟨⟩⟩ ?_)
  refine WP.al tysOk rfl rfl rfl rfl rfl rfl ?_
  intro g2
  refine WP.sto' tysOk [iv r1.1.src, iv r1.1.dst, iv r1.1.low, iv r1.1.cap, iv r1.1.cost] rfl rfl rfl rfl rfl rfl rfl rfl rfl .head rfl rfl ?_
  iterate 2 (refine WP.sx tysOk rfl ⟨⟨⟩, ⟨⟩⟩ ?_)
  refine WP.cond rfl rfl (fun hh1 => ?_) (fun hh1 => ?_)
  ·rw [if_pos hh1] at h
   obtain ⟨r2, hg2, h⟩ := bind_some h
   refine WP.drawL 6 [(5, [], fun _ => constSpec (.agg #[iv r2.hi, .int .u64 (r2.lo)]))] rfl (by kernel_rfl) (by kernel_rfl) (by kernel_rfl) ?_
   refine WP.sx tysOk rfl ⟨⟨⟨rfl, rfl⟩, rfl⟩, ⟨⟩⟩ ?_
   refine WP.lx tysOk rfl ⟨⟨rfl, rfl⟩, rfl⟩ (CellAt.blk (.tail .head) rfl) ?_
   refine WP.sx tysOk rfl ⟨⟨⟨rfl, rfl⟩, rfl⟩, ⟨⟩⟩ ?_
   refine WP.lx tysOk rfl ⟨⟨rfl, rfl⟩, rfl⟩ (CellAt.blk .head rfl) ?_
   refine WP.sx tysOk rfl ⟨⟨⟨rfl, rfl⟩, rfl⟩, ⟨⟩⟩ ?_
   refine WP.callV rfl rfl rfl rfl rfl rfl rfl (by kernel_rfl) (fun w1 hw1 => (num_Of_w hg2  :)) ⟨⟨rfl, rfl⟩, rfl⟩ ?_
   refine WP.lend rfl ⟨rfl, rfl⟩ ?_
   obtain ⟨r3, hg3, h⟩ := bind_some h
   refine WP.callT (.blk g2 31 [iv r1.1.src, iv r1.1.dst, iv r1.1.low, iv r1.1.cap, iv r1.1.cost] :: .blk g1 127 [.slice A1 m1 c1, .pointer (some ⟨gg1, 0, none⟩)] :: F) (flow_sums_add_S A1 m1 c1 r3) rfl rfl rfl rfl rfl rfl rfl (by kernel_rfl) (fun w1 hw1 => (flow_sums_add_w (F := (.blk g2 31 [iv r1.1.src, iv r1.1.dst, iv r1.1.low, iv r1.1.cap, iv r1.1.cost] :: .blk g1 127 [.slice A1 m1 c1, .pointer (some ⟨gg1, 0, none⟩)] :: F)) Held.none_ hg3 hf1 (hw1.pick (.cons (.tail (.tail .head)) (.cons .head (.cons .head Pick.self)))) :)) ?_
   rintro _ _ ⟨rfl, hf2, rfl⟩
   obtain ⟨r4, hg4, h⟩ := bind_some h
   obtain ⟨r5, hg5, h⟩ := bind_some h
   refine WP.drawL 8 [(6, [], fun _ => constSpec (.agg #[iv r4.hi, .int .u64 (r4.lo)])), (7, [], fun _ => constSpec (.agg #[iv r5.hi, .int .u64 (r5.lo)]))] rfl (by kernel_rfl) (by kernel_rfl) (by kernel_rfl) ?_
   refine WP.sx tysOk rfl ⟨⟨⟨rfl, rfl⟩, rfl⟩, ⟨⟩⟩ ?_
   refine WP.lx tysOk rfl ⟨⟨rfl, rfl⟩, rfl⟩ (CellAt.blk (.tail (.tail .head)) rfl) ?_
   refine WP.sx tysOk rfl ⟨⟨⟨rfl, rfl⟩, rfl⟩, ⟨⟩⟩ ?_
   refine WP.lx tysOk rfl ⟨⟨rfl, rfl⟩, rfl⟩ (CellAt.blk (.tail .head) rfl) ?_
   refine WP.bld (cs := [iv 0, .int .u64 (0)]) tysOk rfl ⟨⟨rfl, rfl⟩, rfl⟩ rfl rfl rfl rfl rfl rfl rfl ?_
   refine WP.sx tysOk rfl ⟨⟨⟨rfl, rfl⟩, rfl⟩, ⟨⟩⟩ ?_
   refine WP.callV rfl rfl rfl rfl rfl rfl rfl (by kernel_rfl) (fun w1 hw1 => (num_Of_w hg4  :)) ⟨⟨rfl, rfl⟩, rfl⟩ ?_
   refine WP.callV rfl rfl rfl rfl rfl rfl rfl (by kernel_rfl) (fun w1 hw1 => (num_Minus_w hg5  :)) ⟨⟨rfl, rfl⟩, rfl⟩ ?_
   refine WP.lend rfl ⟨rfl, rfl⟩ ?_
   obtain ⟨r6, hg6, h⟩ := bind_some h
   refine WP.callT (.blk g2 31 [iv r1.1.src, iv r1.1.dst, iv r1.1.low, iv r1.1.cap, iv r1.1.cost] :: .blk g1 127 [.slice A1 m1 c1, .pointer (some ⟨gg1, 0, none⟩)] :: F) (flow_sums_add_S A1 m1 c1 r6) rfl rfl rfl rfl rfl rfl rfl (by kernel_rfl) (fun w1 hw1 => (flow_sums_add_w (F := (.blk g2 31 [iv r1.1.src, iv r1.1.dst, iv r1.1.low, iv r1.1.cap, iv r1.1.cost] :: .blk g1 127 [.slice A1 m1 c1, .pointer (some ⟨gg1, 0, none⟩)] :: F)) Held.none_ hg6 hf2 (hw1.pick (.cons .head (.cons .head (.cons .head Pick.self)))) :)) ?_
   rintro _ _ ⟨rfl, hf3, rfl⟩
   cases h
   refine WP.end0 rfl rfl (fun w1 hw1 => ⟨_, _, rfl, ⟨rfl, hf3, rfl⟩, hw1.pick (.cons .head (Pick.skip (Pick.skip Pick.self)))⟩)
  rw [if_neg (bneg hh1)] at h
  cases h
  refine WP.end0 rfl rfl (fun w1 hw1 => ⟨_, _, rfl, ⟨rfl, hf1, rfl⟩, hw1.pick (.cons (.tail (.tail .head)) (Pick.skip (Pick.skip Pick.self)))⟩)

abbrev flow_Net_S (r : (List Wide)) : Value → Heap → Prop := fun v L => ∃ (A1 : Option Addr) (n1 c1 : Nat), v = .slice A1 n1 c1 ∧ OwF A1 n1 r ∧ L = [Ow fW 38 A1 n1 c1 r]
set_option maxRecDepth 20000 in
set_option maxHeartbeats 8000000 in
theorem flow_Net_w {w : World} {v0 : Value} {v1 : Value} {i1 : Inst} {x1 : List Int} {r : (List Wide)} (h : flow_Net i1 x1 = some r) (p1 : InsZ (PH.of w) v0 i1) (p2 : SlF (fI .i64) (PH.of w) v1 x1) :
    Calls Tryz.prog 53 #[v0, v1] w fun e w' => ∃ v L, e = .returned v ∧ flow_Net_S r v L ∧ Ret w w' L := by
  obtain ⟨A1, c1, A2, c2, rfl, hs1, hs2⟩ := p1
  obtain ⟨A3, c3, rfl, hs3⟩ := p2
  unfold flow_Net at h
  refine enter_ Tryz.func53 rfl Tryz.ntmps53 rfl ?_
  refine WP.box rfl rfl rfl rfl rfl rfl ?_
  intro g1
  refine WP.sx tysOk rfl ⟨⟨⟩, ⟨⟩⟩ ?_
  obtain ⟨hm1, h⟩ := ck_some h
  obtain ⟨r1, hg1, h⟩ := bind_some h
  refine WP.drawL 8 [(3, [], fun _ => mkSpecZ 38 (i1.supply.length : Int).toNat [iv 0, .int .u64 (0)]), (5, [], fun _ => adj_New_S r1), (7, [], fun _ => blkSpec 127 [.slice none 0 0, .pointer none])] rfl (by kernel_rfl) (by kernel_rfl) (by kernel_rfl) ?_
  refine WP.sx tysOk rfl ⟨⟨⟨rfl, rfl⟩, rfl⟩, ⟨⟩⟩ ?_
  refine WP.lx tysOk rfl ⟨⟨rfl, rfl⟩, rfl⟩ (CellAt.blk .head rfl) ?_
  refine WP.sx tysOk rfl ⟨⟨⟨rfl, rfl⟩, rfl⟩, ⟨⟩⟩ ?_
  refine WP.lmZ [iv 0, .int .u64 (0)] tysOk rfl ⟨rfl, rfl⟩ rfl rfl rfl rfl rfl rfl rfl rfl rfl rfl rfl rfl hm1 ?_
  intro g2
  refine WP.mx_ tysOk rfl ⟨⟨rfl, rfl⟩, rfl⟩ (SegAt.blk' .head rfl) ?_
  refine WP.lcall rfl ⟨rfl, rfl⟩ rfl rfl rfl rfl rfl rfl rfl (by kernel_rfl) (fun w1 hw1 => (adj_New_w hg1 (InsZ.mk_ ((hs1.le' ((Held.mem (List.Mem.tail _ (List.Mem.head _))) _ _ hw1)).of) ((hs2.le' ((Held.mem (List.Mem.tail _ (List.Mem.head _))) _ _ hw1)).of)) :)) ?_
  rintro vg1 _ ⟨Zn1, hgr1, rfl⟩
  obtain ⟨gg1, rfl⟩ := hgr1.ptr'
  refine WP.bld (cs := [.slice (some ⟨g2, 0, none⟩) ((i1.supply.length : Int).toNat) ((i1.supply.length : Int).toNat), .pointer (some ⟨gg1, 0, none⟩)]) tysOk rfl ⟨⟨rfl, rfl⟩, rfl⟩ rfl rfl rfl rfl rfl rfl rfl ?_
  refine WP.lal tysOk rfl ⟨rfl, rfl⟩ rfl rfl rfl rfl rfl rfl rfl ?_
  intro g3
  refine WP.lend rfl ⟨rfl, rfl⟩ ?_
  refine WP.shutZ (f := fW) (Wide.mk 0 0) (.tail (.tail .head)) hm1 ?_
  intro hf1
  refine WP.sto' tysOk [.slice (some ⟨g2, 0, none⟩) ((i1.supply.length : Int).toNat) ((i1.supply.length : Int).toNat), .pointer (some ⟨gg1, 0, none⟩)] rfl rfl rfl rfl rfl rfl rfl rfl rfl (.tail .head) rfl rfl ?_
  refine WP.sx tysOk rfl ⟨⟨⟩, ⟨⟩⟩ ?_
  refine WP.lx tysOk rfl ⟨⟩ (CellAt.blk (.tail (.tail (.tail .head))) rfl) ?_
  iterate 2 (refine WP.sx tysOk rfl ⟨⟨⟩, ⟨⟩⟩ ?_)
  refine WP.loop (α := Nat × Int × (List Wide) × (Option Addr) × Nat × Nat) (fun x => lp (flow_Net_b1 i1 x1 r1) x.1 (x.2.1, x.2.2.1) = some r ∧ OwF x.2.2.2.1 x.2.2.2.2.1 x.2.2.1) (fun x => [(1, .slice A3 x1.length c3), (5, .pointer (some ⟨g3, 0, none⟩)), (16, iv (i1.arcs.length : Int)), (17, iv x.2.1)]) (fun x => [.blk g3 127 [.slice x.2.2.2.1 x.2.2.2.2.1 x.2.2.2.2.2, .pointer (some ⟨gg1, 0, none⟩)], Ow fW 38 x.2.2.2.1 x.2.2.2.2.1 x.2.2.2.2.2 x.2.2.1, .fz Zn1, .fz (PH.of w)]) (fun x => x.1) rfl (big, 0, (List.replicate (i1.supply.length : Int).toNat (Wide.mk 0 0)), (some ⟨g2, 0, none⟩), (i1.supply.length : Int).toNat, (i1.supply.length : Int).toNat) ⟨h, hf1⟩ ?_ ?_ ?_
  ·repeat first | exact ⟨⟩ | refine ⟨rfl, ?_⟩
  ·exact (.cons .head (.cons .head (.cons .head (.cons (.tail .head) .nil))))
  rintro ⟨n1, s3, xs2, A5, m2, c5⟩ ⟨h, hf6⟩
  dsimp only at h hf6 ⊢
  rcases n1 with _ | n1
  · exact (lp_no h).elim
  replace h := lp_succ h
  unfold flow_Net_b1 at h
  try dsimp only at h
  refine WP.sx tysOk rfl ⟨⟨⟩, ⟨⟩⟩ ?_
  refine WP.cond_d rfl rfl (fun hh4 => ?_) (fun hh4 => ?_)
  ·rw [if_pos hh4] at h
   iterate 2 (refine WP.sx tysOk rfl ⟨⟨⟩, ⟨⟩⟩ ?_)
   obtain ⟨r8, hg8, h⟩ := bind_some h
   refine WP.drawL 5 [(4, [], fun _ => constSpec (iv r8))] rfl (by kernel_rfl) (by kernel_rfl) (by kernel_rfl) ?_
   refine WP.mx_ tysOk rfl ⟨⟨rfl, rfl⟩, rfl⟩ (SegAt.blk' .head rfl) ?_
   iterate 3 (refine WP.sx tysOk rfl ⟨⟨⟨rfl, rfl⟩, rfl⟩, ⟨⟩⟩ ?_)
   refine WP.callV rfl rfl rfl rfl rfl rfl rfl (by kernel_rfl) (fun w1 hw1 => (flow_at_w hg8 (hs3.le' ((Held.mem (List.Mem.tail _ (List.Mem.tail _ (List.Mem.tail _ (List.Mem.head _))))) _ _ hw1)).of :)) ⟨⟨rfl, rfl⟩, rfl⟩ ?_
   refine WP.lend rfl ⟨rfl, rfl⟩ ?_
   obtain ⟨r9, hg9, h⟩ := bind_some h
   refine WP.callT [.blk g3 127 [.slice A5 m2 c5, .pointer (some ⟨gg1, 0, none⟩)], .fz Zn1, .fz (PH.of w)] (flow_book_put_S A5 m2 c5 r9) rfl rfl rfl rfl rfl rfl rfl (by kernel_rfl) (fun w1 hw1 => (flow_book_put_w (F := [.blk g3 127 [.slice A5 m2 c5, .pointer (some ⟨gg1, 0, none⟩)], .fz Zn1, .fz (PH.of w)]) (Held.mem (List.Mem.tail _ (List.Mem.head _))) hg9 hf6 hgr1 (hw1.pick (.cons (.tail .head) (.cons .head (.cons .head (.cons .head .nil))))) :)) ?_
   rintro _ _ ⟨rfl, hf7, rfl⟩
   iterate 2 (refine WP.sx tysOk rfl ⟨⟨⟩, ⟨⟩⟩ ?_)
   refine WP.stop rfl (n1, w64 (s3 + 1), r9, A5, m2, c5) ⟨⟨h, hf7⟩, Nat.lt_succ_self _⟩ ?_ ?_
   ·repeat first | exact ⟨⟩ | refine ⟨rfl, ?_⟩
   exact (.cons (.tail .head) (.cons .head (.cons .head (.cons .head .nil))))
  rw [if_neg hh4] at h
  refine WP.sx tysOk rfl ⟨⟨⟩, ⟨⟩⟩ ?_
  refine WP.lx tysOk rfl ⟨⟩ (CellAt.blk .head rfl) ?_
  refine WP.sx tysOk rfl ⟨⟨⟩, ⟨⟩⟩ ?_
  cases h
  refine WP.retR tysOk rfl rfl ⟨_, _, rfl, rfl, rfl⟩ (fun w1 hw1 => ⟨_, _, rfl, ⟨A5, m2, c5, rfl, hf6, rfl⟩, Ret.of_KH hw1 (.cons (.tail .head) (.cons (.tail (.tail .head)) .nil))⟩)

set_option maxRecDepth 20000 in
set_option maxHeartbeats 8000000 in
theorem flow_Fits_w {w : World} {v0 : Value} {v1 : Value} {i1 : Inst} {x1 : List Int} {r : Int} (h : flow_Fits i1 x1 = some r) (p1 : InsZ (PH.of w) v0 i1) (p2 : SlF (fI .i64) (PH.of w) v1 x1) :
    Calls Tryz.prog 25 #[v0, v1] w fun e w' => e = .returned (.int .u16 (r)) ∧ Below w.heap.size w w' := by
  obtain ⟨A1, c1, A2, c2, rfl, hs1, hs2⟩ := p1
  obtain ⟨A3, c3, rfl, hs3⟩ := p2
  unfold flow_Fits at h
  refine enter_ Tryz.func25 rfl Tryz.ntmps25 rfl ?_
  refine WP.box rfl rfl rfl rfl rfl rfl ?_
  intro g1
  refine WP.sx tysOk rfl ⟨⟨⟩, ⟨⟩⟩ ?_
  refine WP.mx_ tysOk rfl ⟨⟩ (SegAt.blk' .head rfl) ?_
  obtain ⟨r1, hg1, h⟩ := bind_some h
  refine WP.callV rfl rfl rfl rfl rfl rfl rfl (by kernel_rfl) (fun w1 hw1 => (inst_Right_w hg1 (InsZ.mk_ ((hs1.le' ((Held.mem (List.Mem.tail _ (List.Mem.head _))) _ _ hw1)).of) ((hs2.le' ((Held.mem (List.Mem.tail _ (List.Mem.head _))) _ _ hw1)).of)) :)) ⟨⟩ ?_
  iterate 3 (refine WP.sx tysOk rfl ⟨⟨⟩, ⟨⟩⟩ ?_)
  refine WP.cond_d rfl rfl (fun hh1 => ?_) (fun hh1 => ?_)
  ·rw [if_pos hh1] at h
   iterate 2 (refine WP.sx tysOk rfl ⟨⟨⟩, ⟨⟩⟩ ?_)
   cases h
   refine WP.retR tysOk rfl rfl ⟨_, _, rfl, rfl, rfl⟩ (fun w1 hw1 => ⟨rfl, Ret.below_ hw1 (.cons (.tail .head) .nil)⟩)
  rw [if_neg hh1] at h
  iterate 3 (refine WP.sx tysOk rfl ⟨⟨⟩, ⟨⟩⟩ ?_)
  refine WP.lx tysOk rfl ⟨⟩ (CellAt.blk .head rfl) ?_
  iterate 2 (refine WP.sx tysOk rfl ⟨⟨⟩, ⟨⟩⟩ ?_)
  refine WP.cond_d rfl rfl (fun hh2 => ?_) (fun hh2 => ?_)
  ·rw [if_pos hh2] at h
   refine WP.sx tysOk rfl ⟨⟨⟩, ⟨⟩⟩ ?_
   cases h
   refine WP.retR tysOk rfl rfl ⟨_, _, rfl, rfl, rfl⟩ (fun w1 hw1 => ⟨rfl, Ret.below_ hw1 (.cons (.tail .head) .nil)⟩)
  rw [if_neg hh2] at h
  iterate 3 (refine WP.sx tysOk rfl ⟨⟨⟩, ⟨⟩⟩ ?_)
  refine WP.loop (α := Nat × Int) (fun x => lp (flow_Fits_b1 i1 x1) x.1 x.2 = some r) (fun x => [(1, .slice A3 x1.length c3), (2, .pointer (some ⟨g1, 0, none⟩)), (21, .slice A3 x1.length c3), (22, iv (x1.length : Int)), (23, iv x.2)]) (fun x => [.blk g1 25 [.slice A1 i1.supply.length c1, .slice A2 i1.arcs.length c2], .fz (PH.of w)]) (fun x => x.1) rfl (big, 0) h ?_ ?_ ?_
  ·repeat first | exact ⟨⟩ | refine ⟨rfl, ?_⟩
  ·exact (.cons .head (.cons .head .nil))
  rintro ⟨n5, s6⟩ h
  dsimp only at h ⊢
  rcases n5 with _ | n5
  · exact (lp_no h).elim
  replace h := lp_succ h
  unfold flow_Fits_b1 at h
  try dsimp only at h
  refine WP.sx tysOk rfl ⟨⟨⟩, ⟨⟩⟩ ?_
  refine WP.cond_d rfl rfl (fun hh19 => ?_) (fun hh19 => ?_)
  ·rw [if_pos hh19] at h
   refine WP.sx tysOk rfl ⟨⟨⟩, ⟨⟩⟩ ?_
   obtain ⟨hj17, h⟩ := ck_some h
   refine WP.ixA tysOk rfl ⟨⟩ rfl rfl rfl rfl rfl rfl rfl rfl hj17 (hs3.ex hj17) ?_
   intro b17 b17v hA17
   refine WP.lx tysOk rfl ⟨⟩ (hs3.at0 hA17 (Held.mem (List.Mem.tail _ (List.Mem.head _))) hj17 rfl) ?_
   iterate 3 (refine WP.sx tysOk rfl ⟨⟨⟩, ⟨⟩⟩ ?_)
   refine WP.lx tysOk rfl ⟨⟩ (CellAt.blk .head rfl) ?_
   refine WP.sx tysOk rfl ⟨⟨⟩, ⟨⟩⟩ ?_
   obtain ⟨hj18, h⟩ := ck_some h
   refine WP.ixA tysOk rfl ⟨⟩ rfl rfl rfl rfl rfl rfl rfl rfl hj18 (hs2.ex hj18) ?_
   intro b18 b18v hA18
   refine WP.mx_ tysOk rfl ⟨⟩ (hs2.seg hA18 (Held.mem (List.Mem.tail _ (List.Mem.head _))) hj18) ?_
   refine WP.sx tysOk rfl ⟨⟨⟩, ⟨⟩⟩ ?_
   obtain ⟨r12, hg12, h⟩ := bind_some h
   refine WP.callV rfl rfl rfl rfl rfl rfl rfl (by kernel_rfl) (fun w1 hw1 => (flow_fits_w hg12  :)) ⟨⟩ ?_
   refine WP.sx tysOk rfl ⟨⟨⟩, ⟨⟩⟩ ?_
   refine WP.cond_n rfl rfl (fun hh20 => ?_) (fun hh20 => ?_)
   ·rw [if_neg (bneg hh20)] at h
    refine WP.sx tysOk rfl ⟨⟨⟩, ⟨⟩⟩ ?_
    cases h
    refine WP.retR tysOk rfl rfl ⟨_, _, rfl, rfl, rfl⟩ (fun w1 hw1 => ⟨rfl, Ret.below_ hw1 (.cons (.tail .head) .nil)⟩)
   rw [if_pos hh20] at h
   iterate 2 (refine WP.sx tysOk rfl ⟨⟨⟩, ⟨⟩⟩ ?_)
   refine WP.stop rfl (n5, w64 (s6 + 1)) ⟨h, Nat.lt_succ_self _⟩ ?_ ?_
   ·repeat first | exact ⟨⟩ | refine ⟨rfl, ?_⟩
   exact (.cons .head (.cons .head .nil))
  rw [if_neg hh19] at h
  refine WP.mx_ tysOk rfl ⟨⟩ (SegAt.blk' .head rfl) ?_
  refine WP.sx tysOk rfl ⟨⟨⟩, ⟨⟩⟩ ?_
  obtain ⟨r13, hg13, h⟩ := bind_some h
  refine WP.callS (flow_Net_S r13) rfl rfl rfl rfl rfl rfl rfl (by kernel_rfl) (fun w1 hw1 => (flow_Net_w hg13 (InsZ.mk_ ((hs1.le' ((Held.mem (List.Mem.tail _ (List.Mem.head _))) _ _ hw1)).of) ((hs2.le' ((Held.mem (List.Mem.tail _ (List.Mem.head _))) _ _ hw1)).of)) (hs3.le' ((Held.mem (List.Mem.tail _ (List.Mem.head _))) _ _ hw1)).of :)) ?_
  rintro _ _ ⟨A6, n6, c6, rfl, hf3, rfl⟩
  refine WP.lenO (xs := r13) tysOk rfl ⟨⟩ rfl rfl rfl rfl rfl rfl hf3 ?_
  refine WP.sx tysOk rfl ⟨⟨⟩, ⟨⟩⟩ ?_
  refine WP.loop (α := Nat × Int) (fun x => lp (flow_Fits_b2 i1 r13) x.1 x.2 = some r) (fun x => [(2, .pointer (some ⟨g1, 0, none⟩)), (39, .slice A6 n6 c6), (40, iv (r13.length : Int)), (41, iv x.2)]) (fun x => [Ow fW 38 A6 n6 c6 r13, .blk g1 25 [.slice A1 i1.supply.length c1, .slice A2 i1.arcs.length c2], .fz (PH.of w)]) (fun x => x.1) rfl (big, 0) h ?_ ?_ ?_
  ·repeat first | exact ⟨⟩ | refine ⟨rfl, ?_⟩
  ·exact (.cons .head (.cons .head (.cons .head .nil)))
  rintro ⟨n7, s8⟩ h
  dsimp only at h ⊢
  rcases n7 with _ | n7
  · exact (lp_no h).elim
  replace h := lp_succ h
  unfold flow_Fits_b2 at h
  try dsimp only at h
  refine WP.sx tysOk rfl ⟨⟨⟩, ⟨⟩⟩ ?_
  refine WP.cond_d rfl rfl (fun hh25 => ?_) (fun hh25 => ?_)
  ·rw [if_pos hh25] at h
   refine WP.sx tysOk rfl ⟨⟨⟩, ⟨⟩⟩ ?_
   obtain ⟨hj23, h⟩ := ck_some h
   refine WP.ixO tysOk rfl ⟨⟩ rfl rfl rfl rfl rfl rfl rfl rfl hf3 hj23 ?_
   intro b23 hA23
   refine WP.mx_ tysOk rfl ⟨⟩ (OwS.seg .head hA23 hj23) ?_
   refine WP.al tysOk rfl rfl rfl rfl rfl rfl ?_
   intro g10
   refine WP.sx tysOk rfl ⟨⟨⟩, ⟨⟩⟩ ?_
   refine WP.sto' tysOk [iv ((gt r13 s8).hi), .int .u64 ((gt r13 s8).lo)] rfl rfl rfl rfl rfl rfl rfl rfl rfl .head rfl rfl ?_
   refine WP.draw rfl (by kernel_rfl) (by kernel_rfl) ?_
   refine WP.mx_ tysOk rfl rfl (SegAt.blk' .head rfl) ?_
   refine WP.sx tysOk rfl ⟨rfl, ⟨⟩⟩ ?_
   refine WP.lx tysOk rfl rfl (CellAt.blk (.tail (.tail .head)) rfl) ?_
   refine WP.sx tysOk rfl ⟨rfl, ⟨⟩⟩ ?_
   obtain ⟨hj24, h⟩ := ck_some h
   refine WP.ixA tysOk rfl rfl rfl rfl rfl rfl rfl rfl rfl rfl hj24 (hs1.ex hj24) ?_
   intro b24 b24v hA24
   refine WP.lx tysOk rfl rfl (hs1.at0 hA24 (Held.mem (List.Mem.tail _ (List.Mem.tail _ (List.Mem.tail _ (List.Mem.head _))))) hj24 rfl) ?_
   obtain ⟨r16, hg16, h⟩ := bind_some h
   refine WP.callV rfl rfl rfl rfl rfl rfl rfl (by kernel_rfl) (fun w1 hw1 => (num_Of_w hg16  :)) rfl ?_
   refine WP.neS rfl rfl rfl rfl rfl rfl rfl rfl (by kernel_rfl) (eq38 (gt r13 s8) r16) ?_
   refine WP.qend rfl ?_
   refine WP.cond_nd rfl rfl (fun hh26 => ?_) (fun hh26 => ?_)
   ·rw [if_neg hh26] at h
    refine WP.sx tysOk rfl ⟨⟨⟩, ⟨⟩⟩ ?_
    cases h
    refine WP.retR tysOk rfl rfl ⟨_, _, rfl, rfl, rfl⟩ (fun w1 hw1 => ⟨rfl, Ret.below_ hw1 (.cons (.tail (.tail (.tail .head))) .nil)⟩)
   rw [if_pos hh26] at h
   iterate 2 (refine WP.sx tysOk rfl ⟨⟨⟩, ⟨⟩⟩ ?_)
   refine WP.stop rfl (n7, w64 (s8 + 1)) ⟨h, Nat.lt_succ_self _⟩ ?_ ?_
   ·repeat first | exact ⟨⟩ | refine ⟨rfl, ?_⟩
   exact (.cons (.tail .head) (.cons (.tail .head) (.cons (.tail .head) .nil)))
  rw [if_neg hh25] at h
  refine WP.sx tysOk rfl ⟨⟨⟩, ⟨⟩⟩ ?_
  cases h
  refine WP.retR tysOk rfl rfl ⟨_, _, rfl, rfl, rfl⟩ (fun w1 hw1 => ⟨rfl, Ret.below_ hw1 (.cons (.tail (.tail .head)) .nil)⟩)

set_option maxRecDepth 20000 in
set_option maxHeartbeats 8000000 in
theorem law17_LeafLess_w {w : World} {v0 : Value} {v1 : Value} {v2 : Value} {d1 : List Int} {i1 : List Int} {x1 : List Int} {r : Bool} (h : law17_LeafLess d1 i1 x1 = some r) (p1 : SlF (fI .u8) (PH.of w) v0 d1) (p2 : SlF (fI .u8) (PH.of w) v1 i1) (p3 : SlF (fI .i64) (PH.of w) v2 x1) (pg : GlobE (PH.of w)) :
    Calls Tryz.prog 6 #[v0, v1, v2] w fun e w' => e = .returned (.bool (r)) ∧ Below w.heap.size w w' := by
  obtain ⟨A1, c1, rfl, hs1⟩ := p1
  obtain ⟨A2, c2, rfl, hs2⟩ := p2
  obtain ⟨A3, c3, rfl, hs3⟩ := p3
  unfold law17_LeafLess at h
  refine enter_ Tryz.func6 rfl Tryz.ntmps6 rfl ?_
  iterate 3 (refine WP.sx tysOk rfl ⟨⟨⟩, ⟨⟩⟩ ?_)
  obtain ⟨r1, hg1, h⟩ := bind_some h
  refine WP.callS (law17_Tree_S r1) rfl rfl rfl rfl rfl rfl rfl (by kernel_rfl) (fun w1 hw1 => (law17_Tree_w hg1 (hs1.le' ((Held.mem (List.Mem.head _)) _ _ hw1)).of (hs2.le' ((Held.mem (List.Mem.head _)) _ _ hw1)).of :)) ?_
  rintro _ _ ⟨A4, n1, c4, A5, n2, c5, rfl, hf1, hf2, rfl⟩
  refine WP.al tysOk rfl rfl rfl rfl rfl rfl ?_
  intro g1
  refine WP.sto' tysOk [.slice A4 n1 c4, .slice A5 n2 c5] rfl rfl rfl rfl rfl rfl rfl rfl rfl .head rfl rfl ?_
  refine WP.mx_ tysOk rfl ⟨⟩ (SegAt.blk' .head rfl) ?_
  obtain ⟨r2, hg2, h⟩ := bind_some h
  refine WP.freezeO (.tail .head) hf1 ?_
  intro Zp1 hz1
  have hl1 := hf1.len
  subst hl1
  refine WP.freezeO (.tail (.tail .head)) hf2 ?_
  intro Zp2 hz2
  have hl2 := hf2.len
  subst hl2
  refine WP.callS (leaf_Leaf_S (PH.or Zp1 Zp2) r2) rfl rfl rfl rfl rfl rfl rfl (by kernel_rfl) (fun w1 hw1 => (leaf_Leaf_w (Z := (PH.or Zp1 Zp2)) ((Held.or (Held.mem (List.Mem.tail _ (List.Mem.head _))) (Held.mem (List.Mem.head _))) _ _ hw1) hg2 (InsZ.mk_ ((hz1.le' (PH.le.trans PH.le.rfl_ (PH.le_or _ _))).of) ((hz2.le' (PH.ri_or ((Held.mem (List.Mem.tail _ (List.Mem.head _))) _ _ hw1) ((Held.mem (List.Mem.head _)) _ _ hw1))).of)) (pg.le ((Held.mem (List.Mem.tail _ (List.Mem.tail _ (List.Mem.tail _ (List.Mem.head _))))) _ _ hw1)) :)) ?_
  rintro _ _ ⟨Zn1, A6, _, c6, A7, _, c7, A8, _, c8, A9, _, c9, rfl, rfl, rfl, rfl, rfl, hs4, hs5, hs6, hs7, rfl⟩
  iterate 3 (refine WP.sx tysOk rfl ⟨⟨⟩, ⟨⟩⟩ ?_)
  refine WP.al tysOk rfl rfl rfl rfl rfl rfl ?_
  intro g2
  refine WP.sto' tysOk [.slice A6 r2.1.inst.supply.length c6, .slice A7 r2.1.inst.arcs.length c7, iv r2.1.rcd.pass, .slice A8 r2.1.rcd.was.supply.length c8, .slice A9 r2.1.rcd.was.arcs.length c9, iv r2.1.off.hi, .int .u64 (r2.1.off.lo), .bool (r2.1.did)] rfl rfl rfl rfl rfl rfl rfl rfl rfl .head rfl rfl ?_
  iterate 4 (refine WP.sx tysOk rfl ⟨⟨⟩, ⟨⟩⟩ ?_)
  by_cases hh1 : ¬ r2.2 = 0
  ·rw [if_pos hh1] at h
   refine WP.no rfl rfl (decide_eq_true hh1) rfl rfl ?_
   iterate 2 (refine WP.no rfl rfl rfl rfl rfl ?_)
   refine WP.sx tysOk rfl ⟨⟨⟩, ⟨⟩⟩ ?_
   refine WP.condT rfl rfl ?_
   obtain ⟨r3, hg3, h⟩ := bind_some h
   refine WP.callV rfl rfl rfl rfl rfl rfl rfl (by kernel_rfl) (fun w1 hw1 => (law17_known_w hg3 (pg.le ((Held.mem (List.Mem.tail _ (List.Mem.tail _ (List.Mem.tail _ (List.Mem.tail _ (List.Mem.tail _ (List.Mem.head _))))))) _ _ hw1)) :)) ⟨⟩ ?_
   refine WP.sx tysOk rfl ⟨⟨⟩, ⟨⟩⟩ ?_
   by_cases hh2 : r3 = true
   ·rw [if_pos hh2] at h
    refine WP.yes rfl rfl hh2 ?_
    iterate 2 (refine WP.sx tysOk rfl ⟨⟨⟩, ⟨⟩⟩ ?_; refine WP.yes rfl rfl rfl ?_)
    refine WP.sx tysOk rfl ⟨⟨⟩, ⟨⟩⟩ ?_
    refine WP.no rfl rfl (decide_eq_true hh1) rfl rfl ?_
    iterate 3 (refine WP.no rfl rfl rfl rfl rfl ?_)
    refine WP.yes rfl rfl rfl ?_
    iterate 3 (refine WP.sx tysOk rfl ⟨⟨⟩, ⟨⟩⟩ ?_)
    cases h
    refine WP.retR tysOk rfl rfl ⟨_, _, rfl, rfl, rfl⟩ (fun w1 hw1 => ⟨rfl, Ret.below_ hw1 (.cons (.tail (.tail (.tail (.tail (.tail .head))))) .nil)⟩)
   rw [if_neg hh2] at h
   refine WP.no rfl rfl (bfalse hh2) rfl rfl ?_
   iterate 2 (refine WP.no rfl rfl rfl rfl rfl ?_)
   iterate 4 (refine WP.noU rfl rfl rfl rfl ?_)
   refine WP.no rfl rfl rfl rfl rfl ?_
   iterate 2 (refine WP.sx tysOk rfl ⟨⟨⟩, ⟨⟩⟩ ?_)
   cases h
   refine WP.retR tysOk rfl rfl ⟨_, _, rfl, rfl, rfl⟩ (fun w1 hw1 => ⟨rfl, Ret.below_ hw1 (.cons (.tail (.tail (.tail (.tail (.tail .head))))) .nil)⟩)
  rw [if_neg hh1] at h
  refine WP.yes rfl rfl (decide_eq_false hh1) ?_
  refine WP.sx tysOk rfl ⟨⟨⟩, ⟨⟩⟩ ?_
  refine WP.yes rfl rfl rfl ?_
  refine WP.lx tysOk rfl ⟨⟩ (CellAt.blk .head rfl) ?_
  refine WP.yes rfl rfl rfl ?_
  iterate 2 (refine WP.sx tysOk rfl ⟨⟨⟩, ⟨⟩⟩ ?_)
  refine WP.cond_n rfl rfl (fun hh3 => ?_) (fun hh3 => ?_)
  ·rw [if_neg (bneg hh3)] at h
   obtain ⟨r4, hg4, h⟩ := bind_some h
   refine WP.callV rfl rfl rfl rfl rfl rfl rfl (by kernel_rfl) (fun w1 hw1 => (law17_known_w hg4 (pg.le ((Held.mem (List.Mem.tail _ (List.Mem.tail _ (List.Mem.tail _ (List.Mem.tail _ (List.Mem.tail _ (List.Mem.head _))))))) _ _ hw1)) :)) ⟨⟩ ?_
   refine WP.sx tysOk rfl ⟨⟨⟩, ⟨⟩⟩ ?_
   by_cases hh4 : r4 = true
   ·rw [if_pos hh4] at h
    refine WP.yes rfl rfl hh4 ?_
    iterate 2 (refine WP.sx tysOk rfl ⟨⟨⟩, ⟨⟩⟩ ?_; refine WP.yes rfl rfl rfl ?_)
    refine WP.sx tysOk rfl ⟨⟨⟩, ⟨⟩⟩ ?_
    refine WP.yes rfl rfl (decide_eq_false hh1) ?_
    refine WP.sx tysOk rfl ⟨⟨⟩, ⟨⟩⟩ ?_
    refine WP.yes rfl rfl rfl ?_
    refine WP.mx_ tysOk rfl ⟨⟩ (SegAt.blk' .head rfl) ?_
    refine WP.yes rfl rfl rfl ?_
    refine WP.mx_ tysOk rfl ⟨⟩ (SegAt.blk' (.tail (.tail (.tail (.tail .head)))) rfl) ?_
    refine WP.yes rfl rfl rfl ?_
    obtain ⟨r5, hg5, h⟩ := bind_some h
    refine WP.callV rfl rfl rfl rfl rfl rfl rfl (by kernel_rfl) (fun w1 hw1 => (inst_Same_w hg5 (InsZ.mk_ ((hs4.le' ((Held.or (Held.or (Held.mem (List.Mem.tail _ (List.Mem.tail _ (List.Mem.tail _ (List.Mem.head _))))) (Held.mem (List.Mem.tail _ (List.Mem.tail _ (List.Mem.head _))))) (Held.mem (List.Mem.tail _ (List.Mem.head _)))) _ _ hw1)).of) ((hs5.le' ((Held.or (Held.or (Held.mem (List.Mem.tail _ (List.Mem.tail _ (List.Mem.tail _ (List.Mem.head _))))) (Held.mem (List.Mem.tail _ (List.Mem.tail _ (List.Mem.head _))))) (Held.mem (List.Mem.tail _ (List.Mem.head _)))) _ _ hw1)).of)) (InsZ.mk_ ((hz1.le' ((Held.mem (List.Mem.tail _ (List.Mem.tail _ (List.Mem.tail _ (List.Mem.head _))))) _ _ hw1)).of) ((hz2.le' ((Held.mem (List.Mem.tail _ (List.Mem.tail _ (List.Mem.head _)))) _ _ hw1)).of)) :)) ⟨⟩ ?_
    refine WP.yes rfl rfl rfl ?_
    iterate 3 (refine WP.sx tysOk rfl ⟨⟨⟩, ⟨⟩⟩ ?_)
    cases h
    refine WP.retR tysOk rfl rfl ⟨_, _, rfl, rfl, rfl⟩ (fun w1 hw1 => ⟨rfl, Ret.below_ hw1 (.cons (.tail (.tail (.tail (.tail (.tail .head))))) .nil)⟩)
   rw [if_neg hh4] at h
   refine WP.no rfl rfl (bfalse hh4) rfl rfl ?_
   iterate 2 (refine WP.no rfl rfl rfl rfl rfl ?_)
   iterate 4 (refine WP.noU rfl rfl rfl rfl ?_)
   refine WP.no rfl rfl rfl rfl rfl ?_
   iterate 2 (refine WP.sx tysOk rfl ⟨⟨⟩, ⟨⟩⟩ ?_)
   cases h
   refine WP.retR tysOk rfl rfl ⟨_, _, rfl, rfl, rfl⟩ (fun w1 hw1 => ⟨rfl, Ret.below_ hw1 (.cons (.tail (.tail (.tail (.tail (.tail .head))))) .nil)⟩)
  rw [if_pos hh3] at h
  iterate 2 (refine WP.sx tysOk rfl ⟨⟨⟩, ⟨⟩⟩ ?_)
  refine WP.lx tysOk rfl ⟨⟩ (CellAt.blk (.tail (.tail (.tail (.tail .head)))) rfl) ?_
  iterate 3 (refine WP.sx tysOk rfl ⟨⟨⟩, ⟨⟩⟩ ?_)
  refine WP.loop (α := Nat × Int × Int) (fun x => lp (law17_LeafLess_b1 x1 r1 r2) x.1 (x.2.1, x.2.2) = some r) (fun x => [(2, .slice A3 x1.length c3), (7, .pointer (some ⟨g1, 0, none⟩)), (8, .pointer (some ⟨g2, 0, none⟩)), (10, iv x.2.1), (11, iv x.2.2)]) (fun x => [.blk g2 40 [.slice A6 r2.1.inst.supply.length c6, .slice A7 r2.1.inst.arcs.length c7, iv r2.1.rcd.pass, .slice A8 r2.1.rcd.was.supply.length c8, .slice A9 r2.1.rcd.was.arcs.length c9, iv r2.1.off.hi, .int .u64 (r2.1.off.lo), .bool (r2.1.did)], .fz Zn1, .fz Zp2, .fz Zp1, .blk g1 25 [.slice A4 r1.supply.length c4, .slice A5 r1.arcs.length c5], .fz (PH.of w)]) (fun x => x.1) rfl (big, -1, w64 ((r1.supply.length : Int) - 1)) h ?_ ?_ ?_
  ·repeat first | exact ⟨⟩ | refine ⟨rfl, ?_⟩
  ·exact (.cons .head (.cons .head (.cons .head (.cons .head (.cons .head (.cons .head .nil))))))
  rintro ⟨n5, s9, s10⟩ h
  dsimp only at h ⊢
  rcases n5 with _ | n5
  · exact (lp_no h).elim
  replace h := lp_succ h
  unfold law17_LeafLess_b1 at h
  try dsimp only at h
  iterate 2 (refine WP.sx tysOk rfl ⟨⟨⟩, ⟨⟩⟩ ?_)
  refine WP.cond_d rfl rfl (fun hh91 => ?_) (fun hh91 => ?_)
  ·rw [if_pos hh91] at h
   refine WP.mx_ tysOk rfl ⟨⟩ (SegAt.blk' (.tail (.tail (.tail (.tail .head)))) rfl) ?_
   refine WP.sx tysOk rfl ⟨⟨⟩, ⟨⟩⟩ ?_
   obtain ⟨r70, hg70, h⟩ := bind_some h
   refine WP.callV rfl rfl rfl rfl rfl rfl rfl (by kernel_rfl) (fun w1 hw1 => (leaf_Tip_w hg70 (InsZ.mk_ ((hz1.le' ((Held.mem (List.Mem.tail _ (List.Mem.tail _ (List.Mem.tail _ (List.Mem.head _))))) _ _ hw1)).of) ((hz2.le' ((Held.mem (List.Mem.tail _ (List.Mem.tail _ (List.Mem.head _)))) _ _ hw1)).of)) :)) ⟨⟩ ?_
   iterate 8 (refine WP.sx tysOk rfl ⟨⟨⟩, ⟨⟩⟩ ?_)
   refine WP.cond rfl rfl (fun hh92 => ?_) (fun hh92 => ?_)
   ·rw [if_pos hh92] at h
    iterate 5 (refine WP.sx tysOk rfl ⟨⟨⟩, ⟨⟩⟩ ?_)
    refine WP.stop rfl (n5, s10, w64 (s10 - 1)) ⟨h, Nat.lt_succ_self _⟩ ?_ ?_
    ·repeat first | exact ⟨⟩ | refine ⟨rfl, ?_⟩
    exact (.cons .head (.cons .head (.cons .head (.cons .head (.cons .head (.cons .head .nil))))))
   rw [if_neg (bneg hh92)] at h
   iterate 3 (refine WP.sx tysOk rfl ⟨⟨⟩, ⟨⟩⟩ ?_)
   refine WP.stop rfl (n5, s9, w64 (s10 - 1)) ⟨h, Nat.lt_succ_self _⟩ ?_ ?_
   ·repeat first | exact ⟨⟩ | refine ⟨rfl, ?_⟩
   exact (.cons .head (.cons .head (.cons .head (.cons .head (.cons .head (.cons .head .nil))))))
  rw [if_neg hh91] at h
  iterate 2 (refine WP.sx tysOk rfl ⟨⟨⟩, ⟨⟩⟩ ?_)
  refine WP.cond_d rfl rfl (fun hh93 => ?_) (fun hh93 => ?_)
  ·rw [if_pos hh93] at h
   refine WP.sx tysOk rfl ⟨⟨⟩, ⟨⟩⟩ ?_
   cases h
   refine WP.retR tysOk rfl rfl ⟨_, _, rfl, rfl, rfl⟩ (fun w1 hw1 => ⟨rfl, Ret.below_ hw1 (.cons (.tail (.tail (.tail (.tail (.tail .head))))) .nil)⟩)
  rw [if_neg hh93] at h
  refine WP.mx_ tysOk rfl ⟨⟩ (SegAt.blk' (.tail (.tail (.tail (.tail .head)))) rfl) ?_
  refine WP.sx tysOk rfl ⟨⟨⟩, ⟨⟩⟩ ?_
  obtain ⟨r71, hg71, h⟩ := bind_some h
  refine WP.callV rfl rfl rfl rfl rfl rfl rfl (by kernel_rfl) (fun w1 hw1 => (leaf_Tip_w hg71 (InsZ.mk_ ((hz1.le' ((Held.mem (List.Mem.tail _ (List.Mem.tail _ (List.Mem.tail _ (List.Mem.head _))))) _ _ hw1)).of) ((hz2.le' ((Held.mem (List.Mem.tail _ (List.Mem.tail _ (List.Mem.head _)))) _ _ hw1)).of)) :)) ⟨⟩ ?_
  iterate 9 (refine WP.sx tysOk rfl ⟨⟨⟩, ⟨⟩⟩ ?_)
  refine WP.own_nil 2 (fI .i64).z ?_
  refine WP.loop (α := Nat × Int × (List Int) × (Option Addr) × Nat × Nat) (fun x => lp (law17_LeafLess_b2 x1 r1 r2 r71) x.1 (x.2.1, x.2.2.1) = some r ∧ OwF x.2.2.2.1 x.2.2.2.2.1 x.2.2.1) (fun x => [(2, .slice A3 x1.length c3), (7, .pointer (some ⟨g1, 0, none⟩)), (8, .pointer (some ⟨g2, 0, none⟩)), (15, iv r71.1), (16, iv r71.2.1), (18, .slice x.2.2.2.1 x.2.2.2.2.1 x.2.2.2.2.2), (19, iv x.2.1)]) (fun x => [Ow (fI .i64) 2 x.2.2.2.1 x.2.2.2.2.1 x.2.2.2.2.2 x.2.2.1, .blk g2 40 [.slice A6 r2.1.inst.supply.length c6, .slice A7 r2.1.inst.arcs.length c7, iv r2.1.rcd.pass, .slice A8 r2.1.rcd.was.supply.length c8, .slice A9 r2.1.rcd.was.arcs.length c9, iv r2.1.off.hi, .int .u64 (r2.1.off.lo), .bool (r2.1.did)], .fz Zn1, .fz Zp2, .fz Zp1, .blk g1 25 [.slice A4 r1.supply.length c4, .slice A5 r1.arcs.length c5], .fz (PH.of w)]) (fun x => x.1) rfl (big, 0, ([] : List Int), none, 0, 0) ⟨h, OwF.nil_⟩ ?_ ?_ ?_
  ·repeat first | exact ⟨⟩ | refine ⟨rfl, ?_⟩
  ·exact (.cons .head (.cons .head (.cons .head (.cons .head (.cons .head (.cons .head (.cons .head .nil)))))))
  rintro ⟨n6, s13, xs90, A127, m6, c99⟩ ⟨h, hf148⟩
  dsimp only at h hf148 ⊢
  rcases n6 with _ | n6
  · exact (lp_no h).elim
  replace h := lp_succ h
  unfold law17_LeafLess_b2 at h
  try dsimp only at h
  iterate 2 (refine WP.sx tysOk rfl ⟨⟨⟩, ⟨⟩⟩ ?_)
  refine WP.lx tysOk rfl ⟨⟩ (CellAt.blk (.tail (.tail (.tail (.tail (.tail .head))))) rfl) ?_
  iterate 2 (refine WP.sx tysOk rfl ⟨⟨⟩, ⟨⟩⟩ ?_)
  refine WP.cond_d rfl rfl (fun hh126 => ?_) (fun hh126 => ?_)
  ·rw [if_pos hh126] at h
   iterate 5 (refine WP.sx tysOk rfl ⟨⟨⟩, ⟨⟩⟩ ?_)
   refine WP.cond_d rfl rfl (fun hh127 => ?_) (fun hh127 => ?_)
   ·rw [if_pos hh127] at h
    iterate 2 (refine WP.sx tysOk rfl ⟨⟨⟩, ⟨⟩⟩ ?_)
    obtain ⟨hj15, h⟩ := ck_some h
    refine WP.ixA tysOk rfl ⟨⟩ rfl rfl rfl rfl rfl rfl rfl rfl hj15 (hs3.ex hj15) ?_
    intro b15 b15v hA15
    refine WP.lx tysOk rfl ⟨⟩ (hs3.at0 hA15 (Held.mem (List.Mem.tail _ (List.Mem.tail _ (List.Mem.tail _ (List.Mem.tail _ (List.Mem.tail _ (List.Mem.tail _ (List.Mem.head _)))))))) hj15 rfl) ?_
    refine WP.sx tysOk rfl ⟨⟨⟩, (by decide)⟩ ?_
    iterate 4 (refine WP.sx tysOk rfl ⟨⟨⟩, ⟨⟩⟩ ?_)
    refine WP.cond_d rfl rfl (fun hh128 => ?_) (fun hh128 => ?_)
    ·rw [if_pos hh128] at h
     iterate 4 (refine WP.sx tysOk rfl ⟨⟨⟩, ⟨⟩⟩ ?_)
     refine WP.bsO (f := (fI .i64)) [r71.2.1] tysOk rfl rfl rfl rfl rfl rfl rfl rfl rfl rfl rfl rfl rfl rfl ?_
     intro g59 hf149
     obtain ⟨hl87, h⟩ := ck_some h
     obtain ⟨xs91, hz87, h⟩ := lt_some h
     refine WP.appO (f := (fI .i64)) (xs := xs90) (ys := [r71.2.1]) tysOk rfl rfl rfl rfl rfl rfl rfl rfl rfl rfl rfl rfl (.tail .head) hf148 hf149.len (OwS.app .head hf149) hl87 hz87 ?_
     intro A128 c100 hf150
     iterate 4 (refine WP.sx tysOk rfl ⟨⟨⟩, ⟨⟩⟩ ?_)
     refine WP.stop rfl (n6, w64 (s13 + 1), xs91, A128, xs91.length, c100) ⟨⟨h, hf150⟩, Nat.lt_succ_self _⟩ ?_ ?_
     ·repeat first | exact ⟨⟩ | refine ⟨rfl, ?_⟩
     exact (.cons .head (.cons (.tail .head) (.cons (.tail .head) (.cons (.tail .head) (.cons (.tail .head) (.cons (.tail .head) (.cons (.tail .head) .nil)))))))
    rw [if_neg hh128] at h
    iterate 2 (refine WP.sx tysOk rfl ⟨⟨⟩, ⟨⟩⟩ ?_)
    refine WP.bsO (f := (fI .i64)) [(gt x1 s13).tmod 10] tysOk rfl rfl rfl rfl rfl rfl rfl rfl rfl rfl rfl rfl rfl rfl ?_
    intro g60 hf151
    obtain ⟨hl88, h⟩ := ck_some h
    obtain ⟨xs92, hz88, h⟩ := lt_some h
    refine WP.appO (f := (fI .i64)) (xs := xs90) (ys := [(gt x1 s13).tmod 10]) tysOk rfl rfl rfl rfl rfl rfl rfl rfl rfl rfl rfl rfl (.tail .head) hf148 hf151.len (OwS.app .head hf151) hl88 hz88 ?_
    intro A129 c101 hf152
    iterate 4 (refine WP.sx tysOk rfl ⟨⟨⟩, ⟨⟩⟩ ?_)
    refine WP.stop rfl (n6, w64 (s13 + 1), xs92, A129, xs92.length, c101) ⟨⟨h, hf152⟩, Nat.lt_succ_self _⟩ ?_ ?_
    ·repeat first | exact ⟨⟩ | refine ⟨rfl, ?_⟩
    exact (.cons .head (.cons (.tail .head) (.cons (.tail .head) (.cons (.tail .head) (.cons (.tail .head) (.cons (.tail .head) (.cons (.tail .head) .nil)))))))
   rw [if_neg hh127] at h
   iterate 3 (refine WP.sx tysOk rfl ⟨⟨⟩, ⟨⟩⟩ ?_)
   refine WP.cond_d rfl rfl (fun hh129 => ?_) (fun hh129 => ?_)
   ·rw [if_pos hh129] at h
    iterate 4 (refine WP.sx tysOk rfl ⟨⟨⟩, ⟨⟩⟩ ?_)
    refine WP.bsO (f := (fI .i64)) [r71.2.1] tysOk rfl rfl rfl rfl rfl rfl rfl rfl rfl rfl rfl rfl rfl rfl ?_
    intro g61 hf153
    obtain ⟨hl89, h⟩ := ck_some h
    obtain ⟨xs93, hz89, h⟩ := lt_some h
    refine WP.appO (f := (fI .i64)) (xs := xs90) (ys := [r71.2.1]) tysOk rfl rfl rfl rfl rfl rfl rfl rfl rfl rfl rfl rfl (.tail .head) hf148 hf153.len (OwS.app .head hf153) hl89 hz89 ?_
    intro A130 c102 hf154
    iterate 4 (refine WP.sx tysOk rfl ⟨⟨⟩, ⟨⟩⟩ ?_)
    refine WP.stop rfl (n6, w64 (s13 + 1), xs93, A130, xs93.length, c102) ⟨⟨h, hf154⟩, Nat.lt_succ_self _⟩ ?_ ?_
    ·repeat first | exact ⟨⟩ | refine ⟨rfl, ?_⟩
    exact (.cons .head (.cons (.tail .head) (.cons (.tail .head) (.cons (.tail .head) (.cons (.tail .head) (.cons (.tail .head) (.cons (.tail .head) .nil)))))))
   rw [if_neg hh129] at h
   iterate 2 (refine WP.sx tysOk rfl ⟨⟨⟩, ⟨⟩⟩ ?_)
   refine WP.bsO (f := (fI .i64)) [0] tysOk rfl rfl rfl rfl rfl rfl rfl rfl rfl rfl rfl rfl rfl rfl ?_
   intro g62 hf155
   obtain ⟨hl90, h⟩ := ck_some h
   obtain ⟨xs94, hz90, h⟩ := lt_some h
   refine WP.appO (f := (fI .i64)) (xs := xs90) (ys := [0]) tysOk rfl rfl rfl rfl rfl rfl rfl rfl rfl rfl rfl rfl (.tail .head) hf148 hf155.len (OwS.app .head hf155) hl90 hz90 ?_
   intro A131 c103 hf156
   iterate 4 (refine WP.sx tysOk rfl ⟨⟨⟩, ⟨⟩⟩ ?_)
   refine WP.stop rfl (n6, w64 (s13 + 1), xs94, A131, xs94.length, c103) ⟨⟨h, hf156⟩, Nat.lt_succ_self _⟩ ?_ ?_
   ·repeat first | exact ⟨⟩ | refine ⟨rfl, ?_⟩
   exact (.cons .head (.cons (.tail .head) (.cons (.tail .head) (.cons (.tail .head) (.cons (.tail .head) (.cons (.tail .head) (.cons (.tail .head) .nil)))))))
  rw [if_neg hh126] at h
  iterate 4 (refine WP.sx tysOk rfl ⟨⟨⟩, ⟨⟩⟩ ?_)
  obtain ⟨hb29, h⟩ := ck_some h
  refine WP.slO (f := (fI .i64)) (xs := xs90) (0 : Int) r71.1 tysOk rfl ⟨⟩ rfl rfl rfl rfl rfl rfl rfl rfl ⟨_, rfl⟩ .head hf148 hb29 ?_
  intro A132 hp29
  refine WP.own_nil 2 (fI .i64).z ?_
  obtain ⟨hl91, h⟩ := ck_some h
  obtain ⟨xs95, hz91, h⟩ := lt_some h
  refine WP.appO (f := (fI .i64)) (xs := ([] : List Int)) (ys := (prt xs90 (0 : Int) r71.1)) tysOk rfl rfl rfl rfl rfl rfl rfl rfl rfl rfl rfl rfl .head OwF.nil_ rfl (OwS.appPt (.tail .head) hb29 hp29) hl91 hz91 ?_
  intro A133 c104 hf157
  iterate 5 (refine WP.sx tysOk rfl ⟨⟨⟩, ⟨⟩⟩ ?_)
  obtain ⟨hb30, h⟩ := ck_some h
  refine WP.slO (f := (fI .i64)) (xs := xs90) (w64 (r71.1 + 1)) (xs90.length : Int) tysOk rfl ⟨⟩ rfl rfl rfl rfl rfl rfl rfl ⟨_, rfl⟩ (congrArg (fun x : Nat => (x : Int)) hf148.len) (.tail .head) hf148 hb30 ?_
  intro A134 hp30
  obtain ⟨hl92, h⟩ := ck_some h
  obtain ⟨xs96, hz92, h⟩ := lt_some h
  refine WP.appO (f := (fI .i64)) (xs := xs95) (ys := (prt xs90 (w64 (r71.1 + 1)) (xs90.length : Int))) tysOk rfl rfl rfl rfl rfl rfl rfl rfl rfl rfl rfl rfl .head hf157 rfl (OwS.appPt (.tail .head) hb30 hp30) hl92 hz92 ?_
  intro A135 c105 hf158
  refine WP.sx tysOk rfl ⟨⟨⟩, ⟨⟩⟩ ?_
  refine WP.draw rfl (by kernel_rfl) (by kernel_rfl) ?_
  obtain ⟨r96, hg96, h⟩ := bind_some h
  refine WP.callV rfl rfl rfl rfl rfl rfl rfl (by kernel_rfl) (fun w1 hw1 => (law17_known_w hg96 (pg.le ((Held.mem (List.Mem.tail _ (List.Mem.tail _ (List.Mem.tail _ (List.Mem.tail _ (List.Mem.tail _ (List.Mem.tail _ (List.Mem.tail _ (List.Mem.head _))))))))) _ _ hw1)) :)) rfl ?_
  refine WP.sx tysOk rfl ⟨rfl, ⟨⟩⟩ ?_
  by_cases hh130 : r96 = true
  ·rw [if_pos hh130] at h
   refine WP.yes rfl rfl hh130 ?_
   iterate 2 (refine WP.sx tysOk rfl ⟨rfl, ⟨⟩⟩ ?_; refine WP.yes rfl rfl rfl ?_)
   refine WP.lx tysOk rfl rfl (CellAt.blk (.tail (.tail .head)) rfl) ?_
   iterate 2 (refine WP.yes rfl rfl rfl ?_; refine WP.sx tysOk rfl ⟨rfl, ⟨⟩⟩ ?_)
   refine WP.yes rfl rfl rfl ?_
   refine WP.lx tysOk rfl rfl (CellAt.blk (.tail (.tail (.tail (.tail (.tail (.tail .head)))))) rfl) ?_
   iterate 2 (refine WP.yes rfl rfl rfl ?_; refine WP.sx tysOk rfl ⟨rfl, ⟨⟩⟩ ?_)
   refine WP.yes rfl rfl rfl ?_
   iterate 3 (refine WP.sx tysOk rfl ⟨rfl, ⟨⟩⟩ ?_)
   by_cases hh131 : (r2.1.inst.supply.length : Int) = (w64 ((r1.supply.length : Int) - 1))
   ·rw [if_pos hh131] at h
    refine WP.yes rfl rfl (decide_eq_true hh131) ?_
    iterate 2 (refine WP.sx tysOk rfl ⟨rfl, ⟨⟩⟩ ?_; refine WP.yes rfl rfl rfl ?_)
    refine WP.lx tysOk rfl rfl (CellAt.blk (.tail (.tail .head)) rfl) ?_
    iterate 2 (refine WP.yes rfl rfl rfl ?_; refine WP.sx tysOk rfl ⟨rfl, ⟨⟩⟩ ?_)
    refine WP.yes rfl rfl rfl ?_
    refine WP.lx tysOk rfl rfl (CellAt.blk (.tail (.tail (.tail (.tail (.tail (.tail .head)))))) rfl) ?_
    iterate 2 (refine WP.yes rfl rfl rfl ?_; refine WP.sx tysOk rfl ⟨rfl, ⟨⟩⟩ ?_)
    refine WP.yes rfl rfl rfl ?_
    iterate 3 (refine WP.sx tysOk rfl ⟨rfl, ⟨⟩⟩ ?_)
    by_cases hh132 : (r2.1.inst.arcs.length : Int) = (w64 ((r1.arcs.length : Int) - 1))
    ·rw [if_pos hh132] at h
     refine WP.yes rfl rfl (decide_eq_true hh132) ?_
     refine WP.mx_ tysOk rfl rfl (SegAt.blk' (.tail (.tail (.tail (.tail (.tail (.tail .head)))))) rfl) ?_
     refine WP.yes rfl rfl rfl ?_
     refine WP.sx tysOk rfl ⟨rfl, ⟨⟩⟩ ?_
     refine WP.yes rfl rfl rfl ?_
     obtain ⟨r97, hg97, h⟩ := bind_some h
     refine WP.callV rfl rfl rfl rfl rfl rfl rfl (by kernel_rfl) (fun w1 hw1 => (flow_Cost_w hg97 (InsZ.mk_ ((hz1.le' ((Held.mem (List.Mem.tail _ (List.Mem.tail _ (List.Mem.tail _ (List.Mem.tail _ (List.Mem.tail _ (List.Mem.head _))))))) _ _ hw1)).of) ((hz2.le' ((Held.mem (List.Mem.tail _ (List.Mem.tail _ (List.Mem.tail _ (List.Mem.tail _ (List.Mem.head _)))))) _ _ hw1)).of)) (hw1.ow (.tail .head) hf148) :)) rfl ?_
     refine WP.yes rfl rfl rfl ?_
     refine WP.sx tysOk rfl ⟨rfl, ⟨⟩⟩ ?_
     refine WP.yes rfl rfl rfl ?_
     refine WP.mx_ tysOk rfl rfl (SegAt.blk' (.tail (.tail .head)) rfl) ?_
     refine WP.yes rfl rfl rfl ?_
     refine WP.sx tysOk rfl ⟨rfl, ⟨⟩⟩ ?_
     refine WP.yes rfl rfl rfl ?_
     obtain ⟨r98, hg98, h⟩ := bind_some h
     refine WP.callV rfl rfl rfl rfl rfl rfl rfl (by kernel_rfl) (fun w1 hw1 => (flow_Cost_w hg98 (InsZ.mk_ ((hs4.le' ((Held.or (Held.or (Held.mem (List.Mem.tail _ (List.Mem.tail _ (List.Mem.tail _ (List.Mem.tail _ (List.Mem.tail _ (List.Mem.head _))))))) (Held.mem (List.Mem.tail _ (List.Mem.tail _ (List.Mem.tail _ (List.Mem.tail _ (List.Mem.head _))))))) (Held.mem (List.Mem.tail _ (List.Mem.tail _ (List.Mem.tail _ (List.Mem.head _)))))) _ _ hw1)).of) ((hs5.le' ((Held.or (Held.or (Held.mem (List.Mem.tail _ (List.Mem.tail _ (List.Mem.tail _ (List.Mem.tail _ (List.Mem.tail _ (List.Mem.head _))))))) (Held.mem (List.Mem.tail _ (List.Mem.tail _ (List.Mem.tail _ (List.Mem.tail _ (List.Mem.head _))))))) (Held.mem (List.Mem.tail _ (List.Mem.tail _ (List.Mem.tail _ (List.Mem.head _)))))) _ _ hw1)).of)) (hw1.ow .head hf158) :)) rfl ?_
     refine WP.yes rfl rfl rfl ?_
     refine WP.sx tysOk rfl ⟨rfl, ⟨⟩⟩ ?_
     refine WP.yes rfl rfl rfl ?_
     refine WP.mx_ tysOk rfl rfl (SegAt.blk' (.tail (.tail .head)) rfl) ?_
     refine WP.yes rfl rfl rfl ?_
     obtain ⟨r99, hg99, h⟩ := bind_some h
     refine WP.callV rfl rfl rfl rfl rfl rfl rfl (by kernel_rfl) (fun w1 hw1 => (num_Plus_w hg99  :)) rfl ?_
     refine WP.yes rfl rfl rfl ?_
     refine WP.eqS rfl rfl rfl rfl rfl rfl rfl rfl (by kernel_rfl) (eq38 r97 r99) ?_
     iterate 2 (refine WP.sx tysOk rfl ⟨rfl, ⟨⟩⟩ ?_)
     by_cases hh133 : r97 = r99
     ·rw [if_pos hh133] at h
      refine WP.yes rfl rfl (decide_eq_true hh133) ?_
      refine WP.mx_ tysOk rfl rfl (SegAt.blk' (.tail (.tail (.tail (.tail (.tail (.tail .head)))))) rfl) ?_
      refine WP.yes rfl rfl rfl ?_
      refine WP.sx tysOk rfl ⟨rfl, ⟨⟩⟩ ?_
      refine WP.yes rfl rfl rfl ?_
      obtain ⟨r100, hg100, h⟩ := bind_some h
      refine WP.callV rfl rfl rfl rfl rfl rfl rfl (by kernel_rfl) (fun w1 hw1 => (flow_Fits_w hg100 (InsZ.mk_ ((hz1.le' ((Held.mem (List.Mem.tail _ (List.Mem.tail _ (List.Mem.tail _ (List.Mem.tail _ (List.Mem.tail _ (List.Mem.head _))))))) _ _ hw1)).of) ((hz2.le' ((Held.mem (List.Mem.tail _ (List.Mem.tail _ (List.Mem.tail _ (List.Mem.tail _ (List.Mem.head _)))))) _ _ hw1)).of)) (hw1.ow (.tail .head) hf148) :)) rfl ?_
      iterate 2 (refine WP.yes rfl rfl rfl ?_; refine WP.sx tysOk rfl ⟨rfl, ⟨⟩⟩ ?_)
      refine WP.yes rfl rfl rfl ?_
      refine WP.mx_ tysOk rfl rfl (SegAt.blk' (.tail (.tail .head)) rfl) ?_
      refine WP.yes rfl rfl rfl ?_
      refine WP.sx tysOk rfl ⟨rfl, ⟨⟩⟩ ?_
      refine WP.yes rfl rfl rfl ?_
      obtain ⟨r101, hg101, h⟩ := bind_some h
      refine WP.callV rfl rfl rfl rfl rfl rfl rfl (by kernel_rfl) (fun w1 hw1 => (flow_Fits_w hg101 (InsZ.mk_ ((hs4.le' ((Held.or (Held.or (Held.mem (List.Mem.tail _ (List.Mem.tail _ (List.Mem.tail _ (List.Mem.tail _ (List.Mem.tail _ (List.Mem.head _))))))) (Held.mem (List.Mem.tail _ (List.Mem.tail _ (List.Mem.tail _ (List.Mem.tail _ (List.Mem.head _))))))) (Held.mem (List.Mem.tail _ (List.Mem.tail _ (List.Mem.tail _ (List.Mem.head _)))))) _ _ hw1)).of) ((hs5.le' ((Held.or (Held.or (Held.mem (List.Mem.tail _ (List.Mem.tail _ (List.Mem.tail _ (List.Mem.tail _ (List.Mem.tail _ (List.Mem.head _))))))) (Held.mem (List.Mem.tail _ (List.Mem.tail _ (List.Mem.tail _ (List.Mem.tail _ (List.Mem.head _))))))) (Held.mem (List.Mem.tail _ (List.Mem.tail _ (List.Mem.tail _ (List.Mem.head _)))))) _ _ hw1)).of)) (hw1.ow .head hf158) :)) rfl ?_
      refine WP.yes rfl rfl rfl ?_
      refine WP.sx tysOk rfl ⟨rfl, ⟨⟩⟩ ?_
      refine WP.yes rfl rfl rfl ?_
      iterate 3 (refine WP.sx tysOk rfl ⟨rfl, ⟨⟩⟩ ?_)
      refine WP.qend rfl ?_
      cases h
      refine WP.retR tysOk rfl rfl ⟨_, _, rfl, rfl, rfl⟩ (fun w1 hw1 => ⟨rfl, Ret.below_ hw1 (.cons (.tail (.tail (.tail (.tail (.tail (.tail (.tail .head))))))) .nil)⟩)
     rw [if_neg hh133] at h
     refine WP.no rfl rfl (decide_eq_false hh133) rfl rfl ?_
     iterate 9 (refine WP.no rfl rfl rfl rfl rfl ?_)
     iterate 2 (refine WP.sx tysOk rfl ⟨rfl, ⟨⟩⟩ ?_)
     refine WP.qend rfl ?_
     cases h
     refine WP.retR tysOk rfl rfl ⟨_, _, rfl, rfl, rfl⟩ (fun w1 hw1 => ⟨rfl, Ret.below_ hw1 (.cons (.tail (.tail (.tail (.tail (.tail (.tail (.tail .head))))))) .nil)⟩)
    rw [if_neg hh132] at h
    refine WP.no rfl rfl (decide_eq_false hh132) rfl rfl ?_
    iterate 10 (refine WP.no rfl rfl rfl rfl rfl ?_)
    iterate 2 (refine WP.sx tysOk rfl ⟨rfl, ⟨⟩⟩ ?_)
    iterate 10 (refine WP.no rfl rfl rfl rfl rfl ?_)
    iterate 2 (refine WP.sx tysOk rfl ⟨rfl, ⟨⟩⟩ ?_)
    refine WP.qend rfl ?_
    cases h
    refine WP.retR tysOk rfl rfl ⟨_, _, rfl, rfl, rfl⟩ (fun w1 hw1 => ⟨rfl, Ret.below_ hw1 (.cons (.tail (.tail (.tail (.tail (.tail (.tail (.tail .head))))))) .nil)⟩)
   rw [if_neg hh131] at h
   refine WP.no rfl rfl (decide_eq_false hh131) rfl rfl ?_
   iterate 8 (refine WP.no rfl rfl rfl rfl rfl ?_)
   iterate 2 (refine WP.sx tysOk rfl ⟨rfl, ⟨⟩⟩ ?_)
   iterate 11 (refine WP.no rfl rfl rfl rfl rfl ?_)
   iterate 2 (refine WP.sx tysOk rfl ⟨rfl, ⟨⟩⟩ ?_)
   iterate 10 (refine WP.no rfl rfl rfl rfl rfl ?_)
   iterate 2 (refine WP.sx tysOk rfl ⟨rfl, ⟨⟩⟩ ?_)
   refine WP.qend rfl ?_
   cases h
   refine WP.retR tysOk rfl rfl ⟨_, _, rfl, rfl, rfl⟩ (fun w1 hw1 => ⟨rfl, Ret.below_ hw1 (.cons (.tail (.tail (.tail (.tail (.tail (.tail (.tail .head))))))) .nil)⟩)
  rw [if_neg hh130] at h
  refine WP.no rfl rfl (bfalse hh130) rfl rfl ?_
  iterate 8 (refine WP.no rfl rfl rfl rfl rfl ?_)
  iterate 2 (refine WP.sx tysOk rfl ⟨rfl, ⟨⟩⟩ ?_)
  iterate 9 (refine WP.no rfl rfl rfl rfl rfl ?_)
  iterate 2 (refine WP.sx tysOk rfl ⟨rfl, ⟨⟩⟩ ?_)
  iterate 11 (refine WP.no rfl rfl rfl rfl rfl ?_)
  iterate 2 (refine WP.sx tysOk rfl ⟨rfl, ⟨⟩⟩ ?_)
  iterate 10 (refine WP.no rfl rfl rfl rfl rfl ?_)
  iterate 2 (refine WP.sx tysOk rfl ⟨rfl, ⟨⟩⟩ ?_)
  refine WP.qend rfl ?_
  cases h
  refine WP.retR tysOk rfl rfl ⟨_, _, rfl, rfl, rfl⟩ (fun w1 hw1 => ⟨rfl, Ret.below_ hw1 (.cons (.tail (.tail (.tail (.tail (.tail (.tail (.tail .head))))))) .nil)⟩)
end Go.Proofs.YtbnjeanldechnaaGreatDoor
