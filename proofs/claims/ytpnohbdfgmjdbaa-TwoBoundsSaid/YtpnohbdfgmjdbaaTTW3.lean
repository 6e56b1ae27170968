/- The walks: the code computes that. -/
import Derived.Test.YtpnohbdfgmjdbaaTTW2
import Derived.Test.YtpnohbdfgmjdbaaTys
import Derived.KernelRfl
namespace Go.Proofs.Ytpnohbdfgmjdbaa
open Go.RowKit Go.Qe
set_option maxRecDepth 20000 in
set_option maxHeartbeats 8000000 in
theorem ref03_Same_w {w : World} {v0 : Value} {v1 : Value} {a1 : Inst} {b1 : Inst} {r : Bool} (h : ref03_Same a1 b1 = some r) (p1 : InsZ (PH.of w) v0 a1) (p2 : InsZ (PH.of w) v1 b1) :
    Calls Try.prog 30 #[v0, v1] w fun e w' => e = .returned (.bool (r)) ∧ Below w.heap.size w w' := by
  obtain ⟨A1, c1, A2, c2, rfl, hs1, hs2⟩ := p1
  obtain ⟨A3, c3, A4, c4, rfl, hs3, hs4⟩ := p2
  unfold ref03_Same at h
  refine enter_ Try.func30 rfl Try.ntmps30 rfl ?_
  refine WP.box rfl rfl rfl rfl rfl rfl ?_
  intro g1
  refine WP.box rfl rfl rfl rfl rfl rfl ?_
  intro g2
  iterate 2 (refine WP.st tysOk true rfl True.intro rfl rfl rfl rfl True.intro ?_)
  refine WP.ld1 tysOk rfl True.intro rfl rfl rfl rfl rfl rfl rfl (CellAt.blk (.tail .head) rfl) ?_
  refine WP.st tysOk true rfl True.intro rfl rfl rfl rfl True.intro ?_
  refine WP.ld1 tysOk rfl True.intro rfl rfl rfl rfl rfl rfl rfl (CellAt.blk .head rfl) ?_
  obtain ⟨r1, hg1, h⟩ := bind_some h
  refine WP.callV rfl rfl rfl rfl rfl rfl rfl (by kernel_rfl) (fun w1 hw1 => (ref03_Nums_w hg1 (hs1.le' ((Held.mem (List.Mem.tail _ (List.Mem.tail _ (List.Mem.head _)))) _ _ hw1)).of (hs3.le' ((Held.mem (List.Mem.tail _ (List.Mem.tail _ (List.Mem.head _)))) _ _ hw1)).of :)) True.intro ?_
  iterate 2 (refine WP.st tysOk true rfl True.intro rfl rfl rfl rfl True.intro ?_)
  by_cases hh1 : r1 = true
  · rw [if_pos hh1] at h
    refine WP.yes rfl rfl (by simp [hh1]) ?_
    refine WP.st tysOk true rfl True.intro rfl rfl rfl rfl True.intro ?_
    refine WP.yes rfl rfl rfl ?_
    refine WP.ld1 tysOk rfl True.intro rfl rfl rfl rfl rfl rfl rfl (CellAt.blk (.tail .head) rfl) ?_
    iterate 2 (refine WP.yes rfl rfl rfl ?_; refine WP.st tysOk true rfl True.intro rfl rfl rfl rfl True.intro ?_)
    refine WP.yes rfl rfl rfl ?_
    refine WP.ld1 tysOk rfl True.intro rfl rfl rfl rfl rfl rfl rfl (CellAt.blk .head rfl) ?_
    refine WP.yes rfl rfl rfl ?_
    refine WP.st tysOk true rfl True.intro rfl rfl rfl rfl True.intro ?_
    refine WP.yes rfl rfl rfl ?_
    iterate 2 (refine WP.st tysOk true rfl True.intro rfl rfl rfl rfl True.intro ?_)
    refine WP.cond_d rfl rfl (fun hh2 => ?_) (fun hh2 => ?_)
    · rw [if_pos hh2] at h
      refine WP.st tysOk true rfl True.intro rfl rfl rfl rfl True.intro ?_
      cases h
      refine WP.retR tysOk rfl rfl ⟨_, _, rfl, rfl, rfl⟩ (fun w1 hw1 => ⟨rfl, Ret.below_ hw1 (.cons (.tail (.tail .head)) .nil)⟩)
    · rw [if_neg hh2] at h
      refine WP.st tysOk true rfl True.intro rfl rfl rfl rfl True.intro ?_
      refine WP.loop (α := Nat × Int) (fun x => lp (ref03_Same_b1 a1 b1) x.1 x.2 = some r) (fun x => [(2, .pointer (some ⟨g1, 0, none⟩)), (3, .pointer (some ⟨g2, 0, none⟩)), (5, .int .i64 (x.2))]) (fun x => [.blk g2 27 [.slice A3 b1.supply.length c3, .slice A4 b1.arcs.length c4], .blk g1 27 [.slice A1 a1.supply.length c1, .slice A2 a1.arcs.length c2], .fz (PH.of w)]) (fun x => x.1) rfl (big, 0) h ?_ ?_ ?_
      · repeat (first | exact True.intro | refine And.intro rfl ?_)
      · exact (.cons .head (.cons .head (.cons .head .nil)))
      · rintro ⟨n1, k2⟩ h
        dsimp only at h ⊢
        rcases n1 with _ | n1
        · exact (lp_no h).elim
        replace h := lp_succ h
        unfold ref03_Same_b1 at h
        try dsimp only at h
        iterate 2 (refine WP.st tysOk true rfl True.intro rfl rfl rfl rfl True.intro ?_)
        refine WP.ld1 tysOk rfl True.intro rfl rfl rfl rfl rfl rfl rfl (CellAt.blk (.tail .head) rfl) ?_
        iterate 2 (refine WP.st tysOk true rfl True.intro rfl rfl rfl rfl True.intro ?_)
        refine WP.cond_d rfl rfl (fun hh7 => ?_) (fun hh7 => ?_)
        · rw [if_pos hh7] at h
          refine WP.draw rfl (by kernel_rfl) (by kernel_rfl) ?_
          refine WP.st tysOk true rfl rfl rfl rfl rfl rfl True.intro ?_
          refine WP.ld1 tysOk rfl rfl rfl rfl rfl rfl rfl rfl rfl (CellAt.blk (.tail .head) rfl) ?_
          refine WP.st tysOk true rfl rfl rfl rfl rfl rfl True.intro ?_
          obtain ⟨hj5, h⟩ := ck_some h
          refine WP.ixA tysOk rfl rfl rfl rfl rfl rfl rfl rfl rfl rfl hj5 (hs2.ex hj5) ?_
          intro b6 _ hA5
          refine WP.ldm tysOk rfl rfl rfl rfl rfl rfl rfl rfl rfl (hs2.seg hA5 (Held.mem (List.Mem.tail _ (List.Mem.tail _ (List.Mem.head _)))) hj5) ?_
          refine WP.st tysOk true rfl rfl rfl rfl rfl rfl True.intro ?_
          refine WP.ld1 tysOk rfl rfl rfl rfl rfl rfl rfl rfl rfl (CellAt.blk .head rfl) ?_
          refine WP.st tysOk true rfl rfl rfl rfl rfl rfl True.intro ?_
          obtain ⟨hj6, h⟩ := ck_some h
          refine WP.ixA tysOk rfl rfl rfl rfl rfl rfl rfl rfl rfl rfl hj6 (hs4.ex hj6) ?_
          intro b7 _ hA6
          refine WP.ldm tysOk rfl rfl rfl rfl rfl rfl rfl rfl rfl (hs4.seg hA6 (Held.mem (List.Mem.tail _ (List.Mem.tail _ (List.Mem.head _)))) hj6) ?_
          refine WP.neS rfl rfl rfl rfl rfl rfl rfl rfl (by kernel_rfl) (eq23 (gt a1.arcs k2) (gt b1.arcs k2)) ?_
          refine WP.qend rfl ?_
          refine WP.cond_nd rfl rfl (fun hh8 => ?_) (fun hh8 => ?_)
          · rw [if_neg hh8] at h
            refine WP.st tysOk true rfl True.intro rfl rfl rfl rfl True.intro ?_
            cases h
            refine WP.retR tysOk rfl rfl ⟨_, _, rfl, rfl, rfl⟩ (fun w1 hw1 => ⟨rfl, Ret.below_ hw1 (.cons (.tail (.tail .head)) .nil)⟩)
          · rw [if_pos hh8] at h
            iterate 3 (refine WP.st tysOk true rfl True.intro rfl rfl rfl rfl True.intro ?_)
            refine WP.stop rfl (n1, w64 (k2 + 1)) ⟨h, Nat.lt_succ_self _⟩ ?_ ?_
            · repeat (first | exact True.intro | refine And.intro rfl ?_)
            · exact (.cons .head (.cons .head (.cons .head .nil)))
        · rw [if_neg hh7] at h
          refine WP.st tysOk true rfl True.intro rfl rfl rfl rfl True.intro ?_
          cases h
          refine WP.retR tysOk rfl rfl ⟨_, _, rfl, rfl, rfl⟩ (fun w1 hw1 => ⟨rfl, Ret.below_ hw1 (.cons (.tail (.tail .head)) .nil)⟩)
  · rw [if_neg hh1] at h
    refine WP.no rfl rfl (by simp [hh1]) rfl rfl ?_
    iterate 6 (refine WP.no rfl rfl rfl rfl rfl ?_)
    refine WP.st tysOk true rfl True.intro rfl rfl rfl rfl True.intro ?_
    refine WP.condT rfl rfl ?_
    refine WP.st tysOk true rfl True.intro rfl rfl rfl rfl True.intro ?_
    cases h
    refine WP.retR tysOk rfl rfl ⟨_, _, rfl, rfl, rfl⟩ (fun w1 hw1 => ⟨rfl, Ret.below_ hw1 (.cons (.tail (.tail .head)) .nil)⟩)

set_option maxRecDepth 20000 in
set_option maxHeartbeats 8000000 in
theorem law18_known_w {w : World} {r : Bool} (h : law18_known  = some r) :
    Calls Try.prog 15 #[] w fun e w' => e = .returned (.bool (r)) ∧ Below w.heap.size w w' := by
  unfold law18_known at h
  refine enter_ Try.func15 rfl Try.ntmps15 rfl ?_
  refine WP.st tysOk true rfl True.intro rfl rfl rfl rfl True.intro ?_
  obtain ⟨hm1, h⟩ := ck_some h
  refine WP.mkO (f := (fI .i64)) 0 tysOk rfl rfl rfl rfl rfl rfl rfl rfl rfl rfl rfl rfl hm1 ?_
  intro g1 hf1
  refine WP.bld (cs := [.int .i64 (0), .int .i64 (1), .int .i64 (0), .int .i64 (5), .int .i64 (1)]) tysOk rfl True.intro rfl rfl rfl rfl rfl rfl rfl ?_
  refine WP.bld (cs := [.int .i64 (1), .int .i64 (2), .int .i64 (0), .int .i64 (3), .int .i64 (2)]) tysOk rfl True.intro rfl rfl rfl rfl rfl rfl rfl ?_
  refine WP.bsO (f := fA) [(Arc.mk 0 1 0 5 1), (Arc.mk 1 2 0 3 2)] tysOk rfl rfl rfl rfl rfl rfl rfl rfl rfl rfl rfl rfl rfl rfl ?_
  intro g2 hf2
  refine WP.bld (cs := [.slice (some ⟨g1, 0, none⟩) ((3 : Int).toNat) ((3 : Int).toNat), .slice (some ⟨g2, 0, none⟩) 2 2]) tysOk rfl True.intro rfl rfl rfl rfl rfl rfl rfl ?_
  refine WP.al tysOk rfl rfl rfl rfl rfl rfl ?_
  intro g3
  refine WP.sto' tysOk [.slice (some ⟨g1, 0, none⟩) ((3 : Int).toNat) ((3 : Int).toNat), .slice (some ⟨g2, 0, none⟩) 2 2] rfl rfl rfl rfl rfl rfl rfl rfl rfl .head rfl rfl ?_
  refine WP.ldm tysOk rfl True.intro rfl rfl rfl rfl rfl rfl rfl (SegAt.blk' .head rfl) ?_
  obtain ⟨r1, hg1, h⟩ := bind_some h
  refine WP.callV rfl rfl rfl rfl rfl rfl rfl (by kernel_rfl) (fun w1 hw1 => (two_Chain_w hg1 (InsZ.mk_ (hw1.ow (.tail (.tail .head)) hf1) (hw1.ow (.tail .head) hf2)) :)) True.intro ?_
  iterate 3 (refine WP.st tysOk true rfl True.intro rfl rfl rfl rfl True.intro ?_)
  refine WP.al tysOk rfl rfl rfl rfl rfl rfl ?_
  intro g4
  refine WP.sto' tysOk [.int .i64 (r1.1.node), .int .i64 (r1.1.a), .int .i64 (r1.1.b), .int .i64 (r1.1.new.src), .int .i64 (r1.1.new.dst), .int .i64 (r1.1.new.low), .int .i64 (r1.1.new.cap), .int .i64 (r1.1.new.cost)] rfl rfl rfl rfl rfl rfl rfl rfl rfl .head rfl rfl ?_
  refine WP.st tysOk true rfl True.intro rfl rfl rfl rfl True.intro ?_
  refine WP.ldm tysOk rfl True.intro rfl rfl rfl rfl rfl rfl rfl (SegAt.blk' (.tail .head) rfl) ?_
  obtain ⟨r2, hg2, h⟩ := bind_some h
  refine WP.callV rfl rfl rfl rfl rfl rfl rfl (by kernel_rfl) (fun w1 hw1 => (two_Split_w hg2 (InsZ.mk_ (hw1.ow (.tail (.tail (.tail .head))) hf1) (hw1.ow (.tail (.tail .head)) hf2)) :)) True.intro ?_
  iterate 3 (refine WP.st tysOk true rfl True.intro rfl rfl rfl rfl True.intro ?_)
  refine WP.al tysOk rfl rfl rfl rfl rfl rfl ?_
  intro g5
  refine WP.sto' tysOk [.int .i64 (r2.1.node), .int .i64 (r2.1.a), .int .i64 (r2.1.b), .int .i64 (r2.1.new.src), .int .i64 (r2.1.new.dst), .int .i64 (r2.1.new.low), .int .i64 (r2.1.new.cap), .int .i64 (r2.1.new.cost)] rfl rfl rfl rfl rfl rfl rfl rfl rfl .head rfl rfl ?_
  refine WP.st tysOk true rfl True.intro rfl rfl rfl rfl True.intro ?_
  refine WP.ldm tysOk rfl True.intro rfl rfl rfl rfl rfl rfl rfl (SegAt.blk' (.tail (.tail .head)) rfl) ?_
  obtain ⟨r3, hg3, h⟩ := bind_some h
  refine WP.callS (two_Series_S r3) rfl rfl rfl rfl rfl rfl rfl (by kernel_rfl) (fun w1 hw1 => (two_Series_w hg3 (InsZ.mk_ (hw1.ow (.tail (.tail (.tail (.tail .head)))) hf1) (hw1.ow (.tail (.tail (.tail .head))) hf2)) :)) ?_
  rintro _ _ ⟨A1, n1, c1, A2, n2, c2, A3, n3, c3, A4, n4, c4, rfl, hf3, hf4, hf5, hf6, rfl⟩
  iterate 3 (refine WP.st tysOk true rfl True.intro rfl rfl rfl rfl True.intro ?_)
  refine WP.al tysOk rfl rfl rfl rfl rfl rfl ?_
  intro g6
  refine WP.sto' tysOk [.slice A1 n1 c1, .slice A2 n2 c2, .int .i64 (r3.1.rcd.pass), .slice A3 n3 c3, .slice A4 n4 c4, .int .i64 (r3.1.off.hi), .int .u64 (r3.1.off.lo), .bool (r3.1.did)] rfl rfl rfl rfl rfl rfl rfl rfl rfl .head rfl rfl ?_
  refine WP.st tysOk true rfl True.intro rfl rfl rfl rfl True.intro ?_
  by_cases hh1 : r1.2 = true
  · rw [if_pos hh1] at h
    by_cases hh2 : r2.2 = true
    · rw [if_pos hh2] at h
      refine WP.drawL 38 [] rfl (by kernel_rfl) (by kernel_rfl) (by kernel_rfl) ?_
      iterate 2 (refine WP.st tysOk true rfl ⟨⟨rfl, rfl⟩, rfl⟩ rfl rfl rfl rfl True.intro ?_)
      refine WP.yes rfl rfl hh1 ?_
      refine WP.st tysOk true rfl ⟨⟨rfl, rfl⟩, rfl⟩ rfl rfl rfl rfl True.intro ?_
      refine WP.yes rfl rfl rfl ?_
      iterate 3 (refine WP.st tysOk true rfl ⟨⟨rfl, rfl⟩, rfl⟩ rfl rfl rfl rfl True.intro ?_)
      refine WP.no rfl rfl (by simp [hh2]) rfl rfl ?_
      iterate 2 (refine WP.no rfl rfl rfl rfl rfl ?_)
      iterate 2 (refine WP.st tysOk true rfl ⟨⟨rfl, rfl⟩, rfl⟩ rfl rfl rfl rfl True.intro ?_)
      iterate 3 (refine WP.no rfl rfl rfl rfl rfl ?_)
      iterate 2 (refine WP.st tysOk true rfl ⟨⟨rfl, rfl⟩, rfl⟩ rfl rfl rfl rfl True.intro ?_)
      iterate 4 (refine WP.no rfl rfl rfl rfl rfl ?_)
      iterate 3 (refine WP.st tysOk true rfl ⟨⟨rfl, rfl⟩, rfl⟩ rfl rfl rfl rfl True.intro ?_; refine WP.st tysOk true rfl ⟨⟨rfl, rfl⟩, rfl⟩ rfl rfl rfl rfl True.intro ?_; refine WP.no rfl rfl rfl rfl rfl ?_; refine WP.no rfl rfl rfl rfl rfl ?_)
      iterate 5 (refine WP.no rfl rfl rfl rfl rfl ?_)
      refine WP.st tysOk true rfl ⟨⟨rfl, rfl⟩, rfl⟩ rfl rfl rfl rfl True.intro ?_
      refine WP.lend rfl ⟨rfl, rfl⟩ ?_
      refine WP.st tysOk true rfl True.intro rfl rfl rfl rfl True.intro ?_
      cases h
      refine WP.retR tysOk rfl rfl ⟨_, _, rfl, rfl, rfl⟩ (fun w1 hw1 => ⟨rfl, Ret.below_ hw1 (.cons (.tail (.tail (.tail (.tail (.tail (.tail (.tail (.tail (.tail (.tail .head)))))))))) .nil)⟩)
    · rw [if_neg hh2] at h
      by_cases hh3 : r1.1.a = 0
      · rw [if_pos hh3] at h
        by_cases hh4 : r1.1.b = 1
        · rw [if_pos hh4] at h
          by_cases hh5 : r1.1.new = (Arc.mk 0 2 0 3 3)
          · rw [if_pos hh5] at h
            by_cases hh6 : r3.2 = 0
            · rw [if_pos hh6] at h
              by_cases hh7 : r3.1.did = true
              · rw [if_pos hh7] at h
                obtain ⟨hm2, h⟩ := ck_some h
                obtain ⟨r4, hg4, h⟩ := bind_some h
                refine WP.drawL 38 [(32, [], fun _ => mkSpec 2 (2 : Int).toNat (.int .i64 (0))), (34, [], litSpec 23 1), (36, [32, 34], fun _ => constSpec (.bool (r4)))] rfl (by kernel_rfl) (by kernel_rfl) (by kernel_rfl) ?_
                iterate 2 (refine WP.st tysOk true rfl ⟨⟨rfl, rfl⟩, rfl⟩ rfl rfl rfl rfl True.intro ?_)
                refine WP.yes rfl rfl hh1 ?_
                refine WP.st tysOk true rfl ⟨⟨rfl, rfl⟩, rfl⟩ rfl rfl rfl rfl True.intro ?_
                refine WP.yes rfl rfl rfl ?_
                iterate 3 (refine WP.st tysOk true rfl ⟨⟨rfl, rfl⟩, rfl⟩ rfl rfl rfl rfl True.intro ?_)
                refine WP.yes rfl rfl (by simp [hh2]) ?_
                refine WP.st tysOk true rfl ⟨⟨rfl, rfl⟩, rfl⟩ rfl rfl rfl rfl True.intro ?_
                refine WP.yes rfl rfl rfl ?_
                refine WP.ld1 tysOk rfl ⟨⟨rfl, rfl⟩, rfl⟩ rfl rfl rfl rfl rfl rfl rfl (CellAt.blk (.tail (.tail (.tail (.tail (.tail (.tail .head)))))) rfl) ?_
                refine WP.yes rfl rfl rfl ?_
                iterate 3 (refine WP.st tysOk true rfl ⟨⟨rfl, rfl⟩, rfl⟩ rfl rfl rfl rfl True.intro ?_)
                refine WP.yes rfl rfl (decide_eq_true hh3) ?_
                refine WP.st tysOk true rfl ⟨⟨rfl, rfl⟩, rfl⟩ rfl rfl rfl rfl True.intro ?_
                refine WP.yes rfl rfl rfl ?_
                refine WP.ld1 tysOk rfl ⟨⟨rfl, rfl⟩, rfl⟩ rfl rfl rfl rfl rfl rfl rfl (CellAt.blk (.tail (.tail (.tail (.tail (.tail (.tail .head)))))) rfl) ?_
                refine WP.yes rfl rfl rfl ?_
                iterate 3 (refine WP.st tysOk true rfl ⟨⟨rfl, rfl⟩, rfl⟩ rfl rfl rfl rfl True.intro ?_)
                refine WP.yes rfl rfl (decide_eq_true hh4) ?_
                refine WP.st tysOk true rfl ⟨⟨rfl, rfl⟩, rfl⟩ rfl rfl rfl rfl True.intro ?_
                refine WP.yes rfl rfl rfl ?_
                refine WP.ldm tysOk rfl ⟨⟨rfl, rfl⟩, rfl⟩ rfl rfl rfl rfl rfl rfl rfl (SegAt.blk' (.tail (.tail (.tail (.tail (.tail (.tail .head)))))) rfl) ?_
                refine WP.yes rfl rfl rfl ?_
                refine WP.bld (cs := [.int .i64 (0), .int .i64 (2), .int .i64 (0), .int .i64 (3), .int .i64 (3)]) tysOk rfl ⟨⟨rfl, rfl⟩, rfl⟩ rfl rfl rfl rfl rfl rfl rfl ?_
                refine WP.yes rfl rfl rfl ?_
                refine WP.eqS rfl ⟨⟨rfl, rfl⟩, rfl⟩ rfl rfl rfl rfl rfl rfl (by kernel_rfl) (eq23 r1.1.new (Arc.mk 0 2 0 3 3)) ?_
                iterate 2 (refine WP.st tysOk true rfl ⟨⟨rfl, rfl⟩, rfl⟩ rfl rfl rfl rfl True.intro ?_)
                refine WP.yes rfl rfl (decide_eq_true hh5) ?_
                refine WP.st tysOk true rfl ⟨⟨rfl, rfl⟩, rfl⟩ rfl rfl rfl rfl True.intro ?_
                refine WP.yes rfl rfl rfl ?_
                iterate 3 (refine WP.st tysOk true rfl ⟨⟨rfl, rfl⟩, rfl⟩ rfl rfl rfl rfl True.intro ?_)
                refine WP.yes rfl rfl (decide_eq_true hh6) ?_
                refine WP.st tysOk true rfl ⟨⟨rfl, rfl⟩, rfl⟩ rfl rfl rfl rfl True.intro ?_
                refine WP.yes rfl rfl rfl ?_
                refine WP.ld1 tysOk rfl ⟨⟨rfl, rfl⟩, rfl⟩ rfl rfl rfl rfl rfl rfl rfl (CellAt.blk .head rfl) ?_
                iterate 2 (refine WP.st tysOk true rfl ⟨⟨rfl, rfl⟩, rfl⟩ rfl rfl rfl rfl True.intro ?_)
                refine WP.yes rfl rfl hh7 ?_
                refine WP.st tysOk true rfl ⟨⟨rfl, rfl⟩, rfl⟩ rfl rfl rfl rfl True.intro ?_
                refine WP.yes rfl rfl rfl ?_
                refine WP.ldm tysOk rfl ⟨⟨rfl, rfl⟩, rfl⟩ rfl rfl rfl rfl rfl rfl rfl (SegAt.blk' .head rfl) ?_
                refine WP.yes rfl rfl rfl ?_
                refine WP.lmO tysOk rfl ⟨rfl, rfl⟩ rfl rfl rfl rfl rfl rfl rfl rfl rfl rfl hm2 ?_
                intro g7
                refine WP.yes rfl rfl rfl ?_
                refine WP.bld (cs := [.int .i64 (0), .int .i64 (1), .int .i64 (0), .int .i64 (3), .int .i64 (3)]) tysOk rfl ⟨⟨rfl, rfl⟩, rfl⟩ rfl rfl rfl rfl rfl rfl rfl ?_
                refine WP.yes rfl rfl rfl ?_
                refine WP.lbs tysOk rfl ⟨rfl, rfl⟩ rfl rfl rfl rfl rfl rfl rfl rfl rfl rfl rfl rfl ?_
                intro g8
                refine WP.yes rfl rfl rfl ?_
                refine WP.bld (cs := [.slice (some ⟨g7, 0, none⟩) ((2 : Int).toNat) ((2 : Int).toNat), .slice (some ⟨g8, 0, none⟩) 1 1]) tysOk rfl ⟨⟨rfl, rfl⟩, rfl⟩ rfl rfl rfl rfl rfl rfl rfl ?_
                refine WP.yes rfl rfl rfl ?_
                refine WP.lcall rfl ⟨rfl, rfl⟩ rfl rfl rfl rfl rfl rfl rfl (by kernel_rfl) (fun w1 hw1 => ((ref03_Same_w hg4 (InsZ.mk_ (hw1.ow (.tail (.tail (.tail .head))) hf3) (hw1.ow (.tail (.tail (.tail (.tail .head)))) hf4)) (InsZ.mk_ (hw1.blM 0 (.tail .head) rfl rfl hm2) (hw1.blL [(Arc.mk 0 1 0 3 3)] .head rfl rfl rfl)) :)).mono fun e w' h => ⟨_, [], h.1, ⟨rfl, rfl⟩, Ret.nil h.2⟩) ?_
                rintro _ _ ⟨rfl, rfl⟩
                refine WP.st tysOk true rfl ⟨⟨rfl, rfl⟩, rfl⟩ rfl rfl rfl rfl True.intro ?_
                refine WP.lend rfl ⟨rfl, rfl⟩ ?_
                refine WP.shutM (f := (fI .i64)) 0 (.tail .head) rfl rfl hm2 ?_
                intro hf7
                refine WP.repiece (p' := .blk g8 23 (cl fA [(Arc.mk 0 1 0 3 3)])) (.tail .head) rfl ?_
                refine WP.shut0 (n := 1) (z := fA.z) .head (by decide) rfl ?_
                have hf8 : OwF (some ⟨g8, 0, none⟩) 1 [(Arc.mk 0 1 0 3 3)] := ⟨rfl, fun _ => ⟨g8, rfl⟩⟩
                refine WP.st tysOk true rfl True.intro rfl rfl rfl rfl True.intro ?_
                cases h
                refine WP.retR tysOk rfl rfl ⟨_, _, rfl, rfl, rfl⟩ (fun w1 hw1 => ⟨rfl, Ret.below_ hw1 (.cons (.tail (.tail (.tail (.tail (.tail (.tail (.tail (.tail (.tail (.tail (.tail (.tail .head)))))))))))) .nil)⟩)
              · rw [if_neg hh7] at h
                refine WP.drawL 38 [] rfl (by kernel_rfl) (by kernel_rfl) (by kernel_rfl) ?_
                iterate 2 (refine WP.st tysOk true rfl ⟨⟨rfl, rfl⟩, rfl⟩ rfl rfl rfl rfl True.intro ?_)
                refine WP.yes rfl rfl hh1 ?_
                refine WP.st tysOk true rfl ⟨⟨rfl, rfl⟩, rfl⟩ rfl rfl rfl rfl True.intro ?_
                refine WP.yes rfl rfl rfl ?_
                iterate 3 (refine WP.st tysOk true rfl ⟨⟨rfl, rfl⟩, rfl⟩ rfl rfl rfl rfl True.intro ?_)
                refine WP.yes rfl rfl (by simp [hh2]) ?_
                refine WP.st tysOk true rfl ⟨⟨rfl, rfl⟩, rfl⟩ rfl rfl rfl rfl True.intro ?_
                refine WP.yes rfl rfl rfl ?_
                refine WP.ld1 tysOk rfl ⟨⟨rfl, rfl⟩, rfl⟩ rfl rfl rfl rfl rfl rfl rfl (CellAt.blk (.tail (.tail (.tail (.tail (.tail (.tail .head)))))) rfl) ?_
                refine WP.yes rfl rfl rfl ?_
                iterate 3 (refine WP.st tysOk true rfl ⟨⟨rfl, rfl⟩, rfl⟩ rfl rfl rfl rfl True.intro ?_)
                refine WP.yes rfl rfl (decide_eq_true hh3) ?_
                refine WP.st tysOk true rfl ⟨⟨rfl, rfl⟩, rfl⟩ rfl rfl rfl rfl True.intro ?_
                refine WP.yes rfl rfl rfl ?_
                refine WP.ld1 tysOk rfl ⟨⟨rfl, rfl⟩, rfl⟩ rfl rfl rfl rfl rfl rfl rfl (CellAt.blk (.tail (.tail (.tail (.tail (.tail (.tail .head)))))) rfl) ?_
                refine WP.yes rfl rfl rfl ?_
                iterate 3 (refine WP.st tysOk true rfl ⟨⟨rfl, rfl⟩, rfl⟩ rfl rfl rfl rfl True.intro ?_)
                refine WP.yes rfl rfl (decide_eq_true hh4) ?_
                refine WP.st tysOk true rfl ⟨⟨rfl, rfl⟩, rfl⟩ rfl rfl rfl rfl True.intro ?_
                refine WP.yes rfl rfl rfl ?_
                refine WP.ldm tysOk rfl ⟨⟨rfl, rfl⟩, rfl⟩ rfl rfl rfl rfl rfl rfl rfl (SegAt.blk' (.tail (.tail (.tail (.tail (.tail (.tail .head)))))) rfl) ?_
                refine WP.yes rfl rfl rfl ?_
                refine WP.bld (cs := [.int .i64 (0), .int .i64 (2), .int .i64 (0), .int .i64 (3), .int .i64 (3)]) tysOk rfl ⟨⟨rfl, rfl⟩, rfl⟩ rfl rfl rfl rfl rfl rfl rfl ?_
                refine WP.yes rfl rfl rfl ?_
                refine WP.eqS rfl ⟨⟨rfl, rfl⟩, rfl⟩ rfl rfl rfl rfl rfl rfl (by kernel_rfl) (eq23 r1.1.new (Arc.mk 0 2 0 3 3)) ?_
                iterate 2 (refine WP.st tysOk true rfl ⟨⟨rfl, rfl⟩, rfl⟩ rfl rfl rfl rfl True.intro ?_)
                refine WP.yes rfl rfl (decide_eq_true hh5) ?_
                refine WP.st tysOk true rfl ⟨⟨rfl, rfl⟩, rfl⟩ rfl rfl rfl rfl True.intro ?_
                refine WP.yes rfl rfl rfl ?_
                iterate 3 (refine WP.st tysOk true rfl ⟨⟨rfl, rfl⟩, rfl⟩ rfl rfl rfl rfl True.intro ?_)
                refine WP.yes rfl rfl (decide_eq_true hh6) ?_
                refine WP.st tysOk true rfl ⟨⟨rfl, rfl⟩, rfl⟩ rfl rfl rfl rfl True.intro ?_
                refine WP.yes rfl rfl rfl ?_
                refine WP.ld1 tysOk rfl ⟨⟨rfl, rfl⟩, rfl⟩ rfl rfl rfl rfl rfl rfl rfl (CellAt.blk .head rfl) ?_
                iterate 2 (refine WP.st tysOk true rfl ⟨⟨rfl, rfl⟩, rfl⟩ rfl rfl rfl rfl True.intro ?_)
                refine WP.no rfl rfl (bfalse hh7) rfl rfl ?_
                iterate 6 (refine WP.no rfl rfl rfl rfl rfl ?_)
                refine WP.st tysOk true rfl ⟨⟨rfl, rfl⟩, rfl⟩ rfl rfl rfl rfl True.intro ?_
                refine WP.lend rfl ⟨rfl, rfl⟩ ?_
                refine WP.st tysOk true rfl True.intro rfl rfl rfl rfl True.intro ?_
                cases h
                refine WP.retR tysOk rfl rfl ⟨_, _, rfl, rfl, rfl⟩ (fun w1 hw1 => ⟨rfl, Ret.below_ hw1 (.cons (.tail (.tail (.tail (.tail (.tail (.tail (.tail (.tail (.tail (.tail .head)))))))))) .nil)⟩)
            · rw [if_neg hh6] at h
              refine WP.drawL 38 [] rfl (by kernel_rfl) (by kernel_rfl) (by kernel_rfl) ?_
              iterate 2 (refine WP.st tysOk true rfl ⟨⟨rfl, rfl⟩, rfl⟩ rfl rfl rfl rfl True.intro ?_)
              refine WP.yes rfl rfl hh1 ?_
              refine WP.st tysOk true rfl ⟨⟨rfl, rfl⟩, rfl⟩ rfl rfl rfl rfl True.intro ?_
              refine WP.yes rfl rfl rfl ?_
              iterate 3 (refine WP.st tysOk true rfl ⟨⟨rfl, rfl⟩, rfl⟩ rfl rfl rfl rfl True.intro ?_)
              refine WP.yes rfl rfl (by simp [hh2]) ?_
              refine WP.st tysOk true rfl ⟨⟨rfl, rfl⟩, rfl⟩ rfl rfl rfl rfl True.intro ?_
              refine WP.yes rfl rfl rfl ?_
              refine WP.ld1 tysOk rfl ⟨⟨rfl, rfl⟩, rfl⟩ rfl rfl rfl rfl rfl rfl rfl (CellAt.blk (.tail (.tail (.tail (.tail (.tail (.tail .head)))))) rfl) ?_
              refine WP.yes rfl rfl rfl ?_
              iterate 3 (refine WP.st tysOk true rfl ⟨⟨rfl, rfl⟩, rfl⟩ rfl rfl rfl rfl True.intro ?_)
              refine WP.yes rfl rfl (decide_eq_true hh3) ?_
              refine WP.st tysOk true rfl ⟨⟨rfl, rfl⟩, rfl⟩ rfl rfl rfl rfl True.intro ?_
              refine WP.yes rfl rfl rfl ?_
              refine WP.ld1 tysOk rfl ⟨⟨rfl, rfl⟩, rfl⟩ rfl rfl rfl rfl rfl rfl rfl (CellAt.blk (.tail (.tail (.tail (.tail (.tail (.tail .head)))))) rfl) ?_
              refine WP.yes rfl rfl rfl ?_
              iterate 3 (refine WP.st tysOk true rfl ⟨⟨rfl, rfl⟩, rfl⟩ rfl rfl rfl rfl True.intro ?_)
              refine WP.yes rfl rfl (decide_eq_true hh4) ?_
              refine WP.st tysOk true rfl ⟨⟨rfl, rfl⟩, rfl⟩ rfl rfl rfl rfl True.intro ?_
              refine WP.yes rfl rfl rfl ?_
              refine WP.ldm tysOk rfl ⟨⟨rfl, rfl⟩, rfl⟩ rfl rfl rfl rfl rfl rfl rfl (SegAt.blk' (.tail (.tail (.tail (.tail (.tail (.tail .head)))))) rfl) ?_
              refine WP.yes rfl rfl rfl ?_
              refine WP.bld (cs := [.int .i64 (0), .int .i64 (2), .int .i64 (0), .int .i64 (3), .int .i64 (3)]) tysOk rfl ⟨⟨rfl, rfl⟩, rfl⟩ rfl rfl rfl rfl rfl rfl rfl ?_
              refine WP.yes rfl rfl rfl ?_
              refine WP.eqS rfl ⟨⟨rfl, rfl⟩, rfl⟩ rfl rfl rfl rfl rfl rfl (by kernel_rfl) (eq23 r1.1.new (Arc.mk 0 2 0 3 3)) ?_
              iterate 2 (refine WP.st tysOk true rfl ⟨⟨rfl, rfl⟩, rfl⟩ rfl rfl rfl rfl True.intro ?_)
              refine WP.yes rfl rfl (decide_eq_true hh5) ?_
              refine WP.st tysOk true rfl ⟨⟨rfl, rfl⟩, rfl⟩ rfl rfl rfl rfl True.intro ?_
              refine WP.yes rfl rfl rfl ?_
              iterate 3 (refine WP.st tysOk true rfl ⟨⟨rfl, rfl⟩, rfl⟩ rfl rfl rfl rfl True.intro ?_)
              refine WP.no rfl rfl (decide_eq_false hh6) rfl rfl ?_
              refine WP.no rfl rfl rfl rfl rfl ?_
              iterate 2 (refine WP.st tysOk true rfl ⟨⟨rfl, rfl⟩, rfl⟩ rfl rfl rfl rfl True.intro ?_)
              iterate 7 (refine WP.no rfl rfl rfl rfl rfl ?_)
              refine WP.st tysOk true rfl ⟨⟨rfl, rfl⟩, rfl⟩ rfl rfl rfl rfl True.intro ?_
              refine WP.lend rfl ⟨rfl, rfl⟩ ?_
              refine WP.st tysOk true rfl True.intro rfl rfl rfl rfl True.intro ?_
              cases h
              refine WP.retR tysOk rfl rfl ⟨_, _, rfl, rfl, rfl⟩ (fun w1 hw1 => ⟨rfl, Ret.below_ hw1 (.cons (.tail (.tail (.tail (.tail (.tail (.tail (.tail (.tail (.tail (.tail .head)))))))))) .nil)⟩)
          · rw [if_neg hh5] at h
            refine WP.drawL 38 [] rfl (by kernel_rfl) (by kernel_rfl) (by kernel_rfl) ?_
            iterate 2 (refine WP.st tysOk true rfl ⟨⟨rfl, rfl⟩, rfl⟩ rfl rfl rfl rfl True.intro ?_)
            refine WP.yes rfl rfl hh1 ?_
            refine WP.st tysOk true rfl ⟨⟨rfl, rfl⟩, rfl⟩ rfl rfl rfl rfl True.intro ?_
            refine WP.yes rfl rfl rfl ?_
            iterate 3 (refine WP.st tysOk true rfl ⟨⟨rfl, rfl⟩, rfl⟩ rfl rfl rfl rfl True.intro ?_)
            refine WP.yes rfl rfl (by simp [hh2]) ?_
            refine WP.st tysOk true rfl ⟨⟨rfl, rfl⟩, rfl⟩ rfl rfl rfl rfl True.intro ?_
            refine WP.yes rfl rfl rfl ?_
            refine WP.ld1 tysOk rfl ⟨⟨rfl, rfl⟩, rfl⟩ rfl rfl rfl rfl rfl rfl rfl (CellAt.blk (.tail (.tail (.tail (.tail (.tail (.tail .head)))))) rfl) ?_
            refine WP.yes rfl rfl rfl ?_
            iterate 3 (refine WP.st tysOk true rfl ⟨⟨rfl, rfl⟩, rfl⟩ rfl rfl rfl rfl True.intro ?_)
            refine WP.yes rfl rfl (decide_eq_true hh3) ?_
            refine WP.st tysOk true rfl ⟨⟨rfl, rfl⟩, rfl⟩ rfl rfl rfl rfl True.intro ?_
            refine WP.yes rfl rfl rfl ?_
            refine WP.ld1 tysOk rfl ⟨⟨rfl, rfl⟩, rfl⟩ rfl rfl rfl rfl rfl rfl rfl (CellAt.blk (.tail (.tail (.tail (.tail (.tail (.tail .head)))))) rfl) ?_
            refine WP.yes rfl rfl rfl ?_
            iterate 3 (refine WP.st tysOk true rfl ⟨⟨rfl, rfl⟩, rfl⟩ rfl rfl rfl rfl True.intro ?_)
            refine WP.yes rfl rfl (decide_eq_true hh4) ?_
            refine WP.st tysOk true rfl ⟨⟨rfl, rfl⟩, rfl⟩ rfl rfl rfl rfl True.intro ?_
            refine WP.yes rfl rfl rfl ?_
            refine WP.ldm tysOk rfl ⟨⟨rfl, rfl⟩, rfl⟩ rfl rfl rfl rfl rfl rfl rfl (SegAt.blk' (.tail (.tail (.tail (.tail (.tail (.tail .head)))))) rfl) ?_
            refine WP.yes rfl rfl rfl ?_
            refine WP.bld (cs := [.int .i64 (0), .int .i64 (2), .int .i64 (0), .int .i64 (3), .int .i64 (3)]) tysOk rfl ⟨⟨rfl, rfl⟩, rfl⟩ rfl rfl rfl rfl rfl rfl rfl ?_
            refine WP.yes rfl rfl rfl ?_
            refine WP.eqS rfl ⟨⟨rfl, rfl⟩, rfl⟩ rfl rfl rfl rfl rfl rfl (by kernel_rfl) (eq23 r1.1.new (Arc.mk 0 2 0 3 3)) ?_
            iterate 2 (refine WP.st tysOk true rfl ⟨⟨rfl, rfl⟩, rfl⟩ rfl rfl rfl rfl True.intro ?_)
            refine WP.no rfl rfl (decide_eq_false hh5) rfl rfl ?_
            iterate 2 (refine WP.no rfl rfl rfl rfl rfl ?_; refine WP.st tysOk true rfl ⟨⟨rfl, rfl⟩, rfl⟩ rfl rfl rfl rfl True.intro ?_; refine WP.st tysOk true rfl ⟨⟨rfl, rfl⟩, rfl⟩ rfl rfl rfl rfl True.intro ?_; refine WP.no rfl rfl rfl rfl rfl ?_)
            iterate 6 (refine WP.no rfl rfl rfl rfl rfl ?_)
            refine WP.st tysOk true rfl ⟨⟨rfl, rfl⟩, rfl⟩ rfl rfl rfl rfl True.intro ?_
            refine WP.lend rfl ⟨rfl, rfl⟩ ?_
            refine WP.st tysOk true rfl True.intro rfl rfl rfl rfl True.intro ?_
            cases h
            refine WP.retR tysOk rfl rfl ⟨_, _, rfl, rfl, rfl⟩ (fun w1 hw1 => ⟨rfl, Ret.below_ hw1 (.cons (.tail (.tail (.tail (.tail (.tail (.tail (.tail (.tail (.tail (.tail .head)))))))))) .nil)⟩)
        · rw [if_neg hh4] at h
          refine WP.drawL 38 [] rfl (by kernel_rfl) (by kernel_rfl) (by kernel_rfl) ?_
          iterate 2 (refine WP.st tysOk true rfl ⟨⟨rfl, rfl⟩, rfl⟩ rfl rfl rfl rfl True.intro ?_)
          refine WP.yes rfl rfl hh1 ?_
          refine WP.st tysOk true rfl ⟨⟨rfl, rfl⟩, rfl⟩ rfl rfl rfl rfl True.intro ?_
          refine WP.yes rfl rfl rfl ?_
          iterate 3 (refine WP.st tysOk true rfl ⟨⟨rfl, rfl⟩, rfl⟩ rfl rfl rfl rfl True.intro ?_)
          refine WP.yes rfl rfl (by simp [hh2]) ?_
          refine WP.st tysOk true rfl ⟨⟨rfl, rfl⟩, rfl⟩ rfl rfl rfl rfl True.intro ?_
          refine WP.yes rfl rfl rfl ?_
          refine WP.ld1 tysOk rfl ⟨⟨rfl, rfl⟩, rfl⟩ rfl rfl rfl rfl rfl rfl rfl (CellAt.blk (.tail (.tail (.tail (.tail (.tail (.tail .head)))))) rfl) ?_
          refine WP.yes rfl rfl rfl ?_
          iterate 3 (refine WP.st tysOk true rfl ⟨⟨rfl, rfl⟩, rfl⟩ rfl rfl rfl rfl True.intro ?_)
          refine WP.yes rfl rfl (decide_eq_true hh3) ?_
          refine WP.st tysOk true rfl ⟨⟨rfl, rfl⟩, rfl⟩ rfl rfl rfl rfl True.intro ?_
          refine WP.yes rfl rfl rfl ?_
          refine WP.ld1 tysOk rfl ⟨⟨rfl, rfl⟩, rfl⟩ rfl rfl rfl rfl rfl rfl rfl (CellAt.blk (.tail (.tail (.tail (.tail (.tail (.tail .head)))))) rfl) ?_
          refine WP.yes rfl rfl rfl ?_
          iterate 3 (refine WP.st tysOk true rfl ⟨⟨rfl, rfl⟩, rfl⟩ rfl rfl rfl rfl True.intro ?_)
          refine WP.no rfl rfl (decide_eq_false hh4) rfl rfl ?_
          iterate 3 (refine WP.no rfl rfl rfl rfl rfl ?_)
          iterate 3 (refine WP.st tysOk true rfl ⟨⟨rfl, rfl⟩, rfl⟩ rfl rfl rfl rfl True.intro ?_; refine WP.st tysOk true rfl ⟨⟨rfl, rfl⟩, rfl⟩ rfl rfl rfl rfl True.intro ?_; refine WP.no rfl rfl rfl rfl rfl ?_; refine WP.no rfl rfl rfl rfl rfl ?_)
          iterate 5 (refine WP.no rfl rfl rfl rfl rfl ?_)
          refine WP.st tysOk true rfl ⟨⟨rfl, rfl⟩, rfl⟩ rfl rfl rfl rfl True.intro ?_
          refine WP.lend rfl ⟨rfl, rfl⟩ ?_
          refine WP.st tysOk true rfl True.intro rfl rfl rfl rfl True.intro ?_
          cases h
          refine WP.retR tysOk rfl rfl ⟨_, _, rfl, rfl, rfl⟩ (fun w1 hw1 => ⟨rfl, Ret.below_ hw1 (.cons (.tail (.tail (.tail (.tail (.tail (.tail (.tail (.tail (.tail (.tail .head)))))))))) .nil)⟩)
      · rw [if_neg hh3] at h
        refine WP.drawL 38 [] rfl (by kernel_rfl) (by kernel_rfl) (by kernel_rfl) ?_
        iterate 2 (refine WP.st tysOk true rfl ⟨⟨rfl, rfl⟩, rfl⟩ rfl rfl rfl rfl True.intro ?_)
        refine WP.yes rfl rfl hh1 ?_
        refine WP.st tysOk true rfl ⟨⟨rfl, rfl⟩, rfl⟩ rfl rfl rfl rfl True.intro ?_
        refine WP.yes rfl rfl rfl ?_
        iterate 3 (refine WP.st tysOk true rfl ⟨⟨rfl, rfl⟩, rfl⟩ rfl rfl rfl rfl True.intro ?_)
        refine WP.yes rfl rfl (by simp [hh2]) ?_
        refine WP.st tysOk true rfl ⟨⟨rfl, rfl⟩, rfl⟩ rfl rfl rfl rfl True.intro ?_
        refine WP.yes rfl rfl rfl ?_
        refine WP.ld1 tysOk rfl ⟨⟨rfl, rfl⟩, rfl⟩ rfl rfl rfl rfl rfl rfl rfl (CellAt.blk (.tail (.tail (.tail (.tail (.tail (.tail .head)))))) rfl) ?_
        refine WP.yes rfl rfl rfl ?_
        iterate 3 (refine WP.st tysOk true rfl ⟨⟨rfl, rfl⟩, rfl⟩ rfl rfl rfl rfl True.intro ?_)
        refine WP.no rfl rfl (decide_eq_false hh3) rfl rfl ?_
        iterate 2 (refine WP.no rfl rfl rfl rfl rfl ?_)
        iterate 2 (refine WP.st tysOk true rfl ⟨⟨rfl, rfl⟩, rfl⟩ rfl rfl rfl rfl True.intro ?_)
        iterate 4 (refine WP.no rfl rfl rfl rfl rfl ?_)
        iterate 3 (refine WP.st tysOk true rfl ⟨⟨rfl, rfl⟩, rfl⟩ rfl rfl rfl rfl True.intro ?_; refine WP.st tysOk true rfl ⟨⟨rfl, rfl⟩, rfl⟩ rfl rfl rfl rfl True.intro ?_; refine WP.no rfl rfl rfl rfl rfl ?_; refine WP.no rfl rfl rfl rfl rfl ?_)
        iterate 5 (refine WP.no rfl rfl rfl rfl rfl ?_)
        refine WP.st tysOk true rfl ⟨⟨rfl, rfl⟩, rfl⟩ rfl rfl rfl rfl True.intro ?_
        refine WP.lend rfl ⟨rfl, rfl⟩ ?_
        refine WP.st tysOk true rfl True.intro rfl rfl rfl rfl True.intro ?_
        cases h
        refine WP.retR tysOk rfl rfl ⟨_, _, rfl, rfl, rfl⟩ (fun w1 hw1 => ⟨rfl, Ret.below_ hw1 (.cons (.tail (.tail (.tail (.tail (.tail (.tail (.tail (.tail (.tail (.tail .head)))))))))) .nil)⟩)
  · rw [if_neg hh1] at h
    refine WP.drawL 38 [] rfl (by kernel_rfl) (by kernel_rfl) (by kernel_rfl) ?_
    iterate 2 (refine WP.st tysOk true rfl ⟨⟨rfl, rfl⟩, rfl⟩ rfl rfl rfl rfl True.intro ?_)
    refine WP.no rfl rfl (bfalse hh1) rfl rfl ?_
    refine WP.no rfl rfl rfl rfl rfl ?_
    iterate 2 (refine WP.st tysOk true rfl ⟨⟨rfl, rfl⟩, rfl⟩ rfl rfl rfl rfl True.intro ?_)
    iterate 3 (refine WP.no rfl rfl rfl rfl rfl ?_)
    iterate 2 (refine WP.st tysOk true rfl ⟨⟨rfl, rfl⟩, rfl⟩ rfl rfl rfl rfl True.intro ?_)
    iterate 3 (refine WP.no rfl rfl rfl rfl rfl ?_)
    iterate 2 (refine WP.st tysOk true rfl ⟨⟨rfl, rfl⟩, rfl⟩ rfl rfl rfl rfl True.intro ?_)
    iterate 4 (refine WP.no rfl rfl rfl rfl rfl ?_)
    iterate 3 (refine WP.st tysOk true rfl ⟨⟨rfl, rfl⟩, rfl⟩ rfl rfl rfl rfl True.intro ?_; refine WP.st tysOk true rfl ⟨⟨rfl, rfl⟩, rfl⟩ rfl rfl rfl rfl True.intro ?_; refine WP.no rfl rfl rfl rfl rfl ?_; refine WP.no rfl rfl rfl rfl rfl ?_)
    iterate 5 (refine WP.no rfl rfl rfl rfl rfl ?_)
    refine WP.st tysOk true rfl ⟨⟨rfl, rfl⟩, rfl⟩ rfl rfl rfl rfl True.intro ?_
    refine WP.lend rfl ⟨rfl, rfl⟩ ?_
    refine WP.st tysOk true rfl True.intro rfl rfl rfl rfl True.intro ?_
    cases h
    refine WP.retR tysOk rfl rfl ⟨_, _, rfl, rfl, rfl⟩ (fun w1 hw1 => ⟨rfl, Ret.below_ hw1 (.cons (.tail (.tail (.tail (.tail (.tail (.tail (.tail (.tail (.tail (.tail .head)))))))))) .nil)⟩)

set_option maxRecDepth 20000 in
set_option maxHeartbeats 8000000 in
theorem law18_TwoBounds_w {w : World} {d1 : Int} {i1 : Arc} {x1 : Arc} {x2 : Int} {x3 : Int} {x4 : Int} {r : Bool} (h : law18_TwoBounds d1 i1 x1 x2 x3 x4 = some r) :
    Calls Try.prog 3 #[.int .u8 (d1), .agg #[.int .i64 (i1.src), .int .i64 (i1.dst), .int .i64 (i1.low), .int .i64 (i1.cap), .int .i64 (i1.cost)], .agg #[.int .i64 (x1.src), .int .i64 (x1.dst), .int .i64 (x1.low), .int .i64 (x1.cap), .int .i64 (x1.cost)], .int .i64 (x2), .int .i64 (x3), .int .i32 (x4)] w fun e w' => e = .returned (.bool (r)) ∧ Below w.heap.size w w' := by
  unfold law18_TwoBounds at h
  refine enter_ Try.func3 rfl Try.ntmps3 rfl ?_
  refine WP.box rfl rfl rfl rfl rfl rfl ?_
  intro g1
  refine WP.box rfl rfl rfl rfl rfl rfl ?_
  intro g2
  refine WP.st tysOk true rfl True.intro rfl rfl rfl rfl True.intro ?_
  obtain ⟨r1, hg1, h⟩ := bind_some h
  obtain ⟨r2, hg2, h⟩ := bind_some h
  obtain ⟨r3, hg3, h⟩ := bind_some h
  refine WP.drawL 11 [(2, [], fun _ => constSpec (.agg #[.int .i64 (r1.src), .int .i64 (r1.dst), .int .i64 (r1.low), .int .i64 (r1.cap), .int .i64 (r1.cost)])), (4, [], fun _ => constSpec (.agg #[.int .i64 (r2.src), .int .i64 (r2.dst), .int .i64 (r2.low), .int .i64 (r2.cap), .int .i64 (r2.cost)])), (9, [], fun _ => law18_One_S r3), (10, [], fun _ => blkSpec 27 [.slice none 0 0, .slice none 0 0])] rfl (by kernel_rfl) (by kernel_rfl) (by kernel_rfl) ?_
  refine WP.st tysOk true rfl ⟨⟨rfl, rfl⟩, rfl⟩ rfl rfl rfl rfl True.intro ?_
  refine WP.ldm tysOk rfl ⟨⟨rfl, rfl⟩, rfl⟩ rfl rfl rfl rfl rfl rfl rfl (SegAt.blk' (.tail .head) rfl) ?_
  refine WP.callV rfl rfl rfl rfl rfl rfl rfl (by kernel_rfl) (fun w1 hw1 => (law18_tame_w hg1  :)) ⟨⟨rfl, rfl⟩, rfl⟩ ?_
  refine WP.ldm tysOk rfl ⟨⟨rfl, rfl⟩, rfl⟩ rfl rfl rfl rfl rfl rfl rfl (SegAt.blk' .head rfl) ?_
  refine WP.callV rfl rfl rfl rfl rfl rfl rfl (by kernel_rfl) (fun w1 hw1 => (law18_tame_w hg2  :)) ⟨⟨rfl, rfl⟩, rfl⟩ ?_
  iterate 2 (refine WP.st tysOk true rfl ⟨⟨rfl, rfl⟩, rfl⟩ rfl rfl rfl rfl True.intro ?_; refine WP.st tysOk true rfl ⟨⟨rfl, rfl⟩, rfl⟩ rfl rfl rfl rfl (by decide) ?_)
  refine WP.lcall rfl ⟨rfl, rfl⟩ rfl rfl rfl rfl rfl rfl rfl (by kernel_rfl) (fun w1 hw1 => (law18_One_w hg3  :)) ?_
  rintro _ _ ⟨A1, n1, c1, A2, n2, c2, rfl, hf1, hf2, rfl⟩
  refine WP.lal tysOk rfl ⟨rfl, rfl⟩ rfl rfl rfl rfl rfl rfl rfl ?_
  intro g3
  refine WP.lend rfl ⟨rfl, rfl⟩ ?_
  refine WP.sto' tysOk [.slice A1 n1 c1, .slice A2 n2 c2] rfl rfl rfl rfl rfl rfl rfl rfl rfl .head rfl rfl ?_
  refine WP.st tysOk true rfl True.intro rfl rfl rfl rfl True.intro ?_
  refine WP.st tysOk true rfl True.intro rfl rfl rfl rfl (by decide) ?_
  iterate 2 (refine WP.st tysOk true rfl True.intro rfl rfl rfl rfl True.intro ?_)
  refine WP.al tysOk rfl rfl rfl rfl rfl rfl ?_
  intro g4
  iterate 2 (refine WP.st tysOk true rfl True.intro rfl rfl rfl rfl True.intro ?_)
  refine WP.cond_d rfl rfl (fun hh1 => ?_) (fun hh1 => ?_)
  · rw [if_pos hh1] at h
    refine WP.ldm tysOk rfl True.intro rfl rfl rfl rfl rfl rfl rfl (SegAt.blk' (.tail .head) rfl) ?_
    obtain ⟨r4, hg4, h⟩ := bind_some h
    refine WP.callV rfl rfl rfl rfl rfl rfl rfl (by kernel_rfl) (fun w1 hw1 => (two_Chain_w hg4 (InsZ.mk_ (hw1.ow (.tail (.tail .head)) hf1) (hw1.ow (.tail (.tail (.tail .head))) hf2)) :)) True.intro ?_
    iterate 3 (refine WP.st tysOk true rfl True.intro rfl rfl rfl rfl True.intro ?_)
    refine WP.sto' tysOk [.int .i64 (r4.1.node), .int .i64 (r4.1.a), .int .i64 (r4.1.b), .int .i64 (r4.1.new.src), .int .i64 (r4.1.new.dst), .int .i64 (r4.1.new.low), .int .i64 (r4.1.new.cap), .int .i64 (r4.1.new.cost)] rfl rfl rfl rfl rfl rfl rfl rfl rfl .head rfl rfl ?_
    iterate 2 (refine WP.st tysOk true rfl True.intro rfl rfl rfl rfl True.intro ?_)
    refine WP.st tysOk true rfl True.intro rfl rfl rfl rfl (by decide) ?_
    iterate 4 (refine WP.st tysOk true rfl True.intro rfl rfl rfl rfl True.intro ?_)
    refine WP.cond_n rfl rfl (fun hh2 => ?_) (fun hh2 => ?_)
    · rw [if_neg (bneg hh2)] at h
      refine WP.bld (cs := [.int .i64 (1), .int .i64 (0), .int .i64 (1), .int .i64 (0), .int .i64 (0), .int .i64 (0), .int .i64 (0), .int .i64 (0)]) tysOk rfl True.intro rfl rfl rfl rfl rfl rfl rfl ?_
      refine WP.sto' tysOk [.int .i64 (1), .int .i64 (0), .int .i64 (1), .int .i64 (0), .int .i64 (0), .int .i64 (0), .int .i64 (0), .int .i64 (0)] rfl rfl rfl rfl rfl rfl rfl rfl rfl .head rfl rfl ?_
      iterate 2 (refine WP.st tysOk true rfl True.intro rfl rfl rfl rfl True.intro ?_)
      refine WP.yes rfl rfl (decide_eq_true hh1) ?_
      refine WP.st tysOk true rfl True.intro rfl rfl rfl rfl True.intro ?_
      refine WP.yes rfl rfl rfl ?_
      refine WP.ld1 tysOk rfl True.intro rfl rfl rfl rfl rfl rfl rfl (CellAt.blk (.tail .head) rfl) ?_
      refine WP.yes rfl rfl rfl ?_
      obtain ⟨hj1, h⟩ := ck_some h
      refine WP.ixO tysOk rfl True.intro rfl rfl rfl rfl rfl rfl rfl rfl hf2 hj1 ?_
      intro b1 hA1
      refine WP.yes rfl rfl rfl ?_
      refine WP.st tysOk true rfl True.intro rfl rfl rfl rfl True.intro ?_
      refine WP.yes rfl rfl rfl ?_
      refine WP.ld1 tysOk rfl True.intro rfl rfl rfl rfl rfl rfl rfl (OwS.at0 (.tail (.tail (.tail .head))) hA1 hj1 rfl) ?_
      refine WP.yes rfl rfl rfl ?_
      iterate 2 (refine WP.st tysOk true rfl True.intro rfl rfl rfl rfl True.intro ?_)
      refine WP.cond_d rfl rfl (fun hh3 => ?_) (fun hh3 => ?_)
      · rw [if_pos hh3] at h
        refine WP.st tysOk true rfl True.intro rfl rfl rfl rfl True.intro ?_
        refine WP.sto' tysOk [.int .i64 (1), .int .i64 (1), .int .i64 (1), .int .i64 (0), .int .i64 (0), .int .i64 (0), .int .i64 (0), .int .i64 (0)] rfl rfl rfl rfl rfl rfl rfl rfl rfl .head rfl rfl ?_
        refine WP.st tysOk true rfl True.intro rfl rfl rfl rfl True.intro ?_
        refine WP.sto' tysOk [.int .i64 (1), .int .i64 (1), .int .i64 (0), .int .i64 (0), .int .i64 (0), .int .i64 (0), .int .i64 (0), .int .i64 (0)] rfl rfl rfl rfl rfl rfl rfl rfl rfl .head rfl rfl ?_
        refine WP.ldm tysOk rfl True.intro rfl rfl rfl rfl rfl rfl rfl (SegAt.blk' (.tail .head) rfl) ?_
        refine WP.ldm tysOk rfl True.intro rfl rfl rfl rfl rfl rfl rfl (SegAt.blk' .head rfl) ?_
        iterate 2 (refine WP.st tysOk true rfl True.intro rfl rfl rfl rfl True.intro ?_)
        obtain ⟨r5, hg5, h⟩ := bind_some h
        refine WP.callV rfl rfl rfl rfl rfl rfl rfl (by kernel_rfl) (fun w1 hw1 => (law18_both_w hg5 (InsZ.mk_ (hw1.ow (.tail (.tail .head)) hf1) (hw1.ow (.tail (.tail (.tail .head))) hf2)) :)) True.intro ?_
        iterate 2 (refine WP.st tysOk true rfl True.intro rfl rfl rfl rfl True.intro ?_)
        refine WP.ld1 tysOk rfl True.intro rfl rfl rfl rfl rfl rfl rfl (CellAt.blk (.tail .head) rfl) ?_
        refine WP.st tysOk true rfl True.intro rfl rfl rfl rfl True.intro ?_
        refine WP.ld1 tysOk rfl True.intro rfl rfl rfl rfl rfl rfl rfl (CellAt.blk .head rfl) ?_
        obtain ⟨hj2, h⟩ := ck_some h
        refine WP.ixO tysOk rfl True.intro rfl rfl rfl rfl rfl rfl rfl rfl hf2 hj2 ?_
        intro b2 hA2
        refine WP.ldm tysOk rfl True.intro rfl rfl rfl rfl rfl rfl rfl (OwS.seg (.tail (.tail (.tail .head))) hA2 hj2) ?_
        refine WP.st tysOk true rfl True.intro rfl rfl rfl rfl True.intro ?_
        obtain ⟨r6, hg6, h⟩ := bind_some h
        refine WP.callV rfl rfl rfl rfl rfl rfl rfl (by kernel_rfl) (fun w1 hw1 => (law18_in_w hg6  :)) True.intro ?_
        refine WP.st tysOk true rfl True.intro rfl rfl rfl rfl True.intro ?_
        by_cases hh4 : r6 = true
        · rw [if_pos hh4] at h
          refine WP.yes rfl rfl hh4 ?_
          refine WP.st tysOk true rfl True.intro rfl rfl rfl rfl True.intro ?_
          refine WP.yes rfl rfl rfl ?_
          refine WP.ld1 tysOk rfl True.intro rfl rfl rfl rfl rfl rfl rfl (CellAt.blk (.tail .head) rfl) ?_
          refine WP.yes rfl rfl rfl ?_
          refine WP.st tysOk true rfl True.intro rfl rfl rfl rfl True.intro ?_
          refine WP.yes rfl rfl rfl ?_
          refine WP.ld1 tysOk rfl True.intro rfl rfl rfl rfl rfl rfl rfl (CellAt.blk .head rfl) ?_
          refine WP.yes rfl rfl rfl ?_
          refine WP.ixO tysOk rfl True.intro rfl rfl rfl rfl rfl rfl rfl rfl hf2 hj1 ?_
          intro b3 hA3
          refine WP.yes rfl rfl rfl ?_
          refine WP.ldm tysOk rfl True.intro rfl rfl rfl rfl rfl rfl rfl (OwS.seg (.tail (.tail (.tail .head))) hA3 hj1) ?_
          refine WP.yes rfl rfl rfl ?_
          refine WP.st tysOk true rfl True.intro rfl rfl rfl rfl True.intro ?_
          refine WP.yes rfl rfl rfl ?_
          obtain ⟨r7, hg7, h⟩ := bind_some h
          refine WP.callV rfl rfl rfl rfl rfl rfl rfl (by kernel_rfl) (fun w1 hw1 => (law18_in_w hg7  :)) True.intro ?_
          iterate 2 (refine WP.st tysOk true rfl True.intro rfl rfl rfl rfl True.intro ?_)
          obtain ⟨r8, hg8, h⟩ := bind_some h
          refine WP.callV rfl rfl rfl rfl rfl rfl rfl (by kernel_rfl) (fun w1 hw1 => (law18_known_w hg8  :)) True.intro ?_
          refine WP.st tysOk true rfl True.intro rfl rfl rfl rfl True.intro ?_
          by_cases hh5 : r8 = true
          · rw [if_pos hh5] at h
            refine WP.yes rfl rfl hh5 ?_
            refine WP.st tysOk true rfl True.intro rfl rfl rfl rfl True.intro ?_
            refine WP.yes rfl rfl rfl ?_
            refine WP.st tysOk true rfl True.intro rfl rfl rfl rfl True.intro ?_
            refine WP.no rfl rfl (bfalse (bneg hh2)) rfl rfl ?_
            iterate 5 (refine WP.no rfl rfl rfl rfl rfl ?_)
            iterate 5 (refine WP.yes rfl rfl rfl ?_; refine WP.st tysOk true rfl True.intro rfl rfl rfl rfl True.intro ?_)
            refine WP.yes rfl rfl (by simp [(bneg hh2)]) ?_
            iterate 3 (refine WP.st tysOk true rfl True.intro rfl rfl rfl rfl True.intro ?_; refine WP.yes rfl rfl rfl ?_)
            iterate 3 (refine WP.st tysOk true rfl True.intro rfl rfl rfl rfl True.intro ?_)
            cases h
            refine WP.retR tysOk rfl rfl ⟨_, _, rfl, rfl, rfl⟩ (fun w1 hw1 => ⟨rfl, Ret.below_ hw1 (.cons (.tail (.tail (.tail (.tail (.tail (.tail .head)))))) .nil)⟩)
          · rw [if_neg hh5] at h
            refine WP.no rfl rfl (bfalse hh5) rfl rfl ?_
            refine WP.no rfl rfl rfl rfl rfl ?_
            iterate 6 (refine WP.noU rfl rfl rfl rfl ?_)
            iterate 2 (refine WP.no rfl rfl rfl rfl rfl ?_)
            iterate 6 (refine WP.noU rfl rfl rfl rfl ?_)
            refine WP.no rfl rfl rfl rfl rfl ?_
            iterate 2 (refine WP.st tysOk true rfl True.intro rfl rfl rfl rfl True.intro ?_)
            cases h
            refine WP.retR tysOk rfl rfl ⟨_, _, rfl, rfl, rfl⟩ (fun w1 hw1 => ⟨rfl, Ret.below_ hw1 (.cons (.tail (.tail (.tail (.tail (.tail (.tail .head)))))) .nil)⟩)
        · rw [if_neg hh4] at h
          refine WP.no rfl rfl (bfalse hh4) rfl rfl ?_
          iterate 7 (refine WP.no rfl rfl rfl rfl rfl ?_)
          iterate 2 (refine WP.st tysOk true rfl True.intro rfl rfl rfl rfl True.intro ?_)
          obtain ⟨r9, hg9, h⟩ := bind_some h
          refine WP.callV rfl rfl rfl rfl rfl rfl rfl (by kernel_rfl) (fun w1 hw1 => (law18_known_w hg9  :)) True.intro ?_
          refine WP.st tysOk true rfl True.intro rfl rfl rfl rfl True.intro ?_
          by_cases hh6 : r9 = true
          · rw [if_pos hh6] at h
            refine WP.yes rfl rfl hh6 ?_
            refine WP.st tysOk true rfl True.intro rfl rfl rfl rfl True.intro ?_
            refine WP.yes rfl rfl rfl ?_
            refine WP.st tysOk true rfl True.intro rfl rfl rfl rfl True.intro ?_
            refine WP.no rfl rfl (bfalse (bneg hh2)) rfl rfl ?_
            iterate 5 (refine WP.no rfl rfl rfl rfl rfl ?_)
            iterate 5 (refine WP.yes rfl rfl rfl ?_; refine WP.st tysOk true rfl True.intro rfl rfl rfl rfl True.intro ?_)
            refine WP.yes rfl rfl (by simp [(bneg hh2)]) ?_
            iterate 3 (refine WP.st tysOk true rfl True.intro rfl rfl rfl rfl True.intro ?_; refine WP.yes rfl rfl rfl ?_)
            iterate 3 (refine WP.st tysOk true rfl True.intro rfl rfl rfl rfl True.intro ?_)
            cases h
            refine WP.retR tysOk rfl rfl ⟨_, _, rfl, rfl, rfl⟩ (fun w1 hw1 => ⟨rfl, Ret.below_ hw1 (.cons (.tail (.tail (.tail (.tail (.tail (.tail .head)))))) .nil)⟩)
          · rw [if_neg hh6] at h
            refine WP.no rfl rfl (bfalse hh6) rfl rfl ?_
            refine WP.no rfl rfl rfl rfl rfl ?_
            iterate 6 (refine WP.noU rfl rfl rfl rfl ?_)
            iterate 2 (refine WP.no rfl rfl rfl rfl rfl ?_)
            iterate 6 (refine WP.noU rfl rfl rfl rfl ?_)
            refine WP.no rfl rfl rfl rfl rfl ?_
            iterate 2 (refine WP.st tysOk true rfl True.intro rfl rfl rfl rfl True.intro ?_)
            cases h
            refine WP.retR tysOk rfl rfl ⟨_, _, rfl, rfl, rfl⟩ (fun w1 hw1 => ⟨rfl, Ret.below_ hw1 (.cons (.tail (.tail (.tail (.tail (.tail (.tail .head)))))) .nil)⟩)
      · rw [if_neg hh3] at h
        refine WP.ldm tysOk rfl True.intro rfl rfl rfl rfl rfl rfl rfl (SegAt.blk' (.tail .head) rfl) ?_
        refine WP.ldm tysOk rfl True.intro rfl rfl rfl rfl rfl rfl rfl (SegAt.blk' .head rfl) ?_
        iterate 2 (refine WP.st tysOk true rfl True.intro rfl rfl rfl rfl True.intro ?_)
        obtain ⟨r10, hg10, h⟩ := bind_some h
        refine WP.callV rfl rfl rfl rfl rfl rfl rfl (by kernel_rfl) (fun w1 hw1 => (law18_both_w hg10 (InsZ.mk_ (hw1.ow (.tail (.tail .head)) hf1) (hw1.ow (.tail (.tail (.tail .head))) hf2)) :)) True.intro ?_
        iterate 2 (refine WP.st tysOk true rfl True.intro rfl rfl rfl rfl True.intro ?_)
        refine WP.ld1 tysOk rfl True.intro rfl rfl rfl rfl rfl rfl rfl (CellAt.blk (.tail .head) rfl) ?_
        refine WP.st tysOk true rfl True.intro rfl rfl rfl rfl True.intro ?_
        refine WP.ld1 tysOk rfl True.intro rfl rfl rfl rfl rfl rfl rfl (CellAt.blk .head rfl) ?_
        refine WP.ixO tysOk rfl True.intro rfl rfl rfl rfl rfl rfl rfl rfl hf2 hj1 ?_
        intro b4 hA4
        refine WP.ldm tysOk rfl True.intro rfl rfl rfl rfl rfl rfl rfl (OwS.seg (.tail (.tail (.tail .head))) hA4 hj1) ?_
        refine WP.st tysOk true rfl True.intro rfl rfl rfl rfl True.intro ?_
        obtain ⟨r11, hg11, h⟩ := bind_some h
        refine WP.callV rfl rfl rfl rfl rfl rfl rfl (by kernel_rfl) (fun w1 hw1 => (law18_in_w hg11  :)) True.intro ?_
        refine WP.st tysOk true rfl True.intro rfl rfl rfl rfl True.intro ?_
        by_cases hh7 : r11 = true
        · rw [if_pos hh7] at h
          refine WP.yes rfl rfl hh7 ?_
          refine WP.st tysOk true rfl True.intro rfl rfl rfl rfl True.intro ?_
          refine WP.yes rfl rfl rfl ?_
          refine WP.ld1 tysOk rfl True.intro rfl rfl rfl rfl rfl rfl rfl (CellAt.blk (.tail .head) rfl) ?_
          refine WP.yes rfl rfl rfl ?_
          refine WP.st tysOk true rfl True.intro rfl rfl rfl rfl True.intro ?_
          refine WP.yes rfl rfl rfl ?_
          refine WP.ld1 tysOk rfl True.intro rfl rfl rfl rfl rfl rfl rfl (CellAt.blk .head rfl) ?_
          refine WP.yes rfl rfl rfl ?_
          obtain ⟨hj3, h⟩ := ck_some h
          refine WP.ixO tysOk rfl True.intro rfl rfl rfl rfl rfl rfl rfl rfl hf2 hj3 ?_
          intro b5 hA5
          refine WP.yes rfl rfl rfl ?_
          refine WP.ldm tysOk rfl True.intro rfl rfl rfl rfl rfl rfl rfl (OwS.seg (.tail (.tail (.tail .head))) hA5 hj3) ?_
          refine WP.yes rfl rfl rfl ?_
          refine WP.st tysOk true rfl True.intro rfl rfl rfl rfl True.intro ?_
          refine WP.yes rfl rfl rfl ?_
          obtain ⟨r12, hg12, h⟩ := bind_some h
          refine WP.callV rfl rfl rfl rfl rfl rfl rfl (by kernel_rfl) (fun w1 hw1 => (law18_in_w hg12  :)) True.intro ?_
          iterate 2 (refine WP.st tysOk true rfl True.intro rfl rfl rfl rfl True.intro ?_)
          obtain ⟨r13, hg13, h⟩ := bind_some h
          refine WP.callV rfl rfl rfl rfl rfl rfl rfl (by kernel_rfl) (fun w1 hw1 => (law18_known_w hg13  :)) True.intro ?_
          refine WP.st tysOk true rfl True.intro rfl rfl rfl rfl True.intro ?_
          by_cases hh8 : r13 = true
          · rw [if_pos hh8] at h
            refine WP.yes rfl rfl hh8 ?_
            refine WP.st tysOk true rfl True.intro rfl rfl rfl rfl True.intro ?_
            refine WP.yes rfl rfl rfl ?_
            refine WP.st tysOk true rfl True.intro rfl rfl rfl rfl True.intro ?_
            refine WP.no rfl rfl (bfalse (bneg hh2)) rfl rfl ?_
            iterate 5 (refine WP.no rfl rfl rfl rfl rfl ?_)
            iterate 5 (refine WP.yes rfl rfl rfl ?_; refine WP.st tysOk true rfl True.intro rfl rfl rfl rfl True.intro ?_)
            refine WP.yes rfl rfl (by simp [(bneg hh2)]) ?_
            iterate 3 (refine WP.st tysOk true rfl True.intro rfl rfl rfl rfl True.intro ?_; refine WP.yes rfl rfl rfl ?_)
            iterate 3 (refine WP.st tysOk true rfl True.intro rfl rfl rfl rfl True.intro ?_)
            cases h
            refine WP.retR tysOk rfl rfl ⟨_, _, rfl, rfl, rfl⟩ (fun w1 hw1 => ⟨rfl, Ret.below_ hw1 (.cons (.tail (.tail (.tail (.tail (.tail (.tail .head)))))) .nil)⟩)
          · rw [if_neg hh8] at h
            refine WP.no rfl rfl (bfalse hh8) rfl rfl ?_
            refine WP.no rfl rfl rfl rfl rfl ?_
            iterate 6 (refine WP.noU rfl rfl rfl rfl ?_)
            iterate 2 (refine WP.no rfl rfl rfl rfl rfl ?_)
            iterate 6 (refine WP.noU rfl rfl rfl rfl ?_)
            refine WP.no rfl rfl rfl rfl rfl ?_
            iterate 2 (refine WP.st tysOk true rfl True.intro rfl rfl rfl rfl True.intro ?_)
            cases h
            refine WP.retR tysOk rfl rfl ⟨_, _, rfl, rfl, rfl⟩ (fun w1 hw1 => ⟨rfl, Ret.below_ hw1 (.cons (.tail (.tail (.tail (.tail (.tail (.tail .head)))))) .nil)⟩)
        · rw [if_neg hh7] at h
          refine WP.no rfl rfl (bfalse hh7) rfl rfl ?_
          iterate 7 (refine WP.no rfl rfl rfl rfl rfl ?_)
          iterate 2 (refine WP.st tysOk true rfl True.intro rfl rfl rfl rfl True.intro ?_)
          obtain ⟨r14, hg14, h⟩ := bind_some h
          refine WP.callV rfl rfl rfl rfl rfl rfl rfl (by kernel_rfl) (fun w1 hw1 => (law18_known_w hg14  :)) True.intro ?_
          refine WP.st tysOk true rfl True.intro rfl rfl rfl rfl True.intro ?_
          by_cases hh9 : r14 = true
          · rw [if_pos hh9] at h
            refine WP.yes rfl rfl hh9 ?_
            refine WP.st tysOk true rfl True.intro rfl rfl rfl rfl True.intro ?_
            refine WP.yes rfl rfl rfl ?_
            refine WP.st tysOk true rfl True.intro rfl rfl rfl rfl True.intro ?_
            refine WP.no rfl rfl (bfalse (bneg hh2)) rfl rfl ?_
            iterate 5 (refine WP.no rfl rfl rfl rfl rfl ?_)
            iterate 5 (refine WP.yes rfl rfl rfl ?_; refine WP.st tysOk true rfl True.intro rfl rfl rfl rfl True.intro ?_)
            refine WP.yes rfl rfl (by simp [(bneg hh2)]) ?_
            iterate 3 (refine WP.st tysOk true rfl True.intro rfl rfl rfl rfl True.intro ?_; refine WP.yes rfl rfl rfl ?_)
            iterate 3 (refine WP.st tysOk true rfl True.intro rfl rfl rfl rfl True.intro ?_)
            cases h
            refine WP.retR tysOk rfl rfl ⟨_, _, rfl, rfl, rfl⟩ (fun w1 hw1 => ⟨rfl, Ret.below_ hw1 (.cons (.tail (.tail (.tail (.tail (.tail (.tail .head)))))) .nil)⟩)
          · rw [if_neg hh9] at h
            refine WP.no rfl rfl (bfalse hh9) rfl rfl ?_
            refine WP.no rfl rfl rfl rfl rfl ?_
            iterate 6 (refine WP.noU rfl rfl rfl rfl ?_)
            iterate 2 (refine WP.no rfl rfl rfl rfl rfl ?_)
            iterate 6 (refine WP.noU rfl rfl rfl rfl ?_)
            refine WP.no rfl rfl rfl rfl rfl ?_
            iterate 2 (refine WP.st tysOk true rfl True.intro rfl rfl rfl rfl True.intro ?_)
            cases h
            refine WP.retR tysOk rfl rfl ⟨_, _, rfl, rfl, rfl⟩ (fun w1 hw1 => ⟨rfl, Ret.below_ hw1 (.cons (.tail (.tail (.tail (.tail (.tail (.tail .head)))))) .nil)⟩)
    · rw [if_pos hh2] at h
      refine WP.ldm tysOk rfl True.intro rfl rfl rfl rfl rfl rfl rfl (SegAt.blk' (.tail .head) rfl) ?_
      refine WP.ldm tysOk rfl True.intro rfl rfl rfl rfl rfl rfl rfl (SegAt.blk' .head rfl) ?_
      iterate 2 (refine WP.st tysOk true rfl True.intro rfl rfl rfl rfl True.intro ?_)
      obtain ⟨r15, hg15, h⟩ := bind_some h
      refine WP.callV rfl rfl rfl rfl rfl rfl rfl (by kernel_rfl) (fun w1 hw1 => (law18_both_w hg15 (InsZ.mk_ (hw1.ow (.tail (.tail .head)) hf1) (hw1.ow (.tail (.tail (.tail .head))) hf2)) :)) True.intro ?_
      iterate 2 (refine WP.st tysOk true rfl True.intro rfl rfl rfl rfl True.intro ?_)
      refine WP.ld1 tysOk rfl True.intro rfl rfl rfl rfl rfl rfl rfl (CellAt.blk (.tail .head) rfl) ?_
      refine WP.st tysOk true rfl True.intro rfl rfl rfl rfl True.intro ?_
      refine WP.ld1 tysOk rfl True.intro rfl rfl rfl rfl rfl rfl rfl (CellAt.blk .head rfl) ?_
      obtain ⟨hj4, h⟩ := ck_some h
      refine WP.ixO tysOk rfl True.intro rfl rfl rfl rfl rfl rfl rfl rfl hf2 hj4 ?_
      intro b6 hA6
      refine WP.ldm tysOk rfl True.intro rfl rfl rfl rfl rfl rfl rfl (OwS.seg (.tail (.tail (.tail .head))) hA6 hj4) ?_
      refine WP.st tysOk true rfl True.intro rfl rfl rfl rfl True.intro ?_
      obtain ⟨r16, hg16, h⟩ := bind_some h
      refine WP.callV rfl rfl rfl rfl rfl rfl rfl (by kernel_rfl) (fun w1 hw1 => (law18_in_w hg16  :)) True.intro ?_
      refine WP.st tysOk true rfl True.intro rfl rfl rfl rfl True.intro ?_
      by_cases hh10 : r16 = true
      · rw [if_pos hh10] at h
        refine WP.yes rfl rfl hh10 ?_
        refine WP.st tysOk true rfl True.intro rfl rfl rfl rfl True.intro ?_
        refine WP.yes rfl rfl rfl ?_
        refine WP.ld1 tysOk rfl True.intro rfl rfl rfl rfl rfl rfl rfl (CellAt.blk (.tail .head) rfl) ?_
        refine WP.yes rfl rfl rfl ?_
        refine WP.st tysOk true rfl True.intro rfl rfl rfl rfl True.intro ?_
        refine WP.yes rfl rfl rfl ?_
        refine WP.ld1 tysOk rfl True.intro rfl rfl rfl rfl rfl rfl rfl (CellAt.blk .head rfl) ?_
        refine WP.yes rfl rfl rfl ?_
        obtain ⟨hj5, h⟩ := ck_some h
        refine WP.ixO tysOk rfl True.intro rfl rfl rfl rfl rfl rfl rfl rfl hf2 hj5 ?_
        intro b7 hA7
        refine WP.yes rfl rfl rfl ?_
        refine WP.ldm tysOk rfl True.intro rfl rfl rfl rfl rfl rfl rfl (OwS.seg (.tail (.tail (.tail .head))) hA7 hj5) ?_
        refine WP.yes rfl rfl rfl ?_
        refine WP.st tysOk true rfl True.intro rfl rfl rfl rfl True.intro ?_
        refine WP.yes rfl rfl rfl ?_
        obtain ⟨r17, hg17, h⟩ := bind_some h
        refine WP.callV rfl rfl rfl rfl rfl rfl rfl (by kernel_rfl) (fun w1 hw1 => (law18_in_w hg17  :)) True.intro ?_
        iterate 2 (refine WP.st tysOk true rfl True.intro rfl rfl rfl rfl True.intro ?_)
        obtain ⟨r18, hg18, h⟩ := bind_some h
        refine WP.callV rfl rfl rfl rfl rfl rfl rfl (by kernel_rfl) (fun w1 hw1 => (law18_known_w hg18  :)) True.intro ?_
        refine WP.st tysOk true rfl True.intro rfl rfl rfl rfl True.intro ?_
        by_cases hh11 : r18 = true
        · rw [if_pos hh11] at h
          refine WP.yes rfl rfl hh11 ?_
          refine WP.st tysOk true rfl True.intro rfl rfl rfl rfl True.intro ?_
          refine WP.yes rfl rfl rfl ?_
          refine WP.st tysOk true rfl True.intro rfl rfl rfl rfl True.intro ?_
          refine WP.yes rfl rfl hh2 ?_
          iterate 2 (refine WP.st tysOk true rfl True.intro rfl rfl rfl rfl True.intro ?_; refine WP.yes rfl rfl rfl ?_)
          refine WP.ldm tysOk rfl True.intro rfl rfl rfl rfl rfl rfl rfl (SegAt.blk' .head rfl) ?_
          refine WP.yes rfl rfl rfl ?_
          refine WP.st tysOk true rfl True.intro rfl rfl rfl rfl True.intro ?_
          refine WP.yes rfl rfl rfl ?_
          obtain ⟨r19, hg19, h⟩ := bind_some h
          refine WP.callV rfl rfl rfl rfl rfl rfl rfl (by kernel_rfl) (fun w1 hw1 => (law18_in_w hg19  :)) True.intro ?_
          iterate 3 (refine WP.yes rfl rfl rfl ?_; refine WP.st tysOk true rfl True.intro rfl rfl rfl rfl True.intro ?_)
          by_cases hh12 : (r17 == r19) = true
          · rw [if_pos hh12] at h
            refine WP.no rfl rfl hh12 rfl rfl ?_
            iterate 2 (refine WP.no rfl rfl rfl rfl rfl ?_)
            iterate 2 (refine WP.noU rfl rfl rfl rfl ?_)
            refine WP.no rfl rfl rfl rfl rfl ?_
            refine WP.yes rfl rfl rfl ?_
            iterate 3 (refine WP.st tysOk true rfl True.intro rfl rfl rfl rfl True.intro ?_)
            cases h
            refine WP.retR tysOk rfl rfl ⟨_, _, rfl, rfl, rfl⟩ (fun w1 hw1 => ⟨rfl, Ret.below_ hw1 (.cons (.tail (.tail (.tail (.tail (.tail (.tail .head)))))) .nil)⟩)
          · rw [if_neg hh12] at h
            refine WP.yes rfl rfl (bfalse hh12) ?_
            iterate 2 (refine WP.st tysOk true rfl True.intro rfl rfl rfl rfl True.intro ?_; refine WP.yes rfl rfl rfl ?_)
            refine WP.st tysOk true rfl True.intro rfl rfl rfl rfl True.intro ?_
            refine WP.no rfl rfl (by simp [hh2]) rfl rfl ?_
            refine WP.no rfl rfl rfl rfl rfl ?_
            refine WP.yes rfl rfl rfl ?_
            refine WP.st tysOk true rfl True.intro rfl rfl rfl rfl True.intro ?_
            refine WP.yes rfl rfl rfl ?_
            iterate 3 (refine WP.st tysOk true rfl True.intro rfl rfl rfl rfl True.intro ?_)
            cases h
            refine WP.retR tysOk rfl rfl ⟨_, _, rfl, rfl, rfl⟩ (fun w1 hw1 => ⟨rfl, Ret.below_ hw1 (.cons (.tail (.tail (.tail (.tail (.tail (.tail .head)))))) .nil)⟩)
        · rw [if_neg hh11] at h
          refine WP.no rfl rfl (bfalse hh11) rfl rfl ?_
          refine WP.no rfl rfl rfl rfl rfl ?_
          iterate 6 (refine WP.noU rfl rfl rfl rfl ?_)
          iterate 2 (refine WP.no rfl rfl rfl rfl rfl ?_)
          iterate 6 (refine WP.noU rfl rfl rfl rfl ?_)
          refine WP.no rfl rfl rfl rfl rfl ?_
          iterate 2 (refine WP.st tysOk true rfl True.intro rfl rfl rfl rfl True.intro ?_)
          cases h
          refine WP.retR tysOk rfl rfl ⟨_, _, rfl, rfl, rfl⟩ (fun w1 hw1 => ⟨rfl, Ret.below_ hw1 (.cons (.tail (.tail (.tail (.tail (.tail (.tail .head)))))) .nil)⟩)
      · rw [if_neg hh10] at h
        refine WP.no rfl rfl (bfalse hh10) rfl rfl ?_
        iterate 7 (refine WP.no rfl rfl rfl rfl rfl ?_)
        iterate 2 (refine WP.st tysOk true rfl True.intro rfl rfl rfl rfl True.intro ?_)
        obtain ⟨r20, hg20, h⟩ := bind_some h
        refine WP.callV rfl rfl rfl rfl rfl rfl rfl (by kernel_rfl) (fun w1 hw1 => (law18_known_w hg20  :)) True.intro ?_
        refine WP.st tysOk true rfl True.intro rfl rfl rfl rfl True.intro ?_
        by_cases hh13 : r20 = true
        · rw [if_pos hh13] at h
          refine WP.yes rfl rfl hh13 ?_
          refine WP.st tysOk true rfl True.intro rfl rfl rfl rfl True.intro ?_
          refine WP.yes rfl rfl rfl ?_
          refine WP.st tysOk true rfl True.intro rfl rfl rfl rfl True.intro ?_
          refine WP.yes rfl rfl hh2 ?_
          iterate 2 (refine WP.st tysOk true rfl True.intro rfl rfl rfl rfl True.intro ?_; refine WP.yes rfl rfl rfl ?_)
          refine WP.ldm tysOk rfl True.intro rfl rfl rfl rfl rfl rfl rfl (SegAt.blk' .head rfl) ?_
          refine WP.yes rfl rfl rfl ?_
          refine WP.st tysOk true rfl True.intro rfl rfl rfl rfl True.intro ?_
          refine WP.yes rfl rfl rfl ?_
          obtain ⟨r21, hg21, h⟩ := bind_some h
          refine WP.callV rfl rfl rfl rfl rfl rfl rfl (by kernel_rfl) (fun w1 hw1 => (law18_in_w hg21  :)) True.intro ?_
          iterate 3 (refine WP.yes rfl rfl rfl ?_; refine WP.st tysOk true rfl True.intro rfl rfl rfl rfl True.intro ?_)
          by_cases hh14 : (false == r21) = true
          · rw [if_pos hh14] at h
            refine WP.no rfl rfl hh14 rfl rfl ?_
            iterate 2 (refine WP.no rfl rfl rfl rfl rfl ?_)
            iterate 2 (refine WP.noU rfl rfl rfl rfl ?_)
            refine WP.no rfl rfl rfl rfl rfl ?_
            refine WP.yes rfl rfl rfl ?_
            iterate 3 (refine WP.st tysOk true rfl True.intro rfl rfl rfl rfl True.intro ?_)
            cases h
            refine WP.retR tysOk rfl rfl ⟨_, _, rfl, rfl, rfl⟩ (fun w1 hw1 => ⟨rfl, Ret.below_ hw1 (.cons (.tail (.tail (.tail (.tail (.tail (.tail .head)))))) .nil)⟩)
          · rw [if_neg hh14] at h
            refine WP.yes rfl rfl (bfalse hh14) ?_
            iterate 2 (refine WP.st tysOk true rfl True.intro rfl rfl rfl rfl True.intro ?_; refine WP.yes rfl rfl rfl ?_)
            refine WP.st tysOk true rfl True.intro rfl rfl rfl rfl True.intro ?_
            refine WP.no rfl rfl (by simp [hh2]) rfl rfl ?_
            refine WP.no rfl rfl rfl rfl rfl ?_
            refine WP.yes rfl rfl rfl ?_
            refine WP.st tysOk true rfl True.intro rfl rfl rfl rfl True.intro ?_
            refine WP.yes rfl rfl rfl ?_
            iterate 3 (refine WP.st tysOk true rfl True.intro rfl rfl rfl rfl True.intro ?_)
            cases h
            refine WP.retR tysOk rfl rfl ⟨_, _, rfl, rfl, rfl⟩ (fun w1 hw1 => ⟨rfl, Ret.below_ hw1 (.cons (.tail (.tail (.tail (.tail (.tail (.tail .head)))))) .nil)⟩)
        · rw [if_neg hh13] at h
          refine WP.no rfl rfl (bfalse hh13) rfl rfl ?_
          refine WP.no rfl rfl rfl rfl rfl ?_
          iterate 6 (refine WP.noU rfl rfl rfl rfl ?_)
          iterate 2 (refine WP.no rfl rfl rfl rfl rfl ?_)
          iterate 6 (refine WP.noU rfl rfl rfl rfl ?_)
          refine WP.no rfl rfl rfl rfl rfl ?_
          iterate 2 (refine WP.st tysOk true rfl True.intro rfl rfl rfl rfl True.intro ?_)
          cases h
          refine WP.retR tysOk rfl rfl ⟨_, _, rfl, rfl, rfl⟩ (fun w1 hw1 => ⟨rfl, Ret.below_ hw1 (.cons (.tail (.tail (.tail (.tail (.tail (.tail .head)))))) .nil)⟩)
  · rw [if_neg hh1] at h
    refine WP.ldm tysOk rfl True.intro rfl rfl rfl rfl rfl rfl rfl (SegAt.blk' (.tail .head) rfl) ?_
    obtain ⟨r22, hg22, h⟩ := bind_some h
    refine WP.callV rfl rfl rfl rfl rfl rfl rfl (by kernel_rfl) (fun w1 hw1 => (two_Split_w hg22 (InsZ.mk_ (hw1.ow (.tail (.tail .head)) hf1) (hw1.ow (.tail (.tail (.tail .head))) hf2)) :)) True.intro ?_
    iterate 3 (refine WP.st tysOk true rfl True.intro rfl rfl rfl rfl True.intro ?_)
    refine WP.sto' tysOk [.int .i64 (r22.1.node), .int .i64 (r22.1.a), .int .i64 (r22.1.b), .int .i64 (r22.1.new.src), .int .i64 (r22.1.new.dst), .int .i64 (r22.1.new.low), .int .i64 (r22.1.new.cap), .int .i64 (r22.1.new.cost)] rfl rfl rfl rfl rfl rfl rfl rfl rfl .head rfl rfl ?_
    iterate 2 (refine WP.st tysOk true rfl True.intro rfl rfl rfl rfl True.intro ?_)
    refine WP.st tysOk true rfl True.intro rfl rfl rfl rfl (by decide) ?_
    iterate 4 (refine WP.st tysOk true rfl True.intro rfl rfl rfl rfl True.intro ?_)
    refine WP.cond_n rfl rfl (fun hh15 => ?_) (fun hh15 => ?_)
    · rw [if_neg (bneg hh15)] at h
      refine WP.bld (cs := [.int .i64 (1), .int .i64 (0), .int .i64 (1), .int .i64 (0), .int .i64 (0), .int .i64 (0), .int .i64 (0), .int .i64 (0)]) tysOk rfl True.intro rfl rfl rfl rfl rfl rfl rfl ?_
      refine WP.sto' tysOk [.int .i64 (1), .int .i64 (0), .int .i64 (1), .int .i64 (0), .int .i64 (0), .int .i64 (0), .int .i64 (0), .int .i64 (0)] rfl rfl rfl rfl rfl rfl rfl rfl rfl .head rfl rfl ?_
      iterate 2 (refine WP.st tysOk true rfl True.intro rfl rfl rfl rfl True.intro ?_)
      refine WP.no rfl rfl (decide_eq_false hh1) rfl rfl ?_
      iterate 5 (refine WP.no rfl rfl rfl rfl rfl ?_)
      refine WP.st tysOk true rfl True.intro rfl rfl rfl rfl True.intro ?_
      refine WP.condF rfl rfl ?_
      refine WP.ldm tysOk rfl True.intro rfl rfl rfl rfl rfl rfl rfl (SegAt.blk' (.tail .head) rfl) ?_
      refine WP.ldm tysOk rfl True.intro rfl rfl rfl rfl rfl rfl rfl (SegAt.blk' .head rfl) ?_
      iterate 2 (refine WP.st tysOk true rfl True.intro rfl rfl rfl rfl True.intro ?_)
      obtain ⟨r23, hg23, h⟩ := bind_some h
      refine WP.callV rfl rfl rfl rfl rfl rfl rfl (by kernel_rfl) (fun w1 hw1 => (law18_both_w hg23 (InsZ.mk_ (hw1.ow (.tail (.tail .head)) hf1) (hw1.ow (.tail (.tail (.tail .head))) hf2)) :)) True.intro ?_
      iterate 2 (refine WP.st tysOk true rfl True.intro rfl rfl rfl rfl True.intro ?_)
      refine WP.ld1 tysOk rfl True.intro rfl rfl rfl rfl rfl rfl rfl (CellAt.blk (.tail .head) rfl) ?_
      refine WP.st tysOk true rfl True.intro rfl rfl rfl rfl True.intro ?_
      refine WP.ld1 tysOk rfl True.intro rfl rfl rfl rfl rfl rfl rfl (CellAt.blk .head rfl) ?_
      obtain ⟨hj6, h⟩ := ck_some h
      refine WP.ixO tysOk rfl True.intro rfl rfl rfl rfl rfl rfl rfl rfl hf2 hj6 ?_
      intro b8 hA8
      refine WP.ldm tysOk rfl True.intro rfl rfl rfl rfl rfl rfl rfl (OwS.seg (.tail (.tail (.tail .head))) hA8 hj6) ?_
      refine WP.st tysOk true rfl True.intro rfl rfl rfl rfl True.intro ?_
      obtain ⟨r24, hg24, h⟩ := bind_some h
      refine WP.callV rfl rfl rfl rfl rfl rfl rfl (by kernel_rfl) (fun w1 hw1 => (law18_in_w hg24  :)) True.intro ?_
      refine WP.st tysOk true rfl True.intro rfl rfl rfl rfl True.intro ?_
      by_cases hh16 : r24 = true
      · rw [if_pos hh16] at h
        refine WP.yes rfl rfl hh16 ?_
        refine WP.st tysOk true rfl True.intro rfl rfl rfl rfl True.intro ?_
        refine WP.yes rfl rfl rfl ?_
        refine WP.ld1 tysOk rfl True.intro rfl rfl rfl rfl rfl rfl rfl (CellAt.blk (.tail .head) rfl) ?_
        refine WP.yes rfl rfl rfl ?_
        refine WP.st tysOk true rfl True.intro rfl rfl rfl rfl True.intro ?_
        refine WP.yes rfl rfl rfl ?_
        refine WP.ld1 tysOk rfl True.intro rfl rfl rfl rfl rfl rfl rfl (CellAt.blk .head rfl) ?_
        refine WP.yes rfl rfl rfl ?_
        obtain ⟨hj7, h⟩ := ck_some h
        refine WP.ixO tysOk rfl True.intro rfl rfl rfl rfl rfl rfl rfl rfl hf2 hj7 ?_
        intro b9 hA9
        refine WP.yes rfl rfl rfl ?_
        refine WP.ldm tysOk rfl True.intro rfl rfl rfl rfl rfl rfl rfl (OwS.seg (.tail (.tail (.tail .head))) hA9 hj7) ?_
        refine WP.yes rfl rfl rfl ?_
        refine WP.st tysOk true rfl True.intro rfl rfl rfl rfl True.intro ?_
        refine WP.yes rfl rfl rfl ?_
        obtain ⟨r25, hg25, h⟩ := bind_some h
        refine WP.callV rfl rfl rfl rfl rfl rfl rfl (by kernel_rfl) (fun w1 hw1 => (law18_in_w hg25  :)) True.intro ?_
        iterate 2 (refine WP.st tysOk true rfl True.intro rfl rfl rfl rfl True.intro ?_)
        obtain ⟨r26, hg26, h⟩ := bind_some h
        refine WP.callV rfl rfl rfl rfl rfl rfl rfl (by kernel_rfl) (fun w1 hw1 => (law18_known_w hg26  :)) True.intro ?_
        refine WP.st tysOk true rfl True.intro rfl rfl rfl rfl True.intro ?_
        by_cases hh17 : r26 = true
        · rw [if_pos hh17] at h
          refine WP.yes rfl rfl hh17 ?_
          refine WP.st tysOk true rfl True.intro rfl rfl rfl rfl True.intro ?_
          refine WP.yes rfl rfl rfl ?_
          refine WP.st tysOk true rfl True.intro rfl rfl rfl rfl True.intro ?_
          refine WP.no rfl rfl (bfalse (bneg hh15)) rfl rfl ?_
          iterate 5 (refine WP.no rfl rfl rfl rfl rfl ?_)
          iterate 5 (refine WP.yes rfl rfl rfl ?_; refine WP.st tysOk true rfl True.intro rfl rfl rfl rfl True.intro ?_)
          refine WP.yes rfl rfl (by simp [(bneg hh15)]) ?_
          iterate 3 (refine WP.st tysOk true rfl True.intro rfl rfl rfl rfl True.intro ?_; refine WP.yes rfl rfl rfl ?_)
          iterate 3 (refine WP.st tysOk true rfl True.intro rfl rfl rfl rfl True.intro ?_)
          cases h
          refine WP.retR tysOk rfl rfl ⟨_, _, rfl, rfl, rfl⟩ (fun w1 hw1 => ⟨rfl, Ret.below_ hw1 (.cons (.tail (.tail (.tail (.tail (.tail (.tail .head)))))) .nil)⟩)
        · rw [if_neg hh17] at h
          refine WP.no rfl rfl (bfalse hh17) rfl rfl ?_
          refine WP.no rfl rfl rfl rfl rfl ?_
          iterate 6 (refine WP.noU rfl rfl rfl rfl ?_)
          iterate 2 (refine WP.no rfl rfl rfl rfl rfl ?_)
          iterate 6 (refine WP.noU rfl rfl rfl rfl ?_)
          refine WP.no rfl rfl rfl rfl rfl ?_
          iterate 2 (refine WP.st tysOk true rfl True.intro rfl rfl rfl rfl True.intro ?_)
          cases h
          refine WP.retR tysOk rfl rfl ⟨_, _, rfl, rfl, rfl⟩ (fun w1 hw1 => ⟨rfl, Ret.below_ hw1 (.cons (.tail (.tail (.tail (.tail (.tail (.tail .head)))))) .nil)⟩)
      · rw [if_neg hh16] at h
        refine WP.no rfl rfl (bfalse hh16) rfl rfl ?_
        iterate 7 (refine WP.no rfl rfl rfl rfl rfl ?_)
        iterate 2 (refine WP.st tysOk true rfl True.intro rfl rfl rfl rfl True.intro ?_)
        obtain ⟨r27, hg27, h⟩ := bind_some h
        refine WP.callV rfl rfl rfl rfl rfl rfl rfl (by kernel_rfl) (fun w1 hw1 => (law18_known_w hg27  :)) True.intro ?_
        refine WP.st tysOk true rfl True.intro rfl rfl rfl rfl True.intro ?_
        by_cases hh18 : r27 = true
        · rw [if_pos hh18] at h
          refine WP.yes rfl rfl hh18 ?_
          refine WP.st tysOk true rfl True.intro rfl rfl rfl rfl True.intro ?_
          refine WP.yes rfl rfl rfl ?_
          refine WP.st tysOk true rfl True.intro rfl rfl rfl rfl True.intro ?_
          refine WP.no rfl rfl (bfalse (bneg hh15)) rfl rfl ?_
          iterate 5 (refine WP.no rfl rfl rfl rfl rfl ?_)
          iterate 5 (refine WP.yes rfl rfl rfl ?_; refine WP.st tysOk true rfl True.intro rfl rfl rfl rfl True.intro ?_)
          refine WP.yes rfl rfl (by simp [(bneg hh15)]) ?_
          iterate 3 (refine WP.st tysOk true rfl True.intro rfl rfl rfl rfl True.intro ?_; refine WP.yes rfl rfl rfl ?_)
          iterate 3 (refine WP.st tysOk true rfl True.intro rfl rfl rfl rfl True.intro ?_)
          cases h
          refine WP.retR tysOk rfl rfl ⟨_, _, rfl, rfl, rfl⟩ (fun w1 hw1 => ⟨rfl, Ret.below_ hw1 (.cons (.tail (.tail (.tail (.tail (.tail (.tail .head)))))) .nil)⟩)
        · rw [if_neg hh18] at h
          refine WP.no rfl rfl (bfalse hh18) rfl rfl ?_
          refine WP.no rfl rfl rfl rfl rfl ?_
          iterate 6 (refine WP.noU rfl rfl rfl rfl ?_)
          iterate 2 (refine WP.no rfl rfl rfl rfl rfl ?_)
          iterate 6 (refine WP.noU rfl rfl rfl rfl ?_)
          refine WP.no rfl rfl rfl rfl rfl ?_
          iterate 2 (refine WP.st tysOk true rfl True.intro rfl rfl rfl rfl True.intro ?_)
          cases h
          refine WP.retR tysOk rfl rfl ⟨_, _, rfl, rfl, rfl⟩ (fun w1 hw1 => ⟨rfl, Ret.below_ hw1 (.cons (.tail (.tail (.tail (.tail (.tail (.tail .head)))))) .nil)⟩)
    · rw [if_pos hh15] at h
      refine WP.ldm tysOk rfl True.intro rfl rfl rfl rfl rfl rfl rfl (SegAt.blk' (.tail .head) rfl) ?_
      refine WP.ldm tysOk rfl True.intro rfl rfl rfl rfl rfl rfl rfl (SegAt.blk' .head rfl) ?_
      iterate 2 (refine WP.st tysOk true rfl True.intro rfl rfl rfl rfl True.intro ?_)
      obtain ⟨r28, hg28, h⟩ := bind_some h
      refine WP.callV rfl rfl rfl rfl rfl rfl rfl (by kernel_rfl) (fun w1 hw1 => (law18_both_w hg28 (InsZ.mk_ (hw1.ow (.tail (.tail .head)) hf1) (hw1.ow (.tail (.tail (.tail .head))) hf2)) :)) True.intro ?_
      iterate 2 (refine WP.st tysOk true rfl True.intro rfl rfl rfl rfl True.intro ?_)
      refine WP.ld1 tysOk rfl True.intro rfl rfl rfl rfl rfl rfl rfl (CellAt.blk (.tail .head) rfl) ?_
      refine WP.st tysOk true rfl True.intro rfl rfl rfl rfl True.intro ?_
      refine WP.ld1 tysOk rfl True.intro rfl rfl rfl rfl rfl rfl rfl (CellAt.blk .head rfl) ?_
      obtain ⟨hj8, h⟩ := ck_some h
      refine WP.ixO tysOk rfl True.intro rfl rfl rfl rfl rfl rfl rfl rfl hf2 hj8 ?_
      intro b10 hA10
      refine WP.ldm tysOk rfl True.intro rfl rfl rfl rfl rfl rfl rfl (OwS.seg (.tail (.tail (.tail .head))) hA10 hj8) ?_
      refine WP.st tysOk true rfl True.intro rfl rfl rfl rfl True.intro ?_
      obtain ⟨r29, hg29, h⟩ := bind_some h
      refine WP.callV rfl rfl rfl rfl rfl rfl rfl (by kernel_rfl) (fun w1 hw1 => (law18_in_w hg29  :)) True.intro ?_
      refine WP.st tysOk true rfl True.intro rfl rfl rfl rfl True.intro ?_
      by_cases hh19 : r29 = true
      · rw [if_pos hh19] at h
        refine WP.yes rfl rfl hh19 ?_
        refine WP.st tysOk true rfl True.intro rfl rfl rfl rfl True.intro ?_
        refine WP.yes rfl rfl rfl ?_
        refine WP.ld1 tysOk rfl True.intro rfl rfl rfl rfl rfl rfl rfl (CellAt.blk (.tail .head) rfl) ?_
        refine WP.yes rfl rfl rfl ?_
        refine WP.st tysOk true rfl True.intro rfl rfl rfl rfl True.intro ?_
        refine WP.yes rfl rfl rfl ?_
        refine WP.ld1 tysOk rfl True.intro rfl rfl rfl rfl rfl rfl rfl (CellAt.blk .head rfl) ?_
        refine WP.yes rfl rfl rfl ?_
        obtain ⟨hj9, h⟩ := ck_some h
        refine WP.ixO tysOk rfl True.intro rfl rfl rfl rfl rfl rfl rfl rfl hf2 hj9 ?_
        intro b11 hA11
        refine WP.yes rfl rfl rfl ?_
        refine WP.ldm tysOk rfl True.intro rfl rfl rfl rfl rfl rfl rfl (OwS.seg (.tail (.tail (.tail .head))) hA11 hj9) ?_
        refine WP.yes rfl rfl rfl ?_
        refine WP.st tysOk true rfl True.intro rfl rfl rfl rfl True.intro ?_
        refine WP.yes rfl rfl rfl ?_
        obtain ⟨r30, hg30, h⟩ := bind_some h
        refine WP.callV rfl rfl rfl rfl rfl rfl rfl (by kernel_rfl) (fun w1 hw1 => (law18_in_w hg30  :)) True.intro ?_
        iterate 2 (refine WP.st tysOk true rfl True.intro rfl rfl rfl rfl True.intro ?_)
        obtain ⟨r31, hg31, h⟩ := bind_some h
        refine WP.callV rfl rfl rfl rfl rfl rfl rfl (by kernel_rfl) (fun w1 hw1 => (law18_known_w hg31  :)) True.intro ?_
        refine WP.st tysOk true rfl True.intro rfl rfl rfl rfl True.intro ?_
        by_cases hh20 : r31 = true
        · rw [if_pos hh20] at h
          refine WP.yes rfl rfl hh20 ?_
          refine WP.st tysOk true rfl True.intro rfl rfl rfl rfl True.intro ?_
          refine WP.yes rfl rfl rfl ?_
          refine WP.st tysOk true rfl True.intro rfl rfl rfl rfl True.intro ?_
          refine WP.yes rfl rfl hh15 ?_
          iterate 2 (refine WP.st tysOk true rfl True.intro rfl rfl rfl rfl True.intro ?_; refine WP.yes rfl rfl rfl ?_)
          refine WP.ldm tysOk rfl True.intro rfl rfl rfl rfl rfl rfl rfl (SegAt.blk' .head rfl) ?_
          refine WP.yes rfl rfl rfl ?_
          refine WP.st tysOk true rfl True.intro rfl rfl rfl rfl True.intro ?_
          refine WP.yes rfl rfl rfl ?_
          obtain ⟨r32, hg32, h⟩ := bind_some h
          refine WP.callV rfl rfl rfl rfl rfl rfl rfl (by kernel_rfl) (fun w1 hw1 => (law18_in_w hg32  :)) True.intro ?_
          iterate 3 (refine WP.yes rfl rfl rfl ?_; refine WP.st tysOk true rfl True.intro rfl rfl rfl rfl True.intro ?_)
          by_cases hh21 : (r30 == r32) = true
          · rw [if_pos hh21] at h
            refine WP.no rfl rfl hh21 rfl rfl ?_
            iterate 2 (refine WP.no rfl rfl rfl rfl rfl ?_)
            iterate 2 (refine WP.noU rfl rfl rfl rfl ?_)
            refine WP.no rfl rfl rfl rfl rfl ?_
            refine WP.yes rfl rfl rfl ?_
            iterate 3 (refine WP.st tysOk true rfl True.intro rfl rfl rfl rfl True.intro ?_)
            cases h
            refine WP.retR tysOk rfl rfl ⟨_, _, rfl, rfl, rfl⟩ (fun w1 hw1 => ⟨rfl, Ret.below_ hw1 (.cons (.tail (.tail (.tail (.tail (.tail (.tail .head)))))) .nil)⟩)
          · rw [if_neg hh21] at h
            refine WP.yes rfl rfl (bfalse hh21) ?_
            iterate 2 (refine WP.st tysOk true rfl True.intro rfl rfl rfl rfl True.intro ?_; refine WP.yes rfl rfl rfl ?_)
            refine WP.st tysOk true rfl True.intro rfl rfl rfl rfl True.intro ?_
            refine WP.no rfl rfl (by simp [hh15]) rfl rfl ?_
            refine WP.no rfl rfl rfl rfl rfl ?_
            refine WP.yes rfl rfl rfl ?_
            refine WP.st tysOk true rfl True.intro rfl rfl rfl rfl True.intro ?_
            refine WP.yes rfl rfl rfl ?_
            iterate 3 (refine WP.st tysOk true rfl True.intro rfl rfl rfl rfl True.intro ?_)
            cases h
            refine WP.retR tysOk rfl rfl ⟨_, _, rfl, rfl, rfl⟩ (fun w1 hw1 => ⟨rfl, Ret.below_ hw1 (.cons (.tail (.tail (.tail (.tail (.tail (.tail .head)))))) .nil)⟩)
        · rw [if_neg hh20] at h
          refine WP.no rfl rfl (bfalse hh20) rfl rfl ?_
          refine WP.no rfl rfl rfl rfl rfl ?_
          iterate 6 (refine WP.noU rfl rfl rfl rfl ?_)
          iterate 2 (refine WP.no rfl rfl rfl rfl rfl ?_)
          iterate 6 (refine WP.noU rfl rfl rfl rfl ?_)
          refine WP.no rfl rfl rfl rfl rfl ?_
          iterate 2 (refine WP.st tysOk true rfl True.intro rfl rfl rfl rfl True.intro ?_)
          cases h
          refine WP.retR tysOk rfl rfl ⟨_, _, rfl, rfl, rfl⟩ (fun w1 hw1 => ⟨rfl, Ret.below_ hw1 (.cons (.tail (.tail (.tail (.tail (.tail (.tail .head)))))) .nil)⟩)
      · rw [if_neg hh19] at h
        refine WP.no rfl rfl (bfalse hh19) rfl rfl ?_
        iterate 7 (refine WP.no rfl rfl rfl rfl rfl ?_)
        iterate 2 (refine WP.st tysOk true rfl True.intro rfl rfl rfl rfl True.intro ?_)
        obtain ⟨r33, hg33, h⟩ := bind_some h
        refine WP.callV rfl rfl rfl rfl rfl rfl rfl (by kernel_rfl) (fun w1 hw1 => (law18_known_w hg33  :)) True.intro ?_
        refine WP.st tysOk true rfl True.intro rfl rfl rfl rfl True.intro ?_
        by_cases hh22 : r33 = true
        · rw [if_pos hh22] at h
          refine WP.yes rfl rfl hh22 ?_
          refine WP.st tysOk true rfl True.intro rfl rfl rfl rfl True.intro ?_
          refine WP.yes rfl rfl rfl ?_
          refine WP.st tysOk true rfl True.intro rfl rfl rfl rfl True.intro ?_
          refine WP.yes rfl rfl hh15 ?_
          iterate 2 (refine WP.st tysOk true rfl True.intro rfl rfl rfl rfl True.intro ?_; refine WP.yes rfl rfl rfl ?_)
          refine WP.ldm tysOk rfl True.intro rfl rfl rfl rfl rfl rfl rfl (SegAt.blk' .head rfl) ?_
          refine WP.yes rfl rfl rfl ?_
          refine WP.st tysOk true rfl True.intro rfl rfl rfl rfl True.intro ?_
          refine WP.yes rfl rfl rfl ?_
          obtain ⟨r34, hg34, h⟩ := bind_some h
          refine WP.callV rfl rfl rfl rfl rfl rfl rfl (by kernel_rfl) (fun w1 hw1 => (law18_in_w hg34  :)) True.intro ?_
          iterate 3 (refine WP.yes rfl rfl rfl ?_; refine WP.st tysOk true rfl True.intro rfl rfl rfl rfl True.intro ?_)
          by_cases hh23 : (false == r34) = true
          · rw [if_pos hh23] at h
            refine WP.no rfl rfl hh23 rfl rfl ?_
            iterate 2 (refine WP.no rfl rfl rfl rfl rfl ?_)
            iterate 2 (refine WP.noU rfl rfl rfl rfl ?_)
            refine WP.no rfl rfl rfl rfl rfl ?_
            refine WP.yes rfl rfl rfl ?_
            iterate 3 (refine WP.st tysOk true rfl True.intro rfl rfl rfl rfl True.intro ?_)
            cases h
            refine WP.retR tysOk rfl rfl ⟨_, _, rfl, rfl, rfl⟩ (fun w1 hw1 => ⟨rfl, Ret.below_ hw1 (.cons (.tail (.tail (.tail (.tail (.tail (.tail .head)))))) .nil)⟩)
          · rw [if_neg hh23] at h
            refine WP.yes rfl rfl (bfalse hh23) ?_
            iterate 2 (refine WP.st tysOk true rfl True.intro rfl rfl rfl rfl True.intro ?_; refine WP.yes rfl rfl rfl ?_)
            refine WP.st tysOk true rfl True.intro rfl rfl rfl rfl True.intro ?_
            refine WP.no rfl rfl (by simp [hh15]) rfl rfl ?_
            refine WP.no rfl rfl rfl rfl rfl ?_
            refine WP.yes rfl rfl rfl ?_
            refine WP.st tysOk true rfl True.intro rfl rfl rfl rfl True.intro ?_
            refine WP.yes rfl rfl rfl ?_
            iterate 3 (refine WP.st tysOk true rfl True.intro rfl rfl rfl rfl True.intro ?_)
            cases h
            refine WP.retR tysOk rfl rfl ⟨_, _, rfl, rfl, rfl⟩ (fun w1 hw1 => ⟨rfl, Ret.below_ hw1 (.cons (.tail (.tail (.tail (.tail (.tail (.tail .head)))))) .nil)⟩)
        · rw [if_neg hh22] at h
          refine WP.no rfl rfl (bfalse hh22) rfl rfl ?_
          refine WP.no rfl rfl rfl rfl rfl ?_
          iterate 6 (refine WP.noU rfl rfl rfl rfl ?_)
          iterate 2 (refine WP.no rfl rfl rfl rfl rfl ?_)
          iterate 6 (refine WP.noU rfl rfl rfl rfl ?_)
          refine WP.no rfl rfl rfl rfl rfl ?_
          iterate 2 (refine WP.st tysOk true rfl True.intro rfl rfl rfl rfl True.intro ?_)
          cases h
          refine WP.retR tysOk rfl rfl ⟨_, _, rfl, rfl, rfl⟩ (fun w1 hw1 => ⟨rfl, Ret.below_ hw1 (.cons (.tail (.tail (.tail (.tail (.tail (.tail .head)))))) .nil)⟩)

set_option maxRecDepth 20000 in
set_option maxHeartbeats 8000000 in
theorem law18_TwoChain_w {w : World} {v0 : Value} {v1 : Value} {d1 : Int} {i1 : List Int} {x1 : List Int} {r : Bool} (h : law18_TwoChain d1 i1 x1 = some r) (p1 : SlF (fI .u8) (PH.of w) v0 i1) (p2 : SlF (fI .u8) (PH.of w) v1 x1) :
    Calls Try.prog 4 #[.int .u8 (d1), v0, v1] w fun e w' => e = .returned (.bool (r)) ∧ Below w.heap.size w w' := by
  obtain ⟨A1, c1, rfl, hs1⟩ := p1
  obtain ⟨A2, c2, rfl, hs2⟩ := p2
  unfold law18_TwoChain at h
  refine enter_ Try.func4 rfl Try.ntmps4 rfl ?_
  iterate 2 (refine WP.st tysOk true rfl True.intro rfl rfl rfl rfl True.intro ?_)
  refine WP.st tysOk true rfl True.intro rfl rfl rfl rfl (by decide) ?_
  iterate 4 (refine WP.st tysOk true rfl True.intro rfl rfl rfl rfl True.intro ?_)
  obtain ⟨hm1, h⟩ := ck_some h
  refine WP.mkO (f := (fI .i64)) 0 tysOk rfl rfl rfl rfl rfl rfl rfl rfl rfl rfl rfl rfl hm1 ?_
  intro g1 hf1
  refine WP.bld (cs := [.slice (some ⟨g1, 0, none⟩) ((w64 (2 + (w64 (d1.tmod 8)))).toNat) ((w64 (2 + (w64 (d1.tmod 8)))).toNat), .slice none 0 0]) tysOk rfl True.intro rfl rfl rfl rfl rfl rfl rfl ?_
  refine WP.al tysOk rfl rfl rfl rfl rfl rfl ?_
  intro g2
  refine WP.sto' tysOk [.slice (some ⟨g1, 0, none⟩) ((w64 (2 + (w64 (d1.tmod 8)))).toNat) ((w64 (2 + (w64 (d1.tmod 8)))).toNat), .slice none 0 0] rfl rfl rfl rfl rfl rfl rfl rfl rfl .head rfl rfl ?_
  iterate 3 (refine WP.st tysOk true rfl True.intro rfl rfl rfl rfl True.intro ?_)
  refine WP.own_nil 23 fA.z ?_
  refine WP.loop (α := Nat × Int × Int × Int × (List Arc) × (Option Addr) × Nat × Nat) (fun x => lp (law18_TwoChain_b1 d1 i1 x1) x.1 (x.2.1, x.2.2.1, x.2.2.2.1, x.2.2.2.2.1) = some r ∧ OwF x.2.2.2.2.2.1 x.2.2.2.2.2.2.1 x.2.2.2.2.1) (fun x => [(1, .slice A1 i1.length c1), (2, .slice A2 x1.length c2), (7, .int .i64 (w64 (2 + (w64 (d1.tmod 8))))), (8, .pointer (some ⟨g2, 0, none⟩)), (9, .int .i64 (x.2.1)), (10, .int .i64 (x.2.2.1)), (11, .int .i64 (x.2.2.2.1))]) (fun x => [Ow fA 23 x.2.2.2.2.2.1 x.2.2.2.2.2.2.1 x.2.2.2.2.2.2.2 x.2.2.2.2.1, .blk g2 27 [.slice (some ⟨g1, 0, none⟩) ((w64 (2 + (w64 (d1.tmod 8)))).toNat) ((w64 (2 + (w64 (d1.tmod 8)))).toNat), .slice x.2.2.2.2.2.1 x.2.2.2.2.2.2.1 x.2.2.2.2.2.2.2], Ow (fI .i64) 2 (some ⟨g1, 0, none⟩) ((w64 (2 + (w64 (d1.tmod 8)))).toNat) ((w64 (2 + (w64 (d1.tmod 8)))).toNat) (List.replicate (w64 (2 + (w64 (d1.tmod 8)))).toNat 0), .fz (PH.of w)]) (fun x => x.1) rfl (big, 0, 1000, 0, ([] : List Arc), none, 0, 0) ⟨h, OwF.nil_⟩ ?_ ?_ ?_
  · repeat (first | exact True.intro | refine And.intro rfl ?_)
  · exact (.cons .head (.cons .head (.cons .head (.cons .head .nil))))
  · rintro ⟨n44, s14, s15, s16, xs27, A69, m15, c69⟩ ⟨h, hf80⟩
    dsimp only at h hf80 ⊢
    rcases n44 with _ | n44
    · exact (lp_no h).elim
    replace h := lp_succ h
    unfold law18_TwoChain_b1 at h
    try dsimp only at h
    iterate 4 (refine WP.st tysOk true rfl True.intro rfl rfl rfl rfl True.intro ?_)
    refine WP.cond_d rfl rfl (fun hh63 => ?_) (fun hh63 => ?_)
    · rw [if_pos hh63] at h
      iterate 3 (refine WP.st tysOk true rfl True.intro rfl rfl rfl rfl True.intro ?_)
      refine WP.bld (cs := [.int .i64 (s16), .int .i64 (w64 (s16 + 1)), .int .i64 (0), .int .i64 (7), .int .i64 (0)]) tysOk rfl True.intro rfl rfl rfl rfl rfl rfl rfl ?_
      refine WP.al tysOk rfl rfl rfl rfl rfl rfl ?_
      intro g28
      refine WP.sto' tysOk [.int .i64 (s16), .int .i64 (w64 (s16 + 1)), .int .i64 (0), .int .i64 (7), .int .i64 (0)] rfl rfl rfl rfl rfl rfl rfl rfl rfl .head rfl rfl ?_
      iterate 4 (refine WP.st tysOk true rfl True.intro rfl rfl rfl rfl True.intro ?_)
      refine WP.cond_d rfl rfl (fun hh64 => ?_) (fun hh64 => ?_)
      · rw [if_pos hh64] at h
        iterate 2 (refine WP.st tysOk true rfl True.intro rfl rfl rfl rfl True.intro ?_)
        obtain ⟨hj19, h⟩ := ck_some h
        refine WP.ixA tysOk rfl True.intro rfl rfl rfl rfl rfl rfl rfl rfl hj19 (hs1.ex hj19) ?_
        intro b19 _ hA19
        refine WP.ld1 tysOk rfl True.intro rfl rfl rfl rfl rfl rfl rfl (hs1.at0 hA19 (Held.mem (List.Mem.tail _ (List.Mem.tail _ (List.Mem.tail _ (List.Mem.tail _ (List.Mem.head _)))))) hj19 rfl) ?_
        iterate 3 (refine WP.st tysOk true rfl True.intro rfl rfl rfl rfl True.intro ?_)
        refine WP.sto' tysOk [.int .i64 (s16), .int .i64 (w64 (s16 + 1)), .int .i64 (0), .int .i64 (7), .int .i64 (w64 ((w64 ((gt i1 s16))) - 100))] rfl rfl rfl rfl rfl rfl rfl rfl rfl .head rfl rfl ?_
        iterate 4 (refine WP.st tysOk true rfl True.intro rfl rfl rfl rfl True.intro ?_)
        refine WP.cond_d rfl rfl (fun hh65 => ?_) (fun hh65 => ?_)
        · rw [if_pos hh65] at h
          iterate 2 (refine WP.st tysOk true rfl True.intro rfl rfl rfl rfl True.intro ?_)
          obtain ⟨hj20, h⟩ := ck_some h
          refine WP.ixA tysOk rfl True.intro rfl rfl rfl rfl rfl rfl rfl rfl hj20 (hs2.ex hj20) ?_
          intro b20 _ hA20
          refine WP.ld1 tysOk rfl True.intro rfl rfl rfl rfl rfl rfl rfl (hs2.at0 hA20 (Held.mem (List.Mem.tail _ (List.Mem.tail _ (List.Mem.tail _ (List.Mem.tail _ (List.Mem.head _)))))) hj20 rfl) ?_
          iterate 2 (refine WP.st tysOk true rfl True.intro rfl rfl rfl rfl True.intro ?_)
          refine WP.sto' tysOk [.int .i64 (s16), .int .i64 (w64 (s16 + 1)), .int .i64 (0), .int .i64 (w64 ((gt x1 s16))), .int .i64 (w64 ((w64 ((gt i1 s16))) - 100))] rfl rfl rfl rfl rfl rfl rfl rfl rfl .head rfl rfl ?_
          iterate 2 (refine WP.st tysOk true rfl True.intro rfl rfl rfl rfl True.intro ?_)
          refine WP.ld1 tysOk rfl True.intro rfl rfl rfl rfl rfl rfl rfl (CellAt.blk .head rfl) ?_
          iterate 4 (refine WP.st tysOk true rfl True.intro rfl rfl rfl rfl True.intro ?_)
          refine WP.ld1 tysOk rfl True.intro rfl rfl rfl rfl rfl rfl rfl (CellAt.blk .head rfl) ?_
          refine WP.mn rfl True.intro rfl rfl rfl rfl rfl rfl ?_
          iterate 2 (refine WP.st tysOk true rfl True.intro rfl rfl rfl rfl True.intro ?_)
          refine WP.ld1 tysOk rfl True.intro rfl rfl rfl rfl rfl rfl rfl (CellAt.blk (.tail (.tail .head)) rfl) ?_
          refine WP.ldm tysOk rfl True.intro rfl rfl rfl rfl rfl rfl rfl (SegAt.blk' .head rfl) ?_
          refine WP.bsO (f := fA) [(Arc.mk s16 (w64 (s16 + 1)) 0 (w64 ((gt x1 s16))) (w64 ((w64 ((gt i1 s16))) - 100)))] tysOk rfl rfl rfl rfl rfl rfl rfl rfl rfl rfl rfl rfl rfl rfl ?_
          intro g29 hf81
          obtain ⟨hl13, h⟩ := ck_some h
          obtain ⟨xs28, hz13, h⟩ := lt_some h
          refine WP.appO (f := fA) (xs := xs27) (ys := [(Arc.mk s16 (w64 (s16 + 1)) 0 (w64 ((gt x1 s16))) (w64 ((w64 ((gt i1 s16))) - 100)))]) tysOk rfl rfl rfl rfl rfl rfl rfl rfl rfl rfl rfl rfl (.tail (.tail .head)) hf80 hf81.len (OwS.app .head hf81) hl13 hz13 ?_
          intro A70 c70 hf82
          refine WP.st tysOk true rfl True.intro rfl rfl rfl rfl True.intro ?_
          refine WP.sto' tysOk [.slice (some ⟨g1, 0, none⟩) ((w64 (2 + (w64 (d1.tmod 8)))).toNat) ((w64 (2 + (w64 (d1.tmod 8)))).toNat), .slice A70 xs28.length c70] rfl rfl rfl rfl rfl rfl rfl rfl rfl (.tail (.tail (.tail .head))) rfl rfl ?_
          iterate 3 (refine WP.st tysOk true rfl True.intro rfl rfl rfl rfl True.intro ?_)
          refine WP.stop rfl (n44, w64 (s14 + (w64 ((w64 ((gt i1 s16))) - 100))), if (w64 ((gt x1 s16))) < s15 then w64 ((gt x1 s16)) else s15, w64 (s16 + 1), xs28, A70, xs28.length, c70) ⟨⟨h, hf82⟩, Nat.lt_succ_self _⟩ ?_ ?_
          · repeat (first | exact True.intro | refine And.intro rfl ?_)
          · exact (.cons (.tail .head) (.cons .head (.cons (.tail (.tail .head)) (.cons (.tail (.tail .head)) .nil))))
        · rw [if_neg hh65] at h
          iterate 2 (refine WP.st tysOk true rfl True.intro rfl rfl rfl rfl True.intro ?_)
          refine WP.ld1 tysOk rfl True.intro rfl rfl rfl rfl rfl rfl rfl (CellAt.blk .head rfl) ?_
          iterate 4 (refine WP.st tysOk true rfl True.intro rfl rfl rfl rfl True.intro ?_)
          refine WP.ld1 tysOk rfl True.intro rfl rfl rfl rfl rfl rfl rfl (CellAt.blk .head rfl) ?_
          refine WP.mn rfl True.intro rfl rfl rfl rfl rfl rfl ?_
          iterate 2 (refine WP.st tysOk true rfl True.intro rfl rfl rfl rfl True.intro ?_)
          refine WP.ld1 tysOk rfl True.intro rfl rfl rfl rfl rfl rfl rfl (CellAt.blk (.tail (.tail .head)) rfl) ?_
          refine WP.ldm tysOk rfl True.intro rfl rfl rfl rfl rfl rfl rfl (SegAt.blk' .head rfl) ?_
          refine WP.bsO (f := fA) [(Arc.mk s16 (w64 (s16 + 1)) 0 7 (w64 ((w64 ((gt i1 s16))) - 100)))] tysOk rfl rfl rfl rfl rfl rfl rfl rfl rfl rfl rfl rfl rfl rfl ?_
          intro g30 hf83
          obtain ⟨hl14, h⟩ := ck_some h
          obtain ⟨xs29, hz14, h⟩ := lt_some h
          refine WP.appO (f := fA) (xs := xs27) (ys := [(Arc.mk s16 (w64 (s16 + 1)) 0 7 (w64 ((w64 ((gt i1 s16))) - 100)))]) tysOk rfl rfl rfl rfl rfl rfl rfl rfl rfl rfl rfl rfl (.tail (.tail .head)) hf80 hf83.len (OwS.app .head hf83) hl14 hz14 ?_
          intro A71 c71 hf84
          refine WP.st tysOk true rfl True.intro rfl rfl rfl rfl True.intro ?_
          refine WP.sto' tysOk [.slice (some ⟨g1, 0, none⟩) ((w64 (2 + (w64 (d1.tmod 8)))).toNat) ((w64 (2 + (w64 (d1.tmod 8)))).toNat), .slice A71 xs29.length c71] rfl rfl rfl rfl rfl rfl rfl rfl rfl (.tail (.tail (.tail .head))) rfl rfl ?_
          iterate 3 (refine WP.st tysOk true rfl True.intro rfl rfl rfl rfl True.intro ?_)
          refine WP.stop rfl (n44, w64 (s14 + (w64 ((w64 ((gt i1 s16))) - 100))), if 7 < s15 then 7 else s15, w64 (s16 + 1), xs29, A71, xs29.length, c71) ⟨⟨h, hf84⟩, Nat.lt_succ_self _⟩ ?_ ?_
          · repeat (first | exact True.intro | refine And.intro rfl ?_)
          · exact (.cons (.tail .head) (.cons .head (.cons (.tail (.tail .head)) (.cons (.tail (.tail .head)) .nil))))
      · rw [if_neg hh64] at h
        iterate 4 (refine WP.st tysOk true rfl True.intro rfl rfl rfl rfl True.intro ?_)
        refine WP.cond_d rfl rfl (fun hh66 => ?_) (fun hh66 => ?_)
        · rw [if_pos hh66] at h
          iterate 2 (refine WP.st tysOk true rfl True.intro rfl rfl rfl rfl True.intro ?_)
          obtain ⟨hj21, h⟩ := ck_some h
          refine WP.ixA tysOk rfl True.intro rfl rfl rfl rfl rfl rfl rfl rfl hj21 (hs2.ex hj21) ?_
          intro b21 _ hA21
          refine WP.ld1 tysOk rfl True.intro rfl rfl rfl rfl rfl rfl rfl (hs2.at0 hA21 (Held.mem (List.Mem.tail _ (List.Mem.tail _ (List.Mem.tail _ (List.Mem.tail _ (List.Mem.head _)))))) hj21 rfl) ?_
          iterate 2 (refine WP.st tysOk true rfl True.intro rfl rfl rfl rfl True.intro ?_)
          refine WP.sto' tysOk [.int .i64 (s16), .int .i64 (w64 (s16 + 1)), .int .i64 (0), .int .i64 (w64 ((gt x1 s16))), .int .i64 (0)] rfl rfl rfl rfl rfl rfl rfl rfl rfl .head rfl rfl ?_
          iterate 2 (refine WP.st tysOk true rfl True.intro rfl rfl rfl rfl True.intro ?_)
          refine WP.ld1 tysOk rfl True.intro rfl rfl rfl rfl rfl rfl rfl (CellAt.blk .head rfl) ?_
          iterate 4 (refine WP.st tysOk true rfl True.intro rfl rfl rfl rfl True.intro ?_)
          refine WP.ld1 tysOk rfl True.intro rfl rfl rfl rfl rfl rfl rfl (CellAt.blk .head rfl) ?_
          refine WP.mn rfl True.intro rfl rfl rfl rfl rfl rfl ?_
          iterate 2 (refine WP.st tysOk true rfl True.intro rfl rfl rfl rfl True.intro ?_)
          refine WP.ld1 tysOk rfl True.intro rfl rfl rfl rfl rfl rfl rfl (CellAt.blk (.tail (.tail .head)) rfl) ?_
          refine WP.ldm tysOk rfl True.intro rfl rfl rfl rfl rfl rfl rfl (SegAt.blk' .head rfl) ?_
          refine WP.bsO (f := fA) [(Arc.mk s16 (w64 (s16 + 1)) 0 (w64 ((gt x1 s16))) 0)] tysOk rfl rfl rfl rfl rfl rfl rfl rfl rfl rfl rfl rfl rfl rfl ?_
          intro g31 hf85
          obtain ⟨hl15, h⟩ := ck_some h
          obtain ⟨xs30, hz15, h⟩ := lt_some h
          refine WP.appO (f := fA) (xs := xs27) (ys := [(Arc.mk s16 (w64 (s16 + 1)) 0 (w64 ((gt x1 s16))) 0)]) tysOk rfl rfl rfl rfl rfl rfl rfl rfl rfl rfl rfl rfl (.tail (.tail .head)) hf80 hf85.len (OwS.app .head hf85) hl15 hz15 ?_
          intro A72 c72 hf86
          refine WP.st tysOk true rfl True.intro rfl rfl rfl rfl True.intro ?_
          refine WP.sto' tysOk [.slice (some ⟨g1, 0, none⟩) ((w64 (2 + (w64 (d1.tmod 8)))).toNat) ((w64 (2 + (w64 (d1.tmod 8)))).toNat), .slice A72 xs30.length c72] rfl rfl rfl rfl rfl rfl rfl rfl rfl (.tail (.tail (.tail .head))) rfl rfl ?_
          iterate 3 (refine WP.st tysOk true rfl True.intro rfl rfl rfl rfl True.intro ?_)
          refine WP.stop rfl (n44, w64 (s14 + 0), if (w64 ((gt x1 s16))) < s15 then w64 ((gt x1 s16)) else s15, w64 (s16 + 1), xs30, A72, xs30.length, c72) ⟨⟨h, hf86⟩, Nat.lt_succ_self _⟩ ?_ ?_
          · repeat (first | exact True.intro | refine And.intro rfl ?_)
          · exact (.cons (.tail .head) (.cons .head (.cons (.tail (.tail .head)) (.cons (.tail (.tail .head)) .nil))))
        · rw [if_neg hh66] at h
          iterate 2 (refine WP.st tysOk true rfl True.intro rfl rfl rfl rfl True.intro ?_)
          refine WP.ld1 tysOk rfl True.intro rfl rfl rfl rfl rfl rfl rfl (CellAt.blk .head rfl) ?_
          iterate 4 (refine WP.st tysOk true rfl True.intro rfl rfl rfl rfl True.intro ?_)
          refine WP.ld1 tysOk rfl True.intro rfl rfl rfl rfl rfl rfl rfl (CellAt.blk .head rfl) ?_
          refine WP.mn rfl True.intro rfl rfl rfl rfl rfl rfl ?_
          iterate 2 (refine WP.st tysOk true rfl True.intro rfl rfl rfl rfl True.intro ?_)
          refine WP.ld1 tysOk rfl True.intro rfl rfl rfl rfl rfl rfl rfl (CellAt.blk (.tail (.tail .head)) rfl) ?_
          refine WP.ldm tysOk rfl True.intro rfl rfl rfl rfl rfl rfl rfl (SegAt.blk' .head rfl) ?_
          refine WP.bsO (f := fA) [(Arc.mk s16 (w64 (s16 + 1)) 0 7 0)] tysOk rfl rfl rfl rfl rfl rfl rfl rfl rfl rfl rfl rfl rfl rfl ?_
          intro g32 hf87
          obtain ⟨hl16, h⟩ := ck_some h
          obtain ⟨xs31, hz16, h⟩ := lt_some h
          refine WP.appO (f := fA) (xs := xs27) (ys := [(Arc.mk s16 (w64 (s16 + 1)) 0 7 0)]) tysOk rfl rfl rfl rfl rfl rfl rfl rfl rfl rfl rfl rfl (.tail (.tail .head)) hf80 hf87.len (OwS.app .head hf87) hl16 hz16 ?_
          intro A73 c73 hf88
          refine WP.st tysOk true rfl True.intro rfl rfl rfl rfl True.intro ?_
          refine WP.sto' tysOk [.slice (some ⟨g1, 0, none⟩) ((w64 (2 + (w64 (d1.tmod 8)))).toNat) ((w64 (2 + (w64 (d1.tmod 8)))).toNat), .slice A73 xs31.length c73] rfl rfl rfl rfl rfl rfl rfl rfl rfl (.tail (.tail (.tail .head))) rfl rfl ?_
          iterate 3 (refine WP.st tysOk true rfl True.intro rfl rfl rfl rfl True.intro ?_)
          refine WP.stop rfl (n44, w64 (s14 + 0), if 7 < s15 then 7 else s15, w64 (s16 + 1), xs31, A73, xs31.length, c73) ⟨⟨h, hf88⟩, Nat.lt_succ_self _⟩ ?_ ?_
          · repeat (first | exact True.intro | refine And.intro rfl ?_)
          · exact (.cons (.tail .head) (.cons .head (.cons (.tail (.tail .head)) (.cons (.tail (.tail .head)) .nil))))
    · rw [if_neg hh63] at h
      refine WP.st tysOk true rfl True.intro rfl rfl rfl rfl True.intro ?_
      refine WP.loop (α := Nat × Int × (List Int) × (List Arc) × (Option Addr) × Nat × Nat × (Option Addr) × Nat × Nat) (fun x => lp (law18_TwoChain_b2 d1 s14 s15) x.1 (x.2.1, x.2.2.1, x.2.2.2.1) = some r ∧ OwF x.2.2.2.2.1 x.2.2.2.2.2.1 x.2.2.1 ∧ OwF x.2.2.2.2.2.2.2.1 x.2.2.2.2.2.2.2.2.1 x.2.2.2.1) (fun x => [(7, .int .i64 (w64 (2 + (w64 (d1.tmod 8))))), (8, .pointer (some ⟨g2, 0, none⟩)), (9, .int .i64 (s14)), (10, .int .i64 (s15)), (13, .int .i64 (x.2.1))]) (fun x => [Ow fA 23 x.2.2.2.2.2.2.2.1 x.2.2.2.2.2.2.2.2.1 x.2.2.2.2.2.2.2.2.2 x.2.2.2.1, .blk g2 27 [.slice x.2.2.2.2.1 x.2.2.2.2.2.1 x.2.2.2.2.2.2.1, .slice x.2.2.2.2.2.2.2.1 x.2.2.2.2.2.2.2.2.1 x.2.2.2.2.2.2.2.2.2], Ow (fI .i64) 2 x.2.2.2.2.1 x.2.2.2.2.2.1 x.2.2.2.2.2.2.1 x.2.2.1, .fz (PH.of w)]) (fun x => x.1) rfl (big, 0, (List.replicate (w64 (2 + (w64 (d1.tmod 8)))).toNat 0), xs27, (some ⟨g1, 0, none⟩), (w64 (2 + (w64 (d1.tmod 8)))).toNat, (w64 (2 + (w64 (d1.tmod 8)))).toNat, A69, m15, c69) ⟨h, hf1, hf80⟩ ?_ ?_ ?_
      · repeat (first | exact True.intro | refine And.intro rfl ?_)
      · exact (.cons .head (.cons .head (.cons .head (.cons .head .nil))))
      · rintro ⟨n53, s18, xs34, xs35, A84, m18, c84, A85, m19, c85⟩ ⟨h, hf99, hf100⟩
        dsimp only at h hf99 hf100 ⊢
        rcases n53 with _ | n53
        · exact (lp_no h).elim
        replace h := lp_succ h
        unfold law18_TwoChain_b2 at h
        try dsimp only at h
        iterate 3 (refine WP.st tysOk true rfl True.intro rfl rfl rfl rfl True.intro ?_)
        refine WP.cond_d rfl rfl (fun hh77 => ?_) (fun hh77 => ?_)
        · rw [if_pos hh77] at h
          refine WP.ldm tysOk rfl True.intro rfl rfl rfl rfl rfl rfl rfl (SegAt.blk' (.tail .head) rfl) ?_
          obtain ⟨r25, hg25, h⟩ := bind_some h
          refine WP.callS (two_Series_S r25) rfl rfl rfl rfl rfl rfl rfl (by kernel_rfl) (fun w1 hw1 => (two_Series_w hg25 (InsZ.mk_ (hw1.ow (.tail (.tail .head)) hf99) (hw1.ow .head hf100)) :)) ?_
          rintro _ _ ⟨A86, n54, c86, A87, n55, c87, A88, n56, c88, A89, n57, c89, rfl, hf101, hf102, hf103, hf104, rfl⟩
          iterate 3 (refine WP.st tysOk true rfl True.intro rfl rfl rfl rfl True.intro ?_)
          refine WP.al tysOk rfl rfl rfl rfl rfl rfl ?_
          intro g35
          refine WP.sto' tysOk [.slice A86 n54 c86, .slice A87 n55 c87, .int .i64 (r25.1.rcd.pass), .slice A88 n56 c88, .slice A89 n57 c89, .int .i64 (r25.1.off.hi), .int .u64 (r25.1.off.lo), .bool (r25.1.did)] rfl rfl rfl rfl rfl rfl rfl rfl rfl .head rfl rfl ?_
          iterate 3 (refine WP.st tysOk true rfl True.intro rfl rfl rfl rfl True.intro ?_)
          refine WP.cond_d rfl rfl (fun hh78 => ?_) (fun hh78 => ?_)
          · rw [if_pos hh78] at h
            refine WP.st tysOk true rfl True.intro rfl rfl rfl rfl True.intro ?_
            cases h
            refine WP.retR tysOk rfl rfl ⟨_, _, rfl, rfl, rfl⟩ (fun w1 hw1 => ⟨rfl, Ret.below_ hw1 (.cons (.tail (.tail (.tail (.tail (.tail (.tail (.tail (.tail .head)))))))) .nil)⟩)
          · rw [if_neg hh78] at h
            refine WP.st tysOk true rfl True.intro rfl rfl rfl rfl True.intro ?_
            refine WP.ldm tysOk rfl True.intro rfl rfl rfl rfl rfl rfl rfl (SegAt.blk' .head rfl) ?_
            refine WP.sto' tysOk [.slice A86 n54 c86, .slice A87 n55 c87] rfl rfl rfl rfl rfl rfl rfl rfl rfl (.tail (.tail (.tail (.tail (.tail (.tail .head)))))) rfl rfl ?_
            iterate 3 (refine WP.st tysOk true rfl True.intro rfl rfl rfl rfl True.intro ?_)
            refine WP.stop rfl (n53, w64 (s18 + 1), r25.1.inst.supply, r25.1.inst.arcs, A86, n54, c86, A87, n55, c87) ⟨⟨h, hf101, hf102⟩, Nat.lt_succ_self _⟩ ?_ ?_
            · repeat (first | exact True.intro | refine And.intro rfl ?_)
            · exact (.cons (.tail (.tail (.tail .head))) (.cons .head (.cons (.tail .head) (.cons (.tail (.tail (.tail (.tail (.tail .head))))) .nil))))
        · rw [if_neg hh77] at h
          obtain ⟨r26, hg26, h⟩ := bind_some h
          refine WP.callV rfl rfl rfl rfl rfl rfl rfl (by kernel_rfl) (fun w1 hw1 => (law18_known_w hg26  :)) True.intro ?_
          refine WP.st tysOk true rfl True.intro rfl rfl rfl rfl True.intro ?_
          by_cases hh79 : r26 = true
          · rw [if_pos hh79] at h
            refine WP.yes rfl rfl hh79 ?_
            refine WP.st tysOk true rfl True.intro rfl rfl rfl rfl True.intro ?_
            refine WP.yes rfl rfl rfl ?_
            refine WP.ld1 tysOk rfl True.intro rfl rfl rfl rfl rfl rfl rfl (CellAt.blk (.tail .head) rfl) ?_
            refine WP.yes rfl rfl rfl ?_
            refine WP.lenO (xs := xs34) tysOk rfl True.intro rfl rfl rfl rfl rfl rfl hf99 ?_
            refine WP.yes rfl rfl rfl ?_
            iterate 3 (refine WP.st tysOk true rfl True.intro rfl rfl rfl rfl True.intro ?_)
            by_cases hh80 : (xs34.length : Int) = 2
            · rw [if_pos hh80] at h
              refine WP.yes rfl rfl (decide_eq_true hh80) ?_
              refine WP.st tysOk true rfl True.intro rfl rfl rfl rfl True.intro ?_
              refine WP.yes rfl rfl rfl ?_
              refine WP.ld1 tysOk rfl True.intro rfl rfl rfl rfl rfl rfl rfl (CellAt.blk (.tail .head) rfl) ?_
              refine WP.yes rfl rfl rfl ?_
              refine WP.lenO (xs := xs35) tysOk rfl True.intro rfl rfl rfl rfl rfl rfl hf100 ?_
              refine WP.yes rfl rfl rfl ?_
              iterate 3 (refine WP.st tysOk true rfl True.intro rfl rfl rfl rfl True.intro ?_)
              by_cases hh81 : (xs35.length : Int) = 1
              · rw [if_pos hh81] at h
                refine WP.yes rfl rfl (decide_eq_true hh81) ?_
                refine WP.st tysOk true rfl True.intro rfl rfl rfl rfl True.intro ?_
                refine WP.yes rfl rfl rfl ?_
                refine WP.ld1 tysOk rfl True.intro rfl rfl rfl rfl rfl rfl rfl (CellAt.blk (.tail .head) rfl) ?_
                refine WP.yes rfl rfl rfl ?_
                obtain ⟨hj24, h⟩ := ck_some h
                refine WP.ixO tysOk rfl True.intro rfl rfl rfl rfl rfl rfl rfl rfl hf100 hj24 ?_
                intro b24 hA24
                refine WP.yes rfl rfl rfl ?_
                refine WP.ldm tysOk rfl True.intro rfl rfl rfl rfl rfl rfl rfl (OwS.seg .head hA24 hj24) ?_
                iterate 2 (refine WP.yes rfl rfl rfl ?_; refine WP.st tysOk true rfl True.intro rfl rfl rfl rfl True.intro ?_)
                refine WP.yes rfl rfl rfl ?_
                refine WP.bld (cs := [.int .i64 (0), .int .i64 (1), .int .i64 (0), .int .i64 (s15), .int .i64 (s14)]) tysOk rfl True.intro rfl rfl rfl rfl rfl rfl rfl ?_
                refine WP.yes rfl rfl rfl ?_
                refine WP.eqS rfl True.intro rfl rfl rfl rfl rfl rfl (by kernel_rfl) (eq23 (gt xs35 0) (Arc.mk 0 1 0 s15 s14)) ?_
                iterate 2 (refine WP.st tysOk true rfl True.intro rfl rfl rfl rfl True.intro ?_)
                cases h
                refine WP.retR tysOk rfl rfl ⟨_, _, rfl, rfl, rfl⟩ (fun w1 hw1 => ⟨rfl, Ret.below_ hw1 (.cons (.tail (.tail (.tail .head))) .nil)⟩)
              · rw [if_neg hh81] at h
                refine WP.no rfl rfl (decide_eq_false hh81) rfl rfl ?_
                iterate 7 (refine WP.no rfl rfl rfl rfl rfl ?_)
                iterate 2 (refine WP.st tysOk true rfl True.intro rfl rfl rfl rfl True.intro ?_)
                cases h
                refine WP.retR tysOk rfl rfl ⟨_, _, rfl, rfl, rfl⟩ (fun w1 hw1 => ⟨rfl, Ret.below_ hw1 (.cons (.tail (.tail (.tail .head))) .nil)⟩)
            · rw [if_neg hh80] at h
              refine WP.no rfl rfl (decide_eq_false hh80) rfl rfl ?_
              iterate 3 (refine WP.no rfl rfl rfl rfl rfl ?_)
              iterate 2 (refine WP.st tysOk true rfl True.intro rfl rfl rfl rfl True.intro ?_)
              iterate 8 (refine WP.no rfl rfl rfl rfl rfl ?_)
              iterate 2 (refine WP.st tysOk true rfl True.intro rfl rfl rfl rfl True.intro ?_)
              cases h
              refine WP.retR tysOk rfl rfl ⟨_, _, rfl, rfl, rfl⟩ (fun w1 hw1 => ⟨rfl, Ret.below_ hw1 (.cons (.tail (.tail (.tail .head))) .nil)⟩)
          · rw [if_neg hh79] at h
            refine WP.no rfl rfl (bfalse hh79) rfl rfl ?_
            iterate 3 (refine WP.no rfl rfl rfl rfl rfl ?_)
            iterate 2 (refine WP.st tysOk true rfl True.intro rfl rfl rfl rfl True.intro ?_)
            iterate 4 (refine WP.no rfl rfl rfl rfl rfl ?_)
            iterate 2 (refine WP.st tysOk true rfl True.intro rfl rfl rfl rfl True.intro ?_)
            iterate 8 (refine WP.no rfl rfl rfl rfl rfl ?_)
            iterate 2 (refine WP.st tysOk true rfl True.intro rfl rfl rfl rfl True.intro ?_)
            cases h
            refine WP.retR tysOk rfl rfl ⟨_, _, rfl, rfl, rfl⟩ (fun w1 hw1 => ⟨rfl, Ret.below_ hw1 (.cons (.tail (.tail (.tail .head))) .nil)⟩)
end Go.Proofs.Ytpnohbdfgmjdbaa
