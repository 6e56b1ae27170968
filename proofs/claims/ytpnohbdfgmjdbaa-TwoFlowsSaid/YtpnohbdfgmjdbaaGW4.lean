/- The walks: the code computes that. -/
import Derived.Test.YtpnohbdfgmjdbaaGW3
import Derived.Test.YtpnohbdfgmjdbaaTys
import Derived.Test.YtpnohbdfgmjdbaaEngG
import Derived.KernelRfl
namespace Go.Proofs.Ytpnohbdfgmjdbaa
open Go.RowKit Go.Qe
set_option maxRecDepth 20000 in
set_option maxHeartbeats 8000000 in
theorem ref03_Nums_w {w : World} {v0 : Value} {v1 : Value} {a1 : List Int} {b1 : List Int} {r : Bool} (h : ref03_Nums a1 b1 = some r) (p1 : SlF (fI .i64) (PH.of w) v0 a1) (p2 : SlF (fI .i64) (PH.of w) v1 b1) :
    Calls Try.prog 57 #[v0, v1] w fun e w' => e = .returned (.bool (r)) ∧ Below w.heap.size w w' := by
  obtain ⟨A1, c1, rfl, hs1⟩ := p1
  obtain ⟨A2, c2, rfl, hs2⟩ := p2
  unfold ref03_Nums at h
  refine enter_ Try.func57 rfl Try.ntmps57 rfl ?_
  iterate 6 (refine WP.st tysOk true rfl True.intro rfl rfl rfl rfl True.intro ?_)
  refine WP.cond_d rfl rfl (fun hh1 => ?_) (fun hh1 => ?_)
  · rw [if_pos hh1] at h
    refine WP.st tysOk true rfl True.intro rfl rfl rfl rfl True.intro ?_
    cases h
    refine WP.retR tysOk rfl rfl ⟨_, _, rfl, rfl, rfl⟩ (fun w1 hw1 => ⟨rfl, Ret.below_ hw1 (.cons .head .nil)⟩)
  rw [if_neg hh1] at h
  refine WP.st tysOk true rfl True.intro rfl rfl rfl rfl True.intro ?_
  refine WP.loop (α := Nat × Int) (fun x => lp (ref03_Nums_b1 a1 b1) x.1 x.2 = some r) (fun x => [(0, .slice A1 a1.length c1), (1, .slice A2 b1.length c2), (5, iv x.2)]) (fun x => [.fz (PH.of w)]) (fun x => x.1) rfl (big, 0) h ?_ ?_ ?_
  · repeat (first | exact True.intro | refine And.intro rfl ?_)
  · exact (.cons .head .nil)
  rintro ⟨n1, k2⟩ h
  dsimp only at h ⊢
  rcases n1 with _ | n1
  · exact (lp_no h).elim
  replace h := lp_succ h
  unfold ref03_Nums_b1 at h
  try dsimp only at h
  iterate 4 (refine WP.st tysOk true rfl True.intro rfl rfl rfl rfl True.intro ?_)
  refine WP.cond_d rfl rfl (fun hh6 => ?_) (fun hh6 => ?_)
  · rw [if_pos hh6] at h
    refine WP.draw rfl (by kernel_rfl) (by kernel_rfl) ?_
    iterate 2 (refine WP.st tysOk true rfl rfl rfl rfl rfl rfl True.intro ?_)
    obtain ⟨hj5, h⟩ := ck_some h
    refine WP.ixA tysOk rfl rfl rfl rfl rfl rfl rfl rfl rfl rfl hj5 (hs1.ex hj5) ?_
    intro b6 _ hA5
    refine WP.ld1 tysOk rfl rfl rfl rfl rfl rfl rfl rfl rfl (hs1.at0 hA5 (Held.mem (List.Mem.head _)) hj5 rfl) ?_
    iterate 2 (refine WP.st tysOk true rfl rfl rfl rfl rfl rfl True.intro ?_)
    obtain ⟨hj6, h⟩ := ck_some h
    refine WP.ixA tysOk rfl rfl rfl rfl rfl rfl rfl rfl rfl rfl hj6 (hs2.ex hj6) ?_
    intro b7 _ hA6
    refine WP.ld1 tysOk rfl rfl rfl rfl rfl rfl rfl rfl rfl (hs2.at0 hA6 (Held.mem (List.Mem.head _)) hj6 rfl) ?_
    refine WP.st tysOk true rfl rfl rfl rfl rfl rfl True.intro ?_
    refine WP.qend rfl ?_
    refine WP.cond_d rfl rfl (fun hh7 => ?_) (fun hh7 => ?_)
    · rw [if_pos hh7] at h
      refine WP.st tysOk true rfl True.intro rfl rfl rfl rfl True.intro ?_
      cases h
      refine WP.retR tysOk rfl rfl ⟨_, _, rfl, rfl, rfl⟩ (fun w1 hw1 => ⟨rfl, Ret.below_ hw1 (.cons .head .nil)⟩)
    rw [if_neg hh7] at h
    iterate 3 (refine WP.st tysOk true rfl True.intro rfl rfl rfl rfl True.intro ?_)
    refine WP.stop rfl (n1, w64 (k2 + 1)) ⟨h, Nat.lt_succ_self _⟩ ?_ ?_
    · repeat (first | exact True.intro | refine And.intro rfl ?_)
    exact (.cons .head .nil)
  rw [if_neg hh6] at h
  refine WP.st tysOk true rfl True.intro rfl rfl rfl rfl True.intro ?_
  cases h
  refine WP.retR tysOk rfl rfl ⟨_, _, rfl, rfl, rfl⟩ (fun w1 hw1 => ⟨rfl, Ret.below_ hw1 (.cons .head .nil)⟩)

set_option maxRecDepth 20000 in
set_option maxHeartbeats 8000000 in
theorem ref03_Same_w {w : World} {v0 : Value} {v1 : Value} {a1 : Inst} {b1 : Inst} {r : Bool} (h : ref03_Same a1 b1 = some r) (p1 : InsZ (PH.of w) v0 a1) (p2 : InsZ (PH.of w) v1 b1) :
    Calls Try.prog 30 #[v0, v1] w fun e w' => e = .returned (.bool (r)) ∧ Below w.heap.size w w' := by
  obtain ⟨A1, c1, A2, c2, rfl, hs1, hs2⟩ := p1
  obtain ⟨A3, c3, A4, c4, rfl, hs3, hs4⟩ := p2
  unfold ref03_Same at h
  refine enter_ Try.func30 rfl Try.ntmps30 rfl ?_
  refine WP.box rfl rfl rfl rfl rfl rfl ?_
  intro g1
  refine WP.box rfl rfl rfl rfl rfl rfl ?_
  intro g2
  iterate 2 (refine WP.st tysOk true rfl True.intro rfl rfl rfl rfl True.intro ?_)
  refine WP.ld1 tysOk rfl True.intro rfl rfl rfl rfl rfl rfl rfl (CellAt.blk (.tail .head) rfl) ?_
  refine WP.st tysOk true rfl True.intro rfl rfl rfl rfl True.intro ?_
  refine WP.ld1 tysOk rfl True.intro rfl rfl rfl rfl rfl rfl rfl (CellAt.blk .head rfl) ?_
  obtain ⟨r1, hg1, h⟩ := bind_some h
  refine WP.callV rfl rfl rfl rfl rfl rfl rfl (by kernel_rfl) (fun w1 hw1 => (ref03_Nums_w hg1 (hs1.le' ((Held.mem (List.Mem.tail _ (List.Mem.tail _ (List.Mem.head _)))) _ _ hw1)).of (hs3.le' ((Held.mem (List.Mem.tail _ (List.Mem.tail _ (List.Mem.head _)))) _ _ hw1)).of :)) True.intro ?_
  iterate 2 (refine WP.st tysOk true rfl True.intro rfl rfl rfl rfl True.intro ?_)
  by_cases hh1 : r1 = true
  · rw [if_pos hh1] at h
    refine WP.yes rfl rfl (by simp [hh1]) ?_
    refine WP.st tysOk true rfl True.intro rfl rfl rfl rfl True.intro ?_
    refine WP.yes rfl rfl rfl ?_
    refine WP.ld1 tysOk rfl True.intro rfl rfl rfl rfl rfl rfl rfl (CellAt.blk (.tail .head) rfl) ?_
    iterate 2 (refine WP.yes rfl rfl rfl ?_; refine WP.st tysOk true rfl True.intro rfl rfl rfl rfl True.intro ?_)
    refine WP.yes rfl rfl rfl ?_
    refine WP.ld1 tysOk rfl True.intro rfl rfl rfl rfl rfl rfl rfl (CellAt.blk .head rfl) ?_
    refine WP.yes rfl rfl rfl ?_
    refine WP.st tysOk true rfl True.intro rfl rfl rfl rfl True.intro ?_
    refine WP.yes rfl rfl rfl ?_
    iterate 2 (refine WP.st tysOk true rfl True.intro rfl rfl rfl rfl True.intro ?_)
    refine WP.cond_d rfl rfl (fun hh2 => ?_) (fun hh2 => ?_)
    · rw [if_pos hh2] at h
      refine WP.st tysOk true rfl True.intro rfl rfl rfl rfl True.intro ?_
      cases h
      refine WP.retR tysOk rfl rfl ⟨_, _, rfl, rfl, rfl⟩ (fun w1 hw1 => ⟨rfl, Ret.below_ hw1 (.cons (.tail (.tail .head)) .nil)⟩)
    rw [if_neg hh2] at h
    refine WP.st tysOk true rfl True.intro rfl rfl rfl rfl True.intro ?_
    refine WP.loop (α := Nat × Int) (fun x => lp (ref03_Same_b1 a1 b1) x.1 x.2 = some r) (fun x => [(2, .pointer (some ⟨g1, 0, none⟩)), (3, .pointer (some ⟨g2, 0, none⟩)), (5, iv x.2)]) (fun x => [.blk g2 27 [.slice A3 b1.supply.length c3, .slice A4 b1.arcs.length c4], .blk g1 27 [.slice A1 a1.supply.length c1, .slice A2 a1.arcs.length c2], .fz (PH.of w)]) (fun x => x.1) rfl (big, 0) h ?_ ?_ ?_
    · repeat (first | exact True.intro | refine And.intro rfl ?_)
    · exact (.cons .head (.cons .head (.cons .head .nil)))
    rintro ⟨n1, k2⟩ h
    dsimp only at h ⊢
    rcases n1 with _ | n1
    · exact (lp_no h).elim
    replace h := lp_succ h
    unfold ref03_Same_b1 at h
    try dsimp only at h
    iterate 2 (refine WP.st tysOk true rfl True.intro rfl rfl rfl rfl True.intro ?_)
    refine WP.ld1 tysOk rfl True.intro rfl rfl rfl rfl rfl rfl rfl (CellAt.blk (.tail .head) rfl) ?_
    iterate 2 (refine WP.st tysOk true rfl True.intro rfl rfl rfl rfl True.intro ?_)
    refine WP.cond_d rfl rfl (fun hh7 => ?_) (fun hh7 => ?_)
    · rw [if_pos hh7] at h
      refine WP.draw rfl (by kernel_rfl) (by kernel_rfl) ?_
      refine WP.st tysOk true rfl rfl rfl rfl rfl rfl True.intro ?_
      refine WP.ld1 tysOk rfl rfl rfl rfl rfl rfl rfl rfl rfl (CellAt.blk (.tail .head) rfl) ?_
      refine WP.st tysOk true rfl rfl rfl rfl rfl rfl True.intro ?_
      obtain ⟨hj5, h⟩ := ck_some h
      refine WP.ixA tysOk rfl rfl rfl rfl rfl rfl rfl rfl rfl rfl hj5 (hs2.ex hj5) ?_
      intro b6 _ hA5
      refine WP.ldm tysOk rfl rfl rfl rfl rfl rfl rfl rfl rfl (hs2.seg hA5 (Held.mem (List.Mem.tail _ (List.Mem.tail _ (List.Mem.head _)))) hj5) ?_
      refine WP.st tysOk true rfl rfl rfl rfl rfl rfl True.intro ?_
      refine WP.ld1 tysOk rfl rfl rfl rfl rfl rfl rfl rfl rfl (CellAt.blk .head rfl) ?_
      refine WP.st tysOk true rfl rfl rfl rfl rfl rfl True.intro ?_
      obtain ⟨hj6, h⟩ := ck_some h
      refine WP.ixA tysOk rfl rfl rfl rfl rfl rfl rfl rfl rfl rfl hj6 (hs4.ex hj6) ?_
      intro b7 _ hA6
      refine WP.ldm tysOk rfl rfl rfl rfl rfl rfl rfl rfl rfl (hs4.seg hA6 (Held.mem (List.Mem.tail _ (List.Mem.tail _ (List.Mem.head _)))) hj6) ?_
      refine WP.neS rfl rfl rfl rfl rfl rfl rfl rfl (by kernel_rfl) (eq23 (gt a1.arcs k2) (gt b1.arcs k2)) ?_
      refine WP.qend rfl ?_
      refine WP.cond_nd rfl rfl (fun hh8 => ?_) (fun hh8 => ?_)
      · rw [if_neg hh8] at h
        refine WP.st tysOk true rfl True.intro rfl rfl rfl rfl True.intro ?_
        cases h
        refine WP.retR tysOk rfl rfl ⟨_, _, rfl, rfl, rfl⟩ (fun w1 hw1 => ⟨rfl, Ret.below_ hw1 (.cons (.tail (.tail .head)) .nil)⟩)
      rw [if_pos hh8] at h
      iterate 3 (refine WP.st tysOk true rfl True.intro rfl rfl rfl rfl True.intro ?_)
      refine WP.stop rfl (n1, w64 (k2 + 1)) ⟨h, Nat.lt_succ_self _⟩ ?_ ?_
      · repeat (first | exact True.intro | refine And.intro rfl ?_)
      exact (.cons .head (.cons .head (.cons .head .nil)))
    rw [if_neg hh7] at h
    refine WP.st tysOk true rfl True.intro rfl rfl rfl rfl True.intro ?_
    cases h
    refine WP.retR tysOk rfl rfl ⟨_, _, rfl, rfl, rfl⟩ (fun w1 hw1 => ⟨rfl, Ret.below_ hw1 (.cons (.tail (.tail .head)) .nil)⟩)
  rw [if_neg hh1] at h
  refine WP.no rfl rfl (by simp [hh1]) rfl rfl ?_
  iterate 6 (refine WP.no rfl rfl rfl rfl rfl ?_)
  refine WP.st tysOk true rfl True.intro rfl rfl rfl rfl True.intro ?_
  refine WP.condT rfl rfl ?_
  refine WP.st tysOk true rfl True.intro rfl rfl rfl rfl True.intro ?_
  cases h
  refine WP.retR tysOk rfl rfl ⟨_, _, rfl, rfl, rfl⟩ (fun w1 hw1 => ⟨rfl, Ret.below_ hw1 (.cons (.tail (.tail .head)) .nil)⟩)

set_option maxRecDepth 20000 in
set_option maxHeartbeats 8000000 in
theorem law18_known_w {w : World} {r : Bool} (h : law18_known  = some r) :
    Calls Try.prog 15 #[] w fun e w' => e = .returned (.bool (r)) ∧ Below w.heap.size w w' := by
  unfold law18_known at h
  refine enter_ Try.func15 rfl Try.ntmps15 rfl ?_
  refine WP.st tysOk true rfl True.intro rfl rfl rfl rfl True.intro ?_
  obtain ⟨hm1, h⟩ := ck_some h
  refine WP.mkO (f := (fI .i64)) 0 tysOk rfl rfl rfl rfl rfl rfl rfl rfl rfl rfl rfl rfl hm1 ?_
  intro g1 hf1
  refine WP.bld (cs := [iv 0, iv 1, iv 0, iv 5, iv 1]) tysOk rfl True.intro rfl rfl rfl rfl rfl rfl rfl ?_
  refine WP.bld (cs := [iv 1, iv 2, iv 0, iv 3, iv 2]) tysOk rfl True.intro rfl rfl rfl rfl rfl rfl rfl ?_
  refine WP.bsO (f := fA) [(Arc.mk 0 1 0 5 1), (Arc.mk 1 2 0 3 2)] tysOk rfl rfl rfl rfl rfl rfl rfl rfl rfl rfl rfl rfl rfl rfl ?_
  intro g2 hf2
  refine WP.bld (cs := [.slice (some ⟨g1, 0, none⟩) ((3 : Int).toNat) ((3 : Int).toNat), .slice (some ⟨g2, 0, none⟩) 2 2]) tysOk rfl True.intro rfl rfl rfl rfl rfl rfl rfl ?_
  refine WP.al tysOk rfl rfl rfl rfl rfl rfl ?_
  intro g3
  refine WP.sto' tysOk [.slice (some ⟨g1, 0, none⟩) ((3 : Int).toNat) ((3 : Int).toNat), .slice (some ⟨g2, 0, none⟩) 2 2] rfl rfl rfl rfl rfl rfl rfl rfl rfl .head rfl rfl ?_
  refine WP.ldm tysOk rfl True.intro rfl rfl rfl rfl rfl rfl rfl (SegAt.blk' .head rfl) ?_
  obtain ⟨r1, hg1, h⟩ := bind_some h
  refine WP.callV rfl rfl rfl rfl rfl rfl rfl (by kernel_rfl) (fun w1 hw1 => (two_Chain_w hg1 (InsZ.mk_ (hw1.ow (.tail (.tail .head)) hf1) (hw1.ow (.tail .head) hf2)) :)) True.intro ?_
  iterate 3 (refine WP.st tysOk true rfl True.intro rfl rfl rfl rfl True.intro ?_)
  refine WP.al tysOk rfl rfl rfl rfl rfl rfl ?_
  intro g4
  refine WP.sto' tysOk [iv r1.1.node, iv r1.1.a, iv r1.1.b, iv r1.1.new.src, iv r1.1.new.dst, iv r1.1.new.low, iv r1.1.new.cap, iv r1.1.new.cost] rfl rfl rfl rfl rfl rfl rfl rfl rfl .head rfl rfl ?_
  refine WP.st tysOk true rfl True.intro rfl rfl rfl rfl True.intro ?_
  refine WP.ldm tysOk rfl True.intro rfl rfl rfl rfl rfl rfl rfl (SegAt.blk' (.tail .head) rfl) ?_
  obtain ⟨r2, hg2, h⟩ := bind_some h
  refine WP.callV rfl rfl rfl rfl rfl rfl rfl (by kernel_rfl) (fun w1 hw1 => (two_Split_w hg2 (InsZ.mk_ (hw1.ow (.tail (.tail (.tail .head))) hf1) (hw1.ow (.tail (.tail .head)) hf2)) :)) True.intro ?_
  iterate 3 (refine WP.st tysOk true rfl True.intro rfl rfl rfl rfl True.intro ?_)
  refine WP.al tysOk rfl rfl rfl rfl rfl rfl ?_
  intro g5
  refine WP.sto' tysOk [iv r2.1.node, iv r2.1.a, iv r2.1.b, iv r2.1.new.src, iv r2.1.new.dst, iv r2.1.new.low, iv r2.1.new.cap, iv r2.1.new.cost] rfl rfl rfl rfl rfl rfl rfl rfl rfl .head rfl rfl ?_
  refine WP.st tysOk true rfl True.intro rfl rfl rfl rfl True.intro ?_
  refine WP.ldm tysOk rfl True.intro rfl rfl rfl rfl rfl rfl rfl (SegAt.blk' (.tail (.tail .head)) rfl) ?_
  obtain ⟨r3, hg3, h⟩ := bind_some h
  refine WP.callS (two_Series_S r3) rfl rfl rfl rfl rfl rfl rfl (by kernel_rfl) (fun w1 hw1 => (two_Series_w hg3 (InsZ.mk_ (hw1.ow (.tail (.tail (.tail (.tail .head)))) hf1) (hw1.ow (.tail (.tail (.tail .head))) hf2)) :)) ?_
  rintro _ _ ⟨A1, n1, c1, A2, n2, c2, A3, n3, c3, A4, n4, c4, rfl, hf3, hf4, hf5, hf6, rfl⟩
  iterate 3 (refine WP.st tysOk true rfl True.intro rfl rfl rfl rfl True.intro ?_)
  refine WP.al tysOk rfl rfl rfl rfl rfl rfl ?_
  intro g6
  refine WP.sto' tysOk [.slice A1 n1 c1, .slice A2 n2 c2, iv r3.1.rcd.pass, .slice A3 n3 c3, .slice A4 n4 c4, iv r3.1.off.hi, .int .u64 (r3.1.off.lo), .bool (r3.1.did)] rfl rfl rfl rfl rfl rfl rfl rfl rfl .head rfl rfl ?_
  refine WP.st tysOk true rfl True.intro rfl rfl rfl rfl True.intro ?_
  by_cases hh1 : r1.2 = true
  · rw [if_pos hh1] at h
    by_cases hh2 : r2.2 = true
    · rw [if_pos hh2] at h
      refine WP.drawL 38 [] rfl (by kernel_rfl) (by kernel_rfl) (by kernel_rfl) ?_
      iterate 2 (refine WP.st tysOk true rfl ⟨⟨rfl, rfl⟩, rfl⟩ rfl rfl rfl rfl True.intro ?_)
      refine WP.yes rfl rfl hh1 ?_
      refine WP.st tysOk true rfl ⟨⟨rfl, rfl⟩, rfl⟩ rfl rfl rfl rfl True.intro ?_
      refine WP.yes rfl rfl rfl ?_
      iterate 3 (refine WP.st tysOk true rfl ⟨⟨rfl, rfl⟩, rfl⟩ rfl rfl rfl rfl True.intro ?_)
      refine WP.no rfl rfl (by simp [hh2]) rfl rfl ?_
      iterate 2 (refine WP.no rfl rfl rfl rfl rfl ?_)
      iterate 2 (refine WP.st tysOk true rfl ⟨⟨rfl, rfl⟩, rfl⟩ rfl rfl rfl rfl True.intro ?_)
      iterate 3 (refine WP.no rfl rfl rfl rfl rfl ?_)
      iterate 2 (refine WP.st tysOk true rfl ⟨⟨rfl, rfl⟩, rfl⟩ rfl rfl rfl rfl True.intro ?_)
      iterate 4 (refine WP.no rfl rfl rfl rfl rfl ?_)
      iterate 3 (refine WP.st tysOk true rfl ⟨⟨rfl, rfl⟩, rfl⟩ rfl rfl rfl rfl True.intro ?_; refine WP.st tysOk true rfl ⟨⟨rfl, rfl⟩, rfl⟩ rfl rfl rfl rfl True.intro ?_; refine WP.no rfl rfl rfl rfl rfl ?_; refine WP.no rfl rfl rfl rfl rfl ?_)
      iterate 5 (refine WP.no rfl rfl rfl rfl rfl ?_)
      refine WP.st tysOk true rfl ⟨⟨rfl, rfl⟩, rfl⟩ rfl rfl rfl rfl True.intro ?_
      refine WP.lend rfl ⟨rfl, rfl⟩ ?_
      refine WP.st tysOk true rfl True.intro rfl rfl rfl rfl True.intro ?_
      cases h
      refine WP.retR tysOk rfl rfl ⟨_, _, rfl, rfl, rfl⟩ (fun w1 hw1 => ⟨rfl, Ret.below_ hw1 (.cons (.tail (.tail (.tail (.tail (.tail (.tail (.tail (.tail (.tail (.tail .head)))))))))) .nil)⟩)
    rw [if_neg hh2] at h
    by_cases hh3 : r1.1.a = 0
    · rw [if_pos hh3] at h
      by_cases hh4 : r1.1.b = 1
      · rw [if_pos hh4] at h
        by_cases hh5 : r1.1.new = (Arc.mk 0 2 0 3 3)
        · rw [if_pos hh5] at h
          by_cases hh6 : r3.2 = 0
          · rw [if_pos hh6] at h
            by_cases hh7 : r3.1.did = true
            · rw [if_pos hh7] at h
              obtain ⟨hm2, h⟩ := ck_some h
              obtain ⟨r4, hg4, h⟩ := bind_some h
              refine WP.drawL 38 [(32, [], fun _ => mkSpec 2 (2 : Int).toNat (iv 0)), (34, [], litSpec 23 1), (36, [32, 34], fun _ => constSpec (.bool (r4)))] rfl (by kernel_rfl) (by kernel_rfl) (by kernel_rfl) ?_
              iterate 2 (refine WP.st tysOk true rfl ⟨⟨rfl, rfl⟩, rfl⟩ rfl rfl rfl rfl True.intro ?_)
              refine WP.yes rfl rfl hh1 ?_
              refine WP.st tysOk true rfl ⟨⟨rfl, rfl⟩, rfl⟩ rfl rfl rfl rfl True.intro ?_
              refine WP.yes rfl rfl rfl ?_
              iterate 3 (refine WP.st tysOk true rfl ⟨⟨rfl, rfl⟩, rfl⟩ rfl rfl rfl rfl True.intro ?_)
              refine WP.yes rfl rfl (by simp [hh2]) ?_
              refine WP.st tysOk true rfl ⟨⟨rfl, rfl⟩, rfl⟩ rfl rfl rfl rfl True.intro ?_
              refine WP.yes rfl rfl rfl ?_
              refine WP.ld1 tysOk rfl ⟨⟨rfl, rfl⟩, rfl⟩ rfl rfl rfl rfl rfl rfl rfl (CellAt.blk (.tail (.tail (.tail (.tail (.tail (.tail .head)))))) rfl) ?_
              refine WP.yes rfl rfl rfl ?_
              iterate 3 (refine WP.st tysOk true rfl ⟨⟨rfl, rfl⟩, rfl⟩ rfl rfl rfl rfl True.intro ?_)
              refine WP.yes rfl rfl (decide_eq_true hh3) ?_
              refine WP.st tysOk true rfl ⟨⟨rfl, rfl⟩, rfl⟩ rfl rfl rfl rfl True.intro ?_
              refine WP.yes rfl rfl rfl ?_
              refine WP.ld1 tysOk rfl ⟨⟨rfl, rfl⟩, rfl⟩ rfl rfl rfl rfl rfl rfl rfl (CellAt.blk (.tail (.tail (.tail (.tail (.tail (.tail .head)))))) rfl) ?_
              refine WP.yes rfl rfl rfl ?_
              iterate 3 (refine WP.st tysOk true rfl ⟨⟨rfl, rfl⟩, rfl⟩ rfl rfl rfl rfl True.intro ?_)
              refine WP.yes rfl rfl (decide_eq_true hh4) ?_
              refine WP.st tysOk true rfl ⟨⟨rfl, rfl⟩, rfl⟩ rfl rfl rfl rfl True.intro ?_
              refine WP.yes rfl rfl rfl ?_
              refine WP.ldm tysOk rfl ⟨⟨rfl, rfl⟩, rfl⟩ rfl rfl rfl rfl rfl rfl rfl (SegAt.blk' (.tail (.tail (.tail (.tail (.tail (.tail .head)))))) rfl) ?_
              refine WP.yes rfl rfl rfl ?_
              refine WP.bld (cs := [iv 0, iv 2, iv 0, iv 3, iv 3]) tysOk rfl ⟨⟨rfl, rfl⟩, rfl⟩ rfl rfl rfl rfl rfl rfl rfl ?_
              refine WP.yes rfl rfl rfl ?_
              refine WP.eqS rfl ⟨⟨rfl, rfl⟩, rfl⟩ rfl rfl rfl rfl rfl rfl (by kernel_rfl) (eq23 r1.1.new (Arc.mk 0 2 0 3 3)) ?_
              iterate 2 (refine WP.st tysOk true rfl ⟨⟨rfl, rfl⟩, rfl⟩ rfl rfl rfl rfl True.intro ?_)
              refine WP.yes rfl rfl (decide_eq_true hh5) ?_
              refine WP.st tysOk true rfl ⟨⟨rfl, rfl⟩, rfl⟩ rfl rfl rfl rfl True.intro ?_
              refine WP.yes rfl rfl rfl ?_
              iterate 3 (refine WP.st tysOk true rfl ⟨⟨rfl, rfl⟩, rfl⟩ rfl rfl rfl rfl True.intro ?_)
              refine WP.yes rfl rfl (decide_eq_true hh6) ?_
              refine WP.st tysOk true rfl ⟨⟨rfl, rfl⟩, rfl⟩ rfl rfl rfl rfl True.intro ?_
              refine WP.yes rfl rfl rfl ?_
              refine WP.ld1 tysOk rfl ⟨⟨rfl, rfl⟩, rfl⟩ rfl rfl rfl rfl rfl rfl rfl (CellAt.blk .head rfl) ?_
              iterate 2 (refine WP.st tysOk true rfl ⟨⟨rfl, rfl⟩, rfl⟩ rfl rfl rfl rfl True.intro ?_)
              refine WP.yes rfl rfl hh7 ?_
              refine WP.st tysOk true rfl ⟨⟨rfl, rfl⟩, rfl⟩ rfl rfl rfl rfl True.intro ?_
              refine WP.yes rfl rfl rfl ?_
              refine WP.ldm tysOk rfl ⟨⟨rfl, rfl⟩, rfl⟩ rfl rfl rfl rfl rfl rfl rfl (SegAt.blk' .head rfl) ?_
              refine WP.yes rfl rfl rfl ?_
              refine WP.lmO tysOk rfl ⟨rfl, rfl⟩ rfl rfl rfl rfl rfl rfl rfl rfl rfl rfl hm2 ?_
              intro g7
              refine WP.yes rfl rfl rfl ?_
              refine WP.bld (cs := [iv 0, iv 1, iv 0, iv 3, iv 3]) tysOk rfl ⟨⟨rfl, rfl⟩, rfl⟩ rfl rfl rfl rfl rfl rfl rfl ?_
              refine WP.yes rfl rfl rfl ?_
              refine WP.lbs tysOk rfl ⟨rfl, rfl⟩ rfl rfl rfl rfl rfl rfl rfl rfl rfl rfl rfl rfl ?_
              intro g8
              refine WP.yes rfl rfl rfl ?_
              refine WP.bld (cs := [.slice (some ⟨g7, 0, none⟩) ((2 : Int).toNat) ((2 : Int).toNat), .slice (some ⟨g8, 0, none⟩) 1 1]) tysOk rfl ⟨⟨rfl, rfl⟩, rfl⟩ rfl rfl rfl rfl rfl rfl rfl ?_
              refine WP.yes rfl rfl rfl ?_
              refine WP.lcall rfl ⟨rfl, rfl⟩ rfl rfl rfl rfl rfl rfl rfl (by kernel_rfl) (fun w1 hw1 => ((ref03_Same_w hg4 (InsZ.mk_ (hw1.ow (.tail (.tail (.tail .head))) hf3) (hw1.ow (.tail (.tail (.tail (.tail .head)))) hf4)) (InsZ.mk_ (hw1.blM 0 (.tail .head) rfl rfl hm2) (hw1.blL [(Arc.mk 0 1 0 3 3)] .head rfl rfl rfl)) :)).mono fun e w' h => ⟨_, [], h.1, ⟨rfl, rfl⟩, Ret.nil h.2⟩) ?_
              rintro _ _ ⟨rfl, rfl⟩
              refine WP.st tysOk true rfl ⟨⟨rfl, rfl⟩, rfl⟩ rfl rfl rfl rfl True.intro ?_
              refine WP.lend rfl ⟨rfl, rfl⟩ ?_
              refine WP.shutM (f := (fI .i64)) 0 (.tail .head) rfl rfl hm2 ?_
              intro hf7
              refine WP.repiece (p' := .blk g8 23 (cl fA [(Arc.mk 0 1 0 3 3)])) (.tail .head) rfl ?_
              refine WP.shut0 (n := 1) (z := fA.z) .head (by decide) rfl ?_
              have hf8 : OwF (some ⟨g8, 0, none⟩) 1 [(Arc.mk 0 1 0 3 3)] := ⟨rfl, fun _ => ⟨g8, rfl⟩⟩
              refine WP.st tysOk true rfl True.intro rfl rfl rfl rfl True.intro ?_
              cases h
              refine WP.retR tysOk rfl rfl ⟨_, _, rfl, rfl, rfl⟩ (fun w1 hw1 => ⟨rfl, Ret.below_ hw1 (.cons (.tail (.tail (.tail (.tail (.tail (.tail (.tail (.tail (.tail (.tail (.tail (.tail .head)))))))))))) .nil)⟩)
            rw [if_neg hh7] at h
            refine WP.drawL 38 [] rfl (by kernel_rfl) (by kernel_rfl) (by kernel_rfl) ?_
            iterate 2 (refine WP.st tysOk true rfl ⟨⟨rfl, rfl⟩, rfl⟩ rfl rfl rfl rfl True.intro ?_)
            refine WP.yes rfl rfl hh1 ?_
            refine WP.st tysOk true rfl ⟨⟨rfl, rfl⟩, rfl⟩ rfl rfl rfl rfl True.intro ?_
            refine WP.yes rfl rfl rfl ?_
            iterate 3 (refine WP.st tysOk true rfl ⟨⟨rfl, rfl⟩, rfl⟩ rfl rfl rfl rfl True.intro ?_)
            refine WP.yes rfl rfl (by simp [hh2]) ?_
            refine WP.st tysOk true rfl ⟨⟨rfl, rfl⟩, rfl⟩ rfl rfl rfl rfl True.intro ?_
            refine WP.yes rfl rfl rfl ?_
            refine WP.ld1 tysOk rfl ⟨⟨rfl, rfl⟩, rfl⟩ rfl rfl rfl rfl rfl rfl rfl (CellAt.blk (.tail (.tail (.tail (.tail (.tail (.tail .head)))))) rfl) ?_
            refine WP.yes rfl rfl rfl ?_
            iterate 3 (refine WP.st tysOk true rfl ⟨⟨rfl, rfl⟩, rfl⟩ rfl rfl rfl rfl True.intro ?_)
            refine WP.yes rfl rfl (decide_eq_true hh3) ?_
            refine WP.st tysOk true rfl ⟨⟨rfl, rfl⟩, rfl⟩ rfl rfl rfl rfl True.intro ?_
            refine WP.yes rfl rfl rfl ?_
            refine WP.ld1 tysOk rfl ⟨⟨rfl, rfl⟩, rfl⟩ rfl rfl rfl rfl rfl rfl rfl (CellAt.blk (.tail (.tail (.tail (.tail (.tail (.tail .head)))))) rfl) ?_
            refine WP.yes rfl rfl rfl ?_
            iterate 3 (refine WP.st tysOk true rfl ⟨⟨rfl, rfl⟩, rfl⟩ rfl rfl rfl rfl True.intro ?_)
            refine WP.yes rfl rfl (decide_eq_true hh4) ?_
            refine WP.st tysOk true rfl ⟨⟨rfl, rfl⟩, rfl⟩ rfl rfl rfl rfl True.intro ?_
            refine WP.yes rfl rfl rfl ?_
            refine WP.ldm tysOk rfl ⟨⟨rfl, rfl⟩, rfl⟩ rfl rfl rfl rfl rfl rfl rfl (SegAt.blk' (.tail (.tail (.tail (.tail (.tail (.tail .head)))))) rfl) ?_
            refine WP.yes rfl rfl rfl ?_
            refine WP.bld (cs := [iv 0, iv 2, iv 0, iv 3, iv 3]) tysOk rfl ⟨⟨rfl, rfl⟩, rfl⟩ rfl rfl rfl rfl rfl rfl rfl ?_
            refine WP.yes rfl rfl rfl ?_
            refine WP.eqS rfl ⟨⟨rfl, rfl⟩, rfl⟩ rfl rfl rfl rfl rfl rfl (by kernel_rfl) (eq23 r1.1.new (Arc.mk 0 2 0 3 3)) ?_
            iterate 2 (refine WP.st tysOk true rfl ⟨⟨rfl, rfl⟩, rfl⟩ rfl rfl rfl rfl True.intro ?_)
            refine WP.yes rfl rfl (decide_eq_true hh5) ?_
            refine WP.st tysOk true rfl ⟨⟨rfl, rfl⟩, rfl⟩ rfl rfl rfl rfl True.intro ?_
            refine WP.yes rfl rfl rfl ?_
            iterate 3 (refine WP.st tysOk true rfl ⟨⟨rfl, rfl⟩, rfl⟩ rfl rfl rfl rfl True.intro ?_)
            refine WP.yes rfl rfl (decide_eq_true hh6) ?_
            refine WP.st tysOk true rfl ⟨⟨rfl, rfl⟩, rfl⟩ rfl rfl rfl rfl True.intro ?_
            refine WP.yes rfl rfl rfl ?_
            refine WP.ld1 tysOk rfl ⟨⟨rfl, rfl⟩, rfl⟩ rfl rfl rfl rfl rfl rfl rfl (CellAt.blk .head rfl) ?_
            iterate 2 (refine WP.st tysOk true rfl ⟨⟨rfl, rfl⟩, rfl⟩ rfl rfl rfl rfl True.intro ?_)
            refine WP.no rfl rfl (bfalse hh7) rfl rfl ?_
            iterate 6 (refine WP.no rfl rfl rfl rfl rfl ?_)
            refine WP.st tysOk true rfl ⟨⟨rfl, rfl⟩, rfl⟩ rfl rfl rfl rfl True.intro ?_
            refine WP.lend rfl ⟨rfl, rfl⟩ ?_
            refine WP.st tysOk true rfl True.intro rfl rfl rfl rfl True.intro ?_
            cases h
            refine WP.retR tysOk rfl rfl ⟨_, _, rfl, rfl, rfl⟩ (fun w1 hw1 => ⟨rfl, Ret.below_ hw1 (.cons (.tail (.tail (.tail (.tail (.tail (.tail (.tail (.tail (.tail (.tail .head)))))))))) .nil)⟩)
          rw [if_neg hh6] at h
          refine WP.drawL 38 [] rfl (by kernel_rfl) (by kernel_rfl) (by kernel_rfl) ?_
          iterate 2 (refine WP.st tysOk true rfl ⟨⟨rfl, rfl⟩, rfl⟩ rfl rfl rfl rfl True.intro ?_)
          refine WP.yes rfl rfl hh1 ?_
          refine WP.st tysOk true rfl ⟨⟨rfl, rfl⟩, rfl⟩ rfl rfl rfl rfl True.intro ?_
          refine WP.yes rfl rfl rfl ?_
          iterate 3 (refine WP.st tysOk true rfl ⟨⟨rfl, rfl⟩, rfl⟩ rfl rfl rfl rfl True.intro ?_)
          refine WP.yes rfl rfl (by simp [hh2]) ?_
          refine WP.st tysOk true rfl ⟨⟨rfl, rfl⟩, rfl⟩ rfl rfl rfl rfl True.intro ?_
          refine WP.yes rfl rfl rfl ?_
          refine WP.ld1 tysOk rfl ⟨⟨rfl, rfl⟩, rfl⟩ rfl rfl rfl rfl rfl rfl rfl (CellAt.blk (.tail (.tail (.tail (.tail (.tail (.tail .head)))))) rfl) ?_
          refine WP.yes rfl rfl rfl ?_
          iterate 3 (refine WP.st tysOk true rfl ⟨⟨rfl, rfl⟩, rfl⟩ rfl rfl rfl rfl True.intro ?_)
          refine WP.yes rfl rfl (decide_eq_true hh3) ?_
          refine WP.st tysOk true rfl ⟨⟨rfl, rfl⟩, rfl⟩ rfl rfl rfl rfl True.intro ?_
          refine WP.yes rfl rfl rfl ?_
          refine WP.ld1 tysOk rfl ⟨⟨rfl, rfl⟩, rfl⟩ rfl rfl rfl rfl rfl rfl rfl (CellAt.blk (.tail (.tail (.tail (.tail (.tail (.tail .head)))))) rfl) ?_
          refine WP.yes rfl rfl rfl ?_
          iterate 3 (refine WP.st tysOk true rfl ⟨⟨rfl, rfl⟩, rfl⟩ rfl rfl rfl rfl True.intro ?_)
          refine WP.yes rfl rfl (decide_eq_true hh4) ?_
          refine WP.st tysOk true rfl ⟨⟨rfl, rfl⟩, rfl⟩ rfl rfl rfl rfl True.intro ?_
          refine WP.yes rfl rfl rfl ?_
          refine WP.ldm tysOk rfl ⟨⟨rfl, rfl⟩, rfl⟩ rfl rfl rfl rfl rfl rfl rfl (SegAt.blk' (.tail (.tail (.tail (.tail (.tail (.tail .head)))))) rfl) ?_
          refine WP.yes rfl rfl rfl ?_
          refine WP.bld (cs := [iv 0, iv 2, iv 0, iv 3, iv 3]) tysOk rfl ⟨⟨rfl, rfl⟩, rfl⟩ rfl rfl rfl rfl rfl rfl rfl ?_
          refine WP.yes rfl rfl rfl ?_
          refine WP.eqS rfl ⟨⟨rfl, rfl⟩, rfl⟩ rfl rfl rfl rfl rfl rfl (by kernel_rfl) (eq23 r1.1.new (Arc.mk 0 2 0 3 3)) ?_
          iterate 2 (refine WP.st tysOk true rfl ⟨⟨rfl, rfl⟩, rfl⟩ rfl rfl rfl rfl True.intro ?_)
          refine WP.yes rfl rfl (decide_eq_true hh5) ?_
          refine WP.st tysOk true rfl ⟨⟨rfl, rfl⟩, rfl⟩ rfl rfl rfl rfl True.intro ?_
          refine WP.yes rfl rfl rfl ?_
          iterate 3 (refine WP.st tysOk true rfl ⟨⟨rfl, rfl⟩, rfl⟩ rfl rfl rfl rfl True.intro ?_)
          refine WP.no rfl rfl (decide_eq_false hh6) rfl rfl ?_
          refine WP.no rfl rfl rfl rfl rfl ?_
          iterate 2 (refine WP.st tysOk true rfl ⟨⟨rfl, rfl⟩, rfl⟩ rfl rfl rfl rfl True.intro ?_)
          iterate 7 (refine WP.no rfl rfl rfl rfl rfl ?_)
          refine WP.st tysOk true rfl ⟨⟨rfl, rfl⟩, rfl⟩ rfl rfl rfl rfl True.intro ?_
          refine WP.lend rfl ⟨rfl, rfl⟩ ?_
          refine WP.st tysOk true rfl True.intro rfl rfl rfl rfl True.intro ?_
          cases h
          refine WP.retR tysOk rfl rfl ⟨_, _, rfl, rfl, rfl⟩ (fun w1 hw1 => ⟨rfl, Ret.below_ hw1 (.cons (.tail (.tail (.tail (.tail (.tail (.tail (.tail (.tail (.tail (.tail .head)))))))))) .nil)⟩)
        rw [if_neg hh5] at h
        refine WP.drawL 38 [] rfl (by kernel_rfl) (by kernel_rfl) (by kernel_rfl) ?_
        iterate 2 (refine WP.st tysOk true rfl ⟨⟨rfl, rfl⟩, rfl⟩ rfl rfl rfl rfl True.intro ?_)
        refine WP.yes rfl rfl hh1 ?_
        refine WP.st tysOk true rfl ⟨⟨rfl, rfl⟩, rfl⟩ rfl rfl rfl rfl True.intro ?_
        refine WP.yes rfl rfl rfl ?_
        iterate 3 (refine WP.st tysOk true rfl ⟨⟨rfl, rfl⟩, rfl⟩ rfl rfl rfl rfl True.intro ?_)
        refine WP.yes rfl rfl (by simp [hh2]) ?_
        refine WP.st tysOk true rfl ⟨⟨rfl, rfl⟩, rfl⟩ rfl rfl rfl rfl True.intro ?_
        refine WP.yes rfl rfl rfl ?_
        refine WP.ld1 tysOk rfl ⟨⟨rfl, rfl⟩, rfl⟩ rfl rfl rfl rfl rfl rfl rfl (CellAt.blk (.tail (.tail (.tail (.tail (.tail (.tail .head)))))) rfl) ?_
        refine WP.yes rfl rfl rfl ?_
        iterate 3 (refine WP.st tysOk true rfl ⟨⟨rfl, rfl⟩, rfl⟩ rfl rfl rfl rfl True.intro ?_)
        refine WP.yes rfl rfl (decide_eq_true hh3) ?_
        refine WP.st tysOk true rfl ⟨⟨rfl, rfl⟩, rfl⟩ rfl rfl rfl rfl True.intro ?_
        refine WP.yes rfl rfl rfl ?_
        refine WP.ld1 tysOk rfl ⟨⟨rfl, rfl⟩, rfl⟩ rfl rfl rfl rfl rfl rfl rfl (CellAt.blk (.tail (.tail (.tail (.tail (.tail (.tail .head)))))) rfl) ?_
        refine WP.yes rfl rfl rfl ?_
        iterate 3 (refine WP.st tysOk true rfl ⟨⟨rfl, rfl⟩, rfl⟩ rfl rfl rfl rfl True.intro ?_)
        refine WP.yes rfl rfl (decide_eq_true hh4) ?_
        refine WP.st tysOk true rfl ⟨⟨rfl, rfl⟩, rfl⟩ rfl rfl rfl rfl True.intro ?_
        refine WP.yes rfl rfl rfl ?_
        refine WP.ldm tysOk rfl ⟨⟨rfl, rfl⟩, rfl⟩ rfl rfl rfl rfl rfl rfl rfl (SegAt.blk' (.tail (.tail (.tail (.tail (.tail (.tail .head)))))) rfl) ?_
        refine WP.yes rfl rfl rfl ?_
        refine WP.bld (cs := [iv 0, iv 2, iv 0, iv 3, iv 3]) tysOk rfl ⟨⟨rfl, rfl⟩, rfl⟩ rfl rfl rfl rfl rfl rfl rfl ?_
        refine WP.yes rfl rfl rfl ?_
        refine WP.eqS rfl ⟨⟨rfl, rfl⟩, rfl⟩ rfl rfl rfl rfl rfl rfl (by kernel_rfl) (eq23 r1.1.new (Arc.mk 0 2 0 3 3)) ?_
        iterate 2 (refine WP.st tysOk true rfl ⟨⟨rfl, rfl⟩, rfl⟩ rfl rfl rfl rfl True.intro ?_)
        refine WP.no rfl rfl (decide_eq_false hh5) rfl rfl ?_
        iterate 2 (refine WP.no rfl rfl rfl rfl rfl ?_; refine WP.st tysOk true rfl ⟨⟨rfl, rfl⟩, rfl⟩ rfl rfl rfl rfl True.intro ?_; refine WP.st tysOk true rfl ⟨⟨rfl, rfl⟩, rfl⟩ rfl rfl rfl rfl True.intro ?_; refine WP.no rfl rfl rfl rfl rfl ?_)
        iterate 6 (refine WP.no rfl rfl rfl rfl rfl ?_)
        refine WP.st tysOk true rfl ⟨⟨rfl, rfl⟩, rfl⟩ rfl rfl rfl rfl True.intro ?_
        refine WP.lend rfl ⟨rfl, rfl⟩ ?_
        refine WP.st tysOk true rfl True.intro rfl rfl rfl rfl True.intro ?_
        cases h
        refine WP.retR tysOk rfl rfl ⟨_, _, rfl, rfl, rfl⟩ (fun w1 hw1 => ⟨rfl, Ret.below_ hw1 (.cons (.tail (.tail (.tail (.tail (.tail (.tail (.tail (.tail (.tail (.tail .head)))))))))) .nil)⟩)
      rw [if_neg hh4] at h
      refine WP.drawL 38 [] rfl (by kernel_rfl) (by kernel_rfl) (by kernel_rfl) ?_
      iterate 2 (refine WP.st tysOk true rfl ⟨⟨rfl, rfl⟩, rfl⟩ rfl rfl rfl rfl True.intro ?_)
      refine WP.yes rfl rfl hh1 ?_
      refine WP.st tysOk true rfl ⟨⟨rfl, rfl⟩, rfl⟩ rfl rfl rfl rfl True.intro ?_
      refine WP.yes rfl rfl rfl ?_
      iterate 3 (refine WP.st tysOk true rfl ⟨⟨rfl, rfl⟩, rfl⟩ rfl rfl rfl rfl True.intro ?_)
      refine WP.yes rfl rfl (by simp [hh2]) ?_
      refine WP.st tysOk true rfl ⟨⟨rfl, rfl⟩, rfl⟩ rfl rfl rfl rfl True.intro ?_
      refine WP.yes rfl rfl rfl ?_
      refine WP.ld1 tysOk rfl ⟨⟨rfl, rfl⟩, rfl⟩ rfl rfl rfl rfl rfl rfl rfl (CellAt.blk (.tail (.tail (.tail (.tail (.tail (.tail .head)))))) rfl) ?_
      refine WP.yes rfl rfl rfl ?_
      iterate 3 (refine WP.st tysOk true rfl ⟨⟨rfl, rfl⟩, rfl⟩ rfl rfl rfl rfl True.intro ?_)
      refine WP.yes rfl rfl (decide_eq_true hh3) ?_
      refine WP.st tysOk true rfl ⟨⟨rfl, rfl⟩, rfl⟩ rfl rfl rfl rfl True.intro ?_
      refine WP.yes rfl rfl rfl ?_
      refine WP.ld1 tysOk rfl ⟨⟨rfl, rfl⟩, rfl⟩ rfl rfl rfl rfl rfl rfl rfl (CellAt.blk (.tail (.tail (.tail (.tail (.tail (.tail .head)))))) rfl) ?_
      refine WP.yes rfl rfl rfl ?_
      iterate 3 (refine WP.st tysOk true rfl ⟨⟨rfl, rfl⟩, rfl⟩ rfl rfl rfl rfl True.intro ?_)
      refine WP.no rfl rfl (decide_eq_false hh4) rfl rfl ?_
      iterate 3 (refine WP.no rfl rfl rfl rfl rfl ?_)
      iterate 3 (refine WP.st tysOk true rfl ⟨⟨rfl, rfl⟩, rfl⟩ rfl rfl rfl rfl True.intro ?_; refine WP.st tysOk true rfl ⟨⟨rfl, rfl⟩, rfl⟩ rfl rfl rfl rfl True.intro ?_; refine WP.no rfl rfl rfl rfl rfl ?_; refine WP.no rfl rfl rfl rfl rfl ?_)
      iterate 5 (refine WP.no rfl rfl rfl rfl rfl ?_)
      refine WP.st tysOk true rfl ⟨⟨rfl, rfl⟩, rfl⟩ rfl rfl rfl rfl True.intro ?_
      refine WP.lend rfl ⟨rfl, rfl⟩ ?_
      refine WP.st tysOk true rfl True.intro rfl rfl rfl rfl True.intro ?_
      cases h
      refine WP.retR tysOk rfl rfl ⟨_, _, rfl, rfl, rfl⟩ (fun w1 hw1 => ⟨rfl, Ret.below_ hw1 (.cons (.tail (.tail (.tail (.tail (.tail (.tail (.tail (.tail (.tail (.tail .head)))))))))) .nil)⟩)
    rw [if_neg hh3] at h
    refine WP.drawL 38 [] rfl (by kernel_rfl) (by kernel_rfl) (by kernel_rfl) ?_
    iterate 2 (refine WP.st tysOk true rfl ⟨⟨rfl, rfl⟩, rfl⟩ rfl rfl rfl rfl True.intro ?_)
    refine WP.yes rfl rfl hh1 ?_
    refine WP.st tysOk true rfl ⟨⟨rfl, rfl⟩, rfl⟩ rfl rfl rfl rfl True.intro ?_
    refine WP.yes rfl rfl rfl ?_
    iterate 3 (refine WP.st tysOk true rfl ⟨⟨rfl, rfl⟩, rfl⟩ rfl rfl rfl rfl True.intro ?_)
    refine WP.yes rfl rfl (by simp [hh2]) ?_
    refine WP.st tysOk true rfl ⟨⟨rfl, rfl⟩, rfl⟩ rfl rfl rfl rfl True.intro ?_
    refine WP.yes rfl rfl rfl ?_
    refine WP.ld1 tysOk rfl ⟨⟨rfl, rfl⟩, rfl⟩ rfl rfl rfl rfl rfl rfl rfl (CellAt.blk (.tail (.tail (.tail (.tail (.tail (.tail .head)))))) rfl) ?_
    refine WP.yes rfl rfl rfl ?_
    iterate 3 (refine WP.st tysOk true rfl ⟨⟨rfl, rfl⟩, rfl⟩ rfl rfl rfl rfl True.intro ?_)
    refine WP.no rfl rfl (decide_eq_false hh3) rfl rfl ?_
    iterate 2 (refine WP.no rfl rfl rfl rfl rfl ?_)
    iterate 2 (refine WP.st tysOk true rfl ⟨⟨rfl, rfl⟩, rfl⟩ rfl rfl rfl rfl True.intro ?_)
    iterate 4 (refine WP.no rfl rfl rfl rfl rfl ?_)
    iterate 3 (refine WP.st tysOk true rfl ⟨⟨rfl, rfl⟩, rfl⟩ rfl rfl rfl rfl True.intro ?_; refine WP.st tysOk true rfl ⟨⟨rfl, rfl⟩, rfl⟩ rfl rfl rfl rfl True.intro ?_; refine WP.no rfl rfl rfl rfl rfl ?_; refine WP.no rfl rfl rfl rfl rfl ?_)
    iterate 5 (refine WP.no rfl rfl rfl rfl rfl ?_)
    refine WP.st tysOk true rfl ⟨⟨rfl, rfl⟩, rfl⟩ rfl rfl rfl rfl True.intro ?_
    refine WP.lend rfl ⟨rfl, rfl⟩ ?_
    refine WP.st tysOk true rfl True.intro rfl rfl rfl rfl True.intro ?_
    cases h
    refine WP.retR tysOk rfl rfl ⟨_, _, rfl, rfl, rfl⟩ (fun w1 hw1 => ⟨rfl, Ret.below_ hw1 (.cons (.tail (.tail (.tail (.tail (.tail (.tail (.tail (.tail (.tail (.tail .head)))))))))) .nil)⟩)
  rw [if_neg hh1] at h
  refine WP.drawL 38 [] rfl (by kernel_rfl) (by kernel_rfl) (by kernel_rfl) ?_
  iterate 2 (refine WP.st tysOk true rfl ⟨⟨rfl, rfl⟩, rfl⟩ rfl rfl rfl rfl True.intro ?_)
  refine WP.no rfl rfl (bfalse hh1) rfl rfl ?_
  refine WP.no rfl rfl rfl rfl rfl ?_
  iterate 2 (refine WP.st tysOk true rfl ⟨⟨rfl, rfl⟩, rfl⟩ rfl rfl rfl rfl True.intro ?_)
  iterate 3 (refine WP.no rfl rfl rfl rfl rfl ?_)
  iterate 2 (refine WP.st tysOk true rfl ⟨⟨rfl, rfl⟩, rfl⟩ rfl rfl rfl rfl True.intro ?_)
  iterate 3 (refine WP.no rfl rfl rfl rfl rfl ?_)
  iterate 2 (refine WP.st tysOk true rfl ⟨⟨rfl, rfl⟩, rfl⟩ rfl rfl rfl rfl True.intro ?_)
  iterate 4 (refine WP.no rfl rfl rfl rfl rfl ?_)
  iterate 3 (refine WP.st tysOk true rfl ⟨⟨rfl, rfl⟩, rfl⟩ rfl rfl rfl rfl True.intro ?_; refine WP.st tysOk true rfl ⟨⟨rfl, rfl⟩, rfl⟩ rfl rfl rfl rfl True.intro ?_; refine WP.no rfl rfl rfl rfl rfl ?_; refine WP.no rfl rfl rfl rfl rfl ?_)
  iterate 5 (refine WP.no rfl rfl rfl rfl rfl ?_)
  refine WP.st tysOk true rfl ⟨⟨rfl, rfl⟩, rfl⟩ rfl rfl rfl rfl True.intro ?_
  refine WP.lend rfl ⟨rfl, rfl⟩ ?_
  refine WP.st tysOk true rfl True.intro rfl rfl rfl rfl True.intro ?_
  cases h
  refine WP.retR tysOk rfl rfl ⟨_, _, rfl, rfl, rfl⟩ (fun w1 hw1 => ⟨rfl, Ret.below_ hw1 (.cons (.tail (.tail (.tail (.tail (.tail (.tail (.tail (.tail (.tail (.tail .head)))))))))) .nil)⟩)

set_option maxRecDepth 20000 in
set_option maxHeartbeats 8000000 in
theorem law18_both_w {w : World} {v0 : Value} {i1 : Inst} {p2 : Spot} {series1 : Bool} {n1 : Int} {r : Int} (h : law18_both i1 p2 series1 n1 = some r) (p1 : InsZ (PH.of w) v0 i1) :
    Calls Try.prog 13 #[v0, .agg #[iv p2.node, iv p2.a, iv p2.b, iv p2.new.src, iv p2.new.dst, iv p2.new.low, iv p2.new.cap, iv p2.new.cost], .bool (series1), iv n1] w fun e w' => e = .returned (iv r) ∧ Below w.heap.size w w' := by
  obtain ⟨A1, c1, A2, c2, rfl, hs1, hs2⟩ := p1
  unfold law18_both at h
  refine enter_ Try.func13 rfl Try.ntmps13 rfl ?_
  refine WP.box rfl rfl rfl rfl rfl rfl ?_
  intro g1
  refine WP.box rfl rfl rfl rfl rfl rfl ?_
  intro g2
  iterate 2 (refine WP.st tysOk true rfl True.intro rfl rfl rfl rfl True.intro ?_)
  refine WP.ld1 tysOk rfl True.intro rfl rfl rfl rfl rfl rfl rfl (CellAt.blk (.tail .head) rfl) ?_
  refine WP.st tysOk true rfl True.intro rfl rfl rfl rfl True.intro ?_
  refine WP.ld1 tysOk rfl True.intro rfl rfl rfl rfl rfl rfl rfl (CellAt.blk .head rfl) ?_
  obtain ⟨hj1, h⟩ := ck_some h
  refine WP.ixA tysOk rfl True.intro rfl rfl rfl rfl rfl rfl rfl rfl hj1 (hs1.ex hj1) ?_
  intro b1 _ hA1
  refine WP.ld1 tysOk rfl True.intro rfl rfl rfl rfl rfl rfl rfl (hs1.at0 hA1 (Held.mem (List.Mem.tail _ (List.Mem.tail _ (List.Mem.head _)))) hj1 rfl) ?_
  iterate 2 (refine WP.st tysOk true rfl True.intro rfl rfl rfl rfl True.intro ?_)
  refine WP.cond rfl rfl (fun hh1 => ?_) (fun hh1 => ?_)
  · rw [if_pos hh1] at h
    iterate 4 (refine WP.st tysOk true rfl True.intro rfl rfl rfl rfl True.intro ?_)
    cases h
    refine WP.retR tysOk rfl rfl ⟨_, _, rfl, rfl, rfl⟩ (fun w1 hw1 => ⟨rfl, Ret.below_ hw1 (.cons (.tail (.tail .head)) .nil)⟩)
  rw [if_neg (bneg hh1)] at h
  refine WP.draw rfl (by kernel_rfl) (by kernel_rfl) ?_
  refine WP.st tysOk true rfl rfl rfl rfl rfl rfl True.intro ?_
  refine WP.ld1 tysOk rfl rfl rfl rfl rfl rfl rfl rfl rfl (CellAt.blk (.tail .head) rfl) ?_
  refine WP.st tysOk true rfl rfl rfl rfl rfl rfl True.intro ?_
  refine WP.ld1 tysOk rfl rfl rfl rfl rfl rfl rfl rfl rfl (CellAt.blk .head rfl) ?_
  obtain ⟨hj2, h⟩ := ck_some h
  refine WP.ixA tysOk rfl rfl rfl rfl rfl rfl rfl rfl rfl rfl hj2 (hs2.ex hj2) ?_
  intro b2 _ hA2
  refine WP.st tysOk true rfl rfl rfl rfl rfl rfl True.intro ?_
  refine WP.ld1 tysOk rfl rfl rfl rfl rfl rfl rfl rfl rfl (hs2.at hA2 (Held.mem (List.Mem.tail _ (List.Mem.tail _ (List.Mem.head _)))) hj2 1 rfl) ?_
  refine WP.st tysOk true rfl rfl rfl rfl rfl rfl True.intro ?_
  refine WP.ld1 tysOk rfl rfl rfl rfl rfl rfl rfl rfl rfl (CellAt.blk .head rfl) ?_
  refine WP.st tysOk true rfl rfl rfl rfl rfl rfl True.intro ?_
  refine WP.qend rfl ?_
  refine WP.cond_d rfl rfl (fun hh2 => ?_) (fun hh2 => ?_)
  · rw [if_pos hh2] at h
    iterate 5 (refine WP.st tysOk true rfl True.intro rfl rfl rfl rfl True.intro ?_)
    cases h
    refine WP.retR tysOk rfl rfl ⟨_, _, rfl, rfl, rfl⟩ (fun w1 hw1 => ⟨rfl, Ret.below_ hw1 (.cons (.tail (.tail .head)) .nil)⟩)
  rw [if_neg hh2] at h
  iterate 4 (refine WP.st tysOk true rfl True.intro rfl rfl rfl rfl True.intro ?_)
  cases h
  refine WP.retR tysOk rfl rfl ⟨_, _, rfl, rfl, rfl⟩ (fun w1 hw1 => ⟨rfl, Ret.below_ hw1 (.cons (.tail (.tail .head)) .nil)⟩)

set_option maxRecDepth 20000 in
set_option maxHeartbeats 8000000 in
theorem flow_fits_w {w : World} {a1 : Arc} {n1 : Int} {r : Bool} (h : flow_fits a1 n1 = some r) :
    Calls Try.prog 40 #[.agg #[iv a1.src, iv a1.dst, iv a1.low, iv a1.cap, iv a1.cost], iv n1] w fun e w' => e = .returned (.bool (r)) ∧ Below w.heap.size w w' := by
  unfold flow_fits at h
  refine enter_ Try.func40 rfl Try.ntmps40 rfl ?_
  refine WP.box rfl rfl rfl rfl rfl rfl ?_
  intro g1
  iterate 3 (refine WP.st tysOk true rfl True.intro rfl rfl rfl rfl True.intro ?_)
  refine WP.ld1 tysOk rfl True.intro rfl rfl rfl rfl rfl rfl rfl (CellAt.blk .head rfl) ?_
  iterate 2 (refine WP.st tysOk true rfl True.intro rfl rfl rfl rfl True.intro ?_)
  by_cases hh1 : a1.low ≤ n1
  · rw [if_pos hh1] at h
    refine WP.yes rfl rfl (decide_eq_true hh1) ?_
    refine WP.st tysOk true rfl True.intro rfl rfl rfl rfl True.intro ?_
    refine WP.yes rfl rfl rfl ?_
    refine WP.ld1 tysOk rfl True.intro rfl rfl rfl rfl rfl rfl rfl (CellAt.blk .head rfl) ?_
    iterate 2 (refine WP.yes rfl rfl rfl ?_; refine WP.st tysOk true rfl True.intro rfl rfl rfl rfl True.intro ?_)
    by_cases hh2 : a1.cap = 4611686018427387904
    · rw [if_pos hh2] at h
      refine WP.no rfl rfl (decide_eq_true hh2) rfl rfl ?_
      iterate 3 (refine WP.no rfl rfl rfl rfl rfl ?_)
      refine WP.yes rfl rfl rfl ?_
      iterate 3 (refine WP.st tysOk true rfl True.intro rfl rfl rfl rfl True.intro ?_)
      cases h
      refine WP.retR tysOk rfl rfl ⟨_, _, rfl, rfl, rfl⟩ (fun w1 hw1 => ⟨rfl, Ret.below_ hw1 (.cons (.tail .head) .nil)⟩)
    rw [if_neg hh2] at h
    refine WP.yes rfl rfl (decide_eq_false hh2) ?_
    iterate 2 (refine WP.st tysOk true rfl True.intro rfl rfl rfl rfl True.intro ?_; refine WP.yes rfl rfl rfl ?_)
    refine WP.ld1 tysOk rfl True.intro rfl rfl rfl rfl rfl rfl rfl (CellAt.blk .head rfl) ?_
    refine WP.yes rfl rfl rfl ?_
    refine WP.st tysOk true rfl True.intro rfl rfl rfl rfl True.intro ?_
    refine WP.yes rfl rfl rfl ?_
    iterate 3 (refine WP.st tysOk true rfl True.intro rfl rfl rfl rfl True.intro ?_)
    cases h
    refine WP.retR tysOk rfl rfl ⟨_, _, rfl, rfl, rfl⟩ (fun w1 hw1 => ⟨rfl, Ret.below_ hw1 (.cons (.tail .head) .nil)⟩)
  rw [if_neg hh1] at h
  refine WP.no rfl rfl (decide_eq_false hh1) rfl rfl ?_
  iterate 3 (refine WP.no rfl rfl rfl rfl rfl ?_)
  iterate 4 (refine WP.noU rfl rfl rfl rfl ?_)
  refine WP.no rfl rfl rfl rfl rfl ?_
  iterate 2 (refine WP.st tysOk true rfl True.intro rfl rfl rfl rfl True.intro ?_)
  cases h
  refine WP.retR tysOk rfl rfl ⟨_, _, rfl, rfl, rfl⟩ (fun w1 hw1 => ⟨rfl, Ret.below_ hw1 (.cons (.tail .head) .nil)⟩)

set_option maxRecDepth 20000 in
set_option maxHeartbeats 8000000 in
theorem flow_at_w {w : World} {v0 : Value} {x1 : List Int} {a1 : Int} {r : Int} (h : flow_at x1 a1 = some r) (p1 : SlF (fI .i64) (PH.of w) v0 x1) :
    Calls Try.prog 43 #[v0, iv a1] w fun e w' => e = .returned (iv r) ∧ Below w.heap.size w w' := by
  obtain ⟨A1, c1, rfl, hs1⟩ := p1
  unfold flow_at at h
  refine enter_ Try.func43 rfl Try.ntmps43 rfl ?_
  iterate 4 (refine WP.st tysOk true rfl True.intro rfl rfl rfl rfl True.intro ?_)
  by_cases hh1 : a1 < 0
  · rw [if_pos hh1] at h
    refine WP.no rfl rfl (decide_eq_true hh1) rfl rfl ?_
    iterate 3 (refine WP.no rfl rfl rfl rfl rfl ?_)
    refine WP.st tysOk true rfl True.intro rfl rfl rfl rfl True.intro ?_
    refine WP.condT rfl rfl ?_
    refine WP.st tysOk true rfl True.intro rfl rfl rfl rfl True.intro ?_
    cases h
    refine WP.retR tysOk rfl rfl ⟨_, _, rfl, rfl, rfl⟩ (fun w1 hw1 => ⟨rfl, Ret.below_ hw1 (.cons .head .nil)⟩)
  rw [if_neg hh1] at h
  refine WP.yes rfl rfl (decide_eq_false hh1) ?_
  iterate 3 (refine WP.st tysOk true rfl True.intro rfl rfl rfl rfl True.intro ?_; refine WP.yes rfl rfl rfl ?_)
  iterate 2 (refine WP.st tysOk true rfl True.intro rfl rfl rfl rfl True.intro ?_)
  refine WP.cond_d rfl rfl (fun hh2 => ?_) (fun hh2 => ?_)
  · rw [if_pos hh2] at h
    refine WP.st tysOk true rfl True.intro rfl rfl rfl rfl True.intro ?_
    cases h
    refine WP.retR tysOk rfl rfl ⟨_, _, rfl, rfl, rfl⟩ (fun w1 hw1 => ⟨rfl, Ret.below_ hw1 (.cons .head .nil)⟩)
  rw [if_neg hh2] at h
  iterate 2 (refine WP.st tysOk true rfl True.intro rfl rfl rfl rfl True.intro ?_)
  obtain ⟨hj1, h⟩ := ck_some h
  refine WP.ixA tysOk rfl True.intro rfl rfl rfl rfl rfl rfl rfl rfl hj1 (hs1.ex hj1) ?_
  intro b1 _ hA1
  refine WP.ld1 tysOk rfl True.intro rfl rfl rfl rfl rfl rfl rfl (hs1.at0 hA1 (Held.mem (List.Mem.head _)) hj1 rfl) ?_
  refine WP.st tysOk true rfl True.intro rfl rfl rfl rfl True.intro ?_
  cases h
  refine WP.retR tysOk rfl rfl ⟨_, _, rfl, rfl, rfl⟩ (fun w1 hw1 => ⟨rfl, Ret.below_ hw1 (.cons .head .nil)⟩)

set_option maxRecDepth 20000 in
set_option maxHeartbeats 8000000 in
theorem num_Of_w {w : World} {a1 : Int} {r : Wide} (h : num_Of a1 = some r) :
    Calls Try.prog 20 #[iv a1] w fun e w' => e = .returned (.agg #[iv r.hi, .int .u64 (r.lo)]) ∧ Below w.heap.size w w' := by
  unfold num_Of at h
  refine enter_ Try.func20 rfl Try.ntmps20 rfl ?_
  refine WP.al tysOk rfl rfl rfl rfl rfl rfl ?_
  intro g1
  refine WP.st tysOk true rfl True.intro rfl rfl rfl rfl True.intro ?_
  refine WP.st tysOk true rfl True.intro rfl rfl rfl rfl (by decide) ?_
  iterate 2 (refine WP.st tysOk true rfl True.intro rfl rfl rfl rfl True.intro ?_)
  refine WP.bld (cs := [iv (a1.fdiv (2 ^ (min (63 : Int).toNat (IntKind.bits .i64)))), .int .u64 (IntKind.wrap .u64 (a1))]) tysOk rfl True.intro rfl rfl rfl rfl rfl rfl rfl ?_
  refine WP.sto' tysOk [iv (a1.fdiv (2 ^ (min (63 : Int).toNat (IntKind.bits .i64)))), .int .u64 (IntKind.wrap .u64 (a1))] rfl rfl rfl rfl rfl rfl rfl rfl rfl .head rfl rfl ?_
  cases h
  refine WP.retR tysOk rfl rfl ⟨_, _, _, _, rfl, ⟨_, rfl, .inr ⟨rfl, _, rfl, rfl, (SegAt.blk' (z := 2) .head rfl).1⟩⟩, rfl, rfl⟩ (fun w1 hw1 => ⟨rfl, Ret.below_ hw1 (.cons (.tail .head) .nil)⟩)

set_option maxRecDepth 20000 in
set_option maxHeartbeats 8000000 in
theorem num_Plus_w {w : World} {a1 : Wide} {b1 : Wide} {r : Wide} (h : num_Plus a1 b1 = some r) :
    Calls Try.prog 25 #[.agg #[iv a1.hi, .int .u64 (a1.lo)], .agg #[iv b1.hi, .int .u64 (b1.lo)]] w fun e w' => e = .returned (.agg #[iv r.hi, .int .u64 (r.lo)]) ∧ Below w.heap.size w w' := by
  unfold num_Plus at h
  refine enter_ Try.func25 rfl Try.ntmps25 rfl ?_
  refine WP.box rfl rfl rfl rfl rfl rfl ?_
  intro g1
  refine WP.box rfl rfl rfl rfl rfl rfl ?_
  intro g2
  refine WP.al tysOk rfl rfl rfl rfl rfl rfl ?_
  intro g3
  refine WP.st tysOk true rfl True.intro rfl rfl rfl rfl True.intro ?_
  refine WP.ld1 tysOk rfl True.intro rfl rfl rfl rfl rfl rfl rfl (CellAt.blk (.tail (.tail .head)) rfl) ?_
  refine WP.st tysOk true rfl True.intro rfl rfl rfl rfl True.intro ?_
  refine WP.ld1 tysOk rfl True.intro rfl rfl rfl rfl rfl rfl rfl (CellAt.blk (.tail .head) rfl) ?_
  refine WP.ext rfl True.intro rfl rfl rfl rfl rfl rfl (fun w => add64_w _ _ _ (by decide) w) ?_
  iterate 6 (refine WP.st tysOk true rfl True.intro rfl rfl rfl rfl True.intro ?_)
  refine WP.ld1 tysOk rfl True.intro rfl rfl rfl rfl rfl rfl rfl (CellAt.blk (.tail (.tail .head)) rfl) ?_
  iterate 2 (refine WP.st tysOk true rfl True.intro rfl rfl rfl rfl True.intro ?_)
  refine WP.ld1 tysOk rfl True.intro rfl rfl rfl rfl rfl rfl rfl (CellAt.blk (.tail .head) rfl) ?_
  iterate 2 (refine WP.st tysOk true rfl True.intro rfl rfl rfl rfl True.intro ?_)
  obtain ⟨hc1, h⟩ := ck_some h
  refine WP.ext rfl True.intro rfl rfl rfl rfl rfl rfl (fun w => add64_w _ _ _ hc1 w) ?_
  iterate 3 (refine WP.st tysOk true rfl True.intro rfl rfl rfl rfl True.intro ?_)
  obtain ⟨hi1, hx1, h⟩ := lt_some h
  refine WP.st tysOk true rfl True.intro rfl rfl rfl rfl True.intro ?_
  refine WP.retell (s := 7) (.int .u64 hi1) rfl (congrArg (Value.int .u64) hx1.symm) ?_
  obtain ⟨_1, hx2, h⟩ := lt_some h
  refine WP.st tysOk true rfl True.intro rfl rfl rfl rfl True.intro ?_
  refine WP.retell (s := 8) (.int .u64 _1) rfl (congrArg (Value.int .u64) hx2.symm) ?_
  iterate 3 (refine WP.st tysOk true rfl True.intro rfl rfl rfl rfl True.intro ?_)
  refine WP.bld (cs := [iv (w64 (hi1)), .int .u64 ((add64 a1.lo b1.lo 0).1)]) tysOk rfl True.intro rfl rfl rfl rfl rfl rfl rfl ?_
  refine WP.sto' tysOk [iv (w64 (hi1)), .int .u64 ((add64 a1.lo b1.lo 0).1)] rfl rfl rfl rfl rfl rfl rfl rfl rfl .head rfl rfl ?_
  cases h
  refine WP.retR tysOk rfl rfl ⟨_, _, _, _, rfl, ⟨_, rfl, .inr ⟨rfl, _, rfl, rfl, (SegAt.blk' (z := 2) .head rfl).1⟩⟩, rfl, rfl⟩ (fun w1 hw1 => ⟨rfl, Ret.below_ hw1 (.cons (.tail (.tail (.tail .head))) .nil)⟩)

abbrev flow_sums_add_S (A1 : Option Addr) (m1 c1 : Nat) (r : (List Wide)) : Value → Heap → Prop := fun v L => v = .tuple #[] ∧ OwF A1 m1 r ∧ L = [Ow fW 43 A1 m1 c1 r]
set_option maxRecDepth 20000 in
set_option maxHeartbeats 8000000 in
theorem flow_sums_add_w {w0 w : World} {F : Heap} {Z : PH} (hZ : Held F Z) {A1 : Option Addr} {m1 c1 : Nat} {s1 : List Wide} {n1 : Int} {w1 : Wide} {r : (List Wide)} (h : flow_sums_add s1 n1 w1 = some r) (hf1 : OwF A1 m1 s1) (hw : KH w0 (Ow fW 43 A1 m1 c1 s1 :: F) w) :
    Calls Try.prog 79 #[.slice A1 m1 c1, iv n1, .agg #[iv w1.hi, .int .u64 (w1.lo)]] w fun e w' => ∃ v L, e = .returned v ∧ flow_sums_add_S A1 m1 c1 r v L ∧ KH w0 (L ++ F) w' := by
  unfold flow_sums_add at h
  refine enterH Try.func79 rfl Try.ntmps79 rfl hw ?_
  refine WP.box rfl rfl rfl rfl rfl rfl ?_
  intro g1
  obtain ⟨hj1, h⟩ := ck_some h
  obtain ⟨r1, hg1, h⟩ := bind_some h
  refine WP.drawL 9 [(7, [], fun _ => constSpec (.agg #[iv r1.hi, .int .u64 (r1.lo)]))] rfl (by kernel_rfl) (by kernel_rfl) (by kernel_rfl) ?_
  iterate 4 (refine WP.st tysOk true rfl ⟨⟨rfl, rfl⟩, rfl⟩ rfl rfl rfl rfl True.intro ?_)
  refine WP.ixO tysOk rfl ⟨⟨rfl, rfl⟩, rfl⟩ rfl rfl rfl rfl rfl rfl rfl rfl hf1 hj1 ?_
  intro b1 hA1
  refine WP.ldm tysOk rfl ⟨⟨rfl, rfl⟩, rfl⟩ rfl rfl rfl rfl rfl rfl rfl (OwS.seg (.tail .head) hA1 hj1) ?_
  refine WP.ldm tysOk rfl ⟨⟨rfl, rfl⟩, rfl⟩ rfl rfl rfl rfl rfl rfl rfl (SegAt.blk' .head rfl) ?_
  refine WP.callV rfl rfl rfl rfl rfl rfl rfl (by kernel_rfl) (fun w1 hw1 => (num_Plus_w hg1  :)) ⟨⟨rfl, rfl⟩, rfl⟩ ?_
  refine WP.ixO tysOk rfl ⟨⟨rfl, rfl⟩, rfl⟩ rfl rfl rfl rfl rfl rfl rfl rfl hf1 hj1 ?_
  intro b2 hA2
  refine WP.lend rfl ⟨rfl, rfl⟩ ?_
  obtain ⟨s2, hx1, h⟩ := lt_some h
  refine WP.stoO (f := fW) 0 r1 tysOk rfl rfl rfl rfl rfl rfl rfl rfl rfl (.tail .head) hA2 hf1 hj1 rfl rfl rfl hx1 ?_
  intro hf2
  cases h
  refine WP.end0 rfl rfl (fun w1 hw1 => ⟨_, _, rfl, ⟨rfl, hf2, rfl⟩, hw1.pick (.cons .head (Pick.skip Pick.self))⟩)

set_option maxRecDepth 20000 in
set_option maxHeartbeats 8000000 in
theorem num_Minus_w {w : World} {a1 : Wide} {b1 : Wide} {r : Wide} (h : num_Minus a1 b1 = some r) :
    Calls Try.prog 80 #[.agg #[iv a1.hi, .int .u64 (a1.lo)], .agg #[iv b1.hi, .int .u64 (b1.lo)]] w fun e w' => e = .returned (.agg #[iv r.hi, .int .u64 (r.lo)]) ∧ Below w.heap.size w w' := by
  unfold num_Minus at h
  refine enter_ Try.func80 rfl Try.ntmps80 rfl ?_
  refine WP.box rfl rfl rfl rfl rfl rfl ?_
  intro g1
  refine WP.box rfl rfl rfl rfl rfl rfl ?_
  intro g2
  refine WP.al tysOk rfl rfl rfl rfl rfl rfl ?_
  intro g3
  refine WP.st tysOk true rfl True.intro rfl rfl rfl rfl True.intro ?_
  refine WP.ld1 tysOk rfl True.intro rfl rfl rfl rfl rfl rfl rfl (CellAt.blk (.tail (.tail .head)) rfl) ?_
  refine WP.st tysOk true rfl True.intro rfl rfl rfl rfl True.intro ?_
  refine WP.ld1 tysOk rfl True.intro rfl rfl rfl rfl rfl rfl rfl (CellAt.blk (.tail .head) rfl) ?_
  refine WP.ext rfl True.intro rfl rfl rfl rfl rfl rfl (fun w => sub64_w _ _ _ (by decide) w) ?_
  iterate 6 (refine WP.st tysOk true rfl True.intro rfl rfl rfl rfl True.intro ?_)
  refine WP.ld1 tysOk rfl True.intro rfl rfl rfl rfl rfl rfl rfl (CellAt.blk (.tail (.tail .head)) rfl) ?_
  iterate 2 (refine WP.st tysOk true rfl True.intro rfl rfl rfl rfl True.intro ?_)
  refine WP.ld1 tysOk rfl True.intro rfl rfl rfl rfl rfl rfl rfl (CellAt.blk (.tail .head) rfl) ?_
  iterate 2 (refine WP.st tysOk true rfl True.intro rfl rfl rfl rfl True.intro ?_)
  obtain ⟨hc1, h⟩ := ck_some h
  refine WP.ext rfl True.intro rfl rfl rfl rfl rfl rfl (fun w => sub64_w _ _ _ hc1 w) ?_
  iterate 3 (refine WP.st tysOk true rfl True.intro rfl rfl rfl rfl True.intro ?_)
  obtain ⟨hi1, hx1, h⟩ := lt_some h
  refine WP.st tysOk true rfl True.intro rfl rfl rfl rfl True.intro ?_
  refine WP.retell (s := 7) (.int .u64 hi1) rfl (congrArg (Value.int .u64) hx1.symm) ?_
  obtain ⟨_1, hx2, h⟩ := lt_some h
  refine WP.st tysOk true rfl True.intro rfl rfl rfl rfl True.intro ?_
  refine WP.retell (s := 8) (.int .u64 _1) rfl (congrArg (Value.int .u64) hx2.symm) ?_
  iterate 3 (refine WP.st tysOk true rfl True.intro rfl rfl rfl rfl True.intro ?_)
  refine WP.bld (cs := [iv (w64 (hi1)), .int .u64 ((sub64 a1.lo b1.lo 0).1)]) tysOk rfl True.intro rfl rfl rfl rfl rfl rfl rfl ?_
  refine WP.sto' tysOk [iv (w64 (hi1)), .int .u64 ((sub64 a1.lo b1.lo 0).1)] rfl rfl rfl rfl rfl rfl rfl rfl rfl .head rfl rfl ?_
  cases h
  refine WP.retR tysOk rfl rfl ⟨_, _, _, _, rfl, ⟨_, rfl, .inr ⟨rfl, _, rfl, rfl, (SegAt.blk' (z := 2) .head rfl).1⟩⟩, rfl, rfl⟩ (fun w1 hw1 => ⟨rfl, Ret.below_ hw1 (.cons (.tail (.tail (.tail .head))) .nil)⟩)

abbrev flow_book_put_S (A1 : Option Addr) (m1 c1 : Nat) (r : (List Wide)) : Value → Heap → Prop := fun v L => v = .tuple #[] ∧ OwF A1 m1 r ∧ L = [Ow fW 43 A1 m1 c1 r]
set_option maxRecDepth 20000 in
set_option maxHeartbeats 8000000 in
theorem flow_book_put_w {w0 w : World} {F : Heap} {Z : PH} (hZ : Held F Z) {A1 : Option Addr} {m1 c1 : Nat} {v0 : Value} {x1 : List Wide} {x2 : Inst} {a1 : Int} {n1 : Int} {r : (List Wide)} (h : flow_book_put x1 x2 a1 n1 = some r) (hf1 : OwF A1 m1 x1) (p1 : GraphZ Z v0 x2) (hw : KH w0 (Ow fW 43 A1 m1 c1 x1 :: F) w) :
    Calls Try.prog 61 #[.agg #[.slice A1 m1 c1, v0], iv a1, iv n1] w fun e w' => ∃ v L, e = .returned v ∧ flow_book_put_S A1 m1 c1 r v L ∧ KH w0 (L ++ F) w' := by
  obtain ⟨gg1, rfl⟩ := p1.ptr'
  unfold flow_book_put at h
  refine enterH Try.func61 rfl Try.ntmps61 rfl hw ?_
  refine WP.box rfl rfl rfl rfl rfl rfl ?_
  intro g1
  refine WP.st tysOk true rfl True.intro rfl rfl rfl rfl True.intro ?_
  refine WP.ld1 tysOk rfl True.intro rfl rfl rfl rfl rfl rfl rfl (CellAt.blk .head rfl) ?_
  refine WP.st tysOk true rfl True.intro rfl rfl rfl rfl True.intro ?_
  obtain ⟨r1, hg1, h⟩ := bind_some h
  refine WP.callV rfl rfl rfl rfl rfl rfl rfl (by kernel_rfl) (fun w1 hw1 => (adj_Graph_Arc_w hg1 (p1.le ((Held.cons (Held.cons hZ)) _ _ hw1)) :)) True.intro ?_
  iterate 3 (refine WP.st tysOk true rfl True.intro rfl rfl rfl rfl True.intro ?_)
  refine WP.al tysOk rfl rfl rfl rfl rfl rfl ?_
  intro g2
  refine WP.sto' tysOk [iv r1.1.src, iv r1.1.dst, iv r1.1.low, iv r1.1.cap, iv r1.1.cost] rfl rfl rfl rfl rfl rfl rfl rfl rfl .head rfl rfl ?_
  iterate 2 (refine WP.st tysOk true rfl True.intro rfl rfl rfl rfl True.intro ?_)
  refine WP.cond rfl rfl (fun hh1 => ?_) (fun hh1 => ?_)
  · rw [if_pos hh1] at h
    obtain ⟨r2, hg2, h⟩ := bind_some h
    refine WP.drawL 6 [(5, [], fun _ => constSpec (.agg #[iv r2.hi, .int .u64 (r2.lo)]))] rfl (by kernel_rfl) (by kernel_rfl) (by kernel_rfl) ?_
    refine WP.st tysOk true rfl ⟨⟨rfl, rfl⟩, rfl⟩ rfl rfl rfl rfl True.intro ?_
    refine WP.ld1 tysOk rfl ⟨⟨rfl, rfl⟩, rfl⟩ rfl rfl rfl rfl rfl rfl rfl (CellAt.blk (.tail .head) rfl) ?_
    refine WP.st tysOk true rfl ⟨⟨rfl, rfl⟩, rfl⟩ rfl rfl rfl rfl True.intro ?_
    refine WP.ld1 tysOk rfl ⟨⟨rfl, rfl⟩, rfl⟩ rfl rfl rfl rfl rfl rfl rfl (CellAt.blk .head rfl) ?_
    refine WP.st tysOk true rfl ⟨⟨rfl, rfl⟩, rfl⟩ rfl rfl rfl rfl True.intro ?_
    refine WP.callV rfl rfl rfl rfl rfl rfl rfl (by kernel_rfl) (fun w1 hw1 => (num_Of_w hg2  :)) ⟨⟨rfl, rfl⟩, rfl⟩ ?_
    refine WP.lend rfl ⟨rfl, rfl⟩ ?_
    obtain ⟨r3, hg3, h⟩ := bind_some h
    refine WP.callT (.blk g2 23 [iv r1.1.src, iv r1.1.dst, iv r1.1.low, iv r1.1.cap, iv r1.1.cost] :: .blk g1 111 [.slice A1 m1 c1, .pointer (some ⟨gg1, 0, none⟩)] :: F) (flow_sums_add_S A1 m1 c1 r3) rfl rfl rfl rfl rfl rfl rfl (by kernel_rfl) (fun w1 hw1 => (flow_sums_add_w (F := (.blk g2 23 [iv r1.1.src, iv r1.1.dst, iv r1.1.low, iv r1.1.cap, iv r1.1.cost] :: .blk g1 111 [.slice A1 m1 c1, .pointer (some ⟨gg1, 0, none⟩)] :: F)) Held.none_ hg3 hf1 (hw1.pick (.cons (.tail (.tail .head)) (.cons .head (.cons .head Pick.self)))) :)) ?_
    rintro _ _ ⟨rfl, hf2, rfl⟩
    obtain ⟨r4, hg4, h⟩ := bind_some h
    obtain ⟨r5, hg5, h⟩ := bind_some h
    refine WP.drawL 8 [(6, [], fun _ => constSpec (.agg #[iv r4.hi, .int .u64 (r4.lo)])), (7, [], fun _ => constSpec (.agg #[iv r5.hi, .int .u64 (r5.lo)]))] rfl (by kernel_rfl) (by kernel_rfl) (by kernel_rfl) ?_
    refine WP.st tysOk true rfl ⟨⟨rfl, rfl⟩, rfl⟩ rfl rfl rfl rfl True.intro ?_
    refine WP.ld1 tysOk rfl ⟨⟨rfl, rfl⟩, rfl⟩ rfl rfl rfl rfl rfl rfl rfl (CellAt.blk (.tail (.tail .head)) rfl) ?_
    refine WP.st tysOk true rfl ⟨⟨rfl, rfl⟩, rfl⟩ rfl rfl rfl rfl True.intro ?_
    refine WP.ld1 tysOk rfl ⟨⟨rfl, rfl⟩, rfl⟩ rfl rfl rfl rfl rfl rfl rfl (CellAt.blk (.tail .head) rfl) ?_
    refine WP.bld (cs := [iv 0, .int .u64 (0)]) tysOk rfl ⟨⟨rfl, rfl⟩, rfl⟩ rfl rfl rfl rfl rfl rfl rfl ?_
    refine WP.st tysOk true rfl ⟨⟨rfl, rfl⟩, rfl⟩ rfl rfl rfl rfl True.intro ?_
    refine WP.callV rfl rfl rfl rfl rfl rfl rfl (by kernel_rfl) (fun w1 hw1 => (num_Of_w hg4  :)) ⟨⟨rfl, rfl⟩, rfl⟩ ?_
    refine WP.callV rfl rfl rfl rfl rfl rfl rfl (by kernel_rfl) (fun w1 hw1 => (num_Minus_w hg5  :)) ⟨⟨rfl, rfl⟩, rfl⟩ ?_
    refine WP.lend rfl ⟨rfl, rfl⟩ ?_
    obtain ⟨r6, hg6, h⟩ := bind_some h
    refine WP.callT (.blk g2 23 [iv r1.1.src, iv r1.1.dst, iv r1.1.low, iv r1.1.cap, iv r1.1.cost] :: .blk g1 111 [.slice A1 m1 c1, .pointer (some ⟨gg1, 0, none⟩)] :: F) (flow_sums_add_S A1 m1 c1 r6) rfl rfl rfl rfl rfl rfl rfl (by kernel_rfl) (fun w1 hw1 => (flow_sums_add_w (F := (.blk g2 23 [iv r1.1.src, iv r1.1.dst, iv r1.1.low, iv r1.1.cap, iv r1.1.cost] :: .blk g1 111 [.slice A1 m1 c1, .pointer (some ⟨gg1, 0, none⟩)] :: F)) Held.none_ hg6 hf2 (hw1.pick (.cons .head (.cons .head (.cons .head Pick.self)))) :)) ?_
    rintro _ _ ⟨rfl, hf3, rfl⟩
    cases h
    refine WP.end0 rfl rfl (fun w1 hw1 => ⟨_, _, rfl, ⟨rfl, hf3, rfl⟩, hw1.pick (.cons .head (Pick.skip (Pick.skip Pick.self)))⟩)
  rw [if_neg (bneg hh1)] at h
  cases h
  refine WP.end0 rfl rfl (fun w1 hw1 => ⟨_, _, rfl, ⟨rfl, hf1, rfl⟩, hw1.pick (.cons (.tail (.tail .head)) (Pick.skip (Pick.skip Pick.self)))⟩)

abbrev flow_Net_S (r : (List Wide)) : Value → Heap → Prop := fun v L => ∃ (A1 : Option Addr) (n1 c1 : Nat), v = .slice A1 n1 c1 ∧ OwF A1 n1 r ∧ L = [Ow fW 43 A1 n1 c1 r]
set_option maxRecDepth 20000 in
set_option maxHeartbeats 8000000 in
theorem flow_Net_w {w : World} {v0 : Value} {v1 : Value} {i1 : Inst} {x1 : List Int} {r : (List Wide)} (h : flow_Net i1 x1 = some r) (p1 : InsZ (PH.of w) v0 i1) (p2 : SlF (fI .i64) (PH.of w) v1 x1) :
    Calls Try.prog 41 #[v0, v1] w fun e w' => ∃ v L, e = .returned v ∧ flow_Net_S r v L ∧ Ret w w' L := by
  obtain ⟨A1, c1, A2, c2, rfl, hs1, hs2⟩ := p1
  obtain ⟨A3, c3, rfl, hs3⟩ := p2
  unfold flow_Net at h
  refine enter_ Try.func41 rfl Try.ntmps41 rfl ?_
  refine WP.box rfl rfl rfl rfl rfl rfl ?_
  intro g1
  refine WP.st tysOk true rfl True.intro rfl rfl rfl rfl True.intro ?_
  obtain ⟨hm1, h⟩ := ck_some h
  obtain ⟨r1, hg1, h⟩ := bind_some h
  refine WP.drawL 8 [(3, [], fun _ => mkSpecZ 43 (i1.supply.length : Int).toNat [iv 0, .int .u64 (0)]), (5, [], fun _ => adj_New_S r1), (7, [], fun _ => blkSpec 111 [.slice none 0 0, .pointer none])] rfl (by kernel_rfl) (by kernel_rfl) (by kernel_rfl) ?_
  refine WP.st tysOk true rfl ⟨⟨rfl, rfl⟩, rfl⟩ rfl rfl rfl rfl True.intro ?_
  refine WP.ld1 tysOk rfl ⟨⟨rfl, rfl⟩, rfl⟩ rfl rfl rfl rfl rfl rfl rfl (CellAt.blk .head rfl) ?_
  refine WP.st tysOk true rfl ⟨⟨rfl, rfl⟩, rfl⟩ rfl rfl rfl rfl True.intro ?_
  refine WP.lmZ [iv 0, .int .u64 (0)] tysOk rfl ⟨rfl, rfl⟩ rfl rfl rfl rfl rfl rfl rfl rfl rfl rfl rfl rfl hm1 ?_
  intro g2
  refine WP.ldm tysOk rfl ⟨⟨rfl, rfl⟩, rfl⟩ rfl rfl rfl rfl rfl rfl rfl (SegAt.blk' .head rfl) ?_
  refine WP.lcall rfl ⟨rfl, rfl⟩ rfl rfl rfl rfl rfl rfl rfl (by kernel_rfl) (fun w1 hw1 => (adj_New_w hg1 (InsZ.mk_ ((hs1.le' ((Held.mem (List.Mem.tail _ (List.Mem.head _))) _ _ hw1)).of) ((hs2.le' ((Held.mem (List.Mem.tail _ (List.Mem.head _))) _ _ hw1)).of)) :)) ?_
  rintro vg1 _ ⟨Zn1, hgr1, rfl⟩
  obtain ⟨gg1, rfl⟩ := hgr1.ptr'
  refine WP.bld (cs := [.slice (some ⟨g2, 0, none⟩) ((i1.supply.length : Int).toNat) ((i1.supply.length : Int).toNat), .pointer (some ⟨gg1, 0, none⟩)]) tysOk rfl ⟨⟨rfl, rfl⟩, rfl⟩ rfl rfl rfl rfl rfl rfl rfl ?_
  refine WP.lal tysOk rfl ⟨rfl, rfl⟩ rfl rfl rfl rfl rfl rfl rfl ?_
  intro g3
  refine WP.lend rfl ⟨rfl, rfl⟩ ?_
  refine WP.shutZ (f := fW) (Wide.mk 0 0) (.tail (.tail .head)) hm1 ?_
  intro hf1
  refine WP.sto' tysOk [.slice (some ⟨g2, 0, none⟩) ((i1.supply.length : Int).toNat) ((i1.supply.length : Int).toNat), .pointer (some ⟨gg1, 0, none⟩)] rfl rfl rfl rfl rfl rfl rfl rfl rfl (.tail .head) rfl rfl ?_
  refine WP.st tysOk true rfl True.intro rfl rfl rfl rfl True.intro ?_
  refine WP.ld1 tysOk rfl True.intro rfl rfl rfl rfl rfl rfl rfl (CellAt.blk (.tail (.tail (.tail .head))) rfl) ?_
  iterate 2 (refine WP.st tysOk true rfl True.intro rfl rfl rfl rfl True.intro ?_)
  refine WP.loop (α := Nat × Int × (List Wide) × (Option Addr) × Nat × Nat) (fun x => lp (flow_Net_b1 i1 x1 r1) x.1 (x.2.1, x.2.2.1) = some r ∧ OwF x.2.2.2.1 x.2.2.2.2.1 x.2.2.1) (fun x => [(1, .slice A3 x1.length c3), (5, .pointer (some ⟨g3, 0, none⟩)), (16, iv (i1.arcs.length : Int)), (17, iv x.2.1)]) (fun x => [.blk g3 111 [.slice x.2.2.2.1 x.2.2.2.2.1 x.2.2.2.2.2, .pointer (some ⟨gg1, 0, none⟩)], Ow fW 43 x.2.2.2.1 x.2.2.2.2.1 x.2.2.2.2.2 x.2.2.1, .fz Zn1, .fz (PH.of w)]) (fun x => x.1) rfl (big, 0, (List.replicate (i1.supply.length : Int).toNat (Wide.mk 0 0)), (some ⟨g2, 0, none⟩), (i1.supply.length : Int).toNat, (i1.supply.length : Int).toNat) ⟨h, hf1⟩ ?_ ?_ ?_
  · repeat (first | exact True.intro | refine And.intro rfl ?_)
  · exact (.cons .head (.cons .head (.cons .head (.cons (.tail .head) .nil))))
  rintro ⟨n1, s3, xs2, A5, m2, c5⟩ ⟨h, hf6⟩
  dsimp only at h hf6 ⊢
  rcases n1 with _ | n1
  · exact (lp_no h).elim
  replace h := lp_succ h
  unfold flow_Net_b1 at h
  try dsimp only at h
  refine WP.st tysOk true rfl True.intro rfl rfl rfl rfl True.intro ?_
  refine WP.cond_d rfl rfl (fun hh4 => ?_) (fun hh4 => ?_)
  · rw [if_pos hh4] at h
    iterate 2 (refine WP.st tysOk true rfl True.intro rfl rfl rfl rfl True.intro ?_)
    obtain ⟨r8, hg8, h⟩ := bind_some h
    refine WP.drawL 5 [(4, [], fun _ => constSpec (iv r8))] rfl (by kernel_rfl) (by kernel_rfl) (by kernel_rfl) ?_
    refine WP.ldm tysOk rfl ⟨⟨rfl, rfl⟩, rfl⟩ rfl rfl rfl rfl rfl rfl rfl (SegAt.blk' .head rfl) ?_
    iterate 3 (refine WP.st tysOk true rfl ⟨⟨rfl, rfl⟩, rfl⟩ rfl rfl rfl rfl True.intro ?_)
    refine WP.callV rfl rfl rfl rfl rfl rfl rfl (by kernel_rfl) (fun w1 hw1 => (flow_at_w hg8 (hs3.le' ((Held.mem (List.Mem.tail _ (List.Mem.tail _ (List.Mem.tail _ (List.Mem.head _))))) _ _ hw1)).of :)) ⟨⟨rfl, rfl⟩, rfl⟩ ?_
    refine WP.lend rfl ⟨rfl, rfl⟩ ?_
    obtain ⟨r9, hg9, h⟩ := bind_some h
    refine WP.callT [.blk g3 111 [.slice A5 m2 c5, .pointer (some ⟨gg1, 0, none⟩)], .fz Zn1, .fz (PH.of w)] (flow_book_put_S A5 m2 c5 r9) rfl rfl rfl rfl rfl rfl rfl (by kernel_rfl) (fun w1 hw1 => (flow_book_put_w (F := [.blk g3 111 [.slice A5 m2 c5, .pointer (some ⟨gg1, 0, none⟩)], .fz Zn1, .fz (PH.of w)]) (Held.mem (List.Mem.tail _ (List.Mem.head _))) hg9 hf6 hgr1 (hw1.pick (.cons (.tail .head) (.cons .head (.cons .head (.cons .head .nil))))) :)) ?_
    rintro _ _ ⟨rfl, hf7, rfl⟩
    iterate 2 (refine WP.st tysOk true rfl True.intro rfl rfl rfl rfl True.intro ?_)
    refine WP.stop rfl (n1, w64 (s3 + 1), r9, A5, m2, c5) ⟨⟨h, hf7⟩, Nat.lt_succ_self _⟩ ?_ ?_
    · repeat (first | exact True.intro | refine And.intro rfl ?_)
    exact (.cons (.tail .head) (.cons .head (.cons .head (.cons .head .nil))))
  rw [if_neg hh4] at h
  refine WP.st tysOk true rfl True.intro rfl rfl rfl rfl True.intro ?_
  refine WP.ld1 tysOk rfl True.intro rfl rfl rfl rfl rfl rfl rfl (CellAt.blk .head rfl) ?_
  refine WP.st tysOk true rfl True.intro rfl rfl rfl rfl True.intro ?_
  cases h
  refine WP.retR tysOk rfl rfl ⟨_, _, rfl, rfl, rfl⟩ (fun w1 hw1 => ⟨_, _, rfl, ⟨A5, m2, c5, rfl, hf6, rfl⟩, Ret.of_KH hw1 (.cons (.tail .head) (.cons (.tail (.tail .head)) .nil))⟩)

set_option maxRecDepth 20000 in
set_option maxHeartbeats 8000000 in
theorem flow_Fits_w {w : World} {v0 : Value} {v1 : Value} {i1 : Inst} {x1 : List Int} {r : Int} (h : flow_Fits i1 x1 = some r) (p1 : InsZ (PH.of w) v0 i1) (p2 : SlF (fI .i64) (PH.of w) v1 x1) :
    Calls Try.prog 23 #[v0, v1] w fun e w' => e = .returned (.int .u16 (r)) ∧ Below w.heap.size w w' := by
  obtain ⟨A1, c1, A2, c2, rfl, hs1, hs2⟩ := p1
  obtain ⟨A3, c3, rfl, hs3⟩ := p2
  unfold flow_Fits at h
  refine enter_ Try.func23 rfl Try.ntmps23 rfl ?_
  refine WP.box rfl rfl rfl rfl rfl rfl ?_
  intro g1
  refine WP.st tysOk true rfl True.intro rfl rfl rfl rfl True.intro ?_
  refine WP.ldm tysOk rfl True.intro rfl rfl rfl rfl rfl rfl rfl (SegAt.blk' .head rfl) ?_
  obtain ⟨r1, hg1, h⟩ := bind_some h
  refine WP.callV rfl rfl rfl rfl rfl rfl rfl (by kernel_rfl) (fun w1 hw1 => (inst_Right_w hg1 (InsZ.mk_ ((hs1.le' ((Held.mem (List.Mem.tail _ (List.Mem.head _))) _ _ hw1)).of) ((hs2.le' ((Held.mem (List.Mem.tail _ (List.Mem.head _))) _ _ hw1)).of)) :)) True.intro ?_
  iterate 3 (refine WP.st tysOk true rfl True.intro rfl rfl rfl rfl True.intro ?_)
  refine WP.cond_d rfl rfl (fun hh1 => ?_) (fun hh1 => ?_)
  · rw [if_pos hh1] at h
    iterate 2 (refine WP.st tysOk true rfl True.intro rfl rfl rfl rfl True.intro ?_)
    cases h
    refine WP.retR tysOk rfl rfl ⟨_, _, rfl, rfl, rfl⟩ (fun w1 hw1 => ⟨rfl, Ret.below_ hw1 (.cons (.tail .head) .nil)⟩)
  rw [if_neg hh1] at h
  iterate 3 (refine WP.st tysOk true rfl True.intro rfl rfl rfl rfl True.intro ?_)
  refine WP.ld1 tysOk rfl True.intro rfl rfl rfl rfl rfl rfl rfl (CellAt.blk .head rfl) ?_
  iterate 2 (refine WP.st tysOk true rfl True.intro rfl rfl rfl rfl True.intro ?_)
  refine WP.cond_d rfl rfl (fun hh2 => ?_) (fun hh2 => ?_)
  · rw [if_pos hh2] at h
    refine WP.st tysOk true rfl True.intro rfl rfl rfl rfl True.intro ?_
    cases h
    refine WP.retR tysOk rfl rfl ⟨_, _, rfl, rfl, rfl⟩ (fun w1 hw1 => ⟨rfl, Ret.below_ hw1 (.cons (.tail .head) .nil)⟩)
  rw [if_neg hh2] at h
  iterate 3 (refine WP.st tysOk true rfl True.intro rfl rfl rfl rfl True.intro ?_)
  refine WP.loop (α := Nat × Int) (fun x => lp (flow_Fits_b1 i1 x1) x.1 x.2 = some r) (fun x => [(1, .slice A3 x1.length c3), (2, .pointer (some ⟨g1, 0, none⟩)), (21, .slice A3 x1.length c3), (22, iv (x1.length : Int)), (23, iv x.2)]) (fun x => [.blk g1 27 [.slice A1 i1.supply.length c1, .slice A2 i1.arcs.length c2], .fz (PH.of w)]) (fun x => x.1) rfl (big, 0) h ?_ ?_ ?_
  · repeat (first | exact True.intro | refine And.intro rfl ?_)
  · exact (.cons .head (.cons .head .nil))
  rintro ⟨n5, s6⟩ h
  dsimp only at h ⊢
  rcases n5 with _ | n5
  · exact (lp_no h).elim
  replace h := lp_succ h
  unfold flow_Fits_b1 at h
  try dsimp only at h
  refine WP.st tysOk true rfl True.intro rfl rfl rfl rfl True.intro ?_
  refine WP.cond_d rfl rfl (fun hh19 => ?_) (fun hh19 => ?_)
  · rw [if_pos hh19] at h
    refine WP.st tysOk true rfl True.intro rfl rfl rfl rfl True.intro ?_
    obtain ⟨hj17, h⟩ := ck_some h
    refine WP.ixA tysOk rfl True.intro rfl rfl rfl rfl rfl rfl rfl rfl hj17 (hs3.ex hj17) ?_
    intro b17 _ hA17
    refine WP.ld1 tysOk rfl True.intro rfl rfl rfl rfl rfl rfl rfl (hs3.at0 hA17 (Held.mem (List.Mem.tail _ (List.Mem.head _))) hj17 rfl) ?_
    iterate 3 (refine WP.st tysOk true rfl True.intro rfl rfl rfl rfl True.intro ?_)
    refine WP.ld1 tysOk rfl True.intro rfl rfl rfl rfl rfl rfl rfl (CellAt.blk .head rfl) ?_
    refine WP.st tysOk true rfl True.intro rfl rfl rfl rfl True.intro ?_
    obtain ⟨hj18, h⟩ := ck_some h
    refine WP.ixA tysOk rfl True.intro rfl rfl rfl rfl rfl rfl rfl rfl hj18 (hs2.ex hj18) ?_
    intro b18 _ hA18
    refine WP.ldm tysOk rfl True.intro rfl rfl rfl rfl rfl rfl rfl (hs2.seg hA18 (Held.mem (List.Mem.tail _ (List.Mem.head _))) hj18) ?_
    refine WP.st tysOk true rfl True.intro rfl rfl rfl rfl True.intro ?_
    obtain ⟨r12, hg12, h⟩ := bind_some h
    refine WP.callV rfl rfl rfl rfl rfl rfl rfl (by kernel_rfl) (fun w1 hw1 => (flow_fits_w hg12  :)) True.intro ?_
    refine WP.st tysOk true rfl True.intro rfl rfl rfl rfl True.intro ?_
    refine WP.cond_n rfl rfl (fun hh20 => ?_) (fun hh20 => ?_)
    · rw [if_neg (bneg hh20)] at h
      refine WP.st tysOk true rfl True.intro rfl rfl rfl rfl True.intro ?_
      cases h
      refine WP.retR tysOk rfl rfl ⟨_, _, rfl, rfl, rfl⟩ (fun w1 hw1 => ⟨rfl, Ret.below_ hw1 (.cons (.tail .head) .nil)⟩)
    rw [if_pos hh20] at h
    iterate 2 (refine WP.st tysOk true rfl True.intro rfl rfl rfl rfl True.intro ?_)
    refine WP.stop rfl (n5, w64 (s6 + 1)) ⟨h, Nat.lt_succ_self _⟩ ?_ ?_
    · repeat (first | exact True.intro | refine And.intro rfl ?_)
    exact (.cons .head (.cons .head .nil))
  rw [if_neg hh19] at h
  refine WP.ldm tysOk rfl True.intro rfl rfl rfl rfl rfl rfl rfl (SegAt.blk' .head rfl) ?_
  refine WP.st tysOk true rfl True.intro rfl rfl rfl rfl True.intro ?_
  obtain ⟨r13, hg13, h⟩ := bind_some h
  refine WP.callS (flow_Net_S r13) rfl rfl rfl rfl rfl rfl rfl (by kernel_rfl) (fun w1 hw1 => (flow_Net_w hg13 (InsZ.mk_ ((hs1.le' ((Held.mem (List.Mem.tail _ (List.Mem.head _))) _ _ hw1)).of) ((hs2.le' ((Held.mem (List.Mem.tail _ (List.Mem.head _))) _ _ hw1)).of)) (hs3.le' ((Held.mem (List.Mem.tail _ (List.Mem.head _))) _ _ hw1)).of :)) ?_
  rintro _ _ ⟨A6, n6, c6, rfl, hf3, rfl⟩
  refine WP.lenO (xs := r13) tysOk rfl True.intro rfl rfl rfl rfl rfl rfl hf3 ?_
  refine WP.st tysOk true rfl True.intro rfl rfl rfl rfl True.intro ?_
  refine WP.loop (α := Nat × Int) (fun x => lp (flow_Fits_b2 i1 r13) x.1 x.2 = some r) (fun x => [(2, .pointer (some ⟨g1, 0, none⟩)), (39, .slice A6 n6 c6), (40, iv (r13.length : Int)), (41, iv x.2)]) (fun x => [Ow fW 43 A6 n6 c6 r13, .blk g1 27 [.slice A1 i1.supply.length c1, .slice A2 i1.arcs.length c2], .fz (PH.of w)]) (fun x => x.1) rfl (big, 0) h ?_ ?_ ?_
  · repeat (first | exact True.intro | refine And.intro rfl ?_)
  · exact (.cons .head (.cons .head (.cons .head .nil)))
  rintro ⟨n7, s8⟩ h
  dsimp only at h ⊢
  rcases n7 with _ | n7
  · exact (lp_no h).elim
  replace h := lp_succ h
  unfold flow_Fits_b2 at h
  try dsimp only at h
  refine WP.st tysOk true rfl True.intro rfl rfl rfl rfl True.intro ?_
  refine WP.cond_d rfl rfl (fun hh25 => ?_) (fun hh25 => ?_)
  · rw [if_pos hh25] at h
    refine WP.st tysOk true rfl True.intro rfl rfl rfl rfl True.intro ?_
    obtain ⟨hj23, h⟩ := ck_some h
    refine WP.ixO tysOk rfl True.intro rfl rfl rfl rfl rfl rfl rfl rfl hf3 hj23 ?_
    intro b23 hA23
    refine WP.ldm tysOk rfl True.intro rfl rfl rfl rfl rfl rfl rfl (OwS.seg .head hA23 hj23) ?_
    refine WP.al tysOk rfl rfl rfl rfl rfl rfl ?_
    intro g10
    refine WP.st tysOk true rfl True.intro rfl rfl rfl rfl True.intro ?_
    refine WP.sto' tysOk [iv ((gt r13 s8).hi), .int .u64 ((gt r13 s8).lo)] rfl rfl rfl rfl rfl rfl rfl rfl rfl .head rfl rfl ?_
    refine WP.draw rfl (by kernel_rfl) (by kernel_rfl) ?_
    refine WP.ldm tysOk rfl rfl rfl rfl rfl rfl rfl rfl rfl (SegAt.blk' .head rfl) ?_
    refine WP.st tysOk true rfl rfl rfl rfl rfl rfl True.intro ?_
    refine WP.ld1 tysOk rfl rfl rfl rfl rfl rfl rfl rfl rfl (CellAt.blk (.tail (.tail .head)) rfl) ?_
    refine WP.st tysOk true rfl rfl rfl rfl rfl rfl True.intro ?_
    obtain ⟨hj24, h⟩ := ck_some h
    refine WP.ixA tysOk rfl rfl rfl rfl rfl rfl rfl rfl rfl rfl hj24 (hs1.ex hj24) ?_
    intro b24 _ hA24
    refine WP.ld1 tysOk rfl rfl rfl rfl rfl rfl rfl rfl rfl (hs1.at0 hA24 (Held.mem (List.Mem.tail _ (List.Mem.tail _ (List.Mem.tail _ (List.Mem.head _))))) hj24 rfl) ?_
    obtain ⟨r16, hg16, h⟩ := bind_some h
    refine WP.callV rfl rfl rfl rfl rfl rfl rfl (by kernel_rfl) (fun w1 hw1 => (num_Of_w hg16  :)) rfl ?_
    refine WP.neS rfl rfl rfl rfl rfl rfl rfl rfl (by kernel_rfl) (eq43 (gt r13 s8) r16) ?_
    refine WP.qend rfl ?_
    refine WP.cond_nd rfl rfl (fun hh26 => ?_) (fun hh26 => ?_)
    · rw [if_neg hh26] at h
      refine WP.st tysOk true rfl True.intro rfl rfl rfl rfl True.intro ?_
      cases h
      refine WP.retR tysOk rfl rfl ⟨_, _, rfl, rfl, rfl⟩ (fun w1 hw1 => ⟨rfl, Ret.below_ hw1 (.cons (.tail (.tail (.tail .head))) .nil)⟩)
    rw [if_pos hh26] at h
    iterate 2 (refine WP.st tysOk true rfl True.intro rfl rfl rfl rfl True.intro ?_)
    refine WP.stop rfl (n7, w64 (s8 + 1)) ⟨h, Nat.lt_succ_self _⟩ ?_ ?_
    · repeat (first | exact True.intro | refine And.intro rfl ?_)
    exact (.cons (.tail .head) (.cons (.tail .head) (.cons (.tail .head) .nil)))
  rw [if_neg hh25] at h
  refine WP.st tysOk true rfl True.intro rfl rfl rfl rfl True.intro ?_
  cases h
  refine WP.retR tysOk rfl rfl ⟨_, _, rfl, rfl, rfl⟩ (fun w1 hw1 => ⟨rfl, Ret.below_ hw1 (.cons (.tail (.tail .head)) .nil)⟩)

set_option maxRecDepth 20000 in
set_option maxHeartbeats 8000000 in
theorem flow_Cost_w {w : World} {v0 : Value} {v1 : Value} {i1 : Inst} {x1 : List Int} {r : Wide} (h : flow_Cost i1 x1 = some r) (p1 : InsZ (PH.of w) v0 i1) (p2 : SlF (fI .i64) (PH.of w) v1 x1) :
    Calls Try.prog 24 #[v0, v1] w fun e w' => e = .returned (.agg #[iv r.hi, .int .u64 (r.lo)]) ∧ Below w.heap.size w w' := by
  obtain ⟨A1, c1, A2, c2, rfl, hs1, hs2⟩ := p1
  obtain ⟨A3, c3, rfl, hs3⟩ := p2
  unfold flow_Cost at h
  refine enter_ Try.func24 rfl Try.ntmps24 rfl ?_
  refine WP.box rfl rfl rfl rfl rfl rfl ?_
  intro g1
  refine WP.al tysOk rfl rfl rfl rfl rfl rfl ?_
  intro g2
  refine WP.al tysOk rfl rfl rfl rfl rfl rfl ?_
  intro g3
  refine WP.st tysOk true rfl True.intro rfl rfl rfl rfl True.intro ?_
  refine WP.ld1 tysOk rfl True.intro rfl rfl rfl rfl rfl rfl rfl (CellAt.blk (.tail (.tail .head)) rfl) ?_
  iterate 2 (refine WP.st tysOk true rfl True.intro rfl rfl rfl rfl True.intro ?_)
  refine WP.loop (α := Nat × Int × Int × Int) (fun x => lp (flow_Cost_b1 i1 x1) x.1 (x.2.1, x.2.2.1, x.2.2.2) = some r) (fun x => [(1, .slice A3 x1.length c3), (4, .pointer (some ⟨g2, 0, none⟩)), (5, .pointer (some ⟨g3, 0, none⟩)), (9, .slice A2 i1.arcs.length c2), (10, iv (i1.arcs.length : Int)), (11, iv x.2.1)]) (fun x => [.blk g3 43 [iv x.2.2.1, .int .u64 (x.2.2.2)], .blk g2 43 [iv 0, .int .u64 (0)], .fz (PH.of w)]) (fun x => x.1) rfl (big, 0, 0, 0) h ?_ ?_ ?_
  · repeat (first | exact True.intro | refine And.intro rfl ?_)
  · exact (.cons .head (.cons .head (.cons (.tail .head) .nil)))
  rintro ⟨n1, s4, s5, s6⟩ h
  dsimp only at h ⊢
  rcases n1 with _ | n1
  · exact (lp_no h).elim
  replace h := lp_succ h
  unfold flow_Cost_b1 at h
  try dsimp only at h
  refine WP.st tysOk true rfl True.intro rfl rfl rfl rfl True.intro ?_
  refine WP.cond_d rfl rfl (fun hh3 => ?_) (fun hh3 => ?_)
  · rw [if_pos hh3] at h
    refine WP.st tysOk true rfl True.intro rfl rfl rfl rfl True.intro ?_
    obtain ⟨hj3, h⟩ := ck_some h
    refine WP.ixA tysOk rfl True.intro rfl rfl rfl rfl rfl rfl rfl rfl hj3 (hs2.ex hj3) ?_
    intro b3 _ hA3
    refine WP.ldm tysOk rfl True.intro rfl rfl rfl rfl rfl rfl rfl (hs2.seg hA3 (Held.mem (List.Mem.tail _ (List.Mem.tail _ (List.Mem.head _)))) hj3) ?_
    refine WP.al tysOk rfl rfl rfl rfl rfl rfl ?_
    intro g6
    refine WP.st tysOk true rfl True.intro rfl rfl rfl rfl True.intro ?_
    refine WP.sto' tysOk [iv ((gt i1.arcs s4).src), iv ((gt i1.arcs s4).dst), iv ((gt i1.arcs s4).low), iv ((gt i1.arcs s4).cap), iv ((gt i1.arcs s4).cost)] rfl rfl rfl rfl rfl rfl rfl rfl rfl .head rfl rfl ?_
    obtain ⟨r7, hg7, h⟩ := bind_some h
    obtain ⟨r8, hg8, h⟩ := bind_some h
    obtain ⟨r9, hg9, h⟩ := bind_some h
    refine WP.drawL 8 [(5, [], fun _ => constSpec (iv r7)), (6, [], fun _ => constSpec (.agg #[iv r8.hi, .int .u64 (r8.lo)])), (7, [], fun _ => constSpec (.agg #[iv r9.hi, .int .u64 (r9.lo)]))] rfl (by kernel_rfl) (by kernel_rfl) (by kernel_rfl) ?_
    refine WP.ldm tysOk rfl ⟨⟨rfl, rfl⟩, rfl⟩ rfl rfl rfl rfl rfl rfl rfl (SegAt.blk' (.tail .head) rfl) ?_
    refine WP.st tysOk true rfl ⟨⟨rfl, rfl⟩, rfl⟩ rfl rfl rfl rfl True.intro ?_
    refine WP.ld1 tysOk rfl ⟨⟨rfl, rfl⟩, rfl⟩ rfl rfl rfl rfl rfl rfl rfl (CellAt.blk .head rfl) ?_
    iterate 2 (refine WP.st tysOk true rfl ⟨⟨rfl, rfl⟩, rfl⟩ rfl rfl rfl rfl True.intro ?_)
    refine WP.callV rfl rfl rfl rfl rfl rfl rfl (by kernel_rfl) (fun w1 hw1 => (flow_at_w hg7 (hs3.le' ((Held.mem (List.Mem.tail _ (List.Mem.tail _ (List.Mem.tail _ (List.Mem.head _))))) _ _ hw1)).of :)) ⟨⟨rfl, rfl⟩, rfl⟩ ?_
    refine WP.callV rfl rfl rfl rfl rfl rfl rfl (by kernel_rfl) (fun w1 hw1 => (num_Times_w hg8  :)) ⟨⟨rfl, rfl⟩, rfl⟩ ?_
    refine WP.callV rfl rfl rfl rfl rfl rfl rfl (by kernel_rfl) (fun w1 hw1 => (num_Plus_w hg9  :)) ⟨⟨rfl, rfl⟩, rfl⟩ ?_
    refine WP.lend rfl ⟨rfl, rfl⟩ ?_
    refine WP.sto' tysOk [iv r9.hi, .int .u64 (r9.lo)] rfl rfl rfl rfl rfl rfl rfl rfl rfl (.tail .head) rfl rfl ?_
    iterate 2 (refine WP.st tysOk true rfl True.intro rfl rfl rfl rfl True.intro ?_)
    refine WP.stop rfl (n1, w64 (s4 + 1), r9.hi, r9.lo) ⟨h, Nat.lt_succ_self _⟩ ?_ ?_
    · repeat (first | exact True.intro | refine And.intro rfl ?_)
    exact (.cons .head (.cons (.tail .head) (.cons (.tail .head) .nil)))
  rw [if_neg hh3] at h
  refine WP.ldm tysOk rfl True.intro rfl rfl rfl rfl rfl rfl rfl (SegAt.blk' .head rfl) ?_
  refine WP.sto' tysOk [iv s5, .int .u64 (s6)] rfl rfl rfl rfl rfl rfl rfl rfl rfl (.tail .head) rfl rfl ?_
  cases h
  refine WP.retR tysOk rfl rfl ⟨_, _, _, _, rfl, ⟨_, rfl, .inr ⟨rfl, _, rfl, rfl, (SegAt.blk' (z := 2) .head rfl).1⟩⟩, rfl, rfl⟩ (fun w1 hw1 => ⟨rfl, Ret.below_ hw1 (.cons (.tail (.tail .head)) .nil)⟩)

set_option maxRecDepth 20000 in
set_option maxHeartbeats 8000000 in
theorem law18_TwoFlows_w {w : World} {v0 : Value} {d1 : Int} {i1 : Arc} {x1 : Arc} {x2 : Int} {x3 : Int} {x4 : Int} {x5 : List Int} {r : Bool} (h : law18_TwoFlows d1 i1 x1 x2 x3 x4 x5 = some r) (p1 : SlF (fI .i64) (PH.of w) v0 x5) :
    Calls Try.prog 8 #[.int .u8 (d1), .agg #[iv i1.src, iv i1.dst, iv i1.low, iv i1.cap, iv i1.cost], .agg #[iv x1.src, iv x1.dst, iv x1.low, iv x1.cap, iv x1.cost], iv x2, iv x3, .int .u8 (x4), v0] w fun e w' => e = .returned (.bool (r)) ∧ Below w.heap.size w w' := by
  obtain ⟨A1, c1, rfl, hs1⟩ := p1
  unfold law18_TwoFlows at h
  refine enter_ Try.func8 rfl Try.ntmps8 rfl ?_
  refine WP.box rfl rfl rfl rfl rfl rfl ?_
  intro g1
  refine WP.box rfl rfl rfl rfl rfl rfl ?_
  intro g2
  refine WP.st tysOk true rfl True.intro rfl rfl rfl rfl True.intro ?_
  obtain ⟨r1, hg1, h⟩ := bind_some h
  obtain ⟨r2, hg2, h⟩ := bind_some h
  obtain ⟨r3, hg3, h⟩ := bind_some h
  refine WP.drawL 12 [(2, [], fun _ => constSpec (.agg #[iv r1.src, iv r1.dst, iv r1.low, iv r1.cap, iv r1.cost])), (4, [], fun _ => constSpec (.agg #[iv r2.src, iv r2.dst, iv r2.low, iv r2.cap, iv r2.cost])), (10, [], fun _ => law18_One_S r3), (11, [], fun _ => blkSpec 27 [.slice none 0 0, .slice none 0 0])] rfl (by kernel_rfl) (by kernel_rfl) (by kernel_rfl) ?_
  refine WP.st tysOk true rfl ⟨⟨rfl, rfl⟩, rfl⟩ rfl rfl rfl rfl True.intro ?_
  refine WP.ldm tysOk rfl ⟨⟨rfl, rfl⟩, rfl⟩ rfl rfl rfl rfl rfl rfl rfl (SegAt.blk' (.tail .head) rfl) ?_
  refine WP.callV rfl rfl rfl rfl rfl rfl rfl (by kernel_rfl) (fun w1 hw1 => (law18_tame_w hg1  :)) ⟨⟨rfl, rfl⟩, rfl⟩ ?_
  refine WP.ldm tysOk rfl ⟨⟨rfl, rfl⟩, rfl⟩ rfl rfl rfl rfl rfl rfl rfl (SegAt.blk' .head rfl) ?_
  refine WP.callV rfl rfl rfl rfl rfl rfl rfl (by kernel_rfl) (fun w1 hw1 => (law18_tame_w hg2  :)) ⟨⟨rfl, rfl⟩, rfl⟩ ?_
  iterate 2 (refine WP.st tysOk true rfl ⟨⟨rfl, rfl⟩, rfl⟩ rfl rfl rfl rfl True.intro ?_; refine WP.st tysOk true rfl ⟨⟨rfl, rfl⟩, rfl⟩ rfl rfl rfl rfl (by decide) ?_)
  refine WP.st tysOk true rfl ⟨⟨rfl, rfl⟩, rfl⟩ rfl rfl rfl rfl True.intro ?_
  refine WP.lcall rfl ⟨rfl, rfl⟩ rfl rfl rfl rfl rfl rfl rfl (by kernel_rfl) (fun w1 hw1 => (law18_One_w hg3  :)) ?_
  rintro _ _ ⟨A2, n1, c2, A3, n2, c3, rfl, hf1, hf2, rfl⟩
  refine WP.lal tysOk rfl ⟨rfl, rfl⟩ rfl rfl rfl rfl rfl rfl rfl ?_
  intro g3
  refine WP.lend rfl ⟨rfl, rfl⟩ ?_
  refine WP.sto' tysOk [.slice A2 n1 c2, .slice A3 n2 c3] rfl rfl rfl rfl rfl rfl rfl rfl rfl .head rfl rfl ?_
  refine WP.st tysOk true rfl True.intro rfl rfl rfl rfl True.intro ?_
  refine WP.st tysOk true rfl True.intro rfl rfl rfl rfl (by decide) ?_
  iterate 2 (refine WP.st tysOk true rfl True.intro rfl rfl rfl rfl True.intro ?_)
  refine WP.ldm tysOk rfl True.intro rfl rfl rfl rfl rfl rfl rfl (SegAt.blk' .head rfl) ?_
  refine WP.st tysOk true rfl True.intro rfl rfl rfl rfl True.intro ?_
  obtain ⟨r4, hg4, h⟩ := bind_some h
  refine WP.callS (law18_step_S r4) rfl rfl rfl rfl rfl rfl rfl (by kernel_rfl) (fun w1 hw1 => (law18_step_w hg4 (InsZ.mk_ (hw1.ow (.tail .head) hf1) (hw1.ow (.tail (.tail .head)) hf2)) :)) ?_
  rintro _ _ ⟨A4, n3, c4, A5, n4, c5, A6, n5, c6, A7, n6, c7, rfl, hf3, hf4, hf5, hf6, rfl⟩
  iterate 4 (refine WP.st tysOk true rfl True.intro rfl rfl rfl rfl True.intro ?_)
  refine WP.al tysOk rfl rfl rfl rfl rfl rfl ?_
  intro g4
  refine WP.al tysOk rfl rfl rfl rfl rfl rfl ?_
  intro g5
  refine WP.sto' tysOk [.slice A4 n3 c4, .slice A5 n4 c5, iv r4.1.rcd.pass, .slice A6 n5 c6, .slice A7 n6 c7, iv r4.1.off.hi, .int .u64 (r4.1.off.lo), .bool (r4.1.did)] rfl rfl rfl rfl rfl rfl rfl rfl rfl (.tail .head) rfl rfl ?_
  refine WP.sto' tysOk [iv r4.2.1.node, iv r4.2.1.a, iv r4.2.1.b, iv r4.2.1.new.src, iv r4.2.1.new.dst, iv r4.2.1.new.low, iv r4.2.1.new.cap, iv r4.2.1.new.cost] rfl rfl rfl rfl rfl rfl rfl rfl rfl (.tail .head) rfl rfl ?_
  iterate 3 (refine WP.st tysOk true rfl True.intro rfl rfl rfl rfl True.intro ?_)
  refine WP.cond_n rfl rfl (fun hh1 => ?_) (fun hh1 => ?_)
  · rw [if_neg (bneg hh1)] at h
    refine WP.st tysOk true rfl True.intro rfl rfl rfl rfl True.intro ?_
    cases h
    refine WP.retR tysOk rfl rfl ⟨_, _, rfl, rfl, rfl⟩ (fun w1 hw1 => ⟨rfl, Ret.below_ hw1 (.cons (.tail (.tail (.tail (.tail (.tail (.tail (.tail (.tail (.tail (.tail (.tail .head))))))))))) .nil)⟩)
  rw [if_pos hh1] at h
  refine WP.st tysOk true rfl True.intro rfl rfl rfl rfl True.intro ?_
  refine WP.ld1 tysOk rfl True.intro rfl rfl rfl rfl rfl rfl rfl (CellAt.blk (.tail .head) rfl) ?_
  iterate 2 (refine WP.st tysOk true rfl True.intro rfl rfl rfl rfl True.intro ?_)
  by_cases hh2 : r4.1.did = true
  · rw [if_pos hh2] at h
    refine WP.yes rfl rfl (by simp [hh2]) ?_
    iterate 2 (refine WP.st tysOk true rfl True.intro rfl rfl rfl rfl True.intro ?_; refine WP.yes rfl rfl rfl ?_)
    refine WP.ld1 tysOk rfl True.intro rfl rfl rfl rfl rfl rfl rfl (CellAt.blk (.tail .head) rfl) ?_
    refine WP.yes rfl rfl rfl ?_
    refine WP.lenO (xs := r4.1.inst.arcs) tysOk rfl True.intro rfl rfl rfl rfl rfl rfl hf4 ?_
    refine WP.yes rfl rfl rfl ?_
    iterate 2 (refine WP.st tysOk true rfl True.intro rfl rfl rfl rfl True.intro ?_)
    refine WP.cond_d rfl rfl (fun hh3 => ?_) (fun hh3 => ?_)
    · rw [if_pos hh3] at h
      obtain ⟨r5, hg5, h⟩ := bind_some h
      refine WP.callV rfl rfl rfl rfl rfl rfl rfl (by kernel_rfl) (fun w1 hw1 => (law18_known_w hg5  :)) True.intro ?_
      refine WP.st tysOk true rfl True.intro rfl rfl rfl rfl True.intro ?_
      cases h
      refine WP.retR tysOk rfl rfl ⟨_, _, rfl, rfl, rfl⟩ (fun w1 hw1 => ⟨rfl, Ret.below_ hw1 (.cons (.tail (.tail (.tail (.tail (.tail (.tail (.tail (.tail (.tail (.tail (.tail .head))))))))))) .nil)⟩)
    rw [if_neg hh3] at h
    iterate 2 (refine WP.st tysOk true rfl True.intro rfl rfl rfl rfl True.intro ?_)
    refine WP.own_nil 2 (fI .i64).z ?_
    refine WP.loop (α := Nat × Int × (List Int) × (Option Addr) × Nat × Nat) (fun x => lp (law18_TwoFlows_b1 d1 x5 r3 r4) x.1 (x.2.1, x.2.2.1) = some r ∧ OwF x.2.2.2.1 x.2.2.2.2.1 x.2.2.1) (fun x => [(6, .slice A1 x5.length c1), (15, .pointer (some ⟨g3, 0, none⟩)), (16, .bool (decide ((d1.tmod 3) = 0))), (17, .pointer (some ⟨g4, 0, none⟩)), (18, .pointer (some ⟨g5, 0, none⟩)), (20, .slice x.2.2.2.1 x.2.2.2.2.1 x.2.2.2.2.2), (21, iv x.2.1)]) (fun x => [Ow (fI .i64) 2 x.2.2.2.1 x.2.2.2.2.1 x.2.2.2.2.2 x.2.2.1, .blk g5 31 [iv r4.2.1.node, iv r4.2.1.a, iv r4.2.1.b, iv r4.2.1.new.src, iv r4.2.1.new.dst, iv r4.2.1.new.low, iv r4.2.1.new.cap, iv r4.2.1.new.cost], .blk g4 45 [.slice A4 n3 c4, .slice A5 n4 c5, iv r4.1.rcd.pass, .slice A6 n5 c6, .slice A7 n6 c7, iv r4.1.off.hi, .int .u64 (r4.1.off.lo), .bool (r4.1.did)], Ow (fI .i64) 2 A4 n3 c4 r4.1.inst.supply, Ow fA 23 A5 n4 c5 r4.1.inst.arcs, Ow (fI .i64) 2 A6 n5 c6 r4.1.rcd.was.supply, Ow fA 23 A7 n6 c7 r4.1.rcd.was.arcs, .blk g3 27 [.slice A2 n1 c2, .slice A3 n2 c3], Ow (fI .i64) 2 A2 n1 c2 r3.supply, Ow fA 23 A3 n2 c3 r3.arcs, .fz (PH.of w)]) (fun x => x.1) rfl (big, 0, ([] : List Int), none, 0, 0) ⟨h, OwF.nil_⟩ ?_ ?_ ?_
    · repeat (first | exact True.intro | refine And.intro rfl ?_)
    · exact (.cons .head (.cons .head (.cons .head (.cons .head (.cons .head (.cons .head (.cons .head (.cons .head (.cons .head (.cons .head (.cons (.tail (.tail .head)) .nil)))))))))))
    rintro ⟨n11, s23, xs52, A23, m8, c23⟩ ⟨h, hf70⟩
    dsimp only at h hf70 ⊢
    rcases n11 with _ | n11
    · exact (lp_no h).elim
    replace h := lp_succ h
    unfold law18_TwoFlows_b1 at h
    try dsimp only at h
    iterate 3 (refine WP.st tysOk true rfl True.intro rfl rfl rfl rfl True.intro ?_)
    refine WP.ld1 tysOk rfl True.intro rfl rfl rfl rfl rfl rfl rfl (CellAt.blk (.tail (.tail .head)) rfl) ?_
    refine WP.lenO (xs := r4.1.inst.arcs) tysOk rfl True.intro rfl rfl rfl rfl rfl rfl hf4 ?_
    refine WP.st tysOk true rfl True.intro rfl rfl rfl rfl True.intro ?_
    refine WP.cond_d rfl rfl (fun hh108 => ?_) (fun hh108 => ?_)
    · rw [if_pos hh108] at h
      iterate 2 (refine WP.st tysOk true rfl True.intro rfl rfl rfl rfl True.intro ?_)
      refine WP.ld1 tysOk rfl True.intro rfl rfl rfl rfl rfl rfl rfl (CellAt.blk (.tail (.tail .head)) rfl) ?_
      refine WP.st tysOk true rfl True.intro rfl rfl rfl rfl True.intro ?_
      obtain ⟨hj69, h⟩ := ck_some h
      refine WP.ixO tysOk rfl True.intro rfl rfl rfl rfl rfl rfl rfl rfl hf4 hj69 ?_
      intro b69 hA69
      refine WP.st tysOk true rfl True.intro rfl rfl rfl rfl True.intro ?_
      refine WP.ld1 tysOk rfl True.intro rfl rfl rfl rfl rfl rfl rfl (OwS.at (.tail (.tail (.tail (.tail .head)))) hA69 hj69 2 rfl) ?_
      iterate 5 (refine WP.st tysOk true rfl True.intro rfl rfl rfl rfl True.intro ?_)
      refine WP.cond_d rfl rfl (fun hh109 => ?_) (fun hh109 => ?_)
      · rw [if_pos hh109] at h
        iterate 3 (refine WP.st tysOk true rfl True.intro rfl rfl rfl rfl True.intro ?_)
        obtain ⟨hj70, h⟩ := ck_some h
        refine WP.ixA tysOk rfl True.intro rfl rfl rfl rfl rfl rfl rfl rfl hj70 (hs1.ex hj70) ?_
        intro b70 _ hA70
        refine WP.ld1 tysOk rfl True.intro rfl rfl rfl rfl rfl rfl rfl (hs1.at0 hA70 (Held.mem (List.Mem.tail _ (List.Mem.tail _ (List.Mem.tail _ (List.Mem.tail _ (List.Mem.tail _ (List.Mem.tail _ (List.Mem.tail _ (List.Mem.tail _ (List.Mem.tail _ (List.Mem.tail _ (List.Mem.head _)))))))))))) hj70 rfl) ?_
        refine WP.st tysOk true rfl True.intro rfl rfl rfl rfl (by decide) ?_
        iterate 4 (refine WP.st tysOk true rfl True.intro rfl rfl rfl rfl True.intro ?_)
        refine WP.bsO (f := (fI .i64)) [w64 (((gt r4.1.inst.arcs s23).low) + ((gt x5 s23).tmod 2000))] tysOk rfl rfl rfl rfl rfl rfl rfl rfl rfl rfl rfl rfl rfl rfl ?_
        intro g18 hf71
        obtain ⟨hl9, h⟩ := ck_some h
        obtain ⟨xs53, hz9, h⟩ := lt_some h
        refine WP.appO (f := (fI .i64)) (xs := xs52) (ys := [w64 (((gt r4.1.inst.arcs s23).low) + ((gt x5 s23).tmod 2000))]) tysOk rfl rfl rfl rfl rfl rfl rfl rfl rfl rfl rfl rfl (.tail .head) hf70 hf71.len (OwS.app .head hf71) hl9 hz9 ?_
        intro A24 c24 hf72
        iterate 4 (refine WP.st tysOk true rfl True.intro rfl rfl rfl rfl True.intro ?_)
        refine WP.stop rfl (n11, w64 (s23 + 1), xs53, A24, xs53.length, c24) ⟨⟨h, hf72⟩, Nat.lt_succ_self _⟩ ?_ ?_
        · repeat (first | exact True.intro | refine And.intro rfl ?_)
        exact (.cons .head (.cons (.tail .head) (.cons (.tail .head) (.cons (.tail .head) (.cons (.tail .head) (.cons (.tail .head) (.cons (.tail .head) (.cons (.tail .head) (.cons (.tail .head) (.cons (.tail .head) (.cons (.tail .head) .nil)))))))))))
      rw [if_neg hh109] at h
      iterate 2 (refine WP.st tysOk true rfl True.intro rfl rfl rfl rfl True.intro ?_)
      refine WP.bsO (f := (fI .i64)) [(gt r4.1.inst.arcs s23).low] tysOk rfl rfl rfl rfl rfl rfl rfl rfl rfl rfl rfl rfl rfl rfl ?_
      intro g19 hf73
      obtain ⟨hl10, h⟩ := ck_some h
      obtain ⟨xs54, hz10, h⟩ := lt_some h
      refine WP.appO (f := (fI .i64)) (xs := xs52) (ys := [(gt r4.1.inst.arcs s23).low]) tysOk rfl rfl rfl rfl rfl rfl rfl rfl rfl rfl rfl rfl (.tail .head) hf70 hf73.len (OwS.app .head hf73) hl10 hz10 ?_
      intro A25 c25 hf74
      iterate 4 (refine WP.st tysOk true rfl True.intro rfl rfl rfl rfl True.intro ?_)
      refine WP.stop rfl (n11, w64 (s23 + 1), xs54, A25, xs54.length, c25) ⟨⟨h, hf74⟩, Nat.lt_succ_self _⟩ ?_ ?_
      · repeat (first | exact True.intro | refine And.intro rfl ?_)
      exact (.cons .head (.cons (.tail .head) (.cons (.tail .head) (.cons (.tail .head) (.cons (.tail .head) (.cons (.tail .head) (.cons (.tail .head) (.cons (.tail .head) (.cons (.tail .head) (.cons (.tail .head) (.cons (.tail .head) .nil)))))))))))
    rw [if_neg hh108] at h
    refine WP.st tysOk true rfl True.intro rfl rfl rfl rfl True.intro ?_
    refine WP.ld1 tysOk rfl True.intro rfl rfl rfl rfl rfl rfl rfl (CellAt.blk (.tail (.tail (.tail (.tail (.tail (.tail (.tail .head))))))) rfl) ?_
    refine WP.lenO (xs := r3.arcs) tysOk rfl True.intro rfl rfl rfl rfl rfl rfl hf2 ?_
    obtain ⟨hm5, h⟩ := ck_some h
    refine WP.mkO (f := (fI .i64)) 0 tysOk rfl rfl rfl rfl rfl rfl rfl rfl rfl rfl rfl rfl hm5 ?_
    intro g20 hf75
    iterate 3 (refine WP.st tysOk true rfl True.intro rfl rfl rfl rfl True.intro ?_)
    refine WP.loop (α := Nat × Int × Int × (List Int) × (Option Addr) × Nat × Nat) (fun x => lp (law18_TwoFlows_b2 d1 r3 r4 xs52) x.1 (x.2.1, x.2.2.1, x.2.2.2.1) = some r ∧ OwF x.2.2.2.2.1 x.2.2.2.2.2.1 x.2.2.2.1) (fun x => [(15, .pointer (some ⟨g3, 0, none⟩)), (16, .bool (decide ((d1.tmod 3) = 0))), (17, .pointer (some ⟨g4, 0, none⟩)), (18, .pointer (some ⟨g5, 0, none⟩)), (20, .slice A23 m8 c23), (23, .slice x.2.2.2.2.1 x.2.2.2.2.2.1 x.2.2.2.2.2.2), (24, iv x.2.1), (25, iv x.2.2.1)]) (fun x => [Ow (fI .i64) 2 x.2.2.2.2.1 x.2.2.2.2.2.1 x.2.2.2.2.2.2 x.2.2.2.1, Ow (fI .i64) 2 A23 m8 c23 xs52, .blk g5 31 [iv r4.2.1.node, iv r4.2.1.a, iv r4.2.1.b, iv r4.2.1.new.src, iv r4.2.1.new.dst, iv r4.2.1.new.low, iv r4.2.1.new.cap, iv r4.2.1.new.cost], .blk g4 45 [.slice A4 n3 c4, .slice A5 n4 c5, iv r4.1.rcd.pass, .slice A6 n5 c6, .slice A7 n6 c7, iv r4.1.off.hi, .int .u64 (r4.1.off.lo), .bool (r4.1.did)], Ow (fI .i64) 2 A4 n3 c4 r4.1.inst.supply, Ow fA 23 A5 n4 c5 r4.1.inst.arcs, Ow (fI .i64) 2 A6 n5 c6 r4.1.rcd.was.supply, Ow fA 23 A7 n6 c7 r4.1.rcd.was.arcs, .blk g3 27 [.slice A2 n1 c2, .slice A3 n2 c3], Ow (fI .i64) 2 A2 n1 c2 r3.supply, Ow fA 23 A3 n2 c3 r3.arcs, .fz (PH.of w)]) (fun x => x.1) rfl (big, 0, 0, (List.replicate (r3.arcs.length : Int).toNat 0), (some ⟨g20, 0, none⟩), (r3.arcs.length : Int).toNat, (r3.arcs.length : Int).toNat) ⟨h, hf75⟩ ?_ ?_ ?_
    · repeat (first | exact True.intro | refine And.intro rfl ?_)
    · exact (.cons .head (.cons .head (.cons .head (.cons .head (.cons .head (.cons .head (.cons .head (.cons .head (.cons .head (.cons .head (.cons .head (.cons .head .nil))))))))))))
    rintro ⟨n12, s28, s29, xs65, A27, m10, c27⟩ ⟨h, hf86⟩
    dsimp only at h hf86 ⊢
    rcases n12 with _ | n12
    · exact (lp_no h).elim
    replace h := lp_succ h
    unfold law18_TwoFlows_b2 at h
    try dsimp only at h
    iterate 2 (refine WP.st tysOk true rfl True.intro rfl rfl rfl rfl True.intro ?_)
    refine WP.ld1 tysOk rfl True.intro rfl rfl rfl rfl rfl rfl rfl (CellAt.blk (.tail (.tail (.tail (.tail (.tail (.tail (.tail (.tail .head)))))))) rfl) ?_
    refine WP.lenO (xs := r3.arcs) tysOk rfl True.intro rfl rfl rfl rfl rfl rfl hf2 ?_
    refine WP.st tysOk true rfl True.intro rfl rfl rfl rfl True.intro ?_
    refine WP.cond_d rfl rfl (fun hh131 => ?_) (fun hh131 => ?_)
    · rw [if_pos hh131] at h
      iterate 2 (refine WP.st tysOk true rfl True.intro rfl rfl rfl rfl True.intro ?_)
      refine WP.ld1 tysOk rfl True.intro rfl rfl rfl rfl rfl rfl rfl (CellAt.blk (.tail (.tail .head)) rfl) ?_
      iterate 2 (refine WP.st tysOk true rfl True.intro rfl rfl rfl rfl True.intro ?_)
      by_cases hh132 : ¬ s29 = r4.2.1.a
      · rw [if_pos hh132] at h
        refine WP.yes rfl rfl (decide_eq_true hh132) ?_
        iterate 2 (refine WP.st tysOk true rfl True.intro rfl rfl rfl rfl True.intro ?_; refine WP.yes rfl rfl rfl ?_)
        refine WP.ld1 tysOk rfl True.intro rfl rfl rfl rfl rfl rfl rfl (CellAt.blk (.tail (.tail .head)) rfl) ?_
        refine WP.yes rfl rfl rfl ?_
        iterate 3 (refine WP.st tysOk true rfl True.intro rfl rfl rfl rfl True.intro ?_)
        by_cases hh133 : ¬ s29 = r4.2.1.b
        · rw [if_pos hh133] at h
          refine WP.yes rfl rfl (decide_eq_true hh133) ?_
          iterate 2 (refine WP.st tysOk true rfl True.intro rfl rfl rfl rfl True.intro ?_; refine WP.yes rfl rfl rfl ?_)
          refine WP.lenO (xs := xs52) tysOk rfl True.intro rfl rfl rfl rfl rfl rfl hf70 ?_
          refine WP.yes rfl rfl rfl ?_
          iterate 2 (refine WP.st tysOk true rfl True.intro rfl rfl rfl rfl True.intro ?_)
          refine WP.cond_d rfl rfl (fun hh134 => ?_) (fun hh134 => ?_)
          · rw [if_pos hh134] at h
            iterate 4 (refine WP.st tysOk true rfl True.intro rfl rfl rfl rfl True.intro ?_)
            obtain ⟨hj86, h⟩ := ck_some h
            refine WP.ixO tysOk rfl True.intro rfl rfl rfl rfl rfl rfl rfl rfl hf70 hj86 ?_
            intro b86 hA86
            refine WP.ld1 tysOk rfl True.intro rfl rfl rfl rfl rfl rfl rfl (OwS.at0 (.tail .head) hA86 hj86 rfl) ?_
            obtain ⟨hj87, h⟩ := ck_some h
            refine WP.ixO tysOk rfl True.intro rfl rfl rfl rfl rfl rfl rfl rfl hf86 hj87 ?_
            intro b87 hA87
            obtain ⟨xs66, hx46, h⟩ := lt_some h
            refine WP.stoO (f := (fI .i64)) 0 (gt xs52 s28) tysOk rfl rfl rfl rfl rfl rfl rfl rfl rfl .head hA87 hf86 hj87 rfl rfl rfl hx46 ?_
            intro hf87
            iterate 6 (refine WP.st tysOk true rfl True.intro rfl rfl rfl rfl True.intro ?_)
            refine WP.stop rfl (n12, w64 (s28 + 1), w64 (s29 + 1), xs66, A27, m10, c27) ⟨⟨h, hf87⟩, Nat.lt_succ_self _⟩ ?_ ?_
            · repeat (first | exact True.intro | refine And.intro rfl ?_)
            exact (.cons .head (.cons .head (.cons .head (.cons .head (.cons .head (.cons .head (.cons .head (.cons .head (.cons .head (.cons .head (.cons .head (.cons .head .nil))))))))))))
          rw [if_neg hh134] at h
          iterate 3 (refine WP.st tysOk true rfl True.intro rfl rfl rfl rfl True.intro ?_)
          refine WP.stop rfl (n12, s28, w64 (s29 + 1), xs65, A27, m10, c27) ⟨⟨h, hf86⟩, Nat.lt_succ_self _⟩ ?_ ?_
          · repeat (first | exact True.intro | refine And.intro rfl ?_)
          exact (.cons .head (.cons .head (.cons .head (.cons .head (.cons .head (.cons .head (.cons .head (.cons .head (.cons .head (.cons .head (.cons .head (.cons .head .nil))))))))))))
        rw [if_neg hh133] at h
        refine WP.no rfl rfl (decide_eq_false hh133) rfl rfl ?_
        iterate 3 (refine WP.no rfl rfl rfl rfl rfl ?_)
        refine WP.st tysOk true rfl True.intro rfl rfl rfl rfl True.intro ?_
        refine WP.condF rfl rfl ?_
        iterate 3 (refine WP.st tysOk true rfl True.intro rfl rfl rfl rfl True.intro ?_)
        refine WP.stop rfl (n12, s28, w64 (s29 + 1), xs65, A27, m10, c27) ⟨⟨h, hf86⟩, Nat.lt_succ_self _⟩ ?_ ?_
        · repeat (first | exact True.intro | refine And.intro rfl ?_)
        exact (.cons .head (.cons .head (.cons .head (.cons .head (.cons .head (.cons .head (.cons .head (.cons .head (.cons .head (.cons .head (.cons .head (.cons .head .nil))))))))))))
      rw [if_neg hh132] at h
      refine WP.no rfl rfl (decide_eq_false hh132) rfl rfl ?_
      iterate 3 (refine WP.no rfl rfl rfl rfl rfl ?_)
      iterate 2 (refine WP.st tysOk true rfl True.intro rfl rfl rfl rfl True.intro ?_)
      iterate 4 (refine WP.no rfl rfl rfl rfl rfl ?_)
      refine WP.st tysOk true rfl True.intro rfl rfl rfl rfl True.intro ?_
      refine WP.condF rfl rfl ?_
      iterate 3 (refine WP.st tysOk true rfl True.intro rfl rfl rfl rfl True.intro ?_)
      refine WP.stop rfl (n12, s28, w64 (s29 + 1), xs65, A27, m10, c27) ⟨⟨h, hf86⟩, Nat.lt_succ_self _⟩ ?_ ?_
      · repeat (first | exact True.intro | refine And.intro rfl ?_)
      exact (.cons .head (.cons .head (.cons .head (.cons .head (.cons .head (.cons .head (.cons .head (.cons .head (.cons .head (.cons .head (.cons .head (.cons .head .nil))))))))))))
    rw [if_neg hh131] at h
    iterate 2 (refine WP.st tysOk true rfl True.intro rfl rfl rfl rfl True.intro ?_)
    refine WP.lenO (xs := xs52) tysOk rfl True.intro rfl rfl rfl rfl rfl rfl hf70 ?_
    refine WP.st tysOk true rfl True.intro rfl rfl rfl rfl True.intro ?_
    obtain ⟨hj88, h⟩ := ck_some h
    refine WP.ixO tysOk rfl True.intro rfl rfl rfl rfl rfl rfl rfl rfl hf70 hj88 ?_
    intro b88 hA88
    refine WP.ld1 tysOk rfl True.intro rfl rfl rfl rfl rfl rfl rfl (OwS.at0 (.tail .head) hA88 hj88 rfl) ?_
    iterate 3 (refine WP.st tysOk true rfl True.intro rfl rfl rfl rfl True.intro ?_)
    refine WP.ld1 tysOk rfl True.intro rfl rfl rfl rfl rfl rfl rfl (CellAt.blk (.tail (.tail .head)) rfl) ?_
    refine WP.st tysOk true rfl True.intro rfl rfl rfl rfl True.intro ?_
    obtain ⟨hj89, h⟩ := ck_some h
    refine WP.ixO tysOk rfl True.intro rfl rfl rfl rfl rfl rfl rfl rfl hf86 hj89 ?_
    intro b89 hA89
    obtain ⟨xs67, hx47, h⟩ := lt_some h
    refine WP.stoO (f := (fI .i64)) 0 (gt xs52 (w64 ((xs52.length : Int) - 1))) tysOk rfl rfl rfl rfl rfl rfl rfl rfl rfl .head hA89 hf86 hj89 rfl rfl rfl hx47 ?_
    intro hf88
    obtain ⟨r111, hg111, h⟩ := bind_some h
    obtain ⟨hj90, h⟩ := ck_some h
    refine WP.drawL 9 [(7, [], fun _ => constSpec (iv r111))] rfl (by kernel_rfl) (by kernel_rfl) (by kernel_rfl) ?_
    iterate 2 (refine WP.st tysOk true rfl ⟨⟨rfl, rfl⟩, rfl⟩ rfl rfl rfl rfl True.intro ?_)
    refine WP.ld1 tysOk rfl ⟨⟨rfl, rfl⟩, rfl⟩ rfl rfl rfl rfl rfl rfl rfl (CellAt.blk (.tail (.tail .head)) rfl) ?_
    refine WP.ldm tysOk rfl ⟨⟨rfl, rfl⟩, rfl⟩ rfl rfl rfl rfl rfl rfl rfl (SegAt.blk' (.tail (.tail (.tail (.tail (.tail (.tail (.tail (.tail .head)))))))) rfl) ?_
    refine WP.ldm tysOk rfl ⟨⟨rfl, rfl⟩, rfl⟩ rfl rfl rfl rfl rfl rfl rfl (SegAt.blk' (.tail (.tail .head)) rfl) ?_
    iterate 2 (refine WP.st tysOk true rfl ⟨⟨rfl, rfl⟩, rfl⟩ rfl rfl rfl rfl True.intro ?_)
    refine WP.callV rfl rfl rfl rfl rfl rfl rfl (by kernel_rfl) (fun w1 hw1 => (law18_both_w hg111 (InsZ.mk_ (hw1.ow (.tail (.tail (.tail (.tail (.tail (.tail (.tail (.tail (.tail .head))))))))) hf1) (hw1.ow (.tail (.tail (.tail (.tail (.tail (.tail (.tail (.tail (.tail (.tail .head)))))))))) hf2)) :)) ⟨⟨rfl, rfl⟩, rfl⟩ ?_
    refine WP.ixO tysOk rfl ⟨⟨rfl, rfl⟩, rfl⟩ rfl rfl rfl rfl rfl rfl rfl rfl hf88 hj90 ?_
    intro b90 hA90
    refine WP.lend rfl ⟨rfl, rfl⟩ ?_
    obtain ⟨xs68, hx48, h⟩ := lt_some h
    refine WP.stoO (f := (fI .i64)) 0 r111 tysOk rfl rfl rfl rfl rfl rfl rfl rfl rfl .head hA90 hf88 hj90 rfl rfl rfl hx48 ?_
    intro hf89
    refine WP.draw rfl (by kernel_rfl) (by kernel_rfl) ?_
    obtain ⟨r112, hg112, h⟩ := bind_some h
    refine WP.callV rfl rfl rfl rfl rfl rfl rfl (by kernel_rfl) (fun w1 hw1 => (law18_known_w hg112  :)) rfl ?_
    refine WP.st tysOk true rfl rfl rfl rfl rfl rfl True.intro ?_
    by_cases hh135 : r112 = true
    · rw [if_pos hh135] at h
      refine WP.yes rfl rfl hh135 ?_
      iterate 2 (refine WP.st tysOk true rfl rfl rfl rfl rfl rfl True.intro ?_; refine WP.yes rfl rfl rfl ?_)
      refine WP.lenO (xs := xs52) tysOk rfl rfl rfl rfl rfl rfl rfl rfl hf70 ?_
      refine WP.yes rfl rfl rfl ?_
      refine WP.st tysOk true rfl rfl rfl rfl rfl rfl True.intro ?_
      refine WP.yes rfl rfl rfl ?_
      iterate 3 (refine WP.st tysOk true rfl rfl rfl rfl rfl rfl True.intro ?_)
      by_cases hh136 : s28 = (w64 ((xs52.length : Int) - 1))
      · rw [if_pos hh136] at h
        refine WP.yes rfl rfl (decide_eq_true hh136) ?_
        refine WP.ldm tysOk rfl rfl rfl rfl rfl rfl rfl rfl rfl (SegAt.blk' (.tail (.tail (.tail (.tail (.tail (.tail (.tail (.tail .head)))))))) rfl) ?_
        refine WP.yes rfl rfl rfl ?_
        refine WP.st tysOk true rfl rfl rfl rfl rfl rfl True.intro ?_
        refine WP.yes rfl rfl rfl ?_
        obtain ⟨r113, hg113, h⟩ := bind_some h
        refine WP.callV rfl rfl rfl rfl rfl rfl rfl (by kernel_rfl) (fun w1 hw1 => (flow_Fits_w hg113 (InsZ.mk_ (hw1.ow (.tail (.tail (.tail (.tail (.tail (.tail (.tail (.tail (.tail .head))))))))) hf1) (hw1.ow (.tail (.tail (.tail (.tail (.tail (.tail (.tail (.tail (.tail (.tail .head)))))))))) hf2)) (hw1.ow .head hf89) :)) rfl ?_
        iterate 2 (refine WP.yes rfl rfl rfl ?_; refine WP.st tysOk true rfl rfl rfl rfl rfl rfl True.intro ?_)
        refine WP.yes rfl rfl rfl ?_
        refine WP.ldm tysOk rfl rfl rfl rfl rfl rfl rfl rfl rfl (SegAt.blk' (.tail (.tail (.tail .head))) rfl) ?_
        refine WP.yes rfl rfl rfl ?_
        refine WP.st tysOk true rfl rfl rfl rfl rfl rfl True.intro ?_
        refine WP.yes rfl rfl rfl ?_
        obtain ⟨r114, hg114, h⟩ := bind_some h
        refine WP.callV rfl rfl rfl rfl rfl rfl rfl (by kernel_rfl) (fun w1 hw1 => (flow_Fits_w hg114 (InsZ.mk_ (hw1.ow (.tail (.tail (.tail (.tail .head)))) hf3) (hw1.ow (.tail (.tail (.tail (.tail (.tail .head))))) hf4)) (hw1.ow (.tail .head) hf70) :)) rfl ?_
        refine WP.yes rfl rfl rfl ?_
        refine WP.st tysOk true rfl rfl rfl rfl rfl rfl True.intro ?_
        refine WP.yes rfl rfl rfl ?_
        iterate 3 (refine WP.st tysOk true rfl rfl rfl rfl rfl rfl True.intro ?_)
        by_cases hh137 : ((decide (r113 = 0)) == (decide (r114 = 0))) = true
        · rw [if_pos hh137] at h
          refine WP.yes rfl rfl hh137 ?_
          refine WP.ldm tysOk rfl rfl rfl rfl rfl rfl rfl rfl rfl (SegAt.blk' (.tail (.tail (.tail (.tail (.tail (.tail (.tail (.tail .head)))))))) rfl) ?_
          refine WP.yes rfl rfl rfl ?_
          refine WP.st tysOk true rfl rfl rfl rfl rfl rfl True.intro ?_
          refine WP.yes rfl rfl rfl ?_
          obtain ⟨r115, hg115, h⟩ := bind_some h
          refine WP.callV rfl rfl rfl rfl rfl rfl rfl (by kernel_rfl) (fun w1 hw1 => (flow_Cost_w hg115 (InsZ.mk_ (hw1.ow (.tail (.tail (.tail (.tail (.tail (.tail (.tail (.tail (.tail .head))))))))) hf1) (hw1.ow (.tail (.tail (.tail (.tail (.tail (.tail (.tail (.tail (.tail (.tail .head)))))))))) hf2)) (hw1.ow .head hf89) :)) rfl ?_
          refine WP.yes rfl rfl rfl ?_
          refine WP.st tysOk true rfl rfl rfl rfl rfl rfl True.intro ?_
          refine WP.yes rfl rfl rfl ?_
          refine WP.ldm tysOk rfl rfl rfl rfl rfl rfl rfl rfl rfl (SegAt.blk' (.tail (.tail (.tail .head))) rfl) ?_
          refine WP.yes rfl rfl rfl ?_
          refine WP.st tysOk true rfl rfl rfl rfl rfl rfl True.intro ?_
          refine WP.yes rfl rfl rfl ?_
          obtain ⟨r116, hg116, h⟩ := bind_some h
          refine WP.callV rfl rfl rfl rfl rfl rfl rfl (by kernel_rfl) (fun w1 hw1 => (flow_Cost_w hg116 (InsZ.mk_ (hw1.ow (.tail (.tail (.tail (.tail .head)))) hf3) (hw1.ow (.tail (.tail (.tail (.tail (.tail .head))))) hf4)) (hw1.ow (.tail .head) hf70) :)) rfl ?_
          refine WP.yes rfl rfl rfl ?_
          refine WP.st tysOk true rfl rfl rfl rfl rfl rfl True.intro ?_
          refine WP.yes rfl rfl rfl ?_
          refine WP.ldm tysOk rfl rfl rfl rfl rfl rfl rfl rfl rfl (SegAt.blk' (.tail (.tail (.tail .head))) rfl) ?_
          refine WP.yes rfl rfl rfl ?_
          obtain ⟨r117, hg117, h⟩ := bind_some h
          refine WP.callV rfl rfl rfl rfl rfl rfl rfl (by kernel_rfl) (fun w1 hw1 => (num_Plus_w hg117  :)) rfl ?_
          refine WP.yes rfl rfl rfl ?_
          refine WP.eqS rfl rfl rfl rfl rfl rfl rfl rfl (by kernel_rfl) (eq43 r115 r117) ?_
          iterate 2 (refine WP.st tysOk true rfl rfl rfl rfl rfl rfl True.intro ?_)
          refine WP.qend rfl ?_
          cases h
          refine WP.retR tysOk rfl rfl ⟨_, _, rfl, rfl, rfl⟩ (fun w1 hw1 => ⟨rfl, Ret.below_ hw1 (.cons (.tail (.tail (.tail (.tail (.tail (.tail (.tail (.tail (.tail (.tail (.tail .head))))))))))) .nil)⟩)
        rw [if_neg hh137] at h
        refine WP.no rfl rfl (bfalse hh137) rfl rfl ?_
        iterate 10 (refine WP.no rfl rfl rfl rfl rfl ?_)
        iterate 2 (refine WP.st tysOk true rfl rfl rfl rfl rfl rfl True.intro ?_)
        refine WP.qend rfl ?_
        cases h
        refine WP.retR tysOk rfl rfl ⟨_, _, rfl, rfl, rfl⟩ (fun w1 hw1 => ⟨rfl, Ret.below_ hw1 (.cons (.tail (.tail (.tail (.tail (.tail (.tail (.tail (.tail (.tail (.tail (.tail .head))))))))))) .nil)⟩)
      rw [if_neg hh136] at h
      refine WP.no rfl rfl (decide_eq_false hh136) rfl rfl ?_
      iterate 9 (refine WP.no rfl rfl rfl rfl rfl ?_)
      iterate 2 (refine WP.st tysOk true rfl rfl rfl rfl rfl rfl True.intro ?_)
      iterate 11 (refine WP.no rfl rfl rfl rfl rfl ?_)
      iterate 2 (refine WP.st tysOk true rfl rfl rfl rfl rfl rfl True.intro ?_)
      refine WP.qend rfl ?_
      cases h
      refine WP.retR tysOk rfl rfl ⟨_, _, rfl, rfl, rfl⟩ (fun w1 hw1 => ⟨rfl, Ret.below_ hw1 (.cons (.tail (.tail (.tail (.tail (.tail (.tail (.tail (.tail (.tail (.tail (.tail .head))))))))))) .nil)⟩)
    rw [if_neg hh135] at h
    refine WP.no rfl rfl (bfalse hh135) rfl rfl ?_
    iterate 4 (refine WP.no rfl rfl rfl rfl rfl ?_)
    iterate 2 (refine WP.st tysOk true rfl rfl rfl rfl rfl rfl True.intro ?_)
    iterate 10 (refine WP.no rfl rfl rfl rfl rfl ?_)
    iterate 2 (refine WP.st tysOk true rfl rfl rfl rfl rfl rfl True.intro ?_)
    iterate 11 (refine WP.no rfl rfl rfl rfl rfl ?_)
    iterate 2 (refine WP.st tysOk true rfl rfl rfl rfl rfl rfl True.intro ?_)
    refine WP.qend rfl ?_
    cases h
    refine WP.retR tysOk rfl rfl ⟨_, _, rfl, rfl, rfl⟩ (fun w1 hw1 => ⟨rfl, Ret.below_ hw1 (.cons (.tail (.tail (.tail (.tail (.tail (.tail (.tail (.tail (.tail (.tail (.tail .head))))))))))) .nil)⟩)
  rw [if_neg hh2] at h
  refine WP.no rfl rfl (by simp [hh2]) rfl rfl ?_
  iterate 4 (refine WP.no rfl rfl rfl rfl rfl ?_)
  refine WP.st tysOk true rfl True.intro rfl rfl rfl rfl True.intro ?_
  refine WP.condT rfl rfl ?_
  obtain ⟨r118, hg118, h⟩ := bind_some h
  refine WP.callV rfl rfl rfl rfl rfl rfl rfl (by kernel_rfl) (fun w1 hw1 => (law18_known_w hg118  :)) True.intro ?_
  refine WP.st tysOk true rfl True.intro rfl rfl rfl rfl True.intro ?_
  cases h
  refine WP.retR tysOk rfl rfl ⟨_, _, rfl, rfl, rfl⟩ (fun w1 hw1 => ⟨rfl, Ret.below_ hw1 (.cons (.tail (.tail (.tail (.tail (.tail (.tail (.tail (.tail (.tail (.tail (.tail .head))))))))))) .nil)⟩)
end Go.Proofs.Ytpnohbdfgmjdbaa
