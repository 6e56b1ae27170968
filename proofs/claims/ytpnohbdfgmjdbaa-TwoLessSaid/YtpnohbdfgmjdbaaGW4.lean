/- The walks: the code computes that. -/
import Derived.Test.YtpnohbdfgmjdbaaGW3
import Derived.Test.YtpnohbdfgmjdbaaTys
import Derived.Test.YtpnohbdfgmjdbaaEngG
import Derived.KernelRfl
namespace Go.Proofs.Ytpnohbdfgmjdbaa
open Go.RowKit Go.Qe
set_option maxRecDepth 20000 in
set_option maxHeartbeats 8000000 in
theorem ref03_Nums_w {w : World} {v0 : Value} {v1 : Value} {a1 : List Int} {b1 : List Int} {r : Bool} (h : ref03_Nums a1 b1 = some r) (p1 : SlF (fI .i64) (PH.of w) v0 a1) (p2 : SlF (fI .i64) (PH.of w) v1 b1) :
    Calls Try.prog 57 #[v0, v1] w fun e w' => e = .returned (.bool (r)) ∧ Below w.heap.size w w' := by
  obtain ⟨A1, c1, rfl, hs1⟩ := p1
  obtain ⟨A2, c2, rfl, hs2⟩ := p2
  unfold ref03_Nums at h
  refine enter_ Try.func57 rfl Try.ntmps57 rfl ?_
  iterate 6 (refine WP.st tysOk true rfl True.intro rfl rfl rfl rfl True.intro ?_)
  refine WP.cond_d rfl rfl (fun hh1 => ?_) (fun hh1 => ?_)
  · rw [if_pos hh1] at h
    refine WP.st tysOk true rfl True.intro rfl rfl rfl rfl True.intro ?_
    cases h
    refine WP.retR tysOk rfl rfl ⟨_, _, rfl, rfl, rfl⟩ (fun w1 hw1 => ⟨rfl, Ret.below_ hw1 (.cons .head .nil)⟩)
  rw [if_neg hh1] at h
  refine WP.st tysOk true rfl True.intro rfl rfl rfl rfl True.intro ?_
  refine WP.loop (α := Nat × Int) (fun x => lp (ref03_Nums_b1 a1 b1) x.1 x.2 = some r) (fun x => [(0, .slice A1 a1.length c1), (1, .slice A2 b1.length c2), (5, iv x.2)]) (fun x => [.fz (PH.of w)]) (fun x => x.1) rfl (big, 0) h ?_ ?_ ?_
  · repeat (first | exact True.intro | refine And.intro rfl ?_)
  · exact (.cons .head .nil)
  rintro ⟨n1, k2⟩ h
  dsimp only at h ⊢
  rcases n1 with _ | n1
  · exact (lp_no h).elim
  replace h := lp_succ h
  unfold ref03_Nums_b1 at h
  try dsimp only at h
  iterate 4 (refine WP.st tysOk true rfl True.intro rfl rfl rfl rfl True.intro ?_)
  refine WP.cond_d rfl rfl (fun hh6 => ?_) (fun hh6 => ?_)
  · rw [if_pos hh6] at h
    refine WP.draw rfl (by kernel_rfl) (by kernel_rfl) ?_
    iterate 2 (refine WP.st tysOk true rfl rfl rfl rfl rfl rfl True.intro ?_)
    obtain ⟨hj5, h⟩ := ck_some h
    refine WP.ixA tysOk rfl rfl rfl rfl rfl rfl rfl rfl rfl rfl hj5 (hs1.ex hj5) ?_
    intro b6 _ hA5
    refine WP.ld1 tysOk rfl rfl rfl rfl rfl rfl rfl rfl rfl (hs1.at0 hA5 (Held.mem (List.Mem.head _)) hj5 rfl) ?_
    iterate 2 (refine WP.st tysOk true rfl rfl rfl rfl rfl rfl True.intro ?_)
    obtain ⟨hj6, h⟩ := ck_some h
    refine WP.ixA tysOk rfl rfl rfl rfl rfl rfl rfl rfl rfl rfl hj6 (hs2.ex hj6) ?_
    intro b7 _ hA6
    refine WP.ld1 tysOk rfl rfl rfl rfl rfl rfl rfl rfl rfl (hs2.at0 hA6 (Held.mem (List.Mem.head _)) hj6 rfl) ?_
    refine WP.st tysOk true rfl rfl rfl rfl rfl rfl True.intro ?_
    refine WP.qend rfl ?_
    refine WP.cond_d rfl rfl (fun hh7 => ?_) (fun hh7 => ?_)
    · rw [if_pos hh7] at h
      refine WP.st tysOk true rfl True.intro rfl rfl rfl rfl True.intro ?_
      cases h
      refine WP.retR tysOk rfl rfl ⟨_, _, rfl, rfl, rfl⟩ (fun w1 hw1 => ⟨rfl, Ret.below_ hw1 (.cons .head .nil)⟩)
    rw [if_neg hh7] at h
    iterate 3 (refine WP.st tysOk true rfl True.intro rfl rfl rfl rfl True.intro ?_)
    refine WP.stop rfl (n1, w64 (k2 + 1)) ⟨h, Nat.lt_succ_self _⟩ ?_ ?_
    · repeat (first | exact True.intro | refine And.intro rfl ?_)
    exact (.cons .head .nil)
  rw [if_neg hh6] at h
  refine WP.st tysOk true rfl True.intro rfl rfl rfl rfl True.intro ?_
  cases h
  refine WP.retR tysOk rfl rfl ⟨_, _, rfl, rfl, rfl⟩ (fun w1 hw1 => ⟨rfl, Ret.below_ hw1 (.cons .head .nil)⟩)

set_option maxRecDepth 20000 in
set_option maxHeartbeats 8000000 in
theorem ref03_Same_w {w : World} {v0 : Value} {v1 : Value} {a1 : Inst} {b1 : Inst} {r : Bool} (h : ref03_Same a1 b1 = some r) (p1 : InsZ (PH.of w) v0 a1) (p2 : InsZ (PH.of w) v1 b1) :
    Calls Try.prog 30 #[v0, v1] w fun e w' => e = .returned (.bool (r)) ∧ Below w.heap.size w w' := by
  obtain ⟨A1, c1, A2, c2, rfl, hs1, hs2⟩ := p1
  obtain ⟨A3, c3, A4, c4, rfl, hs3, hs4⟩ := p2
  unfold ref03_Same at h
  refine enter_ Try.func30 rfl Try.ntmps30 rfl ?_
  refine WP.box rfl rfl rfl rfl rfl rfl ?_
  intro g1
  refine WP.box rfl rfl rfl rfl rfl rfl ?_
  intro g2
  iterate 2 (refine WP.st tysOk true rfl True.intro rfl rfl rfl rfl True.intro ?_)
  refine WP.ld1 tysOk rfl True.intro rfl rfl rfl rfl rfl rfl rfl (CellAt.blk (.tail .head) rfl) ?_
  refine WP.st tysOk true rfl True.intro rfl rfl rfl rfl True.intro ?_
  refine WP.ld1 tysOk rfl True.intro rfl rfl rfl rfl rfl rfl rfl (CellAt.blk .head rfl) ?_
  obtain ⟨r1, hg1, h⟩ := bind_some h
  refine WP.callV rfl rfl rfl rfl rfl rfl rfl (by kernel_rfl) (fun w1 hw1 => (ref03_Nums_w hg1 (hs1.le' ((Held.mem (List.Mem.tail _ (List.Mem.tail _ (List.Mem.head _)))) _ _ hw1)).of (hs3.le' ((Held.mem (List.Mem.tail _ (List.Mem.tail _ (List.Mem.head _)))) _ _ hw1)).of :)) True.intro ?_
  iterate 2 (refine WP.st tysOk true rfl True.intro rfl rfl rfl rfl True.intro ?_)
  by_cases hh1 : r1 = true
  · rw [if_pos hh1] at h
    refine WP.yes rfl rfl (by simp [hh1]) ?_
    refine WP.st tysOk true rfl True.intro rfl rfl rfl rfl True.intro ?_
    refine WP.yes rfl rfl rfl ?_
    refine WP.ld1 tysOk rfl True.intro rfl rfl rfl rfl rfl rfl rfl (CellAt.blk (.tail .head) rfl) ?_
    iterate 2 (refine WP.yes rfl rfl rfl ?_; refine WP.st tysOk true rfl True.intro rfl rfl rfl rfl True.intro ?_)
    refine WP.yes rfl rfl rfl ?_
    refine WP.ld1 tysOk rfl True.intro rfl rfl rfl rfl rfl rfl rfl (CellAt.blk .head rfl) ?_
    refine WP.yes rfl rfl rfl ?_
    refine WP.st tysOk true rfl True.intro rfl rfl rfl rfl True.intro ?_
    refine WP.yes rfl rfl rfl ?_
    iterate 2 (refine WP.st tysOk true rfl True.intro rfl rfl rfl rfl True.intro ?_)
    refine WP.cond_d rfl rfl (fun hh2 => ?_) (fun hh2 => ?_)
    · rw [if_pos hh2] at h
      refine WP.st tysOk true rfl True.intro rfl rfl rfl rfl True.intro ?_
      cases h
      refine WP.retR tysOk rfl rfl ⟨_, _, rfl, rfl, rfl⟩ (fun w1 hw1 => ⟨rfl, Ret.below_ hw1 (.cons (.tail (.tail .head)) .nil)⟩)
    rw [if_neg hh2] at h
    refine WP.st tysOk true rfl True.intro rfl rfl rfl rfl True.intro ?_
    refine WP.loop (α := Nat × Int) (fun x => lp (ref03_Same_b1 a1 b1) x.1 x.2 = some r) (fun x => [(2, .pointer (some ⟨g1, 0, none⟩)), (3, .pointer (some ⟨g2, 0, none⟩)), (5, iv x.2)]) (fun x => [.blk g2 27 [.slice A3 b1.supply.length c3, .slice A4 b1.arcs.length c4], .blk g1 27 [.slice A1 a1.supply.length c1, .slice A2 a1.arcs.length c2], .fz (PH.of w)]) (fun x => x.1) rfl (big, 0) h ?_ ?_ ?_
    · repeat (first | exact True.intro | refine And.intro rfl ?_)
    · exact (.cons .head (.cons .head (.cons .head .nil)))
    rintro ⟨n1, k2⟩ h
    dsimp only at h ⊢
    rcases n1 with _ | n1
    · exact (lp_no h).elim
    replace h := lp_succ h
    unfold ref03_Same_b1 at h
    try dsimp only at h
    iterate 2 (refine WP.st tysOk true rfl True.intro rfl rfl rfl rfl True.intro ?_)
    refine WP.ld1 tysOk rfl True.intro rfl rfl rfl rfl rfl rfl rfl (CellAt.blk (.tail .head) rfl) ?_
    iterate 2 (refine WP.st tysOk true rfl True.intro rfl rfl rfl rfl True.intro ?_)
    refine WP.cond_d rfl rfl (fun hh7 => ?_) (fun hh7 => ?_)
    · rw [if_pos hh7] at h
      refine WP.draw rfl (by kernel_rfl) (by kernel_rfl) ?_
      refine WP.st tysOk true rfl rfl rfl rfl rfl rfl True.intro ?_
      refine WP.ld1 tysOk rfl rfl rfl rfl rfl rfl rfl rfl rfl (CellAt.blk (.tail .head) rfl) ?_
      refine WP.st tysOk true rfl rfl rfl rfl rfl rfl True.intro ?_
      obtain ⟨hj5, h⟩ := ck_some h
      refine WP.ixA tysOk rfl rfl rfl rfl rfl rfl rfl rfl rfl rfl hj5 (hs2.ex hj5) ?_
      intro b6 _ hA5
      refine WP.ldm tysOk rfl rfl rfl rfl rfl rfl rfl rfl rfl (hs2.seg hA5 (Held.mem (List.Mem.tail _ (List.Mem.tail _ (List.Mem.head _)))) hj5) ?_
      refine WP.st tysOk true rfl rfl rfl rfl rfl rfl True.intro ?_
      refine WP.ld1 tysOk rfl rfl rfl rfl rfl rfl rfl rfl rfl (CellAt.blk .head rfl) ?_
      refine WP.st tysOk true rfl rfl rfl rfl rfl rfl True.intro ?_
      obtain ⟨hj6, h⟩ := ck_some h
      refine WP.ixA tysOk rfl rfl rfl rfl rfl rfl rfl rfl rfl rfl hj6 (hs4.ex hj6) ?_
      intro b7 _ hA6
      refine WP.ldm tysOk rfl rfl rfl rfl rfl rfl rfl rfl rfl (hs4.seg hA6 (Held.mem (List.Mem.tail _ (List.Mem.tail _ (List.Mem.head _)))) hj6) ?_
      refine WP.neS rfl rfl rfl rfl rfl rfl rfl rfl (by kernel_rfl) (eq23 (gt a1.arcs k2) (gt b1.arcs k2)) ?_
      refine WP.qend rfl ?_
      refine WP.cond_nd rfl rfl (fun hh8 => ?_) (fun hh8 => ?_)
      · rw [if_neg hh8] at h
        refine WP.st tysOk true rfl True.intro rfl rfl rfl rfl True.intro ?_
        cases h
        refine WP.retR tysOk rfl rfl ⟨_, _, rfl, rfl, rfl⟩ (fun w1 hw1 => ⟨rfl, Ret.below_ hw1 (.cons (.tail (.tail .head)) .nil)⟩)
      rw [if_pos hh8] at h
      iterate 3 (refine WP.st tysOk true rfl True.intro rfl rfl rfl rfl True.intro ?_)
      refine WP.stop rfl (n1, w64 (k2 + 1)) ⟨h, Nat.lt_succ_self _⟩ ?_ ?_
      · repeat (first | exact True.intro | refine And.intro rfl ?_)
      exact (.cons .head (.cons .head (.cons .head .nil)))
    rw [if_neg hh7] at h
    refine WP.st tysOk true rfl True.intro rfl rfl rfl rfl True.intro ?_
    cases h
    refine WP.retR tysOk rfl rfl ⟨_, _, rfl, rfl, rfl⟩ (fun w1 hw1 => ⟨rfl, Ret.below_ hw1 (.cons (.tail (.tail .head)) .nil)⟩)
  rw [if_neg hh1] at h
  refine WP.no rfl rfl (by simp [hh1]) rfl rfl ?_
  iterate 6 (refine WP.no rfl rfl rfl rfl rfl ?_)
  refine WP.st tysOk true rfl True.intro rfl rfl rfl rfl True.intro ?_
  refine WP.condT rfl rfl ?_
  refine WP.st tysOk true rfl True.intro rfl rfl rfl rfl True.intro ?_
  cases h
  refine WP.retR tysOk rfl rfl ⟨_, _, rfl, rfl, rfl⟩ (fun w1 hw1 => ⟨rfl, Ret.below_ hw1 (.cons (.tail (.tail .head)) .nil)⟩)

set_option maxRecDepth 20000 in
set_option maxHeartbeats 8000000 in
theorem law18_known_w {w : World} {r : Bool} (h : law18_known  = some r) :
    Calls Try.prog 15 #[] w fun e w' => e = .returned (.bool (r)) ∧ Below w.heap.size w w' := by
  unfold law18_known at h
  refine enter_ Try.func15 rfl Try.ntmps15 rfl ?_
  refine WP.st tysOk true rfl True.intro rfl rfl rfl rfl True.intro ?_
  obtain ⟨hm1, h⟩ := ck_some h
  refine WP.mkO (f := (fI .i64)) 0 tysOk rfl rfl rfl rfl rfl rfl rfl rfl rfl rfl rfl rfl hm1 ?_
  intro g1 hf1
  refine WP.bld (cs := [iv 0, iv 1, iv 0, iv 5, iv 1]) tysOk rfl True.intro rfl rfl rfl rfl rfl rfl rfl ?_
  refine WP.bld (cs := [iv 1, iv 2, iv 0, iv 3, iv 2]) tysOk rfl True.intro rfl rfl rfl rfl rfl rfl rfl ?_
  refine WP.bsO (f := fA) [(Arc.mk 0 1 0 5 1), (Arc.mk 1 2 0 3 2)] tysOk rfl rfl rfl rfl rfl rfl rfl rfl rfl rfl rfl rfl rfl rfl ?_
  intro g2 hf2
  refine WP.bld (cs := [.slice (some ⟨g1, 0, none⟩) ((3 : Int).toNat) ((3 : Int).toNat), .slice (some ⟨g2, 0, none⟩) 2 2]) tysOk rfl True.intro rfl rfl rfl rfl rfl rfl rfl ?_
  refine WP.al tysOk rfl rfl rfl rfl rfl rfl ?_
  intro g3
  refine WP.sto' tysOk [.slice (some ⟨g1, 0, none⟩) ((3 : Int).toNat) ((3 : Int).toNat), .slice (some ⟨g2, 0, none⟩) 2 2] rfl rfl rfl rfl rfl rfl rfl rfl rfl .head rfl rfl ?_
  refine WP.ldm tysOk rfl True.intro rfl rfl rfl rfl rfl rfl rfl (SegAt.blk' .head rfl) ?_
  obtain ⟨r1, hg1, h⟩ := bind_some h
  refine WP.callV rfl rfl rfl rfl rfl rfl rfl (by kernel_rfl) (fun w1 hw1 => (two_Chain_w hg1 (InsZ.mk_ (hw1.ow (.tail (.tail .head)) hf1) (hw1.ow (.tail .head) hf2)) :)) True.intro ?_
  iterate 3 (refine WP.st tysOk true rfl True.intro rfl rfl rfl rfl True.intro ?_)
  refine WP.al tysOk rfl rfl rfl rfl rfl rfl ?_
  intro g4
  refine WP.sto' tysOk [iv r1.1.node, iv r1.1.a, iv r1.1.b, iv r1.1.new.src, iv r1.1.new.dst, iv r1.1.new.low, iv r1.1.new.cap, iv r1.1.new.cost] rfl rfl rfl rfl rfl rfl rfl rfl rfl .head rfl rfl ?_
  refine WP.st tysOk true rfl True.intro rfl rfl rfl rfl True.intro ?_
  refine WP.ldm tysOk rfl True.intro rfl rfl rfl rfl rfl rfl rfl (SegAt.blk' (.tail .head) rfl) ?_
  obtain ⟨r2, hg2, h⟩ := bind_some h
  refine WP.callV rfl rfl rfl rfl rfl rfl rfl (by kernel_rfl) (fun w1 hw1 => (two_Split_w hg2 (InsZ.mk_ (hw1.ow (.tail (.tail (.tail .head))) hf1) (hw1.ow (.tail (.tail .head)) hf2)) :)) True.intro ?_
  iterate 3 (refine WP.st tysOk true rfl True.intro rfl rfl rfl rfl True.intro ?_)
  refine WP.al tysOk rfl rfl rfl rfl rfl rfl ?_
  intro g5
  refine WP.sto' tysOk [iv r2.1.node, iv r2.1.a, iv r2.1.b, iv r2.1.new.src, iv r2.1.new.dst, iv r2.1.new.low, iv r2.1.new.cap, iv r2.1.new.cost] rfl rfl rfl rfl rfl rfl rfl rfl rfl .head rfl rfl ?_
  refine WP.st tysOk true rfl True.intro rfl rfl rfl rfl True.intro ?_
  refine WP.ldm tysOk rfl True.intro rfl rfl rfl rfl rfl rfl rfl (SegAt.blk' (.tail (.tail .head)) rfl) ?_
  obtain ⟨r3, hg3, h⟩ := bind_some h
  refine WP.callS (two_Series_S r3) rfl rfl rfl rfl rfl rfl rfl (by kernel_rfl) (fun w1 hw1 => (two_Series_w hg3 (InsZ.mk_ (hw1.ow (.tail (.tail (.tail (.tail .head)))) hf1) (hw1.ow (.tail (.tail (.tail .head))) hf2)) :)) ?_
  rintro _ _ ⟨A1, n1, c1, A2, n2, c2, A3, n3, c3, A4, n4, c4, rfl, hf3, hf4, hf5, hf6, rfl⟩
  iterate 3 (refine WP.st tysOk true rfl True.intro rfl rfl rfl rfl True.intro ?_)
  refine WP.al tysOk rfl rfl rfl rfl rfl rfl ?_
  intro g6
  refine WP.sto' tysOk [.slice A1 n1 c1, .slice A2 n2 c2, iv r3.1.rcd.pass, .slice A3 n3 c3, .slice A4 n4 c4, iv r3.1.off.hi, .int .u64 (r3.1.off.lo), .bool (r3.1.did)] rfl rfl rfl rfl rfl rfl rfl rfl rfl .head rfl rfl ?_
  refine WP.st tysOk true rfl True.intro rfl rfl rfl rfl True.intro ?_
  by_cases hh1 : r1.2 = true
  · rw [if_pos hh1] at h
    by_cases hh2 : r2.2 = true
    · rw [if_pos hh2] at h
      refine WP.drawL 38 [] rfl (by kernel_rfl) (by kernel_rfl) (by kernel_rfl) ?_
      iterate 2 (refine WP.st tysOk true rfl ⟨⟨rfl, rfl⟩, rfl⟩ rfl rfl rfl rfl True.intro ?_)
      refine WP.yes rfl rfl hh1 ?_
      refine WP.st tysOk true rfl ⟨⟨rfl, rfl⟩, rfl⟩ rfl rfl rfl rfl True.intro ?_
      refine WP.yes rfl rfl rfl ?_
      iterate 3 (refine WP.st tysOk true rfl ⟨⟨rfl, rfl⟩, rfl⟩ rfl rfl rfl rfl True.intro ?_)
      refine WP.no rfl rfl (by simp [hh2]) rfl rfl ?_
      iterate 2 (refine WP.no rfl rfl rfl rfl rfl ?_)
      iterate 2 (refine WP.st tysOk true rfl ⟨⟨rfl, rfl⟩, rfl⟩ rfl rfl rfl rfl True.intro ?_)
      iterate 3 (refine WP.no rfl rfl rfl rfl rfl ?_)
      iterate 2 (refine WP.st tysOk true rfl ⟨⟨rfl, rfl⟩, rfl⟩ rfl rfl rfl rfl True.intro ?_)
      iterate 4 (refine WP.no rfl rfl rfl rfl rfl ?_)
      iterate 3 (refine WP.st tysOk true rfl ⟨⟨rfl, rfl⟩, rfl⟩ rfl rfl rfl rfl True.intro ?_; refine WP.st tysOk true rfl ⟨⟨rfl, rfl⟩, rfl⟩ rfl rfl rfl rfl True.intro ?_; refine WP.no rfl rfl rfl rfl rfl ?_; refine WP.no rfl rfl rfl rfl rfl ?_)
      iterate 5 (refine WP.no rfl rfl rfl rfl rfl ?_)
      refine WP.st tysOk true rfl ⟨⟨rfl, rfl⟩, rfl⟩ rfl rfl rfl rfl True.intro ?_
      refine WP.lend rfl ⟨rfl, rfl⟩ ?_
      refine WP.st tysOk true rfl True.intro rfl rfl rfl rfl True.intro ?_
      cases h
      refine WP.retR tysOk rfl rfl ⟨_, _, rfl, rfl, rfl⟩ (fun w1 hw1 => ⟨rfl, Ret.below_ hw1 (.cons (.tail (.tail (.tail (.tail (.tail (.tail (.tail (.tail (.tail (.tail .head)))))))))) .nil)⟩)
    rw [if_neg hh2] at h
    by_cases hh3 : r1.1.a = 0
    · rw [if_pos hh3] at h
      by_cases hh4 : r1.1.b = 1
      · rw [if_pos hh4] at h
        by_cases hh5 : r1.1.new = (Arc.mk 0 2 0 3 3)
        · rw [if_pos hh5] at h
          by_cases hh6 : r3.2 = 0
          · rw [if_pos hh6] at h
            by_cases hh7 : r3.1.did = true
            · rw [if_pos hh7] at h
              obtain ⟨hm2, h⟩ := ck_some h
              obtain ⟨r4, hg4, h⟩ := bind_some h
              refine WP.drawL 38 [(32, [], fun _ => mkSpec 2 (2 : Int).toNat (iv 0)), (34, [], litSpec 23 1), (36, [32, 34], fun _ => constSpec (.bool (r4)))] rfl (by kernel_rfl) (by kernel_rfl) (by kernel_rfl) ?_
              iterate 2 (refine WP.st tysOk true rfl ⟨⟨rfl, rfl⟩, rfl⟩ rfl rfl rfl rfl True.intro ?_)
              refine WP.yes rfl rfl hh1 ?_
              refine WP.st tysOk true rfl ⟨⟨rfl, rfl⟩, rfl⟩ rfl rfl rfl rfl True.intro ?_
              refine WP.yes rfl rfl rfl ?_
              iterate 3 (refine WP.st tysOk true rfl ⟨⟨rfl, rfl⟩, rfl⟩ rfl rfl rfl rfl True.intro ?_)
              refine WP.yes rfl rfl (by simp [hh2]) ?_
              refine WP.st tysOk true rfl ⟨⟨rfl, rfl⟩, rfl⟩ rfl rfl rfl rfl True.intro ?_
              refine WP.yes rfl rfl rfl ?_
              refine WP.ld1 tysOk rfl ⟨⟨rfl, rfl⟩, rfl⟩ rfl rfl rfl rfl rfl rfl rfl (CellAt.blk (.tail (.tail (.tail (.tail (.tail (.tail .head)))))) rfl) ?_
              refine WP.yes rfl rfl rfl ?_
              iterate 3 (refine WP.st tysOk true rfl ⟨⟨rfl, rfl⟩, rfl⟩ rfl rfl rfl rfl True.intro ?_)
              refine WP.yes rfl rfl (decide_eq_true hh3) ?_
              refine WP.st tysOk true rfl ⟨⟨rfl, rfl⟩, rfl⟩ rfl rfl rfl rfl True.intro ?_
              refine WP.yes rfl rfl rfl ?_
              refine WP.ld1 tysOk rfl ⟨⟨rfl, rfl⟩, rfl⟩ rfl rfl rfl rfl rfl rfl rfl (CellAt.blk (.tail (.tail (.tail (.tail (.tail (.tail .head)))))) rfl) ?_
              refine WP.yes rfl rfl rfl ?_
              iterate 3 (refine WP.st tysOk true rfl ⟨⟨rfl, rfl⟩, rfl⟩ rfl rfl rfl rfl True.intro ?_)
              refine WP.yes rfl rfl (decide_eq_true hh4) ?_
              refine WP.st tysOk true rfl ⟨⟨rfl, rfl⟩, rfl⟩ rfl rfl rfl rfl True.intro ?_
              refine WP.yes rfl rfl rfl ?_
              refine WP.ldm tysOk rfl ⟨⟨rfl, rfl⟩, rfl⟩ rfl rfl rfl rfl rfl rfl rfl (SegAt.blk' (.tail (.tail (.tail (.tail (.tail (.tail .head)))))) rfl) ?_
              refine WP.yes rfl rfl rfl ?_
              refine WP.bld (cs := [iv 0, iv 2, iv 0, iv 3, iv 3]) tysOk rfl ⟨⟨rfl, rfl⟩, rfl⟩ rfl rfl rfl rfl rfl rfl rfl ?_
              refine WP.yes rfl rfl rfl ?_
              refine WP.eqS rfl ⟨⟨rfl, rfl⟩, rfl⟩ rfl rfl rfl rfl rfl rfl (by kernel_rfl) (eq23 r1.1.new (Arc.mk 0 2 0 3 3)) ?_
              iterate 2 (refine WP.st tysOk true rfl ⟨⟨rfl, rfl⟩, rfl⟩ rfl rfl rfl rfl True.intro ?_)
              refine WP.yes rfl rfl (decide_eq_true hh5) ?_
              refine WP.st tysOk true rfl ⟨⟨rfl, rfl⟩, rfl⟩ rfl rfl rfl rfl True.intro ?_
              refine WP.yes rfl rfl rfl ?_
              iterate 3 (refine WP.st tysOk true rfl ⟨⟨rfl, rfl⟩, rfl⟩ rfl rfl rfl rfl True.intro ?_)
              refine WP.yes rfl rfl (decide_eq_true hh6) ?_
              refine WP.st tysOk true rfl ⟨⟨rfl, rfl⟩, rfl⟩ rfl rfl rfl rfl True.intro ?_
              refine WP.yes rfl rfl rfl ?_
              refine WP.ld1 tysOk rfl ⟨⟨rfl, rfl⟩, rfl⟩ rfl rfl rfl rfl rfl rfl rfl (CellAt.blk .head rfl) ?_
              iterate 2 (refine WP.st tysOk true rfl ⟨⟨rfl, rfl⟩, rfl⟩ rfl rfl rfl rfl True.intro ?_)
              refine WP.yes rfl rfl hh7 ?_
              refine WP.st tysOk true rfl ⟨⟨rfl, rfl⟩, rfl⟩ rfl rfl rfl rfl True.intro ?_
              refine WP.yes rfl rfl rfl ?_
              refine WP.ldm tysOk rfl ⟨⟨rfl, rfl⟩, rfl⟩ rfl rfl rfl rfl rfl rfl rfl (SegAt.blk' .head rfl) ?_
              refine WP.yes rfl rfl rfl ?_
              refine WP.lmO tysOk rfl ⟨rfl, rfl⟩ rfl rfl rfl rfl rfl rfl rfl rfl rfl rfl hm2 ?_
              intro g7
              refine WP.yes rfl rfl rfl ?_
              refine WP.bld (cs := [iv 0, iv 1, iv 0, iv 3, iv 3]) tysOk rfl ⟨⟨rfl, rfl⟩, rfl⟩ rfl rfl rfl rfl rfl rfl rfl ?_
              refine WP.yes rfl rfl rfl ?_
              refine WP.lbs tysOk rfl ⟨rfl, rfl⟩ rfl rfl rfl rfl rfl rfl rfl rfl rfl rfl rfl rfl ?_
              intro g8
              refine WP.yes rfl rfl rfl ?_
              refine WP.bld (cs := [.slice (some ⟨g7, 0, none⟩) ((2 : Int).toNat) ((2 : Int).toNat), .slice (some ⟨g8, 0, none⟩) 1 1]) tysOk rfl ⟨⟨rfl, rfl⟩, rfl⟩ rfl rfl rfl rfl rfl rfl rfl ?_
              refine WP.yes rfl rfl rfl ?_
              refine WP.lcall rfl ⟨rfl, rfl⟩ rfl rfl rfl rfl rfl rfl rfl (by kernel_rfl) (fun w1 hw1 => ((ref03_Same_w hg4 (InsZ.mk_ (hw1.ow (.tail (.tail (.tail .head))) hf3) (hw1.ow (.tail (.tail (.tail (.tail .head)))) hf4)) (InsZ.mk_ (hw1.blM 0 (.tail .head) rfl rfl hm2) (hw1.blL [(Arc.mk 0 1 0 3 3)] .head rfl rfl rfl)) :)).mono fun e w' h => ⟨_, [], h.1, ⟨rfl, rfl⟩, Ret.nil h.2⟩) ?_
              rintro _ _ ⟨rfl, rfl⟩
              refine WP.st tysOk true rfl ⟨⟨rfl, rfl⟩, rfl⟩ rfl rfl rfl rfl True.intro ?_
              refine WP.lend rfl ⟨rfl, rfl⟩ ?_
              refine WP.shutM (f := (fI .i64)) 0 (.tail .head) rfl rfl hm2 ?_
              intro hf7
              refine WP.repiece (p' := .blk g8 23 (cl fA [(Arc.mk 0 1 0 3 3)])) (.tail .head) rfl ?_
              refine WP.shut0 (n := 1) (z := fA.z) .head (by decide) rfl ?_
              have hf8 : OwF (some ⟨g8, 0, none⟩) 1 [(Arc.mk 0 1 0 3 3)] := ⟨rfl, fun _ => ⟨g8, rfl⟩⟩
              refine WP.st tysOk true rfl True.intro rfl rfl rfl rfl True.intro ?_
              cases h
              refine WP.retR tysOk rfl rfl ⟨_, _, rfl, rfl, rfl⟩ (fun w1 hw1 => ⟨rfl, Ret.below_ hw1 (.cons (.tail (.tail (.tail (.tail (.tail (.tail (.tail (.tail (.tail (.tail (.tail (.tail .head)))))))))))) .nil)⟩)
            rw [if_neg hh7] at h
            refine WP.drawL 38 [] rfl (by kernel_rfl) (by kernel_rfl) (by kernel_rfl) ?_
            iterate 2 (refine WP.st tysOk true rfl ⟨⟨rfl, rfl⟩, rfl⟩ rfl rfl rfl rfl True.intro ?_)
            refine WP.yes rfl rfl hh1 ?_
            refine WP.st tysOk true rfl ⟨⟨rfl, rfl⟩, rfl⟩ rfl rfl rfl rfl True.intro ?_
            refine WP.yes rfl rfl rfl ?_
            iterate 3 (refine WP.st tysOk true rfl ⟨⟨rfl, rfl⟩, rfl⟩ rfl rfl rfl rfl True.intro ?_)
            refine WP.yes rfl rfl (by simp [hh2]) ?_
            refine WP.st tysOk true rfl ⟨⟨rfl, rfl⟩, rfl⟩ rfl rfl rfl rfl True.intro ?_
            refine WP.yes rfl rfl rfl ?_
            refine WP.ld1 tysOk rfl ⟨⟨rfl, rfl⟩, rfl⟩ rfl rfl rfl rfl rfl rfl rfl (CellAt.blk (.tail (.tail (.tail (.tail (.tail (.tail .head)))))) rfl) ?_
            refine WP.yes rfl rfl rfl ?_
            iterate 3 (refine WP.st tysOk true rfl ⟨⟨rfl, rfl⟩, rfl⟩ rfl rfl rfl rfl True.intro ?_)
            refine WP.yes rfl rfl (decide_eq_true hh3) ?_
            refine WP.st tysOk true rfl ⟨⟨rfl, rfl⟩, rfl⟩ rfl rfl rfl rfl True.intro ?_
            refine WP.yes rfl rfl rfl ?_
            refine WP.ld1 tysOk rfl ⟨⟨rfl, rfl⟩, rfl⟩ rfl rfl rfl rfl rfl rfl rfl (CellAt.blk (.tail (.tail (.tail (.tail (.tail (.tail .head)))))) rfl) ?_
            refine WP.yes rfl rfl rfl ?_
            iterate 3 (refine WP.st tysOk true rfl ⟨⟨rfl, rfl⟩, rfl⟩ rfl rfl rfl rfl True.intro ?_)
            refine WP.yes rfl rfl (decide_eq_true hh4) ?_
            refine WP.st tysOk true rfl ⟨⟨rfl, rfl⟩, rfl⟩ rfl rfl rfl rfl True.intro ?_
            refine WP.yes rfl rfl rfl ?_
            refine WP.ldm tysOk rfl ⟨⟨rfl, rfl⟩, rfl⟩ rfl rfl rfl rfl rfl rfl rfl (SegAt.blk' (.tail (.tail (.tail (.tail (.tail (.tail .head)))))) rfl) ?_
            refine WP.yes rfl rfl rfl ?_
            refine WP.bld (cs := [iv 0, iv 2, iv 0, iv 3, iv 3]) tysOk rfl ⟨⟨rfl, rfl⟩, rfl⟩ rfl rfl rfl rfl rfl rfl rfl ?_
            refine WP.yes rfl rfl rfl ?_
            refine WP.eqS rfl ⟨⟨rfl, rfl⟩, rfl⟩ rfl rfl rfl rfl rfl rfl (by kernel_rfl) (eq23 r1.1.new (Arc.mk 0 2 0 3 3)) ?_
            iterate 2 (refine WP.st tysOk true rfl ⟨⟨rfl, rfl⟩, rfl⟩ rfl rfl rfl rfl True.intro ?_)
            refine WP.yes rfl rfl (decide_eq_true hh5) ?_
            refine WP.st tysOk true rfl ⟨⟨rfl, rfl⟩, rfl⟩ rfl rfl rfl rfl True.intro ?_
            refine WP.yes rfl rfl rfl ?_
            iterate 3 (refine WP.st tysOk true rfl ⟨⟨rfl, rfl⟩, rfl⟩ rfl rfl rfl rfl True.intro ?_)
            refine WP.yes rfl rfl (decide_eq_true hh6) ?_
            refine WP.st tysOk true rfl ⟨⟨rfl, rfl⟩, rfl⟩ rfl rfl rfl rfl True.intro ?_
            refine WP.yes rfl rfl rfl ?_
            refine WP.ld1 tysOk rfl ⟨⟨rfl, rfl⟩, rfl⟩ rfl rfl rfl rfl rfl rfl rfl (CellAt.blk .head rfl) ?_
            iterate 2 (refine WP.st tysOk true rfl ⟨⟨rfl, rfl⟩, rfl⟩ rfl rfl rfl rfl True.intro ?_)
            refine WP.no rfl rfl (bfalse hh7) rfl rfl ?_
            iterate 6 (refine WP.no rfl rfl rfl rfl rfl ?_)
            refine WP.st tysOk true rfl ⟨⟨rfl, rfl⟩, rfl⟩ rfl rfl rfl rfl True.intro ?_
            refine WP.lend rfl ⟨rfl, rfl⟩ ?_
            refine WP.st tysOk true rfl True.intro rfl rfl rfl rfl True.intro ?_
            cases h
            refine WP.retR tysOk rfl rfl ⟨_, _, rfl, rfl, rfl⟩ (fun w1 hw1 => ⟨rfl, Ret.below_ hw1 (.cons (.tail (.tail (.tail (.tail (.tail (.tail (.tail (.tail (.tail (.tail .head)))))))))) .nil)⟩)
          rw [if_neg hh6] at h
          refine WP.drawL 38 [] rfl (by kernel_rfl) (by kernel_rfl) (by kernel_rfl) ?_
          iterate 2 (refine WP.st tysOk true rfl ⟨⟨rfl, rfl⟩, rfl⟩ rfl rfl rfl rfl True.intro ?_)
          refine WP.yes rfl rfl hh1 ?_
          refine WP.st tysOk true rfl ⟨⟨rfl, rfl⟩, rfl⟩ rfl rfl rfl rfl True.intro ?_
          refine WP.yes rfl rfl rfl ?_
          iterate 3 (refine WP.st tysOk true rfl ⟨⟨rfl, rfl⟩, rfl⟩ rfl rfl rfl rfl True.intro ?_)
          refine WP.yes rfl rfl (by simp [hh2]) ?_
          refine WP.st tysOk true rfl ⟨⟨rfl, rfl⟩, rfl⟩ rfl rfl rfl rfl True.intro ?_
          refine WP.yes rfl rfl rfl ?_
          refine WP.ld1 tysOk rfl ⟨⟨rfl, rfl⟩, rfl⟩ rfl rfl rfl rfl rfl rfl rfl (CellAt.blk (.tail (.tail (.tail (.tail (.tail (.tail .head)))))) rfl) ?_
          refine WP.yes rfl rfl rfl ?_
          iterate 3 (refine WP.st tysOk true rfl ⟨⟨rfl, rfl⟩, rfl⟩ rfl rfl rfl rfl True.intro ?_)
          refine WP.yes rfl rfl (decide_eq_true hh3) ?_
          refine WP.st tysOk true rfl ⟨⟨rfl, rfl⟩, rfl⟩ rfl rfl rfl rfl True.intro ?_
          refine WP.yes rfl rfl rfl ?_
          refine WP.ld1 tysOk rfl ⟨⟨rfl, rfl⟩, rfl⟩ rfl rfl rfl rfl rfl rfl rfl (CellAt.blk (.tail (.tail (.tail (.tail (.tail (.tail .head)))))) rfl) ?_
          refine WP.yes rfl rfl rfl ?_
          iterate 3 (refine WP.st tysOk true rfl ⟨⟨rfl, rfl⟩, rfl⟩ rfl rfl rfl rfl True.intro ?_)
          refine WP.yes rfl rfl (decide_eq_true hh4) ?_
          refine WP.st tysOk true rfl ⟨⟨rfl, rfl⟩, rfl⟩ rfl rfl rfl rfl True.intro ?_
          refine WP.yes rfl rfl rfl ?_
          refine WP.ldm tysOk rfl ⟨⟨rfl, rfl⟩, rfl⟩ rfl rfl rfl rfl rfl rfl rfl (SegAt.blk' (.tail (.tail (.tail (.tail (.tail (.tail .head)))))) rfl) ?_
          refine WP.yes rfl rfl rfl ?_
          refine WP.bld (cs := [iv 0, iv 2, iv 0, iv 3, iv 3]) tysOk rfl ⟨⟨rfl, rfl⟩, rfl⟩ rfl rfl rfl rfl rfl rfl rfl ?_
          refine WP.yes rfl rfl rfl ?_
          refine WP.eqS rfl ⟨⟨rfl, rfl⟩, rfl⟩ rfl rfl rfl rfl rfl rfl (by kernel_rfl) (eq23 r1.1.new (Arc.mk 0 2 0 3 3)) ?_
          iterate 2 (refine WP.st tysOk true rfl ⟨⟨rfl, rfl⟩, rfl⟩ rfl rfl rfl rfl True.intro ?_)
          refine WP.yes rfl rfl (decide_eq_true hh5) ?_
          refine WP.st tysOk true rfl ⟨⟨rfl, rfl⟩, rfl⟩ rfl rfl rfl rfl True.intro ?_
          refine WP.yes rfl rfl rfl ?_
          iterate 3 (refine WP.st tysOk true rfl ⟨⟨rfl, rfl⟩, rfl⟩ rfl rfl rfl rfl True.intro ?_)
          refine WP.no rfl rfl (decide_eq_false hh6) rfl rfl ?_
          refine WP.no rfl rfl rfl rfl rfl ?_
          iterate 2 (refine WP.st tysOk true rfl ⟨⟨rfl, rfl⟩, rfl⟩ rfl rfl rfl rfl True.intro ?_)
          iterate 7 (refine WP.no rfl rfl rfl rfl rfl ?_)
          refine WP.st tysOk true rfl ⟨⟨rfl, rfl⟩, rfl⟩ rfl rfl rfl rfl True.intro ?_
          refine WP.lend rfl ⟨rfl, rfl⟩ ?_
          refine WP.st tysOk true rfl True.intro rfl rfl rfl rfl True.intro ?_
          cases h
          refine WP.retR tysOk rfl rfl ⟨_, _, rfl, rfl, rfl⟩ (fun w1 hw1 => ⟨rfl, Ret.below_ hw1 (.cons (.tail (.tail (.tail (.tail (.tail (.tail (.tail (.tail (.tail (.tail .head)))))))))) .nil)⟩)
        rw [if_neg hh5] at h
        refine WP.drawL 38 [] rfl (by kernel_rfl) (by kernel_rfl) (by kernel_rfl) ?_
        iterate 2 (refine WP.st tysOk true rfl ⟨⟨rfl, rfl⟩, rfl⟩ rfl rfl rfl rfl True.intro ?_)
        refine WP.yes rfl rfl hh1 ?_
        refine WP.st tysOk true rfl ⟨⟨rfl, rfl⟩, rfl⟩ rfl rfl rfl rfl True.intro ?_
        refine WP.yes rfl rfl rfl ?_
        iterate 3 (refine WP.st tysOk true rfl ⟨⟨rfl, rfl⟩, rfl⟩ rfl rfl rfl rfl True.intro ?_)
        refine WP.yes rfl rfl (by simp [hh2]) ?_
        refine WP.st tysOk true rfl ⟨⟨rfl, rfl⟩, rfl⟩ rfl rfl rfl rfl True.intro ?_
        refine WP.yes rfl rfl rfl ?_
        refine WP.ld1 tysOk rfl ⟨⟨rfl, rfl⟩, rfl⟩ rfl rfl rfl rfl rfl rfl rfl (CellAt.blk (.tail (.tail (.tail (.tail (.tail (.tail .head)))))) rfl) ?_
        refine WP.yes rfl rfl rfl ?_
        iterate 3 (refine WP.st tysOk true rfl ⟨⟨rfl, rfl⟩, rfl⟩ rfl rfl rfl rfl True.intro ?_)
        refine WP.yes rfl rfl (decide_eq_true hh3) ?_
        refine WP.st tysOk true rfl ⟨⟨rfl, rfl⟩, rfl⟩ rfl rfl rfl rfl True.intro ?_
        refine WP.yes rfl rfl rfl ?_
        refine WP.ld1 tysOk rfl ⟨⟨rfl, rfl⟩, rfl⟩ rfl rfl rfl rfl rfl rfl rfl (CellAt.blk (.tail (.tail (.tail (.tail (.tail (.tail .head)))))) rfl) ?_
        refine WP.yes rfl rfl rfl ?_
        iterate 3 (refine WP.st tysOk true rfl ⟨⟨rfl, rfl⟩, rfl⟩ rfl rfl rfl rfl True.intro ?_)
        refine WP.yes rfl rfl (decide_eq_true hh4) ?_
        refine WP.st tysOk true rfl ⟨⟨rfl, rfl⟩, rfl⟩ rfl rfl rfl rfl True.intro ?_
        refine WP.yes rfl rfl rfl ?_
        refine WP.ldm tysOk rfl ⟨⟨rfl, rfl⟩, rfl⟩ rfl rfl rfl rfl rfl rfl rfl (SegAt.blk' (.tail (.tail (.tail (.tail (.tail (.tail .head)))))) rfl) ?_
        refine WP.yes rfl rfl rfl ?_
        refine WP.bld (cs := [iv 0, iv 2, iv 0, iv 3, iv 3]) tysOk rfl ⟨⟨rfl, rfl⟩, rfl⟩ rfl rfl rfl rfl rfl rfl rfl ?_
        refine WP.yes rfl rfl rfl ?_
        refine WP.eqS rfl ⟨⟨rfl, rfl⟩, rfl⟩ rfl rfl rfl rfl rfl rfl (by kernel_rfl) (eq23 r1.1.new (Arc.mk 0 2 0 3 3)) ?_
        iterate 2 (refine WP.st tysOk true rfl ⟨⟨rfl, rfl⟩, rfl⟩ rfl rfl rfl rfl True.intro ?_)
        refine WP.no rfl rfl (decide_eq_false hh5) rfl rfl ?_
        iterate 2 (refine WP.no rfl rfl rfl rfl rfl ?_; refine WP.st tysOk true rfl ⟨⟨rfl, rfl⟩, rfl⟩ rfl rfl rfl rfl True.intro ?_; refine WP.st tysOk true rfl ⟨⟨rfl, rfl⟩, rfl⟩ rfl rfl rfl rfl True.intro ?_; refine WP.no rfl rfl rfl rfl rfl ?_)
        iterate 6 (refine WP.no rfl rfl rfl rfl rfl ?_)
        refine WP.st tysOk true rfl ⟨⟨rfl, rfl⟩, rfl⟩ rfl rfl rfl rfl True.intro ?_
        refine WP.lend rfl ⟨rfl, rfl⟩ ?_
        refine WP.st tysOk true rfl True.intro rfl rfl rfl rfl True.intro ?_
        cases h
        refine WP.retR tysOk rfl rfl ⟨_, _, rfl, rfl, rfl⟩ (fun w1 hw1 => ⟨rfl, Ret.below_ hw1 (.cons (.tail (.tail (.tail (.tail (.tail (.tail (.tail (.tail (.tail (.tail .head)))))))))) .nil)⟩)
      rw [if_neg hh4] at h
      refine WP.drawL 38 [] rfl (by kernel_rfl) (by kernel_rfl) (by kernel_rfl) ?_
      iterate 2 (refine WP.st tysOk true rfl ⟨⟨rfl, rfl⟩, rfl⟩ rfl rfl rfl rfl True.intro ?_)
      refine WP.yes rfl rfl hh1 ?_
      refine WP.st tysOk true rfl ⟨⟨rfl, rfl⟩, rfl⟩ rfl rfl rfl rfl True.intro ?_
      refine WP.yes rfl rfl rfl ?_
      iterate 3 (refine WP.st tysOk true rfl ⟨⟨rfl, rfl⟩, rfl⟩ rfl rfl rfl rfl True.intro ?_)
      refine WP.yes rfl rfl (by simp [hh2]) ?_
      refine WP.st tysOk true rfl ⟨⟨rfl, rfl⟩, rfl⟩ rfl rfl rfl rfl True.intro ?_
      refine WP.yes rfl rfl rfl ?_
      refine WP.ld1 tysOk rfl ⟨⟨rfl, rfl⟩, rfl⟩ rfl rfl rfl rfl rfl rfl rfl (CellAt.blk (.tail (.tail (.tail (.tail (.tail (.tail .head)))))) rfl) ?_
      refine WP.yes rfl rfl rfl ?_
      iterate 3 (refine WP.st tysOk true rfl ⟨⟨rfl, rfl⟩, rfl⟩ rfl rfl rfl rfl True.intro ?_)
      refine WP.yes rfl rfl (decide_eq_true hh3) ?_
      refine WP.st tysOk true rfl ⟨⟨rfl, rfl⟩, rfl⟩ rfl rfl rfl rfl True.intro ?_
      refine WP.yes rfl rfl rfl ?_
      refine WP.ld1 tysOk rfl ⟨⟨rfl, rfl⟩, rfl⟩ rfl rfl rfl rfl rfl rfl rfl (CellAt.blk (.tail (.tail (.tail (.tail (.tail (.tail .head)))))) rfl) ?_
      refine WP.yes rfl rfl rfl ?_
      iterate 3 (refine WP.st tysOk true rfl ⟨⟨rfl, rfl⟩, rfl⟩ rfl rfl rfl rfl True.intro ?_)
      refine WP.no rfl rfl (decide_eq_false hh4) rfl rfl ?_
      iterate 3 (refine WP.no rfl rfl rfl rfl rfl ?_)
      iterate 3 (refine WP.st tysOk true rfl ⟨⟨rfl, rfl⟩, rfl⟩ rfl rfl rfl rfl True.intro ?_; refine WP.st tysOk true rfl ⟨⟨rfl, rfl⟩, rfl⟩ rfl rfl rfl rfl True.intro ?_; refine WP.no rfl rfl rfl rfl rfl ?_; refine WP.no rfl rfl rfl rfl rfl ?_)
      iterate 5 (refine WP.no rfl rfl rfl rfl rfl ?_)
      refine WP.st tysOk true rfl ⟨⟨rfl, rfl⟩, rfl⟩ rfl rfl rfl rfl True.intro ?_
      refine WP.lend rfl ⟨rfl, rfl⟩ ?_
      refine WP.st tysOk true rfl True.intro rfl rfl rfl rfl True.intro ?_
      cases h
      refine WP.retR tysOk rfl rfl ⟨_, _, rfl, rfl, rfl⟩ (fun w1 hw1 => ⟨rfl, Ret.below_ hw1 (.cons (.tail (.tail (.tail (.tail (.tail (.tail (.tail (.tail (.tail (.tail .head)))))))))) .nil)⟩)
    rw [if_neg hh3] at h
    refine WP.drawL 38 [] rfl (by kernel_rfl) (by kernel_rfl) (by kernel_rfl) ?_
    iterate 2 (refine WP.st tysOk true rfl ⟨⟨rfl, rfl⟩, rfl⟩ rfl rfl rfl rfl True.intro ?_)
    refine WP.yes rfl rfl hh1 ?_
    refine WP.st tysOk true rfl ⟨⟨rfl, rfl⟩, rfl⟩ rfl rfl rfl rfl True.intro ?_
    refine WP.yes rfl rfl rfl ?_
    iterate 3 (refine WP.st tysOk true rfl ⟨⟨rfl, rfl⟩, rfl⟩ rfl rfl rfl rfl True.intro ?_)
    refine WP.yes rfl rfl (by simp [hh2]) ?_
    refine WP.st tysOk true rfl ⟨⟨rfl, rfl⟩, rfl⟩ rfl rfl rfl rfl True.intro ?_
    refine WP.yes rfl rfl rfl ?_
    refine WP.ld1 tysOk rfl ⟨⟨rfl, rfl⟩, rfl⟩ rfl rfl rfl rfl rfl rfl rfl (CellAt.blk (.tail (.tail (.tail (.tail (.tail (.tail .head)))))) rfl) ?_
    refine WP.yes rfl rfl rfl ?_
    iterate 3 (refine WP.st tysOk true rfl ⟨⟨rfl, rfl⟩, rfl⟩ rfl rfl rfl rfl True.intro ?_)
    refine WP.no rfl rfl (decide_eq_false hh3) rfl rfl ?_
    iterate 2 (refine WP.no rfl rfl rfl rfl rfl ?_)
    iterate 2 (refine WP.st tysOk true rfl ⟨⟨rfl, rfl⟩, rfl⟩ rfl rfl rfl rfl True.intro ?_)
    iterate 4 (refine WP.no rfl rfl rfl rfl rfl ?_)
    iterate 3 (refine WP.st tysOk true rfl ⟨⟨rfl, rfl⟩, rfl⟩ rfl rfl rfl rfl True.intro ?_; refine WP.st tysOk true rfl ⟨⟨rfl, rfl⟩, rfl⟩ rfl rfl rfl rfl True.intro ?_; refine WP.no rfl rfl rfl rfl rfl ?_; refine WP.no rfl rfl rfl rfl rfl ?_)
    iterate 5 (refine WP.no rfl rfl rfl rfl rfl ?_)
    refine WP.st tysOk true rfl ⟨⟨rfl, rfl⟩, rfl⟩ rfl rfl rfl rfl True.intro ?_
    refine WP.lend rfl ⟨rfl, rfl⟩ ?_
    refine WP.st tysOk true rfl True.intro rfl rfl rfl rfl True.intro ?_
    cases h
    refine WP.retR tysOk rfl rfl ⟨_, _, rfl, rfl, rfl⟩ (fun w1 hw1 => ⟨rfl, Ret.below_ hw1 (.cons (.tail (.tail (.tail (.tail (.tail (.tail (.tail (.tail (.tail (.tail .head)))))))))) .nil)⟩)
  rw [if_neg hh1] at h
  refine WP.drawL 38 [] rfl (by kernel_rfl) (by kernel_rfl) (by kernel_rfl) ?_
  iterate 2 (refine WP.st tysOk true rfl ⟨⟨rfl, rfl⟩, rfl⟩ rfl rfl rfl rfl True.intro ?_)
  refine WP.no rfl rfl (bfalse hh1) rfl rfl ?_
  refine WP.no rfl rfl rfl rfl rfl ?_
  iterate 2 (refine WP.st tysOk true rfl ⟨⟨rfl, rfl⟩, rfl⟩ rfl rfl rfl rfl True.intro ?_)
  iterate 3 (refine WP.no rfl rfl rfl rfl rfl ?_)
  iterate 2 (refine WP.st tysOk true rfl ⟨⟨rfl, rfl⟩, rfl⟩ rfl rfl rfl rfl True.intro ?_)
  iterate 3 (refine WP.no rfl rfl rfl rfl rfl ?_)
  iterate 2 (refine WP.st tysOk true rfl ⟨⟨rfl, rfl⟩, rfl⟩ rfl rfl rfl rfl True.intro ?_)
  iterate 4 (refine WP.no rfl rfl rfl rfl rfl ?_)
  iterate 3 (refine WP.st tysOk true rfl ⟨⟨rfl, rfl⟩, rfl⟩ rfl rfl rfl rfl True.intro ?_; refine WP.st tysOk true rfl ⟨⟨rfl, rfl⟩, rfl⟩ rfl rfl rfl rfl True.intro ?_; refine WP.no rfl rfl rfl rfl rfl ?_; refine WP.no rfl rfl rfl rfl rfl ?_)
  iterate 5 (refine WP.no rfl rfl rfl rfl rfl ?_)
  refine WP.st tysOk true rfl ⟨⟨rfl, rfl⟩, rfl⟩ rfl rfl rfl rfl True.intro ?_
  refine WP.lend rfl ⟨rfl, rfl⟩ ?_
  refine WP.st tysOk true rfl True.intro rfl rfl rfl rfl True.intro ?_
  cases h
  refine WP.retR tysOk rfl rfl ⟨_, _, rfl, rfl, rfl⟩ (fun w1 hw1 => ⟨rfl, Ret.below_ hw1 (.cons (.tail (.tail (.tail (.tail (.tail (.tail (.tail (.tail (.tail (.tail .head)))))))))) .nil)⟩)

set_option maxRecDepth 20000 in
set_option maxHeartbeats 8000000 in
theorem slices_Equal_int64_w {w : World} {v0 : Value} {v1 : Value} {s11 : List Int} {s21 : List Int} {r : Bool} (h : slices_Equal_int64 s11 s21 = some r) (p1 : SlF (fI .i64) (PH.of w) v0 s11) (p2 : SlF (fI .i64) (PH.of w) v1 s21) :
    Calls Try.prog 34 #[v0, v1] w fun e w' => e = .returned (.bool (r)) ∧ Below w.heap.size w w' := by
  obtain ⟨A1, c1, rfl, hs1⟩ := p1
  obtain ⟨A2, c2, rfl, hs2⟩ := p2
  unfold slices_Equal_int64 at h
  refine enter_ Try.func34 rfl Try.ntmps34 rfl ?_
  iterate 6 (refine WP.st tysOk true rfl True.intro rfl rfl rfl rfl True.intro ?_)
  refine WP.cond_d rfl rfl (fun hh1 => ?_) (fun hh1 => ?_)
  · rw [if_pos hh1] at h
    refine WP.st tysOk true rfl True.intro rfl rfl rfl rfl True.intro ?_
    cases h
    refine WP.retR tysOk rfl rfl ⟨_, _, rfl, rfl, rfl⟩ (fun w1 hw1 => ⟨rfl, Ret.below_ hw1 (.cons .head .nil)⟩)
  rw [if_neg hh1] at h
  iterate 3 (refine WP.st tysOk true rfl True.intro rfl rfl rfl rfl True.intro ?_)
  refine WP.loop (α := Nat × Int) (fun x => lp (slices_Equal_int64_b1 s11 s21) x.1 x.2 = some r) (fun x => [(0, .slice A1 s11.length c1), (1, .slice A2 s21.length c2), (12, iv (s11.length : Int)), (13, iv x.2)]) (fun x => [.fz (PH.of w)]) (fun x => x.1) rfl (big, 0) h ?_ ?_ ?_
  · repeat (first | exact True.intro | refine And.intro rfl ?_)
  · exact (.cons .head .nil)
  rintro ⟨n1, s2⟩ h
  dsimp only at h ⊢
  rcases n1 with _ | n1
  · exact (lp_no h).elim
  replace h := lp_succ h
  unfold slices_Equal_int64_b1 at h
  try dsimp only at h
  refine WP.st tysOk true rfl True.intro rfl rfl rfl rfl True.intro ?_
  refine WP.cond_d rfl rfl (fun hh6 => ?_) (fun hh6 => ?_)
  · rw [if_pos hh6] at h
    iterate 2 (refine WP.st tysOk true rfl True.intro rfl rfl rfl rfl True.intro ?_)
    refine WP.draw rfl (by kernel_rfl) (by kernel_rfl) ?_
    iterate 2 (refine WP.st tysOk true rfl rfl rfl rfl rfl rfl True.intro ?_)
    obtain ⟨hj5, h⟩ := ck_some h
    refine WP.ixA tysOk rfl rfl rfl rfl rfl rfl rfl rfl rfl rfl hj5 (hs1.ex hj5) ?_
    intro b5 _ hA5
    refine WP.ld1 tysOk rfl rfl rfl rfl rfl rfl rfl rfl rfl (hs1.at0 hA5 (Held.mem (List.Mem.head _)) hj5 rfl) ?_
    iterate 2 (refine WP.st tysOk true rfl rfl rfl rfl rfl rfl True.intro ?_)
    obtain ⟨hj6, h⟩ := ck_some h
    refine WP.ixA tysOk rfl rfl rfl rfl rfl rfl rfl rfl rfl rfl hj6 (hs2.ex hj6) ?_
    intro b6 _ hA6
    refine WP.ld1 tysOk rfl rfl rfl rfl rfl rfl rfl rfl rfl (hs2.at0 hA6 (Held.mem (List.Mem.head _)) hj6 rfl) ?_
    refine WP.st tysOk true rfl rfl rfl rfl rfl rfl True.intro ?_
    refine WP.qend rfl ?_
    refine WP.cond_d rfl rfl (fun hh7 => ?_) (fun hh7 => ?_)
    · rw [if_pos hh7] at h
      refine WP.st tysOk true rfl True.intro rfl rfl rfl rfl True.intro ?_
      cases h
      refine WP.retR tysOk rfl rfl ⟨_, _, rfl, rfl, rfl⟩ (fun w1 hw1 => ⟨rfl, Ret.below_ hw1 (.cons .head .nil)⟩)
    rw [if_neg hh7] at h
    iterate 2 (refine WP.st tysOk true rfl True.intro rfl rfl rfl rfl True.intro ?_)
    refine WP.stop rfl (n1, w64 (s2 + 1)) ⟨h, Nat.lt_succ_self _⟩ ?_ ?_
    · repeat (first | exact True.intro | refine And.intro rfl ?_)
    exact (.cons .head .nil)
  rw [if_neg hh6] at h
  refine WP.st tysOk true rfl True.intro rfl rfl rfl rfl True.intro ?_
  cases h
  refine WP.retR tysOk rfl rfl ⟨_, _, rfl, rfl, rfl⟩ (fun w1 hw1 => ⟨rfl, Ret.below_ hw1 (.cons .head .nil)⟩)

set_option maxRecDepth 20000 in
set_option maxHeartbeats 8000000 in
theorem slices_Equal_api_Arc_w {w : World} {v0 : Value} {v1 : Value} {s11 : List Arc} {s21 : List Arc} {r : Bool} (h : slices_Equal_api_Arc s11 s21 = some r) (p1 : SlF fA (PH.of w) v0 s11) (p2 : SlF fA (PH.of w) v1 s21) :
    Calls Try.prog 35 #[v0, v1] w fun e w' => e = .returned (.bool (r)) ∧ Below w.heap.size w w' := by
  obtain ⟨A1, c1, rfl, hs1⟩ := p1
  obtain ⟨A2, c2, rfl, hs2⟩ := p2
  unfold slices_Equal_api_Arc at h
  refine enter_ Try.func35 rfl Try.ntmps35 rfl ?_
  iterate 6 (refine WP.st tysOk true rfl True.intro rfl rfl rfl rfl True.intro ?_)
  refine WP.cond_d rfl rfl (fun hh1 => ?_) (fun hh1 => ?_)
  · rw [if_pos hh1] at h
    refine WP.st tysOk true rfl True.intro rfl rfl rfl rfl True.intro ?_
    cases h
    refine WP.retR tysOk rfl rfl ⟨_, _, rfl, rfl, rfl⟩ (fun w1 hw1 => ⟨rfl, Ret.below_ hw1 (.cons .head .nil)⟩)
  rw [if_neg hh1] at h
  iterate 3 (refine WP.st tysOk true rfl True.intro rfl rfl rfl rfl True.intro ?_)
  refine WP.loop (α := Nat × Int) (fun x => lp (slices_Equal_api_Arc_b1 s11 s21) x.1 x.2 = some r) (fun x => [(0, .slice A1 s11.length c1), (1, .slice A2 s21.length c2), (12, iv (s11.length : Int)), (13, iv x.2)]) (fun x => [.fz (PH.of w)]) (fun x => x.1) rfl (big, 0) h ?_ ?_ ?_
  · repeat (first | exact True.intro | refine And.intro rfl ?_)
  · exact (.cons .head .nil)
  rintro ⟨n1, s2⟩ h
  dsimp only at h ⊢
  rcases n1 with _ | n1
  · exact (lp_no h).elim
  replace h := lp_succ h
  unfold slices_Equal_api_Arc_b1 at h
  try dsimp only at h
  refine WP.st tysOk true rfl True.intro rfl rfl rfl rfl True.intro ?_
  refine WP.cond_d rfl rfl (fun hh6 => ?_) (fun hh6 => ?_)
  · rw [if_pos hh6] at h
    iterate 2 (refine WP.st tysOk true rfl True.intro rfl rfl rfl rfl True.intro ?_)
    refine WP.draw rfl (by kernel_rfl) (by kernel_rfl) ?_
    iterate 2 (refine WP.st tysOk true rfl rfl rfl rfl rfl rfl True.intro ?_)
    obtain ⟨hj5, h⟩ := ck_some h
    refine WP.ixA tysOk rfl rfl rfl rfl rfl rfl rfl rfl rfl rfl hj5 (hs1.ex hj5) ?_
    intro b5 _ hA5
    refine WP.ldm tysOk rfl rfl rfl rfl rfl rfl rfl rfl rfl (hs1.seg hA5 (Held.mem (List.Mem.head _)) hj5) ?_
    iterate 2 (refine WP.st tysOk true rfl rfl rfl rfl rfl rfl True.intro ?_)
    obtain ⟨hj6, h⟩ := ck_some h
    refine WP.ixA tysOk rfl rfl rfl rfl rfl rfl rfl rfl rfl rfl hj6 (hs2.ex hj6) ?_
    intro b6 _ hA6
    refine WP.ldm tysOk rfl rfl rfl rfl rfl rfl rfl rfl rfl (hs2.seg hA6 (Held.mem (List.Mem.head _)) hj6) ?_
    refine WP.neS rfl rfl rfl rfl rfl rfl rfl rfl (by kernel_rfl) (eq23 (gt s11 s2) (gt s21 s2)) ?_
    refine WP.qend rfl ?_
    refine WP.cond_nd rfl rfl (fun hh7 => ?_) (fun hh7 => ?_)
    · rw [if_neg hh7] at h
      refine WP.st tysOk true rfl True.intro rfl rfl rfl rfl True.intro ?_
      cases h
      refine WP.retR tysOk rfl rfl ⟨_, _, rfl, rfl, rfl⟩ (fun w1 hw1 => ⟨rfl, Ret.below_ hw1 (.cons .head .nil)⟩)
    rw [if_pos hh7] at h
    iterate 2 (refine WP.st tysOk true rfl True.intro rfl rfl rfl rfl True.intro ?_)
    refine WP.stop rfl (n1, w64 (s2 + 1)) ⟨h, Nat.lt_succ_self _⟩ ?_ ?_
    · repeat (first | exact True.intro | refine And.intro rfl ?_)
    exact (.cons .head .nil)
  rw [if_neg hh6] at h
  refine WP.st tysOk true rfl True.intro rfl rfl rfl rfl True.intro ?_
  cases h
  refine WP.retR tysOk rfl rfl ⟨_, _, rfl, rfl, rfl⟩ (fun w1 hw1 => ⟨rfl, Ret.below_ hw1 (.cons .head .nil)⟩)

set_option maxRecDepth 20000 in
set_option maxHeartbeats 8000000 in
theorem inst_Same_w {w : World} {v0 : Value} {v1 : Value} {a1 : Inst} {b1 : Inst} {r : Bool} (h : inst_Same a1 b1 = some r) (p1 : InsZ (PH.of w) v0 a1) (p2 : InsZ (PH.of w) v1 b1) :
    Calls Try.prog 19 #[v0, v1] w fun e w' => e = .returned (.bool (r)) ∧ Below w.heap.size w w' := by
  obtain ⟨A1, c1, A2, c2, rfl, hs1, hs2⟩ := p1
  obtain ⟨A3, c3, A4, c4, rfl, hs3, hs4⟩ := p2
  unfold inst_Same at h
  refine enter_ Try.func19 rfl Try.ntmps19 rfl ?_
  refine WP.box rfl rfl rfl rfl rfl rfl ?_
  intro g1
  refine WP.box rfl rfl rfl rfl rfl rfl ?_
  intro g2
  iterate 2 (refine WP.st tysOk true rfl True.intro rfl rfl rfl rfl True.intro ?_)
  refine WP.ld1 tysOk rfl True.intro rfl rfl rfl rfl rfl rfl rfl (CellAt.blk (.tail .head) rfl) ?_
  refine WP.st tysOk true rfl True.intro rfl rfl rfl rfl True.intro ?_
  refine WP.ld1 tysOk rfl True.intro rfl rfl rfl rfl rfl rfl rfl (CellAt.blk .head rfl) ?_
  obtain ⟨r1, hg1, h⟩ := bind_some h
  refine WP.callV rfl rfl rfl rfl rfl rfl rfl (by kernel_rfl) (fun w1 hw1 => (slices_Equal_int64_w hg1 (hs1.le' ((Held.mem (List.Mem.tail _ (List.Mem.tail _ (List.Mem.head _)))) _ _ hw1)).of (hs3.le' ((Held.mem (List.Mem.tail _ (List.Mem.tail _ (List.Mem.head _)))) _ _ hw1)).of :)) True.intro ?_
  refine WP.st tysOk true rfl True.intro rfl rfl rfl rfl True.intro ?_
  by_cases hh1 : r1 = true
  · rw [if_pos hh1] at h
    refine WP.yes rfl rfl hh1 ?_
    refine WP.st tysOk true rfl True.intro rfl rfl rfl rfl True.intro ?_
    refine WP.yes rfl rfl rfl ?_
    refine WP.ld1 tysOk rfl True.intro rfl rfl rfl rfl rfl rfl rfl (CellAt.blk (.tail .head) rfl) ?_
    refine WP.yes rfl rfl rfl ?_
    refine WP.st tysOk true rfl True.intro rfl rfl rfl rfl True.intro ?_
    refine WP.yes rfl rfl rfl ?_
    refine WP.ld1 tysOk rfl True.intro rfl rfl rfl rfl rfl rfl rfl (CellAt.blk .head rfl) ?_
    refine WP.yes rfl rfl rfl ?_
    obtain ⟨r2, hg2, h⟩ := bind_some h
    refine WP.callV rfl rfl rfl rfl rfl rfl rfl (by kernel_rfl) (fun w1 hw1 => (slices_Equal_api_Arc_w hg2 (hs2.le' ((Held.mem (List.Mem.tail _ (List.Mem.tail _ (List.Mem.head _)))) _ _ hw1)).of (hs4.le' ((Held.mem (List.Mem.tail _ (List.Mem.tail _ (List.Mem.head _)))) _ _ hw1)).of :)) True.intro ?_
    iterate 2 (refine WP.st tysOk true rfl True.intro rfl rfl rfl rfl True.intro ?_)
    cases h
    refine WP.retR tysOk rfl rfl ⟨_, _, rfl, rfl, rfl⟩ (fun w1 hw1 => ⟨rfl, Ret.below_ hw1 (.cons (.tail (.tail .head)) .nil)⟩)
  rw [if_neg hh1] at h
  refine WP.no rfl rfl (bfalse hh1) rfl rfl ?_
  iterate 4 (refine WP.no rfl rfl rfl rfl rfl ?_)
  iterate 2 (refine WP.st tysOk true rfl True.intro rfl rfl rfl rfl True.intro ?_)
  cases h
  refine WP.retR tysOk rfl rfl ⟨_, _, rfl, rfl, rfl⟩ (fun w1 hw1 => ⟨rfl, Ret.below_ hw1 (.cons (.tail (.tail .head)) .nil)⟩)

set_option maxRecDepth 20000 in
set_option maxHeartbeats 8000000 in
theorem num_Of_w {w : World} {a1 : Int} {r : Wide} (h : num_Of a1 = some r) :
    Calls Try.prog 20 #[iv a1] w fun e w' => e = .returned (.agg #[iv r.hi, .int .u64 (r.lo)]) ∧ Below w.heap.size w w' := by
  unfold num_Of at h
  refine enter_ Try.func20 rfl Try.ntmps20 rfl ?_
  refine WP.al tysOk rfl rfl rfl rfl rfl rfl ?_
  intro g1
  refine WP.st tysOk true rfl True.intro rfl rfl rfl rfl True.intro ?_
  refine WP.st tysOk true rfl True.intro rfl rfl rfl rfl (by decide) ?_
  iterate 2 (refine WP.st tysOk true rfl True.intro rfl rfl rfl rfl True.intro ?_)
  refine WP.bld (cs := [iv (a1.fdiv (2 ^ (min (63 : Int).toNat (IntKind.bits .i64)))), .int .u64 (IntKind.wrap .u64 (a1))]) tysOk rfl True.intro rfl rfl rfl rfl rfl rfl rfl ?_
  refine WP.sto' tysOk [iv (a1.fdiv (2 ^ (min (63 : Int).toNat (IntKind.bits .i64)))), .int .u64 (IntKind.wrap .u64 (a1))] rfl rfl rfl rfl rfl rfl rfl rfl rfl .head rfl rfl ?_
  cases h
  refine WP.retR tysOk rfl rfl ⟨_, _, _, _, rfl, ⟨_, rfl, .inr ⟨rfl, _, rfl, rfl, (SegAt.blk' (z := 2) .head rfl).1⟩⟩, rfl, rfl⟩ (fun w1 hw1 => ⟨rfl, Ret.below_ hw1 (.cons (.tail .head) .nil)⟩)

set_option maxRecDepth 20000 in
set_option maxHeartbeats 8000000 in
theorem inst_Span_1_w {w : World} {a1 : Arc} {r : Bool} (h : inst_Span_1 a1 = some r) :
    Calls Try.prog 37 #[.agg #[iv a1.src, iv a1.dst, iv a1.low, iv a1.cap, iv a1.cost]] w fun e w' => e = .returned (.bool (r)) ∧ Below w.heap.size w w' := by
  unfold inst_Span_1 at h
  refine enter_ Try.func37 rfl Try.ntmps37 rfl ?_
  refine WP.box rfl rfl rfl rfl rfl rfl ?_
  intro g1
  iterate 2 (refine WP.st tysOk true rfl True.intro rfl rfl rfl rfl True.intro ?_)
  refine WP.ld1 tysOk rfl True.intro rfl rfl rfl rfl rfl rfl rfl (CellAt.blk .head rfl) ?_
  iterate 2 (refine WP.st tysOk true rfl True.intro rfl rfl rfl rfl True.intro ?_)
  cases h
  refine WP.retR tysOk rfl rfl ⟨_, _, rfl, rfl, rfl⟩ (fun w1 hw1 => ⟨rfl, Ret.below_ hw1 (.cons (.tail .head) .nil)⟩)

set_option maxRecDepth 20000 in
set_option maxHeartbeats 8000000 in
theorem inst_count_api_Arc_1_w {w : World} {v0 : Value} {l1 : List Arc} {r : Int} (h : inst_count_api_Arc_1 l1 = some r) (p1 : SlF fA (PH.of w) v0 l1) :
    Calls Try.prog 36 #[v0, .func (.func 37) #[] #[]] w fun e w' => e = .returned (iv r) ∧ Below w.heap.size w w' := by
  obtain ⟨A1, c1, rfl, hs1⟩ := p1
  unfold inst_count_api_Arc_1 at h
  refine enter_ Try.func36 rfl Try.ntmps36 rfl ?_
  iterate 5 (refine WP.st tysOk true rfl True.intro rfl rfl rfl rfl True.intro ?_)
  refine WP.loop (α := Nat × Int × Int) (fun x => lp (inst_count_api_Arc_1_b1 l1) x.1 (x.2.1, x.2.2) = some r) (fun x => [(1, .func (.func 37) #[] #[]), (5, iv x.2.1), (8, .slice A1 l1.length c1), (9, iv (l1.length : Int)), (10, iv x.2.2)]) (fun x => [.fz (PH.of w)]) (fun x => x.1) rfl (big, 0, 0) h ?_ ?_ ?_
  · repeat (first | exact True.intro | refine And.intro rfl ?_)
  · exact (.cons .head .nil)
  rintro ⟨n3, n2, s2⟩ h
  dsimp only at h ⊢
  rcases n3 with _ | n3
  · exact (lp_no h).elim
  replace h := lp_succ h
  unfold inst_count_api_Arc_1_b1 at h
  try dsimp only at h
  refine WP.st tysOk true rfl True.intro rfl rfl rfl rfl True.intro ?_
  refine WP.cond_d rfl rfl (fun hh5 => ?_) (fun hh5 => ?_)
  · rw [if_pos hh5] at h
    obtain ⟨hj3, h⟩ := ck_some h
    refine WP.ixA tysOk rfl True.intro rfl rfl rfl rfl rfl rfl rfl rfl hj3 (hs1.ex hj3) ?_
    intro b3 _ hA3
    refine WP.ldm tysOk rfl True.intro rfl rfl rfl rfl rfl rfl rfl (hs1.seg hA3 (Held.mem (List.Mem.head _)) hj3) ?_
    refine WP.al tysOk rfl rfl rfl rfl rfl rfl ?_
    intro g3
    refine WP.sto' tysOk [iv ((gt l1 s2).src), iv ((gt l1 s2).dst), iv ((gt l1 s2).low), iv ((gt l1 s2).cap), iv ((gt l1 s2).cost)] rfl rfl rfl rfl rfl rfl rfl rfl rfl .head rfl rfl ?_
    refine WP.st tysOk true rfl True.intro rfl rfl rfl rfl True.intro ?_
    refine WP.ldm tysOk rfl True.intro rfl rfl rfl rfl rfl rfl rfl (SegAt.blk' .head rfl) ?_
    obtain ⟨r3, hg3, h⟩ := bind_some h
    refine WP.callV rfl rfl rfl rfl rfl rfl rfl (by kernel_rfl) (fun w1 hw1 => (inst_Span_1_w hg3  :)) True.intro ?_
    refine WP.cond rfl rfl (fun hh6 => ?_) (fun hh6 => ?_)
    · rw [if_pos hh6] at h
      iterate 5 (refine WP.st tysOk true rfl True.intro rfl rfl rfl rfl True.intro ?_)
      refine WP.stop rfl (n3, w64 (n2 + 1), w64 (s2 + 1)) ⟨h, Nat.lt_succ_self _⟩ ?_ ?_
      · repeat (first | exact True.intro | refine And.intro rfl ?_)
      exact (.cons (.tail .head) .nil)
    rw [if_neg (bneg hh6)] at h
    iterate 2 (refine WP.st tysOk true rfl True.intro rfl rfl rfl rfl True.intro ?_)
    refine WP.stop rfl (n3, n2, w64 (s2 + 1)) ⟨h, Nat.lt_succ_self _⟩ ?_ ?_
    · repeat (first | exact True.intro | refine And.intro rfl ?_)
    exact (.cons (.tail .head) .nil)
  rw [if_neg hh5] at h
  iterate 2 (refine WP.st tysOk true rfl True.intro rfl rfl rfl rfl True.intro ?_)
  cases h
  refine WP.retR tysOk rfl rfl ⟨_, _, rfl, rfl, rfl⟩ (fun w1 hw1 => ⟨rfl, Ret.below_ hw1 (.cons .head .nil)⟩)

set_option maxRecDepth 20000 in
set_option maxHeartbeats 8000000 in
theorem inst_Span_w {w : World} {v0 : Value} {i1 : Inst} {r : Int} (h : inst_Span i1 = some r) (p1 : InsZ (PH.of w) v0 i1) :
    Calls Try.prog 21 #[v0] w fun e w' => e = .returned (iv r) ∧ Below w.heap.size w w' := by
  obtain ⟨A1, c1, A2, c2, rfl, hs1, hs2⟩ := p1
  unfold inst_Span at h
  refine enter_ Try.func21 rfl Try.ntmps21 rfl ?_
  refine WP.box rfl rfl rfl rfl rfl rfl ?_
  intro g1
  refine WP.st tysOk true rfl True.intro rfl rfl rfl rfl True.intro ?_
  refine WP.draw rfl (by kernel_rfl) (by kernel_rfl) ?_
  refine WP.st tysOk true rfl rfl rfl rfl rfl rfl True.intro ?_
  refine WP.ld1 tysOk rfl rfl rfl rfl rfl rfl rfl rfl rfl (CellAt.blk .head rfl) ?_
  iterate 2 (refine WP.st tysOk true rfl rfl rfl rfl rfl rfl True.intro ?_)
  refine WP.ld1 tysOk rfl rfl rfl rfl rfl rfl rfl rfl rfl (CellAt.blk .head rfl) ?_
  iterate 3 (refine WP.st tysOk true rfl rfl rfl rfl rfl rfl True.intro ?_)
  refine WP.ld1 tysOk rfl rfl rfl rfl rfl rfl rfl rfl rfl (CellAt.blk .head rfl) ?_
  obtain ⟨r1, hg1, h⟩ := bind_some h
  refine WP.callV rfl rfl rfl rfl rfl rfl rfl (by kernel_rfl) (fun w1 hw1 => (inst_count_api_Arc_1_w hg1 (hs2.le' ((Held.mem (List.Mem.tail _ (List.Mem.head _))) _ _ hw1)).of :)) rfl ?_
  iterate 2 (refine WP.st tysOk true rfl rfl rfl rfl rfl rfl True.intro ?_)
  refine WP.qend rfl ?_
  cases h
  refine WP.retR tysOk rfl rfl ⟨_, _, rfl, rfl, rfl⟩ (fun w1 hw1 => ⟨rfl, Ret.below_ hw1 (.cons (.tail .head) .nil)⟩)

set_option maxRecDepth 20000 in
set_option maxHeartbeats 8000000 in
theorem law18_TwoLess_w {w : World} {v0 : Value} {v1 : Value} {d1 : List Int} {i1 : List Int} {x1 : Bool} {r : Bool} (h : law18_TwoLess d1 i1 x1 = some r) (p1 : SlF (fI .u8) (PH.of w) v0 d1) (p2 : SlF (fI .u8) (PH.of w) v1 i1) :
    Calls Try.prog 6 #[v0, v1, .bool (x1)] w fun e w' => e = .returned (.bool (r)) ∧ Below w.heap.size w w' := by
  obtain ⟨A1, c1, rfl, hs1⟩ := p1
  obtain ⟨A2, c2, rfl, hs2⟩ := p2
  unfold law18_TwoLess at h
  refine enter_ Try.func6 rfl Try.ntmps6 rfl ?_
  iterate 3 (refine WP.st tysOk true rfl True.intro rfl rfl rfl rfl True.intro ?_)
  obtain ⟨r1, hg1, h⟩ := bind_some h
  refine WP.callS (law18_Sparse_S r1) rfl rfl rfl rfl rfl rfl rfl (by kernel_rfl) (fun w1 hw1 => (law18_Sparse_w hg1 (hs1.le' ((Held.mem (List.Mem.head _)) _ _ hw1)).of (hs2.le' ((Held.mem (List.Mem.head _)) _ _ hw1)).of :)) ?_
  rintro _ _ ⟨A3, n1, c3, A4, n2, c4, rfl, hf1, hf2, rfl⟩
  refine WP.al tysOk rfl rfl rfl rfl rfl rfl ?_
  intro g1
  refine WP.sto' tysOk [.slice A3 n1 c3, .slice A4 n2 c4] rfl rfl rfl rfl rfl rfl rfl rfl rfl .head rfl rfl ?_
  refine WP.ldm tysOk rfl True.intro rfl rfl rfl rfl rfl rfl rfl (SegAt.blk' .head rfl) ?_
  refine WP.st tysOk true rfl True.intro rfl rfl rfl rfl True.intro ?_
  obtain ⟨r2, hg2, h⟩ := bind_some h
  refine WP.callS (law18_step_S r2) rfl rfl rfl rfl rfl rfl rfl (by kernel_rfl) (fun w1 hw1 => (law18_step_w hg2 (InsZ.mk_ (hw1.ow (.tail .head) hf1) (hw1.ow (.tail (.tail .head)) hf2)) :)) ?_
  rintro _ _ ⟨A5, n3, c5, A6, n4, c6, A7, n5, c7, A8, n6, c8, rfl, hf3, hf4, hf5, hf6, rfl⟩
  iterate 4 (refine WP.st tysOk true rfl True.intro rfl rfl rfl rfl True.intro ?_)
  refine WP.al tysOk rfl rfl rfl rfl rfl rfl ?_
  intro g2
  refine WP.al tysOk rfl rfl rfl rfl rfl rfl ?_
  intro g3
  refine WP.sto' tysOk [.slice A5 n3 c5, .slice A6 n4 c6, iv r2.1.rcd.pass, .slice A7 n5 c7, .slice A8 n6 c8, iv r2.1.off.hi, .int .u64 (r2.1.off.lo), .bool (r2.1.did)] rfl rfl rfl rfl rfl rfl rfl rfl rfl (.tail .head) rfl rfl ?_
  refine WP.sto' tysOk [iv r2.2.1.node, iv r2.2.1.a, iv r2.2.1.b, iv r2.2.1.new.src, iv r2.2.1.new.dst, iv r2.2.1.new.low, iv r2.2.1.new.cap, iv r2.2.1.new.cost] rfl rfl rfl rfl rfl rfl rfl rfl rfl (.tail .head) rfl rfl ?_
  iterate 3 (refine WP.st tysOk true rfl True.intro rfl rfl rfl rfl True.intro ?_)
  refine WP.cond_n rfl rfl (fun hh1 => ?_) (fun hh1 => ?_)
  · rw [if_neg (bneg hh1)] at h
    refine WP.st tysOk true rfl True.intro rfl rfl rfl rfl True.intro ?_
    cases h
    refine WP.retR tysOk rfl rfl ⟨_, _, rfl, rfl, rfl⟩ (fun w1 hw1 => ⟨rfl, Ret.below_ hw1 (.cons (.tail (.tail (.tail (.tail (.tail (.tail (.tail (.tail (.tail .head))))))))) .nil)⟩)
  rw [if_pos hh1] at h
  refine WP.st tysOk true rfl True.intro rfl rfl rfl rfl True.intro ?_
  refine WP.ld1 tysOk rfl True.intro rfl rfl rfl rfl rfl rfl rfl (CellAt.blk (.tail .head) rfl) ?_
  refine WP.st tysOk true rfl True.intro rfl rfl rfl rfl True.intro ?_
  refine WP.cond_n rfl rfl (fun hh2 => ?_) (fun hh2 => ?_)
  · rw [if_neg (bneg hh2)] at h
    refine WP.draw rfl (by kernel_rfl) (by kernel_rfl) ?_
    obtain ⟨r3, hg3, h⟩ := bind_some h
    refine WP.callV rfl rfl rfl rfl rfl rfl rfl (by kernel_rfl) (fun w1 hw1 => (law18_known_w hg3  :)) rfl ?_
    refine WP.st tysOk true rfl rfl rfl rfl rfl rfl True.intro ?_
    by_cases hh3 : r3 = true
    · rw [if_pos hh3] at h
      refine WP.yes rfl rfl hh3 ?_
      refine WP.st tysOk true rfl rfl rfl rfl rfl rfl True.intro ?_
      refine WP.yes rfl rfl rfl ?_
      refine WP.ldm tysOk rfl rfl rfl rfl rfl rfl rfl rfl rfl (SegAt.blk' (.tail .head) rfl) ?_
      refine WP.yes rfl rfl rfl ?_
      refine WP.ldm tysOk rfl rfl rfl rfl rfl rfl rfl rfl rfl (SegAt.blk' (.tail (.tail (.tail (.tail (.tail (.tail .head)))))) rfl) ?_
      refine WP.yes rfl rfl rfl ?_
      obtain ⟨r4, hg4, h⟩ := bind_some h
      refine WP.callV rfl rfl rfl rfl rfl rfl rfl (by kernel_rfl) (fun w1 hw1 => (inst_Same_w hg4 (InsZ.mk_ (hw1.ow (.tail (.tail .head)) hf3) (hw1.ow (.tail (.tail (.tail .head))) hf4)) (InsZ.mk_ (hw1.ow (.tail (.tail (.tail (.tail (.tail (.tail (.tail .head))))))) hf1) (hw1.ow (.tail (.tail (.tail (.tail (.tail (.tail (.tail (.tail .head)))))))) hf2)) :)) rfl ?_
      iterate 2 (refine WP.st tysOk true rfl rfl rfl rfl rfl rfl True.intro ?_)
      by_cases hh4 : r4 = true
      · rw [if_pos hh4] at h
        refine WP.yes rfl rfl hh4 ?_
        refine WP.st tysOk true rfl rfl rfl rfl rfl rfl True.intro ?_
        refine WP.yes rfl rfl rfl ?_
        refine WP.ldm tysOk rfl rfl rfl rfl rfl rfl rfl rfl rfl (SegAt.blk' (.tail .head) rfl) ?_
        refine WP.yes rfl rfl rfl ?_
        obtain ⟨r5, hg5, h⟩ := bind_some h
        refine WP.callV rfl rfl rfl rfl rfl rfl rfl (by kernel_rfl) (fun w1 hw1 => (num_Of_w hg5  :)) rfl ?_
        refine WP.yes rfl rfl rfl ?_
        refine WP.eqS rfl rfl rfl rfl rfl rfl rfl rfl (by kernel_rfl) (eq43 r2.1.off r5) ?_
        iterate 2 (refine WP.st tysOk true rfl rfl rfl rfl rfl rfl True.intro ?_)
        refine WP.qend rfl ?_
        cases h
        refine WP.retR tysOk rfl rfl ⟨_, _, rfl, rfl, rfl⟩ (fun w1 hw1 => ⟨rfl, Ret.below_ hw1 (.cons (.tail (.tail (.tail (.tail (.tail (.tail (.tail (.tail (.tail .head))))))))) .nil)⟩)
      rw [if_neg hh4] at h
      refine WP.no rfl rfl (bfalse hh4) rfl rfl ?_
      iterate 3 (refine WP.no rfl rfl rfl rfl rfl ?_)
      iterate 2 (refine WP.st tysOk true rfl rfl rfl rfl rfl rfl True.intro ?_)
      refine WP.qend rfl ?_
      cases h
      refine WP.retR tysOk rfl rfl ⟨_, _, rfl, rfl, rfl⟩ (fun w1 hw1 => ⟨rfl, Ret.below_ hw1 (.cons (.tail (.tail (.tail (.tail (.tail (.tail (.tail (.tail (.tail .head))))))))) .nil)⟩)
    rw [if_neg hh3] at h
    refine WP.no rfl rfl (bfalse hh3) rfl rfl ?_
    iterate 3 (refine WP.no rfl rfl rfl rfl rfl ?_)
    iterate 2 (refine WP.st tysOk true rfl rfl rfl rfl rfl rfl True.intro ?_)
    iterate 4 (refine WP.no rfl rfl rfl rfl rfl ?_)
    iterate 2 (refine WP.st tysOk true rfl rfl rfl rfl rfl rfl True.intro ?_)
    refine WP.qend rfl ?_
    cases h
    refine WP.retR tysOk rfl rfl ⟨_, _, rfl, rfl, rfl⟩ (fun w1 hw1 => ⟨rfl, Ret.below_ hw1 (.cons (.tail (.tail (.tail (.tail (.tail (.tail (.tail (.tail (.tail .head))))))))) .nil)⟩)
  rw [if_pos hh2] at h
  iterate 2 (refine WP.st tysOk true rfl True.intro rfl rfl rfl rfl True.intro ?_)
  refine WP.ld1 tysOk rfl True.intro rfl rfl rfl rfl rfl rfl rfl (CellAt.blk (.tail .head) rfl) ?_
  refine WP.lenO (xs := r2.1.inst.arcs) tysOk rfl True.intro rfl rfl rfl rfl rfl rfl hf4 ?_
  refine WP.st tysOk true rfl True.intro rfl rfl rfl rfl True.intro ?_
  refine WP.draw rfl (by kernel_rfl) (by kernel_rfl) ?_
  obtain ⟨r6, hg6, h⟩ := bind_some h
  refine WP.callV rfl rfl rfl rfl rfl rfl rfl (by kernel_rfl) (fun w1 hw1 => (law18_known_w hg6  :)) rfl ?_
  refine WP.st tysOk true rfl rfl rfl rfl rfl rfl True.intro ?_
  by_cases hh5 : r6 = true
  · rw [if_pos hh5] at h
    refine WP.yes rfl rfl hh5 ?_
    iterate 2 (refine WP.st tysOk true rfl rfl rfl rfl rfl rfl True.intro ?_; refine WP.yes rfl rfl rfl ?_)
    refine WP.ld1 tysOk rfl rfl rfl rfl rfl rfl rfl rfl rfl (CellAt.blk (.tail .head) rfl) ?_
    refine WP.yes rfl rfl rfl ?_
    refine WP.lenO (xs := r2.1.inst.supply) tysOk rfl rfl rfl rfl rfl rfl rfl rfl hf3 ?_
    refine WP.yes rfl rfl rfl ?_
    refine WP.st tysOk true rfl rfl rfl rfl rfl rfl True.intro ?_
    refine WP.yes rfl rfl rfl ?_
    refine WP.ld1 tysOk rfl rfl rfl rfl rfl rfl rfl rfl rfl (CellAt.blk (.tail (.tail (.tail (.tail (.tail (.tail .head)))))) rfl) ?_
    refine WP.yes rfl rfl rfl ?_
    refine WP.lenO (xs := r1.supply) tysOk rfl rfl rfl rfl rfl rfl rfl rfl hf1 ?_
    refine WP.yes rfl rfl rfl ?_
    refine WP.st tysOk true rfl rfl rfl rfl rfl rfl True.intro ?_
    refine WP.yes rfl rfl rfl ?_
    iterate 3 (refine WP.st tysOk true rfl rfl rfl rfl rfl rfl True.intro ?_)
    by_cases hh6 : (r2.1.inst.supply.length : Int) = (w64 ((r1.supply.length : Int) - 1))
    · rw [if_pos hh6] at h
      refine WP.yes rfl rfl (decide_eq_true hh6) ?_
      iterate 2 (refine WP.st tysOk true rfl rfl rfl rfl rfl rfl True.intro ?_; refine WP.yes rfl rfl rfl ?_)
      refine WP.ld1 tysOk rfl rfl rfl rfl rfl rfl rfl rfl rfl (CellAt.blk (.tail (.tail (.tail (.tail (.tail (.tail .head)))))) rfl) ?_
      refine WP.yes rfl rfl rfl ?_
      refine WP.lenO (xs := r1.arcs) tysOk rfl rfl rfl rfl rfl rfl rfl rfl hf2 ?_
      refine WP.yes rfl rfl rfl ?_
      refine WP.st tysOk true rfl rfl rfl rfl rfl rfl True.intro ?_
      refine WP.yes rfl rfl rfl ?_
      iterate 3 (refine WP.st tysOk true rfl rfl rfl rfl rfl rfl True.intro ?_)
      by_cases hh7 : (r2.1.inst.arcs.length : Int) = (w64 ((r1.arcs.length : Int) - 1))
      · rw [if_pos hh7] at h
        refine WP.yes rfl rfl (decide_eq_true hh7) ?_
        refine WP.st tysOk true rfl rfl rfl rfl rfl rfl True.intro ?_
        refine WP.yes rfl rfl rfl ?_
        refine WP.ldm tysOk rfl rfl rfl rfl rfl rfl rfl rfl rfl (SegAt.blk' (.tail .head) rfl) ?_
        refine WP.yes rfl rfl rfl ?_
        obtain ⟨r7, hg7, h⟩ := bind_some h
        refine WP.callV rfl rfl rfl rfl rfl rfl rfl (by kernel_rfl) (fun w1 hw1 => (inst_Span_w hg7 (InsZ.mk_ (hw1.ow (.tail (.tail .head)) hf3) (hw1.ow (.tail (.tail (.tail .head))) hf4)) :)) rfl ?_
        refine WP.yes rfl rfl rfl ?_
        refine WP.ldm tysOk rfl rfl rfl rfl rfl rfl rfl rfl rfl (SegAt.blk' (.tail (.tail (.tail (.tail (.tail (.tail .head)))))) rfl) ?_
        refine WP.yes rfl rfl rfl ?_
        obtain ⟨r8, hg8, h⟩ := bind_some h
        refine WP.callV rfl rfl rfl rfl rfl rfl rfl (by kernel_rfl) (fun w1 hw1 => (inst_Span_w hg8 (InsZ.mk_ (hw1.ow (.tail (.tail (.tail (.tail (.tail (.tail (.tail .head))))))) hf1) (hw1.ow (.tail (.tail (.tail (.tail (.tail (.tail (.tail (.tail .head)))))))) hf2)) :)) rfl ?_
        refine WP.yes rfl rfl rfl ?_
        iterate 3 (refine WP.st tysOk true rfl rfl rfl rfl rfl rfl True.intro ?_)
        by_cases hh8 : r7 < r8
        · rw [if_pos hh8] at h
          refine WP.yes rfl rfl (decide_eq_true hh8) ?_
          refine WP.st tysOk true rfl rfl rfl rfl rfl rfl True.intro ?_
          refine WP.yes rfl rfl rfl ?_
          refine WP.ldm tysOk rfl rfl rfl rfl rfl rfl rfl rfl rfl (SegAt.blk' (.tail .head) rfl) ?_
          refine WP.yes rfl rfl rfl ?_
          obtain ⟨r9, hg9, h⟩ := bind_some h
          refine WP.callV rfl rfl rfl rfl rfl rfl rfl (by kernel_rfl) (fun w1 hw1 => (inst_Right_w hg9 (InsZ.mk_ (hw1.ow (.tail (.tail .head)) hf3) (hw1.ow (.tail (.tail (.tail .head))) hf4)) :)) rfl ?_
          refine WP.yes rfl rfl rfl ?_
          iterate 3 (refine WP.st tysOk true rfl rfl rfl rfl rfl rfl True.intro ?_)
          by_cases hh9 : r9 = 0
          · rw [if_pos hh9] at h
            refine WP.yes rfl rfl (decide_eq_true hh9) ?_
            iterate 2 (refine WP.st tysOk true rfl rfl rfl rfl rfl rfl True.intro ?_; refine WP.yes rfl rfl rfl ?_)
            refine WP.ld1 tysOk rfl rfl rfl rfl rfl rfl rfl rfl rfl (CellAt.blk (.tail .head) rfl) ?_
            iterate 2 (refine WP.yes rfl rfl rfl ?_; refine WP.st tysOk true rfl rfl rfl rfl rfl rfl True.intro ?_)
            refine WP.yes rfl rfl rfl ?_
            obtain ⟨hj1, h⟩ := ck_some h
            refine WP.ixO tysOk rfl rfl rfl rfl rfl rfl rfl rfl rfl rfl hf4 hj1 ?_
            intro b1 hA1
            refine WP.yes rfl rfl rfl ?_
            refine WP.st tysOk true rfl rfl rfl rfl rfl rfl True.intro ?_
            refine WP.yes rfl rfl rfl ?_
            refine WP.ld1 tysOk rfl rfl rfl rfl rfl rfl rfl rfl rfl (OwS.at (.tail (.tail (.tail .head))) hA1 hj1 4 rfl) ?_
            iterate 2 (refine WP.yes rfl rfl rfl ?_; refine WP.st tysOk true rfl rfl rfl rfl rfl rfl True.intro ?_)
            refine WP.yes rfl rfl rfl ?_
            refine WP.ld1 tysOk rfl rfl rfl rfl rfl rfl rfl rfl rfl (CellAt.blk .head rfl) ?_
            refine WP.yes rfl rfl rfl ?_
            iterate 3 (refine WP.st tysOk true rfl rfl rfl rfl rfl rfl True.intro ?_)
            by_cases hh10 : ((gt r2.1.inst.arcs (w64 ((r2.1.inst.arcs.length : Int) - 1))).cost) = r2.2.1.new.cost
            · rw [if_pos hh10] at h
              refine WP.yes rfl rfl (decide_eq_true hh10) ?_
              iterate 2 (refine WP.st tysOk true rfl rfl rfl rfl rfl rfl True.intro ?_; refine WP.yes rfl rfl rfl ?_)
              refine WP.ld1 tysOk rfl rfl rfl rfl rfl rfl rfl rfl rfl (CellAt.blk (.tail .head) rfl) ?_
              iterate 2 (refine WP.yes rfl rfl rfl ?_; refine WP.st tysOk true rfl rfl rfl rfl rfl rfl True.intro ?_)
              refine WP.yes rfl rfl rfl ?_
              refine WP.ixO tysOk rfl rfl rfl rfl rfl rfl rfl rfl rfl rfl hf4 hj1 ?_
              intro b2 hA2
              refine WP.yes rfl rfl rfl ?_
              refine WP.st tysOk true rfl rfl rfl rfl rfl rfl True.intro ?_
              refine WP.yes rfl rfl rfl ?_
              refine WP.ld1 tysOk rfl rfl rfl rfl rfl rfl rfl rfl rfl (OwS.at (.tail (.tail (.tail .head))) hA2 hj1 3 rfl) ?_
              iterate 2 (refine WP.yes rfl rfl rfl ?_; refine WP.st tysOk true rfl rfl rfl rfl rfl rfl True.intro ?_)
              refine WP.yes rfl rfl rfl ?_
              refine WP.ld1 tysOk rfl rfl rfl rfl rfl rfl rfl rfl rfl (CellAt.blk .head rfl) ?_
              refine WP.yes rfl rfl rfl ?_
              iterate 3 (refine WP.st tysOk true rfl rfl rfl rfl rfl rfl True.intro ?_)
              by_cases hh11 : ((gt r2.1.inst.arcs (w64 ((r2.1.inst.arcs.length : Int) - 1))).cap) = r2.2.1.new.cap
              · rw [if_pos hh11] at h
                refine WP.yes rfl rfl (decide_eq_true hh11) ?_
                iterate 2 (refine WP.st tysOk true rfl rfl rfl rfl rfl rfl True.intro ?_; refine WP.yes rfl rfl rfl ?_)
                refine WP.ldm tysOk rfl rfl rfl rfl rfl rfl rfl rfl rfl (SegAt.blk' (.tail .head) rfl) ?_
                refine WP.yes rfl rfl rfl ?_
                refine WP.ldm tysOk rfl rfl rfl rfl rfl rfl rfl rfl rfl (SegAt.blk' (.tail (.tail (.tail (.tail (.tail (.tail .head)))))) rfl) ?_
                refine WP.yes rfl rfl rfl ?_
                obtain ⟨r10, hg10, h⟩ := bind_some h
                refine WP.callV rfl rfl rfl rfl rfl rfl rfl (by kernel_rfl) (fun w1 hw1 => (inst_Same_w hg10 (InsZ.mk_ (hw1.ow (.tail (.tail (.tail (.tail .head)))) hf5) (hw1.ow (.tail (.tail (.tail (.tail (.tail .head))))) hf6)) (InsZ.mk_ (hw1.ow (.tail (.tail (.tail (.tail (.tail (.tail (.tail .head))))))) hf1) (hw1.ow (.tail (.tail (.tail (.tail (.tail (.tail (.tail (.tail .head)))))))) hf2)) :)) rfl ?_
                iterate 2 (refine WP.st tysOk true rfl rfl rfl rfl rfl rfl True.intro ?_)
                refine WP.qend rfl ?_
                cases h
                refine WP.retR tysOk rfl rfl ⟨_, _, rfl, rfl, rfl⟩ (fun w1 hw1 => ⟨rfl, Ret.below_ hw1 (.cons (.tail (.tail (.tail (.tail (.tail (.tail (.tail (.tail (.tail .head))))))))) .nil)⟩)
              rw [if_neg hh11] at h
              refine WP.no rfl rfl (decide_eq_false hh11) rfl rfl ?_
              iterate 4 (refine WP.no rfl rfl rfl rfl rfl ?_)
              iterate 2 (refine WP.st tysOk true rfl rfl rfl rfl rfl rfl True.intro ?_)
              refine WP.qend rfl ?_
              cases h
              refine WP.retR tysOk rfl rfl ⟨_, _, rfl, rfl, rfl⟩ (fun w1 hw1 => ⟨rfl, Ret.below_ hw1 (.cons (.tail (.tail (.tail (.tail (.tail (.tail (.tail (.tail (.tail .head))))))))) .nil)⟩)
            rw [if_neg hh10] at h
            refine WP.no rfl rfl (decide_eq_false hh10) rfl rfl ?_
            iterate 11 (refine WP.no rfl rfl rfl rfl rfl ?_)
            iterate 2 (refine WP.st tysOk true rfl rfl rfl rfl rfl rfl True.intro ?_)
            iterate 5 (refine WP.no rfl rfl rfl rfl rfl ?_)
            iterate 2 (refine WP.st tysOk true rfl rfl rfl rfl rfl rfl True.intro ?_)
            refine WP.qend rfl ?_
            cases h
            refine WP.retR tysOk rfl rfl ⟨_, _, rfl, rfl, rfl⟩ (fun w1 hw1 => ⟨rfl, Ret.below_ hw1 (.cons (.tail (.tail (.tail (.tail (.tail (.tail (.tail (.tail (.tail .head))))))))) .nil)⟩)
          rw [if_neg hh9] at h
          refine WP.no rfl rfl (decide_eq_false hh9) rfl rfl ?_
          iterate 11 (refine WP.no rfl rfl rfl rfl rfl ?_)
          iterate 2 (refine WP.st tysOk true rfl rfl rfl rfl rfl rfl True.intro ?_)
          iterate 12 (refine WP.no rfl rfl rfl rfl rfl ?_)
          iterate 2 (refine WP.st tysOk true rfl rfl rfl rfl rfl rfl True.intro ?_)
          iterate 5 (refine WP.no rfl rfl rfl rfl rfl ?_)
          iterate 2 (refine WP.st tysOk true rfl rfl rfl rfl rfl rfl True.intro ?_)
          refine WP.qend rfl ?_
          cases h
          refine WP.retR tysOk rfl rfl ⟨_, _, rfl, rfl, rfl⟩ (fun w1 hw1 => ⟨rfl, Ret.below_ hw1 (.cons (.tail (.tail (.tail (.tail (.tail (.tail (.tail (.tail (.tail .head))))))))) .nil)⟩)
        rw [if_neg hh8] at h
        refine WP.no rfl rfl (decide_eq_false hh8) rfl rfl ?_
        iterate 3 (refine WP.no rfl rfl rfl rfl rfl ?_)
        iterate 2 (refine WP.st tysOk true rfl rfl rfl rfl rfl rfl True.intro ?_)
        iterate 12 (refine WP.no rfl rfl rfl rfl rfl ?_)
        iterate 2 (refine WP.st tysOk true rfl rfl rfl rfl rfl rfl True.intro ?_)
        iterate 12 (refine WP.no rfl rfl rfl rfl rfl ?_)
        iterate 2 (refine WP.st tysOk true rfl rfl rfl rfl rfl rfl True.intro ?_)
        iterate 5 (refine WP.no rfl rfl rfl rfl rfl ?_)
        iterate 2 (refine WP.st tysOk true rfl rfl rfl rfl rfl rfl True.intro ?_)
        refine WP.qend rfl ?_
        cases h
        refine WP.retR tysOk rfl rfl ⟨_, _, rfl, rfl, rfl⟩ (fun w1 hw1 => ⟨rfl, Ret.below_ hw1 (.cons (.tail (.tail (.tail (.tail (.tail (.tail (.tail (.tail (.tail .head))))))))) .nil)⟩)
      rw [if_neg hh7] at h
      refine WP.no rfl rfl (decide_eq_false hh7) rfl rfl ?_
      iterate 5 (refine WP.no rfl rfl rfl rfl rfl ?_)
      iterate 2 (refine WP.st tysOk true rfl rfl rfl rfl rfl rfl True.intro ?_)
      iterate 4 (refine WP.no rfl rfl rfl rfl rfl ?_)
      iterate 2 (refine WP.st tysOk true rfl rfl rfl rfl rfl rfl True.intro ?_)
      iterate 12 (refine WP.no rfl rfl rfl rfl rfl ?_)
      iterate 2 (refine WP.st tysOk true rfl rfl rfl rfl rfl rfl True.intro ?_)
      iterate 12 (refine WP.no rfl rfl rfl rfl rfl ?_)
      iterate 2 (refine WP.st tysOk true rfl rfl rfl rfl rfl rfl True.intro ?_)
      iterate 5 (refine WP.no rfl rfl rfl rfl rfl ?_)
      iterate 2 (refine WP.st tysOk true rfl rfl rfl rfl rfl rfl True.intro ?_)
      refine WP.qend rfl ?_
      cases h
      refine WP.retR tysOk rfl rfl ⟨_, _, rfl, rfl, rfl⟩ (fun w1 hw1 => ⟨rfl, Ret.below_ hw1 (.cons (.tail (.tail (.tail (.tail (.tail (.tail (.tail (.tail (.tail .head))))))))) .nil)⟩)
    rw [if_neg hh6] at h
    refine WP.no rfl rfl (decide_eq_false hh6) rfl rfl ?_
    iterate 5 (refine WP.no rfl rfl rfl rfl rfl ?_)
    iterate 2 (refine WP.st tysOk true rfl rfl rfl rfl rfl rfl True.intro ?_)
    iterate 6 (refine WP.no rfl rfl rfl rfl rfl ?_)
    iterate 2 (refine WP.st tysOk true rfl rfl rfl rfl rfl rfl True.intro ?_)
    iterate 4 (refine WP.no rfl rfl rfl rfl rfl ?_)
    iterate 2 (refine WP.st tysOk true rfl rfl rfl rfl rfl rfl True.intro ?_)
    iterate 12 (refine WP.no rfl rfl rfl rfl rfl ?_)
    iterate 2 (refine WP.st tysOk true rfl rfl rfl rfl rfl rfl True.intro ?_)
    iterate 12 (refine WP.no rfl rfl rfl rfl rfl ?_)
    iterate 2 (refine WP.st tysOk true rfl rfl rfl rfl rfl rfl True.intro ?_)
    iterate 5 (refine WP.no rfl rfl rfl rfl rfl ?_)
    iterate 2 (refine WP.st tysOk true rfl rfl rfl rfl rfl rfl True.intro ?_)
    refine WP.qend rfl ?_
    cases h
    refine WP.retR tysOk rfl rfl ⟨_, _, rfl, rfl, rfl⟩ (fun w1 hw1 => ⟨rfl, Ret.below_ hw1 (.cons (.tail (.tail (.tail (.tail (.tail (.tail (.tail (.tail (.tail .head))))))))) .nil)⟩)
  rw [if_neg hh5] at h
  refine WP.no rfl rfl (bfalse hh5) rfl rfl ?_
  iterate 8 (refine WP.no rfl rfl rfl rfl rfl ?_)
  iterate 2 (refine WP.st tysOk true rfl rfl rfl rfl rfl rfl True.intro ?_)
  iterate 6 (refine WP.no rfl rfl rfl rfl rfl ?_)
  iterate 2 (refine WP.st tysOk true rfl rfl rfl rfl rfl rfl True.intro ?_)
  iterate 6 (refine WP.no rfl rfl rfl rfl rfl ?_)
  iterate 2 (refine WP.st tysOk true rfl rfl rfl rfl rfl rfl True.intro ?_)
  iterate 4 (refine WP.no rfl rfl rfl rfl rfl ?_)
  iterate 2 (refine WP.st tysOk true rfl rfl rfl rfl rfl rfl True.intro ?_)
  iterate 12 (refine WP.no rfl rfl rfl rfl rfl ?_)
  iterate 2 (refine WP.st tysOk true rfl rfl rfl rfl rfl rfl True.intro ?_)
  iterate 12 (refine WP.no rfl rfl rfl rfl rfl ?_)
  iterate 2 (refine WP.st tysOk true rfl rfl rfl rfl rfl rfl True.intro ?_)
  iterate 5 (refine WP.no rfl rfl rfl rfl rfl ?_)
  iterate 2 (refine WP.st tysOk true rfl rfl rfl rfl rfl rfl True.intro ?_)
  refine WP.qend rfl ?_
  cases h
  refine WP.retR tysOk rfl rfl ⟨_, _, rfl, rfl, rfl⟩ (fun w1 hw1 => ⟨rfl, Ret.below_ hw1 (.cons (.tail (.tail (.tail (.tail (.tail (.tail (.tail (.tail (.tail .head))))))))) .nil)⟩)
end Go.Proofs.Ytpnohbdfgmjdbaa
