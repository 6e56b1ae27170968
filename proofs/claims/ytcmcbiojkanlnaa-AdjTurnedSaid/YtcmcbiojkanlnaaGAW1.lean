/- The walks: the code computes that. -/
import Derived.Test.YtcmcbiojkanlnaaGAD
import Derived.Test.YtcmcbiojkanlnaaTys
import Derived.KernelRfl
namespace Go.Proofs.Ytcmcbiojkanlnaa
open Go.RowKit Go.Qe
set_option maxHeartbeats 4000000 in
theorem eq31 (x y : Arc) (w : World) : (Op.equalIn 10000 31 (.agg #[.int .i64 (x.src), .int .i64 (x.dst), .int .i64 (x.low), .int .i64 (x.cap), .int .i64 (x.cost)]) (.agg #[.int .i64 (y.src), .int .i64 (y.dst), .int .i64 (y.low), .int .i64 (y.cap), .int .i64 (y.cost)])).run Try.prog w = .ok (decide (x = y)) w := by
  rw [run_equalIn_struct w 9999 31 _ _ (by kernel_rfl) (by kernel_rfl)]
  have e : decide (x = y) = ((x.src == y.src) && ((x.dst == y.dst) && ((x.low == y.low) && ((x.cap == y.cap) && ((x.cost == y.cost)))))) := by
    cases x; cases y; rw [Bool.eq_iff_iff]; simp
  rw [e]
  have i2 : ∀ (a b : Int) (w : World), (Op.equalIn 9999 2 (.int .i64 a) (.int .i64 b)).run Try.prog w = .ok (a == b) w := fun a b w => run_equalIn_int w 9998 2 .i64 .i64 a b Try.underlying2
  have g2 : ∀ w : World, (isAgg 2).run Try.prog w = .ok false w := fun w => isAgg_run Try.underlying2 w
  have i3 : ∀ (a b : Int) (w : World), (Op.equalIn 9999 3 (.int .i64 a) (.int .i64 b)).run Try.prog w = .ok (a == b) w := fun a b w => run_equalIn_int w 9998 3 .i64 .i64 a b Try.underlying3
  have g3 : ∀ w : World, (isAgg 3).run Try.prog w = .ok false w := fun w => isAgg_run Try.underlying3 w
  simp [Program.fieldsOf, Op.eqFields, part, Try.underlying31, g2, i2, g3, i3]
  (repeat' split) <;> simp_all
set_option maxHeartbeats 8000000 in
theorem law04_AdjKeeps_w {w : World} {v0 : Value} {v1 : Value} {d1 : List Int} {i1 : List Int} {x1 : Int} {r : Bool} (h : law04_AdjKeeps d1 i1 x1 = some r) (p1 : SlF (fI .u8) (PH.of w) v0 d1) (p2 : SlF (fI .u8) (PH.of w) v1 i1) :
    Calls Try.prog 3 #[v0, v1, .int .u8 (x1)] w fun e w' => e = .returned (.bool (r)) ∧ Below w.heap.size w w' := by
  obtain ⟨A1, c1, rfl, hs1⟩ := p1
  obtain ⟨A2, c2, rfl, hs2⟩ := p2
  unfold law04_AdjKeeps at h
  refine enter_ Try.func3 rfl Try.ntmps3 rfl ?_
  iterate 3 (refine WP.st tysOk true rfl True.intro rfl rfl rfl rfl True.intro ?_)
  obtain ⟨r1, hg1, h⟩ := bind_some h
  refine WP.callS (law03_Inst_S r1) rfl rfl rfl rfl rfl rfl rfl (by kernel_rfl) (fun w1 hw1 => law03_Inst_w hg1 (hs1.le' ((Held.mem (List.Mem.head _)) _ _ hw1)).of (hs2.le' ((Held.mem (List.Mem.head _)) _ _ hw1)).of) ?_
  rintro _ _ ⟨A3, n1, c3, A4, n2, c4, rfl, hf1, hf2, rfl⟩
  refine WP.al tysOk rfl rfl rfl rfl rfl rfl ?_
  intro g1
  refine WP.sto' tysOk [.slice A3 n1 c3, .slice A4 n2 c4] rfl rfl rfl rfl rfl rfl rfl rfl rfl .head rfl rfl ?_
  refine WP.ldm tysOk rfl True.intro rfl rfl rfl rfl rfl rfl rfl (SegAt.blk' .head rfl) ?_
  obtain ⟨r2, hg2, h⟩ := bind_some h
  refine WP.callS (adj_New_S r2) rfl rfl rfl rfl rfl rfl rfl (by kernel_rfl) (fun w1 hw1 => adj_New_w hg2 (InsZ.mk_ (hw1.ow (.tail .head) hf1) (hw1.ow (.tail (.tail .head)) hf2))) ?_
  rintro vg1 _ ⟨Zn1, hgr1, rfl⟩
  obtain ⟨gg1, rfl⟩ := hgr1.ptr'
  iterate 3 (refine WP.st tysOk true rfl True.intro rfl rfl rfl rfl True.intro ?_)
  refine WP.condF rfl rfl ?_
  refine WP.st tysOk true rfl True.intro rfl rfl rfl rfl True.intro ?_
  refine WP.loop (α := Nat × Int × (List Arc) × (Option Addr) × Nat × Nat) (fun x => lp (law04_AdjKeeps_b1 d1 i1 x1 r2) x.1 (x.2.1, x.2.2.1) = some r ∧ OwF x.2.2.2.1 x.2.2.2.2.1 x.2.2.1) (fun x => [(0, .slice A1 d1.length c1), (1, .slice A2 i1.length c2), (2, .int .u8 (x1)), (7, .pointer (some ⟨g1, 0, none⟩)), (8, .pointer (some ⟨gg1, 0, none⟩)), (9, .int .i64 (x.2.1))]) (fun x => [.fz Zn1, .blk g1 26 [.slice A3 n1 c3, .slice x.2.2.2.1 x.2.2.2.2.1 x.2.2.2.2.2], Ow (fI .i64) 2 A3 n1 c3 r1.supply, Ow fA 31 x.2.2.2.1 x.2.2.2.2.1 x.2.2.2.2.2 x.2.2.1, .fz (PH.of w)]) (fun x => x.1) rfl (big, 0, r1.arcs, A4, n2, c4) ⟨h, hf2⟩ ?_ ?_ ?_
  · repeat (first | exact True.intro | refine And.intro rfl ?_)
  · exact (.cons .head (.cons .head (.cons .head (.cons .head (.cons .head .nil)))))
  · rintro ⟨n171, s36, xs8, A165, m8, c165⟩ ⟨h, hf181⟩
    dsimp only at h hf181 ⊢
    rcases n171 with _ | n171
    · exact (lp_no h).elim
    replace h := lp_succ h
    unfold law04_AdjKeeps_b1 at h
    try dsimp only at h
    iterate 2 (refine WP.st tysOk true rfl True.intro rfl rfl rfl rfl True.intro ?_)
    refine WP.ld1 tysOk rfl True.intro rfl rfl rfl rfl rfl rfl rfl (CellAt.blk (.tail .head) rfl) ?_
    refine WP.lenO (xs := xs8) tysOk rfl True.intro rfl rfl rfl rfl rfl rfl hf181 ?_
    refine WP.st tysOk true rfl True.intro rfl rfl rfl rfl True.intro ?_
    refine WP.cond_d rfl rfl (fun hh196 => ?_) (fun hh196 => ?_)
    · rw [if_pos hh196] at h
      refine WP.st tysOk true rfl True.intro rfl rfl rfl rfl True.intro ?_
      refine WP.ld1 tysOk rfl True.intro rfl rfl rfl rfl rfl rfl rfl (CellAt.blk (.tail .head) rfl) ?_
      refine WP.st tysOk true rfl True.intro rfl rfl rfl rfl True.intro ?_
      obtain ⟨hj55, h⟩ := ck_some h
      refine WP.ixO tysOk rfl True.intro rfl rfl rfl rfl rfl rfl rfl rfl hf181 hj55 ?_
      intro b55 hA55
      refine WP.st tysOk true rfl True.intro rfl rfl rfl rfl True.intro ?_
      obtain ⟨xs9, hx19, h⟩ := lt_some h
      refine WP.stoO (f := fA) 0 (Arc.mk 0 ((gt xs8 s36).dst) ((gt xs8 s36).low) ((gt xs8 s36).cap) ((gt xs8 s36).cost)) tysOk rfl rfl rfl rfl rfl rfl rfl rfl rfl (.tail (.tail (.tail .head))) hA55 hf181 hj55 rfl rfl rfl hx19 ?_
      intro hf182
      refine WP.st tysOk true rfl True.intro rfl rfl rfl rfl True.intro ?_
      refine WP.ld1 tysOk rfl True.intro rfl rfl rfl rfl rfl rfl rfl (CellAt.blk (.tail (.tail .head)) rfl) ?_
      refine WP.st tysOk true rfl True.intro rfl rfl rfl rfl True.intro ?_
      obtain ⟨hj56, h⟩ := ck_some h
      refine WP.ixO tysOk rfl True.intro rfl rfl rfl rfl rfl rfl rfl rfl hf182 hj56 ?_
      intro b56 hA56
      refine WP.st tysOk true rfl True.intro rfl rfl rfl rfl True.intro ?_
      obtain ⟨xs10, hx20, h⟩ := lt_some h
      refine WP.stoO (f := fA) 3 (Arc.mk ((gt xs9 s36).src) ((gt xs9 s36).dst) ((gt xs9 s36).low) 1 ((gt xs9 s36).cost)) tysOk rfl rfl rfl rfl rfl rfl rfl rfl rfl .head hA56 hf182 hj56 rfl rfl rfl hx20 ?_
      intro hf183
      iterate 3 (refine WP.st tysOk true rfl True.intro rfl rfl rfl rfl True.intro ?_)
      refine WP.stop rfl (n171, w64 (s36 + 1), xs10, A165, m8, c165) ⟨⟨h, hf183⟩, Nat.lt_succ_self _⟩ ?_ ?_
      · repeat (first | exact True.intro | refine And.intro rfl ?_)
      · exact (.cons (.tail .head) (.cons (.tail .head) (.cons (.tail .head) (.cons .head (.cons .head .nil)))))
    · rw [if_neg hh196] at h
      iterate 2 (refine WP.st tysOk true rfl True.intro rfl rfl rfl rfl True.intro ?_)
      obtain ⟨r315, hg297, h⟩ := bind_some h
      refine WP.callS (law03_Inst_S r315) rfl rfl rfl rfl rfl rfl rfl (by kernel_rfl) (fun w1 hw1 => law03_Inst_w hg297 (hs1.le' ((Held.mem (List.Mem.tail _ (List.Mem.tail _ (List.Mem.tail _ (List.Mem.tail _ (List.Mem.head _)))))) _ _ hw1)).of (hs2.le' ((Held.mem (List.Mem.tail _ (List.Mem.tail _ (List.Mem.tail _ (List.Mem.tail _ (List.Mem.head _)))))) _ _ hw1)).of) ?_
      rintro _ _ ⟨A166, n172, c166, A167, n173, c167, rfl, hf184, hf185, rfl⟩
      refine WP.al tysOk rfl rfl rfl rfl rfl rfl ?_
      intro g41
      refine WP.sto' tysOk [.slice A166 n172 c166, .slice A167 n173 c167] rfl rfl rfl rfl rfl rfl rfl rfl rfl .head rfl rfl ?_
      iterate 3 (refine WP.st tysOk true rfl True.intro rfl rfl rfl rfl True.intro ?_)
      refine WP.ld1 tysOk rfl True.intro rfl rfl rfl rfl rfl rfl rfl (CellAt.blk .head rfl) ?_
      refine WP.lenO (xs := r315.supply) tysOk rfl True.intro rfl rfl rfl rfl rfl rfl hf184 ?_
      obtain ⟨hz4, h⟩ := ck_some h
      refine WP.st tysOk true rfl True.intro rfl rfl rfl rfl hz4 ?_
      iterate 3 (refine WP.st tysOk true rfl True.intro rfl rfl rfl rfl True.intro ?_)
      obtain ⟨r316, hg298, h⟩ := bind_some h
      refine WP.callS (adj_Graph_Out_S r316) rfl rfl rfl rfl rfl rfl rfl (by kernel_rfl) (fun w1 hw1 => adj_Graph_Out_w hg298 (hgr1.le ((Held.mem (List.Mem.tail _ (List.Mem.tail _ (List.Mem.tail _ (List.Mem.head _))))) _ _ hw1))) ?_
      rintro _ _ ⟨A168, n174, c168, rfl, hf186, rfl⟩
      iterate 2 (refine WP.st tysOk true rfl True.intro rfl rfl rfl rfl True.intro ?_)
      refine WP.loop (α := Nat × Int × (List Int) × (Option Addr) × Nat × Nat) (fun x => lp (law04_AdjKeeps_b2 x1 r2 r315) x.1 (x.2.1, x.2.2.1) = some r ∧ OwF x.2.2.2.1 x.2.2.2.2.1 x.2.2.1) (fun x => [(8, .pointer (some ⟨gg1, 0, none⟩)), (10, .pointer (some ⟨g41, 0, none⟩)), (11, .int .i64 ((w64 (x1)).tmod (r315.supply.length : Int))), (12, .slice x.2.2.2.1 x.2.2.2.2.1 x.2.2.2.2.2), (13, .int .i64 (x.2.1))]) (fun x => [Ow (fI .i64) 3 x.2.2.2.1 x.2.2.2.2.1 x.2.2.2.2.2 x.2.2.1, .blk g41 26 [.slice A166 n172 c166, .slice A167 n173 c167], Ow (fI .i64) 2 A166 n172 c166 r315.supply, Ow fA 31 A167 n173 c167 r315.arcs, .fz Zn1, .fz (PH.of w)]) (fun x => x.1) rfl (big, 0, r316, A168, n174, c168) ⟨h, hf186⟩ ?_ ?_ ?_
      · repeat (first | exact True.intro | refine And.intro rfl ?_)
      · exact (.cons .head (.cons .head (.cons .head (.cons .head (.cons .head (.cons (.tail (.tail (.tail .head))) .nil))))))
      · rintro ⟨n214, s45, r393, A206, m10, c206⟩ ⟨h, hf227⟩
        dsimp only at h hf227 ⊢
        rcases n214 with _ | n214
        · exact (lp_no h).elim
        replace h := lp_succ h
        unfold law04_AdjKeeps_b2 at h
        try dsimp only at h
        iterate 2 (refine WP.st tysOk true rfl True.intro rfl rfl rfl rfl True.intro ?_)
        refine WP.lenO (xs := r393) tysOk rfl True.intro rfl rfl rfl rfl rfl rfl hf227 ?_
        refine WP.st tysOk true rfl True.intro rfl rfl rfl rfl True.intro ?_
        refine WP.cond_d rfl rfl (fun hh245 => ?_) (fun hh245 => ?_)
        · rw [if_pos hh245] at h
          iterate 2 (refine WP.st tysOk true rfl True.intro rfl rfl rfl rfl True.intro ?_)
          obtain ⟨hj69, h⟩ := ck_some h
          refine WP.ixO tysOk rfl True.intro rfl rfl rfl rfl rfl rfl rfl rfl hf227 hj69 ?_
          intro b69 hA69
          obtain ⟨r394, hx24, h⟩ := lt_some h
          refine WP.stoO (f := (fI .i64)) 0 99 tysOk rfl rfl rfl rfl rfl rfl rfl rfl rfl .head hA69 hf227 hj69 rfl rfl rfl hx24 ?_
          intro hf228
          iterate 3 (refine WP.st tysOk true rfl True.intro rfl rfl rfl rfl True.intro ?_)
          refine WP.stop rfl (n214, w64 (s45 + 1), r394, A206, m10, c206) ⟨⟨h, hf228⟩, Nat.lt_succ_self _⟩ ?_ ?_
          · repeat (first | exact True.intro | refine And.intro rfl ?_)
          · exact (.cons .head (.cons .head (.cons .head (.cons .head (.cons .head (.cons .head .nil))))))
        · rw [if_neg hh245] at h
          refine WP.st tysOk true rfl True.intro rfl rfl rfl rfl True.intro ?_
          refine WP.loop (α := Nat × Int) (fun x => lp (law04_AdjKeeps_b3 x1 r2 r315) x.1 x.2 = some r) (fun x => [(8, .pointer (some ⟨gg1, 0, none⟩)), (10, .pointer (some ⟨g41, 0, none⟩)), (11, .int .i64 ((w64 (x1)).tmod (r315.supply.length : Int))), (14, .int .i64 (x.2))]) (fun x => [.blk g41 26 [.slice A166 n172 c166, .slice A167 n173 c167], Ow (fI .i64) 2 A166 n172 c166 r315.supply, Ow fA 31 A167 n173 c167 r315.arcs, .fz Zn1, .fz (PH.of w)]) (fun x => x.1) rfl (big, 0) h ?_ ?_ ?_
          · repeat (first | exact True.intro | refine And.intro rfl ?_)
          · exact (.cons (.tail .head) (.cons (.tail .head) (.cons (.tail .head) (.cons (.tail .head) (.cons (.tail .head) .nil)))))
          · rintro ⟨n223, s47⟩ h
            dsimp only at h ⊢
            rcases n223 with _ | n223
            · exact (lp_no h).elim
            replace h := lp_succ h
            unfold law04_AdjKeeps_b3 at h
            try dsimp only at h
            iterate 2 (refine WP.st tysOk true rfl True.intro rfl rfl rfl rfl True.intro ?_)
            refine WP.ld1 tysOk rfl True.intro rfl rfl rfl rfl rfl rfl rfl (CellAt.blk .head rfl) ?_
            refine WP.lenO (xs := r315.arcs) tysOk rfl True.intro rfl rfl rfl rfl rfl rfl hf185 ?_
            refine WP.st tysOk true rfl True.intro rfl rfl rfl rfl True.intro ?_
            refine WP.cond_d rfl rfl (fun hh256 => ?_) (fun hh256 => ?_)
            · rw [if_pos hh256] at h
              iterate 2 (refine WP.st tysOk true rfl True.intro rfl rfl rfl rfl True.intro ?_)
              obtain ⟨r411, hg387, h⟩ := bind_some h
              refine WP.callV rfl rfl rfl rfl rfl rfl rfl (by kernel_rfl) (fun w1 hw1 => adj_Graph_Arc_w hg387 (hgr1.le ((Held.mem (List.Mem.tail _ (List.Mem.tail _ (List.Mem.tail _ (List.Mem.head _))))) _ _ hw1))) True.intro ?_
              iterate 3 (refine WP.st tysOk true rfl True.intro rfl rfl rfl rfl True.intro ?_)
              refine WP.al tysOk rfl rfl rfl rfl rfl rfl ?_
              intro g53
              refine WP.sto' tysOk [.int .i64 (r411.1.src), .int .i64 (r411.1.dst), .int .i64 (r411.1.low), .int .i64 (r411.1.cap), .int .i64 (r411.1.cost)] rfl rfl rfl rfl rfl rfl rfl rfl rfl .head rfl rfl ?_
              refine WP.st tysOk true rfl True.intro rfl rfl rfl rfl True.intro ?_
              refine WP.draw rfl (by kernel_rfl) (by kernel_rfl) ?_
              iterate 3 (refine WP.st tysOk true rfl rfl rfl rfl rfl rfl True.intro ?_)
              by_cases hh257 : r411.2 = true
              · rw [if_pos hh257] at h
                refine WP.yes rfl rfl (by simp [hh257]) ?_
                refine WP.ldm tysOk rfl rfl rfl rfl rfl rfl rfl rfl rfl (SegAt.blk' .head rfl) ?_
                refine WP.yes rfl rfl rfl ?_
                refine WP.st tysOk true rfl rfl rfl rfl rfl rfl True.intro ?_
                refine WP.yes rfl rfl rfl ?_
                refine WP.ld1 tysOk rfl rfl rfl rfl rfl rfl rfl rfl rfl (CellAt.blk (.tail .head) rfl) ?_
                refine WP.yes rfl rfl rfl ?_
                refine WP.st tysOk true rfl rfl rfl rfl rfl rfl True.intro ?_
                refine WP.yes rfl rfl rfl ?_
                obtain ⟨hj72, h⟩ := ck_some h
                refine WP.ixO tysOk rfl rfl rfl rfl rfl rfl rfl rfl rfl rfl hf185 hj72 ?_
                intro b72 hA72
                refine WP.yes rfl rfl rfl ?_
                refine WP.ldm tysOk rfl rfl rfl rfl rfl rfl rfl rfl rfl (OwS.seg (.tail (.tail (.tail .head))) hA72 hj72) ?_
                refine WP.yes rfl rfl rfl ?_
                refine WP.neS rfl rfl rfl rfl rfl rfl rfl rfl (by kernel_rfl) (eq31 r411.1 (gt r315.arcs s47)) ?_
                refine WP.st tysOk true rfl rfl rfl rfl rfl rfl True.intro ?_
                refine WP.qend rfl ?_
                refine WP.cond_nd rfl rfl (fun hh258 => ?_) (fun hh258 => ?_)
                · rw [if_neg hh258] at h
                  refine WP.st tysOk true rfl True.intro rfl rfl rfl rfl True.intro ?_
                  cases h
                  refine WP.retR tysOk rfl rfl ⟨_, _, rfl, rfl, rfl⟩ (fun w1 hw1 => ⟨rfl, Ret.below_ hw1 (.cons (.tail (.tail (.tail (.tail (.tail .head))))) .nil)⟩)
                · rw [if_pos hh258] at h
                  iterate 3 (refine WP.st tysOk true rfl True.intro rfl rfl rfl rfl True.intro ?_)
                  refine WP.stop rfl (n223, w64 (s47 + 1)) ⟨h, Nat.lt_succ_self _⟩ ?_ ?_
                  · repeat (first | exact True.intro | refine And.intro rfl ?_)
                  · exact (.cons (.tail .head) (.cons (.tail .head) (.cons (.tail .head) (.cons (.tail .head) (.cons (.tail .head) .nil)))))
              · rw [if_neg hh257] at h
                refine WP.no rfl rfl (by simp [hh257]) rfl rfl ?_
                iterate 6 (refine WP.no rfl rfl rfl rfl rfl ?_)
                refine WP.st tysOk true rfl rfl rfl rfl rfl rfl True.intro ?_
                refine WP.qend rfl ?_
                refine WP.condT rfl rfl ?_
                refine WP.st tysOk true rfl True.intro rfl rfl rfl rfl True.intro ?_
                cases h
                refine WP.retR tysOk rfl rfl ⟨_, _, rfl, rfl, rfl⟩ (fun w1 hw1 => ⟨rfl, Ret.below_ hw1 (.cons (.tail (.tail (.tail (.tail (.tail .head))))) .nil)⟩)
            · rw [if_neg hh256] at h
              obtain ⟨r412, hg388, h⟩ := bind_some h
              by_cases hh259 : r412 = true
              · rw [if_pos hh259] at h
                obtain ⟨r413, hg389, h⟩ := bind_some h
                obtain ⟨r414, hg390, h⟩ := bind_some h
                obtain ⟨r415, hg391, h⟩ := bind_some h
                by_cases hh260 : r415 = true
                · rw [if_pos hh260] at h
                  obtain ⟨r416, hg392, h⟩ := bind_some h
                  obtain ⟨r417, hg393, h⟩ := bind_some h
                  obtain ⟨r418, hg394, h⟩ := bind_some h
                  refine WP.drawL 19 [(0, [], fun _ => constSpec (.bool (r412))), (4, [], fun _ => adj_Graph_Out_S r413), (7, [], fun _ => ref04_Out_S r414), (8, [4, 7], fun _ => constSpec (.bool (r415))), (13, [], fun _ => adj_Graph_At_S r416), (16, [], fun _ => ref04_At_S r417), (17, [13, 16], fun _ => constSpec (.bool (r418)))] rfl (by kernel_rfl) (by kernel_rfl) (by kernel_rfl) ?_
                  refine WP.callV rfl rfl rfl rfl rfl rfl rfl (by kernel_rfl) (fun w1 hw1 => law04_known_w hg388 ) ⟨⟨rfl, rfl⟩, rfl⟩ ?_
                  refine WP.st tysOk true rfl ⟨⟨rfl, rfl⟩, rfl⟩ rfl rfl rfl rfl True.intro ?_
                  refine WP.yes rfl rfl hh259 ?_
                  iterate 2 (refine WP.st tysOk true rfl ⟨⟨rfl, rfl⟩, rfl⟩ rfl rfl rfl rfl True.intro ?_; refine WP.yes rfl rfl rfl ?_)
                  refine WP.lcall rfl ⟨rfl, rfl⟩ rfl rfl rfl rfl rfl rfl rfl (by kernel_rfl) (fun w1 hw1 => adj_Graph_Out_w hg389 (hgr1.le ((Held.mem (List.Mem.tail _ (List.Mem.tail _ (List.Mem.tail _ (List.Mem.head _))))) _ _ hw1))) ?_
                  rintro _ _ ⟨A215, n224, c215, rfl, hf237, rfl⟩
                  refine WP.yes rfl rfl rfl ?_
                  refine WP.ldm tysOk rfl ⟨⟨rfl, rfl⟩, rfl⟩ rfl rfl rfl rfl rfl rfl rfl (SegAt.blk' .head rfl) ?_
                  refine WP.yes rfl rfl rfl ?_
                  refine WP.st tysOk true rfl ⟨⟨rfl, rfl⟩, rfl⟩ rfl rfl rfl rfl True.intro ?_
                  refine WP.yes rfl rfl rfl ?_
                  refine WP.lcall rfl ⟨rfl, rfl⟩ rfl rfl rfl rfl rfl rfl rfl (by kernel_rfl) (fun w1 hw1 => ref04_Out_w hg390 (InsZ.mk_ (hw1.ow (.tail .head) hf184) (hw1.ow (.tail (.tail .head)) hf185))) ?_
                  rintro _ _ ⟨A216, n225, c216, rfl, hf238, rfl⟩
                  refine WP.yes rfl rfl rfl ?_
                  refine WP.lcall rfl ⟨rfl, rfl⟩ rfl rfl rfl rfl rfl rfl rfl (by kernel_rfl) (fun w1 hw1 => (ref03_Ints_w hg391 (hw1.ow (.tail .head) hf237) (hw1.ow .head hf238)).mono fun e w' h => ⟨_, [], h.1, ⟨rfl, rfl⟩, Ret.nil h.2⟩) ?_
                  rintro _ _ ⟨rfl, rfl⟩
                  iterate 2 (refine WP.st tysOk true rfl ⟨⟨rfl, rfl⟩, rfl⟩ rfl rfl rfl rfl True.intro ?_)
                  refine WP.yes rfl rfl hh260 ?_
                  iterate 2 (refine WP.st tysOk true rfl ⟨⟨rfl, rfl⟩, rfl⟩ rfl rfl rfl rfl True.intro ?_; refine WP.yes rfl rfl rfl ?_)
                  refine WP.lcall rfl ⟨rfl, rfl⟩ rfl rfl rfl rfl rfl rfl rfl (by kernel_rfl) (fun w1 hw1 => adj_Graph_At_w hg392 (hgr1.le ((Held.mem (List.Mem.tail _ (List.Mem.tail _ (List.Mem.tail _ (List.Mem.head _))))) _ _ hw1))) ?_
                  rintro _ _ ⟨A217, n226, c217, rfl, hf239, rfl⟩
                  refine WP.yes rfl rfl rfl ?_
                  refine WP.ldm tysOk rfl ⟨⟨rfl, rfl⟩, rfl⟩ rfl rfl rfl rfl rfl rfl rfl (SegAt.blk' .head rfl) ?_
                  refine WP.yes rfl rfl rfl ?_
                  refine WP.st tysOk true rfl ⟨⟨rfl, rfl⟩, rfl⟩ rfl rfl rfl rfl True.intro ?_
                  refine WP.yes rfl rfl rfl ?_
                  refine WP.lcall rfl ⟨rfl, rfl⟩ rfl rfl rfl rfl rfl rfl rfl (by kernel_rfl) (fun w1 hw1 => ref04_At_w hg393 (InsZ.mk_ (hw1.ow (.tail .head) hf184) (hw1.ow (.tail (.tail .head)) hf185))) ?_
                  rintro _ _ ⟨A218, n227, c218, rfl, hf240, rfl⟩
                  refine WP.yes rfl rfl rfl ?_
                  refine WP.lcall rfl ⟨rfl, rfl⟩ rfl rfl rfl rfl rfl rfl rfl (by kernel_rfl) (fun w1 hw1 => (ref03_Ints_w hg394 (hw1.ow (.tail .head) hf239) (hw1.ow .head hf240)).mono fun e w' h => ⟨_, [], h.1, ⟨rfl, rfl⟩, Ret.nil h.2⟩) ?_
                  rintro _ _ ⟨rfl, rfl⟩
                  refine WP.st tysOk true rfl ⟨⟨rfl, rfl⟩, rfl⟩ rfl rfl rfl rfl True.intro ?_
                  refine WP.lend rfl ⟨rfl, rfl⟩ ?_
                  refine WP.st tysOk true rfl True.intro rfl rfl rfl rfl True.intro ?_
                  cases h
                  refine WP.retR tysOk rfl rfl ⟨_, _, rfl, rfl, rfl⟩ (fun w1 hw1 => ⟨rfl, Ret.below_ hw1 (.cons (.tail (.tail (.tail (.tail (.tail (.tail (.tail (.tail .head)))))))) .nil)⟩)
                · rw [if_neg hh260] at h
                  refine WP.drawL 19 [(0, [], fun _ => constSpec (.bool (r412))), (4, [], fun _ => adj_Graph_Out_S r413), (7, [], fun _ => ref04_Out_S r414), (8, [4, 7], fun _ => constSpec (.bool (r415)))] rfl (by kernel_rfl) (by kernel_rfl) (by kernel_rfl) ?_
                  refine WP.callV rfl rfl rfl rfl rfl rfl rfl (by kernel_rfl) (fun w1 hw1 => law04_known_w hg388 ) ⟨⟨rfl, rfl⟩, rfl⟩ ?_
                  refine WP.st tysOk true rfl ⟨⟨rfl, rfl⟩, rfl⟩ rfl rfl rfl rfl True.intro ?_
                  refine WP.yes rfl rfl hh259 ?_
                  iterate 2 (refine WP.st tysOk true rfl ⟨⟨rfl, rfl⟩, rfl⟩ rfl rfl rfl rfl True.intro ?_; refine WP.yes rfl rfl rfl ?_)
                  refine WP.lcall rfl ⟨rfl, rfl⟩ rfl rfl rfl rfl rfl rfl rfl (by kernel_rfl) (fun w1 hw1 => adj_Graph_Out_w hg389 (hgr1.le ((Held.mem (List.Mem.tail _ (List.Mem.tail _ (List.Mem.tail _ (List.Mem.head _))))) _ _ hw1))) ?_
                  rintro _ _ ⟨A215, n224, c215, rfl, hf237, rfl⟩
                  refine WP.yes rfl rfl rfl ?_
                  refine WP.ldm tysOk rfl ⟨⟨rfl, rfl⟩, rfl⟩ rfl rfl rfl rfl rfl rfl rfl (SegAt.blk' .head rfl) ?_
                  refine WP.yes rfl rfl rfl ?_
                  refine WP.st tysOk true rfl ⟨⟨rfl, rfl⟩, rfl⟩ rfl rfl rfl rfl True.intro ?_
                  refine WP.yes rfl rfl rfl ?_
                  refine WP.lcall rfl ⟨rfl, rfl⟩ rfl rfl rfl rfl rfl rfl rfl (by kernel_rfl) (fun w1 hw1 => ref04_Out_w hg390 (InsZ.mk_ (hw1.ow (.tail .head) hf184) (hw1.ow (.tail (.tail .head)) hf185))) ?_
                  rintro _ _ ⟨A216, n225, c216, rfl, hf238, rfl⟩
                  refine WP.yes rfl rfl rfl ?_
                  refine WP.lcall rfl ⟨rfl, rfl⟩ rfl rfl rfl rfl rfl rfl rfl (by kernel_rfl) (fun w1 hw1 => (ref03_Ints_w hg391 (hw1.ow (.tail .head) hf237) (hw1.ow .head hf238)).mono fun e w' h => ⟨_, [], h.1, ⟨rfl, rfl⟩, Ret.nil h.2⟩) ?_
                  rintro _ _ ⟨rfl, rfl⟩
                  iterate 2 (refine WP.st tysOk true rfl ⟨⟨rfl, rfl⟩, rfl⟩ rfl rfl rfl rfl True.intro ?_)
                  refine WP.no rfl rfl (bfalse hh260) rfl rfl ?_
                  iterate 6 (refine WP.no rfl rfl rfl rfl rfl ?_)
                  refine WP.st tysOk true rfl ⟨⟨rfl, rfl⟩, rfl⟩ rfl rfl rfl rfl True.intro ?_
                  refine WP.lend rfl ⟨rfl, rfl⟩ ?_
                  refine WP.st tysOk true rfl True.intro rfl rfl rfl rfl True.intro ?_
                  cases h
                  refine WP.retR tysOk rfl rfl ⟨_, _, rfl, rfl, rfl⟩ (fun w1 hw1 => ⟨rfl, Ret.below_ hw1 (.cons (.tail (.tail (.tail (.tail (.tail (.tail .head)))))) .nil)⟩)
              · rw [if_neg hh259] at h
                refine WP.drawL 19 [(0, [], fun _ => constSpec (.bool (r412)))] rfl (by kernel_rfl) (by kernel_rfl) (by kernel_rfl) ?_
                refine WP.callV rfl rfl rfl rfl rfl rfl rfl (by kernel_rfl) (fun w1 hw1 => law04_known_w hg388 ) ⟨⟨rfl, rfl⟩, rfl⟩ ?_
                refine WP.st tysOk true rfl ⟨⟨rfl, rfl⟩, rfl⟩ rfl rfl rfl rfl True.intro ?_
                refine WP.no rfl rfl (bfalse hh259) rfl rfl ?_
                iterate 6 (refine WP.no rfl rfl rfl rfl rfl ?_)
                iterate 2 (refine WP.st tysOk true rfl ⟨⟨rfl, rfl⟩, rfl⟩ rfl rfl rfl rfl True.intro ?_)
                iterate 7 (refine WP.no rfl rfl rfl rfl rfl ?_)
                refine WP.st tysOk true rfl ⟨⟨rfl, rfl⟩, rfl⟩ rfl rfl rfl rfl True.intro ?_
                refine WP.lend rfl ⟨rfl, rfl⟩ ?_
                refine WP.st tysOk true rfl True.intro rfl rfl rfl rfl True.intro ?_
                cases h
                refine WP.retR tysOk rfl rfl ⟨_, _, rfl, rfl, rfl⟩ (fun w1 hw1 => ⟨rfl, Ret.below_ hw1 (.cons (.tail (.tail (.tail (.tail .head)))) .nil)⟩)

set_option maxHeartbeats 8000000 in
theorem law04_AdjMore_w {w : World} {v0 : Value} {v1 : Value} {d1 : List Int} {i1 : List Int} {x1 : Int} {x2 : Int} {r : Bool} (h : law04_AdjMore d1 i1 x1 x2 = some r) (p1 : SlF (fI .u8) (PH.of w) v0 d1) (p2 : SlF (fI .u8) (PH.of w) v1 i1) :
    Calls Try.prog 4 #[v0, v1, .int .u8 (x1), .int .u8 (x2)] w fun e w' => e = .returned (.bool (r)) ∧ Below w.heap.size w w' := by
  obtain ⟨A1, c1, rfl, hs1⟩ := p1
  obtain ⟨A2, c2, rfl, hs2⟩ := p2
  unfold law04_AdjMore at h
  refine enter_ Try.func4 rfl Try.ntmps4 rfl ?_
  iterate 3 (refine WP.st tysOk true rfl True.intro rfl rfl rfl rfl True.intro ?_)
  obtain ⟨r1, hg1, h⟩ := bind_some h
  refine WP.callS (law03_Inst_S r1) rfl rfl rfl rfl rfl rfl rfl (by kernel_rfl) (fun w1 hw1 => law03_Inst_w hg1 (hs1.le' ((Held.mem (List.Mem.head _)) _ _ hw1)).of (hs2.le' ((Held.mem (List.Mem.head _)) _ _ hw1)).of) ?_
  rintro _ _ ⟨A3, n1, c3, A4, n2, c4, rfl, hf1, hf2, rfl⟩
  refine WP.al tysOk rfl rfl rfl rfl rfl rfl ?_
  intro g1
  refine WP.sto' tysOk [.slice A3 n1 c3, .slice A4 n2 c4] rfl rfl rfl rfl rfl rfl rfl rfl rfl .head rfl rfl ?_
  refine WP.st tysOk true rfl True.intro rfl rfl rfl rfl True.intro ?_
  refine WP.ld1 tysOk rfl True.intro rfl rfl rfl rfl rfl rfl rfl (CellAt.blk .head rfl) ?_
  refine WP.lenO (xs := r1.supply) tysOk rfl True.intro rfl rfl rfl rfl rfl rfl hf1 ?_
  refine WP.st tysOk true rfl True.intro rfl rfl rfl rfl True.intro ?_
  obtain ⟨hz1, h⟩ := ck_some h
  obtain ⟨hz2, h⟩ := ck_some h
  refine WP.drawL 10 [(9, [], fun _ => blkSpec 31 [.int .i64 (0), .int .i64 (0), .int .i64 (0), .int .i64 (0), .int .i64 (0)])] rfl (by kernel_rfl) (by kernel_rfl) (by kernel_rfl) ?_
  iterate 3 (refine WP.st tysOk true rfl ⟨⟨rfl, rfl⟩, rfl⟩ rfl rfl rfl rfl True.intro ?_)
  refine WP.st tysOk true rfl ⟨⟨rfl, rfl⟩, rfl⟩ rfl rfl rfl rfl hz1 ?_
  iterate 3 (refine WP.st tysOk true rfl ⟨⟨rfl, rfl⟩, rfl⟩ rfl rfl rfl rfl True.intro ?_)
  refine WP.st tysOk true rfl ⟨⟨rfl, rfl⟩, rfl⟩ rfl rfl rfl rfl hz2 ?_
  refine WP.bld tysOk rfl ⟨⟨rfl, rfl⟩, rfl⟩ rfl rfl rfl rfl rfl rfl rfl ?_
  refine WP.lal tysOk rfl ⟨rfl, rfl⟩ rfl rfl rfl rfl rfl rfl rfl ?_
  intro g2
  refine WP.lend rfl ⟨rfl, rfl⟩ ?_
  refine WP.sto' tysOk [.int .i64 ((w64 (x1)).tmod (r1.supply.length : Int)), .int .i64 ((w64 (x2)).tmod (r1.supply.length : Int)), .int .i64 (0), .int .i64 (1), .int .i64 (0)] rfl rfl rfl rfl rfl rfl rfl rfl rfl .head rfl rfl ?_
  refine WP.st tysOk true rfl True.intro rfl rfl rfl rfl True.intro ?_
  refine WP.ld1 tysOk rfl True.intro rfl rfl rfl rfl rfl rfl rfl (CellAt.blk (.tail .head) rfl) ?_
  refine WP.bld tysOk rfl True.intro rfl rfl rfl rfl rfl rfl rfl ?_
  refine WP.al tysOk rfl rfl rfl rfl rfl rfl ?_
  intro g3
  refine WP.sto' tysOk [.slice A3 n1 c3, .slice none 0 0] rfl rfl rfl rfl rfl rfl rfl rfl rfl .head rfl rfl ?_
  refine WP.st tysOk true rfl True.intro rfl rfl rfl rfl True.intro ?_
  refine WP.ld1 tysOk rfl True.intro rfl rfl rfl rfl rfl rfl rfl (CellAt.blk .head rfl) ?_
  refine WP.st tysOk true rfl True.intro rfl rfl rfl rfl True.intro ?_
  refine WP.ld1 tysOk rfl True.intro rfl rfl rfl rfl rfl rfl rfl (CellAt.blk (.tail (.tail .head)) rfl) ?_
  refine WP.own_nil 31 fA.z ?_
  obtain ⟨hl1, h⟩ := ck_some h
  obtain ⟨xs1, hz3, h⟩ := lt_some h
  refine WP.appO (f := fA) (xs := ([] : List Arc)) (ys := r1.arcs) tysOk rfl rfl rfl rfl rfl rfl rfl rfl rfl rfl rfl rfl .head OwF.nil_ hf2.len (OwS.app (.tail (.tail (.tail (.tail (.tail .head))))) hf2) hl1 hz3 ?_
  intro A5 c5 hf3
  refine WP.st tysOk true rfl True.intro rfl rfl rfl rfl True.intro ?_
  refine WP.sto' tysOk [.slice A3 n1 c3, .slice A5 xs1.length c5] rfl rfl rfl rfl rfl rfl rfl rfl rfl (.tail .head) rfl rfl ?_
  refine WP.st tysOk true rfl True.intro rfl rfl rfl rfl True.intro ?_
  refine WP.ld1 tysOk rfl True.intro rfl rfl rfl rfl rfl rfl rfl (CellAt.blk .head rfl) ?_
  refine WP.ldm tysOk rfl True.intro rfl rfl rfl rfl rfl rfl rfl (SegAt.blk' (.tail (.tail .head)) rfl) ?_
  refine WP.bsO (f := fA) [(Arc.mk ((w64 (x1)).tmod (r1.supply.length : Int)) ((w64 (x2)).tmod (r1.supply.length : Int)) 0 1 0)] tysOk rfl rfl rfl rfl rfl rfl rfl rfl rfl rfl rfl rfl rfl rfl ?_
  intro g4 hf4
  obtain ⟨hl2, h⟩ := ck_some h
  obtain ⟨xs2, hz4, h⟩ := lt_some h
  refine WP.appO (f := fA) (xs := xs1) (ys := [(Arc.mk ((w64 (x1)).tmod (r1.supply.length : Int)) ((w64 (x2)).tmod (r1.supply.length : Int)) 0 1 0)]) tysOk rfl rfl rfl rfl rfl rfl rfl rfl rfl rfl rfl rfl (.tail (.tail .head)) hf3 hf4.len (OwS.app .head hf4) hl2 hz4 ?_
  intro A6 c6 hf5
  refine WP.st tysOk true rfl True.intro rfl rfl rfl rfl True.intro ?_
  refine WP.sto' tysOk [.slice A3 n1 c3, .slice A6 xs2.length c6] rfl rfl rfl rfl rfl rfl rfl rfl rfl (.tail (.tail .head)) rfl rfl ?_
  refine WP.ldm tysOk rfl True.intro rfl rfl rfl rfl rfl rfl rfl (SegAt.blk' (.tail (.tail (.tail (.tail .head)))) rfl) ?_
  obtain ⟨r2, hg2, h⟩ := bind_some h
  refine WP.callS (adj_New_S r2) rfl rfl rfl rfl rfl rfl rfl (by kernel_rfl) (fun w1 hw1 => adj_New_w hg2 (InsZ.mk_ (hw1.ow (.tail (.tail (.tail (.tail (.tail .head))))) hf1) (hw1.ow (.tail (.tail (.tail (.tail (.tail (.tail .head)))))) hf2))) ?_
  rintro vg1 _ ⟨Zn1, hgr1, rfl⟩
  obtain ⟨gg1, rfl⟩ := hgr1.ptr'
  refine WP.st tysOk true rfl True.intro rfl rfl rfl rfl True.intro ?_
  refine WP.ldm tysOk rfl True.intro rfl rfl rfl rfl rfl rfl rfl (SegAt.blk' (.tail .head) rfl) ?_
  obtain ⟨r3, hg3, h⟩ := bind_some h
  refine WP.callS (adj_New_S r3) rfl rfl rfl rfl rfl rfl rfl (by kernel_rfl) (fun w1 hw1 => adj_New_w hg3 (InsZ.mk_ (hw1.ow (.tail (.tail (.tail (.tail (.tail (.tail .head)))))) hf1) (hw1.ow (.tail (.tail .head)) hf5))) ?_
  rintro vg2 _ ⟨Zn2, hgr2, rfl⟩
  obtain ⟨gg2, rfl⟩ := hgr2.ptr'
  iterate 4 (refine WP.st tysOk true rfl True.intro rfl rfl rfl rfl True.intro ?_)
  refine WP.yes rfl rfl rfl ?_
  refine WP.st tysOk true rfl True.intro rfl rfl rfl rfl True.intro ?_
  refine WP.yes rfl rfl rfl ?_
  iterate 2 (refine WP.st tysOk true rfl True.intro rfl rfl rfl rfl True.intro ?_)
  refine WP.condF rfl rfl ?_
  refine WP.st tysOk true rfl True.intro rfl rfl rfl rfl True.intro ?_
  refine WP.loop (α := Nat × Int) (fun x => lp (law04_AdjMore_b1 x1 x2 r1 r2 r3) x.1 x.2 = some r) (fun x => [(9, .pointer (some ⟨g1, 0, none⟩)), (10, .int .i64 ((r1.supply.length : Int))), (11, .pointer (some ⟨g2, 0, none⟩)), (13, .pointer (some ⟨gg1, 0, none⟩)), (14, .pointer (some ⟨gg2, 0, none⟩)), (15, .int .i64 (x.2))]) (fun x => [.fz Zn2, .fz Zn1, .blk g2 31 [.int .i64 ((w64 (x1)).tmod (r1.supply.length : Int)), .int .i64 ((w64 (x2)).tmod (r1.supply.length : Int)), .int .i64 (0), .int .i64 (1), .int .i64 (0)], .blk g1 26 [.slice A3 n1 c3, .slice A4 n2 c4], Ow (fI .i64) 2 A3 n1 c3 r1.supply, Ow fA 31 A4 n2 c4 r1.arcs, .fz (PH.of w)]) (fun x => x.1) rfl (big, 0) h ?_ ?_ ?_
  · repeat (first | exact True.intro | refine And.intro rfl ?_)
  · exact (.cons .head (.cons .head (.cons (.tail (.tail (.tail .head))) (.cons (.tail (.tail (.tail .head))) (.cons (.tail (.tail (.tail .head))) (.cons (.tail (.tail (.tail .head))) (.cons (.tail (.tail (.tail .head))) .nil)))))))
  · rintro ⟨n33, s2⟩ h
    dsimp only at h ⊢
    rcases n33 with _ | n33
    · exact (lp_no h).elim
    replace h := lp_succ h
    unfold law04_AdjMore_b1 at h
    try dsimp only at h
    iterate 3 (refine WP.st tysOk true rfl True.intro rfl rfl rfl rfl True.intro ?_)
    refine WP.cond_d rfl rfl (fun hh35 => ?_) (fun hh35 => ?_)
    · rw [if_pos hh35] at h
      iterate 2 (refine WP.st tysOk true rfl True.intro rfl rfl rfl rfl True.intro ?_)
      obtain ⟨r74, hg62, h⟩ := bind_some h
      refine WP.callS (adj_Graph_Out_S r74) rfl rfl rfl rfl rfl rfl rfl (by kernel_rfl) (fun w1 hw1 => adj_Graph_Out_w hg62 (hgr1.le ((Held.mem (List.Mem.tail _ (List.Mem.head _))) _ _ hw1))) ?_
      rintro _ _ ⟨A49, n34, c49, rfl, hf60, rfl⟩
      iterate 3 (refine WP.st tysOk true rfl True.intro rfl rfl rfl rfl True.intro ?_)
      obtain ⟨r75, hg63, h⟩ := bind_some h
      refine WP.callS (adj_Graph_In_S r75) rfl rfl rfl rfl rfl rfl rfl (by kernel_rfl) (fun w1 hw1 => adj_Graph_In_w hg63 (hgr1.le ((Held.mem (List.Mem.tail _ (List.Mem.tail _ (List.Mem.head _)))) _ _ hw1))) ?_
      rintro _ _ ⟨A50, n35, c50, rfl, hf61, rfl⟩
      iterate 3 (refine WP.st tysOk true rfl True.intro rfl rfl rfl rfl True.intro ?_)
      obtain ⟨r76, hg64, h⟩ := bind_some h
      refine WP.callS (adj_Graph_At_S r76) rfl rfl rfl rfl rfl rfl rfl (by kernel_rfl) (fun w1 hw1 => adj_Graph_At_w hg64 (hgr1.le ((Held.mem (List.Mem.tail _ (List.Mem.tail _ (List.Mem.tail _ (List.Mem.head _))))) _ _ hw1))) ?_
      rintro _ _ ⟨A51, n36, c51, rfl, hf62, rfl⟩
      iterate 3 (refine WP.st tysOk true rfl True.intro rfl rfl rfl rfl True.intro ?_)
      refine WP.ld1 tysOk rfl True.intro rfl rfl rfl rfl rfl rfl rfl (CellAt.blk (.tail (.tail (.tail (.tail (.tail .head))))) rfl) ?_
      refine WP.st tysOk true rfl True.intro rfl rfl rfl rfl True.intro ?_
      refine WP.cond_d rfl rfl (fun hh36 => ?_) (fun hh36 => ?_)
      · rw [if_pos hh36] at h
        iterate 2 (refine WP.st tysOk true rfl True.intro rfl rfl rfl rfl True.intro ?_)
        refine WP.ld1 tysOk rfl True.intro rfl rfl rfl rfl rfl rfl rfl (CellAt.blk (.tail (.tail (.tail (.tail (.tail (.tail .head)))))) rfl) ?_
        refine WP.lenO (xs := r1.arcs) tysOk rfl True.intro rfl rfl rfl rfl rfl rfl hf2 ?_
        refine WP.bsO (f := (fI .i64)) [(r1.arcs.length : Int)] tysOk rfl rfl rfl rfl rfl rfl rfl rfl rfl rfl rfl rfl rfl rfl ?_
        intro g17 hf63
        obtain ⟨hl15, h⟩ := ck_some h
        obtain ⟨r77, hz17, h⟩ := lt_some h
        refine WP.appO (f := (fI .i64)) (xs := r74) (ys := [(r1.arcs.length : Int)]) tysOk rfl rfl rfl rfl rfl rfl rfl rfl rfl rfl rfl rfl (.tail (.tail (.tail .head))) hf60 hf63.len (OwS.app .head hf63) hl15 hz17 ?_
        intro A52 c52 hf64
        iterate 3 (refine WP.st tysOk true rfl True.intro rfl rfl rfl rfl True.intro ?_)
        refine WP.ld1 tysOk rfl True.intro rfl rfl rfl rfl rfl rfl rfl (CellAt.blk (.tail (.tail (.tail (.tail (.tail (.tail .head)))))) rfl) ?_
        refine WP.st tysOk true rfl True.intro rfl rfl rfl rfl True.intro ?_
        refine WP.cond_d rfl rfl (fun hh37 => ?_) (fun hh37 => ?_)
        · rw [if_pos hh37] at h
          iterate 2 (refine WP.st tysOk true rfl True.intro rfl rfl rfl rfl True.intro ?_)
          refine WP.ld1 tysOk rfl True.intro rfl rfl rfl rfl rfl rfl rfl (CellAt.blk (.tail (.tail (.tail (.tail (.tail (.tail (.tail .head))))))) rfl) ?_
          refine WP.lenO (xs := r1.arcs) tysOk rfl True.intro rfl rfl rfl rfl rfl rfl hf2 ?_
          refine WP.bsO (f := (fI .i64)) [(r1.arcs.length : Int)] tysOk rfl rfl rfl rfl rfl rfl rfl rfl rfl rfl rfl rfl rfl rfl ?_
          intro g18 hf65
          obtain ⟨hl16, h⟩ := ck_some h
          obtain ⟨r78, hz18, h⟩ := lt_some h
          refine WP.appO (f := (fI .i64)) (xs := r75) (ys := [(r1.arcs.length : Int)]) tysOk rfl rfl rfl rfl rfl rfl rfl rfl rfl rfl rfl rfl (.tail (.tail (.tail (.tail .head)))) hf61 hf65.len (OwS.app .head hf65) hl16 hz18 ?_
          intro A53 c53 hf66
          iterate 3 (refine WP.st tysOk true rfl True.intro rfl rfl rfl rfl True.intro ?_)
          refine WP.ld1 tysOk rfl True.intro rfl rfl rfl rfl rfl rfl rfl (CellAt.blk (.tail (.tail (.tail (.tail (.tail (.tail (.tail .head))))))) rfl) ?_
          iterate 2 (refine WP.st tysOk true rfl True.intro rfl rfl rfl rfl True.intro ?_)
          refine WP.no rfl rfl (decide_eq_true hh36) rfl rfl ?_
          iterate 3 (refine WP.no rfl rfl rfl rfl rfl ?_)
          refine WP.st tysOk true rfl True.intro rfl rfl rfl rfl True.intro ?_
          refine WP.condT rfl rfl ?_
          iterate 2 (refine WP.st tysOk true rfl True.intro rfl rfl rfl rfl True.intro ?_)
          refine WP.ld1 tysOk rfl True.intro rfl rfl rfl rfl rfl rfl rfl (CellAt.blk (.tail (.tail (.tail (.tail (.tail (.tail (.tail (.tail .head)))))))) rfl) ?_
          refine WP.lenO (xs := r1.arcs) tysOk rfl True.intro rfl rfl rfl rfl rfl rfl hf2 ?_
          refine WP.bsO (f := (fI .i64)) [(r1.arcs.length : Int)] tysOk rfl rfl rfl rfl rfl rfl rfl rfl rfl rfl rfl rfl rfl rfl ?_
          intro g19 hf67
          obtain ⟨hl17, h⟩ := ck_some h
          obtain ⟨r79, hz19, h⟩ := lt_some h
          refine WP.appO (f := (fI .i64)) (xs := r76) (ys := [(r1.arcs.length : Int)]) tysOk rfl rfl rfl rfl rfl rfl rfl rfl rfl rfl rfl rfl (.tail (.tail (.tail (.tail (.tail .head))))) hf62 hf67.len (OwS.app .head hf67) hl17 hz19 ?_
          intro A54 c54 hf68
          iterate 4 (refine WP.st tysOk true rfl True.intro rfl rfl rfl rfl True.intro ?_)
          obtain ⟨r80, hg65, h⟩ := bind_some h
          refine WP.callS (adj_Graph_Out_S r80) rfl rfl rfl rfl rfl rfl rfl (by kernel_rfl) (fun w1 hw1 => adj_Graph_Out_w hg65 (hgr2.le ((Held.mem (List.Mem.tail _ (List.Mem.tail _ (List.Mem.tail _ (List.Mem.tail _ (List.Mem.tail _ (List.Mem.tail _ (List.Mem.head _)))))))) _ _ hw1))) ?_
          rintro _ _ ⟨A55, n37, c55, rfl, hf69, rfl⟩
          obtain ⟨r81, hg66, h⟩ := bind_some h
          refine WP.callV rfl rfl rfl rfl rfl rfl rfl (by kernel_rfl) (fun w1 hw1 => ref03_Ints_w hg66 (hw1.ow (.tail (.tail (.tail (.tail (.tail .head))))) hf64) (hw1.ow .head hf69)) True.intro ?_
          iterate 2 (refine WP.st tysOk true rfl True.intro rfl rfl rfl rfl True.intro ?_)
          by_cases hh38 : r81 = true
          · rw [if_pos hh38] at h
            refine WP.yes rfl rfl (by simp [hh38]) ?_
            iterate 3 (refine WP.st tysOk true rfl True.intro rfl rfl rfl rfl True.intro ?_; refine WP.yes rfl rfl rfl ?_)
            obtain ⟨r82, hg67, h⟩ := bind_some h
            refine WP.callS (adj_Graph_In_S r82) rfl rfl rfl rfl rfl rfl rfl (by kernel_rfl) (fun w1 hw1 => adj_Graph_In_w hg67 (hgr2.le ((Held.mem (List.Mem.tail _ (List.Mem.tail _ (List.Mem.tail _ (List.Mem.tail _ (List.Mem.tail _ (List.Mem.tail _ (List.Mem.tail _ (List.Mem.head _))))))))) _ _ hw1))) ?_
            rintro _ _ ⟨A56, n38, c56, rfl, hf70, rfl⟩
            refine WP.yes rfl rfl rfl ?_
            obtain ⟨r83, hg68, h⟩ := bind_some h
            refine WP.callV rfl rfl rfl rfl rfl rfl rfl (by kernel_rfl) (fun w1 hw1 => ref03_Ints_w hg68 (hw1.ow (.tail (.tail (.tail (.tail .head)))) hf66) (hw1.ow .head hf70)) True.intro ?_
            refine WP.yes rfl rfl rfl ?_
            iterate 3 (refine WP.st tysOk true rfl True.intro rfl rfl rfl rfl True.intro ?_)
            by_cases hh39 : r83 = true
            · rw [if_pos hh39] at h
              refine WP.yes rfl rfl (by simp [hh39]) ?_
              iterate 3 (refine WP.st tysOk true rfl True.intro rfl rfl rfl rfl True.intro ?_; refine WP.yes rfl rfl rfl ?_)
              obtain ⟨r84, hg69, h⟩ := bind_some h
              refine WP.callS (adj_Graph_At_S r84) rfl rfl rfl rfl rfl rfl rfl (by kernel_rfl) (fun w1 hw1 => adj_Graph_At_w hg69 (hgr2.le ((Held.mem (List.Mem.tail _ (List.Mem.tail _ (List.Mem.tail _ (List.Mem.tail _ (List.Mem.tail _ (List.Mem.tail _ (List.Mem.tail _ (List.Mem.tail _ (List.Mem.head _)))))))))) _ _ hw1))) ?_
              rintro _ _ ⟨A57, n39, c57, rfl, hf71, rfl⟩
              refine WP.yes rfl rfl rfl ?_
              obtain ⟨r85, hg70, h⟩ := bind_some h
              refine WP.callV rfl rfl rfl rfl rfl rfl rfl (by kernel_rfl) (fun w1 hw1 => ref03_Ints_w hg70 (hw1.ow (.tail (.tail (.tail .head))) hf68) (hw1.ow .head hf71)) True.intro ?_
              refine WP.yes rfl rfl rfl ?_
              iterate 2 (refine WP.st tysOk true rfl True.intro rfl rfl rfl rfl True.intro ?_)
              refine WP.cond_n rfl rfl (fun hh40 => ?_) (fun hh40 => ?_)
              · rw [if_neg (by simp [hh40])] at h
                refine WP.st tysOk true rfl True.intro rfl rfl rfl rfl True.intro ?_
                cases h
                refine WP.retR tysOk rfl rfl ⟨_, _, rfl, rfl, rfl⟩ (fun w1 hw1 => ⟨rfl, Ret.below_ hw1 (.cons (.tail (.tail (.tail (.tail (.tail (.tail (.tail (.tail (.tail (.tail (.tail (.tail (.tail (.tail (.tail .head))))))))))))))) .nil)⟩)
              · rw [if_pos hh40] at h
                iterate 3 (refine WP.st tysOk true rfl True.intro rfl rfl rfl rfl True.intro ?_)
                refine WP.stop rfl (n33, w64 (s2 + 1)) ⟨h, Nat.lt_succ_self _⟩ ?_ ?_
                · repeat (first | exact True.intro | refine And.intro rfl ?_)
                · exact (.cons (.tail (.tail (.tail (.tail (.tail (.tail (.tail (.tail (.tail .head))))))))) (.cons (.tail (.tail (.tail (.tail (.tail (.tail (.tail (.tail (.tail .head))))))))) (.cons (.tail (.tail (.tail (.tail (.tail (.tail (.tail (.tail (.tail .head))))))))) (.cons (.tail (.tail (.tail (.tail (.tail (.tail (.tail (.tail (.tail .head))))))))) (.cons (.tail (.tail (.tail (.tail (.tail (.tail (.tail (.tail (.tail .head))))))))) (.cons (.tail (.tail (.tail (.tail (.tail (.tail (.tail (.tail (.tail .head))))))))) (.cons (.tail (.tail (.tail (.tail (.tail (.tail (.tail (.tail (.tail .head))))))))) .nil)))))))
            · rw [if_neg hh39] at h
              refine WP.no rfl rfl (by simp [hh39]) rfl rfl ?_
              iterate 5 (refine WP.no rfl rfl rfl rfl rfl ?_)
              refine WP.st tysOk true rfl True.intro rfl rfl rfl rfl True.intro ?_
              refine WP.condT rfl rfl ?_
              refine WP.st tysOk true rfl True.intro rfl rfl rfl rfl True.intro ?_
              cases h
              refine WP.retR tysOk rfl rfl ⟨_, _, rfl, rfl, rfl⟩ (fun w1 hw1 => ⟨rfl, Ret.below_ hw1 (.cons (.tail (.tail (.tail (.tail (.tail (.tail (.tail (.tail (.tail (.tail (.tail (.tail (.tail (.tail .head)))))))))))))) .nil)⟩)
          · rw [if_neg hh38] at h
            refine WP.no rfl rfl (by simp [hh38]) rfl rfl ?_
            iterate 5 (refine WP.no rfl rfl rfl rfl rfl ?_)
            iterate 2 (refine WP.st tysOk true rfl True.intro rfl rfl rfl rfl True.intro ?_)
            iterate 6 (refine WP.no rfl rfl rfl rfl rfl ?_)
            refine WP.st tysOk true rfl True.intro rfl rfl rfl rfl True.intro ?_
            refine WP.condT rfl rfl ?_
            refine WP.st tysOk true rfl True.intro rfl rfl rfl rfl True.intro ?_
            cases h
            refine WP.retR tysOk rfl rfl ⟨_, _, rfl, rfl, rfl⟩ (fun w1 hw1 => ⟨rfl, Ret.below_ hw1 (.cons (.tail (.tail (.tail (.tail (.tail (.tail (.tail (.tail (.tail (.tail (.tail (.tail (.tail .head))))))))))))) .nil)⟩)
        · rw [if_neg hh37] at h
          iterate 2 (refine WP.st tysOk true rfl True.intro rfl rfl rfl rfl True.intro ?_)
          refine WP.ld1 tysOk rfl True.intro rfl rfl rfl rfl rfl rfl rfl (CellAt.blk (.tail (.tail (.tail (.tail (.tail (.tail .head)))))) rfl) ?_
          iterate 2 (refine WP.st tysOk true rfl True.intro rfl rfl rfl rfl True.intro ?_)
          refine WP.no rfl rfl (decide_eq_true hh36) rfl rfl ?_
          iterate 3 (refine WP.no rfl rfl rfl rfl rfl ?_)
          refine WP.st tysOk true rfl True.intro rfl rfl rfl rfl True.intro ?_
          refine WP.condT rfl rfl ?_
          iterate 2 (refine WP.st tysOk true rfl True.intro rfl rfl rfl rfl True.intro ?_)
          refine WP.ld1 tysOk rfl True.intro rfl rfl rfl rfl rfl rfl rfl (CellAt.blk (.tail (.tail (.tail (.tail (.tail (.tail (.tail .head))))))) rfl) ?_
          refine WP.lenO (xs := r1.arcs) tysOk rfl True.intro rfl rfl rfl rfl rfl rfl hf2 ?_
          refine WP.bsO (f := (fI .i64)) [(r1.arcs.length : Int)] tysOk rfl rfl rfl rfl rfl rfl rfl rfl rfl rfl rfl rfl rfl rfl ?_
          intro g20 hf72
          obtain ⟨hl18, h⟩ := ck_some h
          obtain ⟨r86, hz20, h⟩ := lt_some h
          refine WP.appO (f := (fI .i64)) (xs := r76) (ys := [(r1.arcs.length : Int)]) tysOk rfl rfl rfl rfl rfl rfl rfl rfl rfl rfl rfl rfl (.tail (.tail (.tail .head))) hf62 hf72.len (OwS.app .head hf72) hl18 hz20 ?_
          intro A58 c58 hf73
          iterate 4 (refine WP.st tysOk true rfl True.intro rfl rfl rfl rfl True.intro ?_)
          obtain ⟨r87, hg71, h⟩ := bind_some h
          refine WP.callS (adj_Graph_Out_S r87) rfl rfl rfl rfl rfl rfl rfl (by kernel_rfl) (fun w1 hw1 => adj_Graph_Out_w hg71 (hgr2.le ((Held.mem (List.Mem.tail _ (List.Mem.tail _ (List.Mem.tail _ (List.Mem.tail _ (List.Mem.tail _ (List.Mem.head _))))))) _ _ hw1))) ?_
          rintro _ _ ⟨A59, n40, c59, rfl, hf74, rfl⟩
          obtain ⟨r88, hg72, h⟩ := bind_some h
          refine WP.callV rfl rfl rfl rfl rfl rfl rfl (by kernel_rfl) (fun w1 hw1 => ref03_Ints_w hg72 (hw1.ow (.tail (.tail (.tail .head))) hf64) (hw1.ow .head hf74)) True.intro ?_
          iterate 2 (refine WP.st tysOk true rfl True.intro rfl rfl rfl rfl True.intro ?_)
          by_cases hh41 : r88 = true
          · rw [if_pos hh41] at h
            refine WP.yes rfl rfl (by simp [hh41]) ?_
            iterate 3 (refine WP.st tysOk true rfl True.intro rfl rfl rfl rfl True.intro ?_; refine WP.yes rfl rfl rfl ?_)
            obtain ⟨r89, hg73, h⟩ := bind_some h
            refine WP.callS (adj_Graph_In_S r89) rfl rfl rfl rfl rfl rfl rfl (by kernel_rfl) (fun w1 hw1 => adj_Graph_In_w hg73 (hgr2.le ((Held.mem (List.Mem.tail _ (List.Mem.tail _ (List.Mem.tail _ (List.Mem.tail _ (List.Mem.tail _ (List.Mem.tail _ (List.Mem.head _)))))))) _ _ hw1))) ?_
            rintro _ _ ⟨A60, n41, c60, rfl, hf75, rfl⟩
            refine WP.yes rfl rfl rfl ?_
            obtain ⟨r90, hg74, h⟩ := bind_some h
            refine WP.callV rfl rfl rfl rfl rfl rfl rfl (by kernel_rfl) (fun w1 hw1 => ref03_Ints_w hg74 (hw1.ow (.tail (.tail (.tail (.tail (.tail (.tail .head)))))) hf61) (hw1.ow .head hf75)) True.intro ?_
            refine WP.yes rfl rfl rfl ?_
            iterate 3 (refine WP.st tysOk true rfl True.intro rfl rfl rfl rfl True.intro ?_)
            by_cases hh42 : r90 = true
            · rw [if_pos hh42] at h
              refine WP.yes rfl rfl (by simp [hh42]) ?_
              iterate 3 (refine WP.st tysOk true rfl True.intro rfl rfl rfl rfl True.intro ?_; refine WP.yes rfl rfl rfl ?_)
              obtain ⟨r91, hg75, h⟩ := bind_some h
              refine WP.callS (adj_Graph_At_S r91) rfl rfl rfl rfl rfl rfl rfl (by kernel_rfl) (fun w1 hw1 => adj_Graph_At_w hg75 (hgr2.le ((Held.mem (List.Mem.tail _ (List.Mem.tail _ (List.Mem.tail _ (List.Mem.tail _ (List.Mem.tail _ (List.Mem.tail _ (List.Mem.tail _ (List.Mem.head _))))))))) _ _ hw1))) ?_
              rintro _ _ ⟨A61, n42, c61, rfl, hf76, rfl⟩
              refine WP.yes rfl rfl rfl ?_
              obtain ⟨r92, hg76, h⟩ := bind_some h
              refine WP.callV rfl rfl rfl rfl rfl rfl rfl (by kernel_rfl) (fun w1 hw1 => ref03_Ints_w hg76 (hw1.ow (.tail (.tail (.tail .head))) hf73) (hw1.ow .head hf76)) True.intro ?_
              refine WP.yes rfl rfl rfl ?_
              iterate 2 (refine WP.st tysOk true rfl True.intro rfl rfl rfl rfl True.intro ?_)
              refine WP.cond_n rfl rfl (fun hh43 => ?_) (fun hh43 => ?_)
              · rw [if_neg (by simp [hh43])] at h
                refine WP.st tysOk true rfl True.intro rfl rfl rfl rfl True.intro ?_
                cases h
                refine WP.retR tysOk rfl rfl ⟨_, _, rfl, rfl, rfl⟩ (fun w1 hw1 => ⟨rfl, Ret.below_ hw1 (.cons (.tail (.tail (.tail (.tail (.tail (.tail (.tail (.tail (.tail (.tail (.tail (.tail (.tail (.tail .head)))))))))))))) .nil)⟩)
              · rw [if_pos hh43] at h
                iterate 3 (refine WP.st tysOk true rfl True.intro rfl rfl rfl rfl True.intro ?_)
                refine WP.stop rfl (n33, w64 (s2 + 1)) ⟨h, Nat.lt_succ_self _⟩ ?_ ?_
                · repeat (first | exact True.intro | refine And.intro rfl ?_)
                · exact (.cons (.tail (.tail (.tail (.tail (.tail (.tail (.tail (.tail .head)))))))) (.cons (.tail (.tail (.tail (.tail (.tail (.tail (.tail (.tail .head)))))))) (.cons (.tail (.tail (.tail (.tail (.tail (.tail (.tail (.tail .head)))))))) (.cons (.tail (.tail (.tail (.tail (.tail (.tail (.tail (.tail .head)))))))) (.cons (.tail (.tail (.tail (.tail (.tail (.tail (.tail (.tail .head)))))))) (.cons (.tail (.tail (.tail (.tail (.tail (.tail (.tail (.tail .head)))))))) (.cons (.tail (.tail (.tail (.tail (.tail (.tail (.tail (.tail .head)))))))) .nil)))))))
            · rw [if_neg hh42] at h
              refine WP.no rfl rfl (by simp [hh42]) rfl rfl ?_
              iterate 5 (refine WP.no rfl rfl rfl rfl rfl ?_)
              refine WP.st tysOk true rfl True.intro rfl rfl rfl rfl True.intro ?_
              refine WP.condT rfl rfl ?_
              refine WP.st tysOk true rfl True.intro rfl rfl rfl rfl True.intro ?_
              cases h
              refine WP.retR tysOk rfl rfl ⟨_, _, rfl, rfl, rfl⟩ (fun w1 hw1 => ⟨rfl, Ret.below_ hw1 (.cons (.tail (.tail (.tail (.tail (.tail (.tail (.tail (.tail (.tail (.tail (.tail (.tail (.tail .head))))))))))))) .nil)⟩)
          · rw [if_neg hh41] at h
            refine WP.no rfl rfl (by simp [hh41]) rfl rfl ?_
            iterate 5 (refine WP.no rfl rfl rfl rfl rfl ?_)
            iterate 2 (refine WP.st tysOk true rfl True.intro rfl rfl rfl rfl True.intro ?_)
            iterate 6 (refine WP.no rfl rfl rfl rfl rfl ?_)
            refine WP.st tysOk true rfl True.intro rfl rfl rfl rfl True.intro ?_
            refine WP.condT rfl rfl ?_
            refine WP.st tysOk true rfl True.intro rfl rfl rfl rfl True.intro ?_
            cases h
            refine WP.retR tysOk rfl rfl ⟨_, _, rfl, rfl, rfl⟩ (fun w1 hw1 => ⟨rfl, Ret.below_ hw1 (.cons (.tail (.tail (.tail (.tail (.tail (.tail (.tail (.tail (.tail (.tail (.tail (.tail .head)))))))))))) .nil)⟩)
      · rw [if_neg hh36] at h
        iterate 2 (refine WP.st tysOk true rfl True.intro rfl rfl rfl rfl True.intro ?_)
        refine WP.ld1 tysOk rfl True.intro rfl rfl rfl rfl rfl rfl rfl (CellAt.blk (.tail (.tail (.tail (.tail (.tail .head))))) rfl) ?_
        refine WP.st tysOk true rfl True.intro rfl rfl rfl rfl True.intro ?_
        refine WP.cond_d rfl rfl (fun hh44 => ?_) (fun hh44 => ?_)
        · rw [if_pos hh44] at h
          iterate 2 (refine WP.st tysOk true rfl True.intro rfl rfl rfl rfl True.intro ?_)
          refine WP.ld1 tysOk rfl True.intro rfl rfl rfl rfl rfl rfl rfl (CellAt.blk (.tail (.tail (.tail (.tail (.tail (.tail .head)))))) rfl) ?_
          refine WP.lenO (xs := r1.arcs) tysOk rfl True.intro rfl rfl rfl rfl rfl rfl hf2 ?_
          refine WP.bsO (f := (fI .i64)) [(r1.arcs.length : Int)] tysOk rfl rfl rfl rfl rfl rfl rfl rfl rfl rfl rfl rfl rfl rfl ?_
          intro g21 hf77
          obtain ⟨hl19, h⟩ := ck_some h
          obtain ⟨r93, hz21, h⟩ := lt_some h
          refine WP.appO (f := (fI .i64)) (xs := r75) (ys := [(r1.arcs.length : Int)]) tysOk rfl rfl rfl rfl rfl rfl rfl rfl rfl rfl rfl rfl (.tail (.tail .head)) hf61 hf77.len (OwS.app .head hf77) hl19 hz21 ?_
          intro A62 c62 hf78
          iterate 3 (refine WP.st tysOk true rfl True.intro rfl rfl rfl rfl True.intro ?_)
          refine WP.ld1 tysOk rfl True.intro rfl rfl rfl rfl rfl rfl rfl (CellAt.blk (.tail (.tail (.tail (.tail (.tail (.tail .head)))))) rfl) ?_
          iterate 2 (refine WP.st tysOk true rfl True.intro rfl rfl rfl rfl True.intro ?_)
          refine WP.yes rfl rfl (decide_eq_false hh36) ?_
          iterate 2 (refine WP.st tysOk true rfl True.intro rfl rfl rfl rfl True.intro ?_; refine WP.yes rfl rfl rfl ?_)
          refine WP.ld1 tysOk rfl True.intro rfl rfl rfl rfl rfl rfl rfl (CellAt.blk (.tail (.tail (.tail (.tail (.tail (.tail .head)))))) rfl) ?_
          refine WP.yes rfl rfl rfl ?_
          iterate 2 (refine WP.st tysOk true rfl True.intro rfl rfl rfl rfl True.intro ?_)
          refine WP.cond_d rfl rfl (fun _ => ?_) (fun hh' => (absurd hh44 hh'))
          iterate 2 (refine WP.st tysOk true rfl True.intro rfl rfl rfl rfl True.intro ?_)
          refine WP.ld1 tysOk rfl True.intro rfl rfl rfl rfl rfl rfl rfl (CellAt.blk (.tail (.tail (.tail (.tail (.tail (.tail (.tail .head))))))) rfl) ?_
          refine WP.lenO (xs := r1.arcs) tysOk rfl True.intro rfl rfl rfl rfl rfl rfl hf2 ?_
          refine WP.bsO (f := (fI .i64)) [(r1.arcs.length : Int)] tysOk rfl rfl rfl rfl rfl rfl rfl rfl rfl rfl rfl rfl rfl rfl ?_
          intro g22 hf79
          obtain ⟨hl20, h⟩ := ck_some h
          obtain ⟨r94, hz22, h⟩ := lt_some h
          refine WP.appO (f := (fI .i64)) (xs := r76) (ys := [(r1.arcs.length : Int)]) tysOk rfl rfl rfl rfl rfl rfl rfl rfl rfl rfl rfl rfl (.tail (.tail (.tail .head))) hf62 hf79.len (OwS.app .head hf79) hl20 hz22 ?_
          intro A63 c63 hf80
          iterate 4 (refine WP.st tysOk true rfl True.intro rfl rfl rfl rfl True.intro ?_)
          obtain ⟨r95, hg77, h⟩ := bind_some h
          refine WP.callS (adj_Graph_Out_S r95) rfl rfl rfl rfl rfl rfl rfl (by kernel_rfl) (fun w1 hw1 => adj_Graph_Out_w hg77 (hgr2.le ((Held.mem (List.Mem.tail _ (List.Mem.tail _ (List.Mem.tail _ (List.Mem.tail _ (List.Mem.tail _ (List.Mem.head _))))))) _ _ hw1))) ?_
          rintro _ _ ⟨A64, n43, c64, rfl, hf81, rfl⟩
          obtain ⟨r96, hg78, h⟩ := bind_some h
          refine WP.callV rfl rfl rfl rfl rfl rfl rfl (by kernel_rfl) (fun w1 hw1 => ref03_Ints_w hg78 (hw1.ow (.tail (.tail (.tail (.tail (.tail .head))))) hf60) (hw1.ow .head hf81)) True.intro ?_
          iterate 2 (refine WP.st tysOk true rfl True.intro rfl rfl rfl rfl True.intro ?_)
          by_cases hh45 : r96 = true
          · rw [if_pos hh45] at h
            refine WP.yes rfl rfl (by simp [hh45]) ?_
            iterate 3 (refine WP.st tysOk true rfl True.intro rfl rfl rfl rfl True.intro ?_; refine WP.yes rfl rfl rfl ?_)
            obtain ⟨r97, hg79, h⟩ := bind_some h
            refine WP.callS (adj_Graph_In_S r97) rfl rfl rfl rfl rfl rfl rfl (by kernel_rfl) (fun w1 hw1 => adj_Graph_In_w hg79 (hgr2.le ((Held.mem (List.Mem.tail _ (List.Mem.tail _ (List.Mem.tail _ (List.Mem.tail _ (List.Mem.tail _ (List.Mem.tail _ (List.Mem.head _)))))))) _ _ hw1))) ?_
            rintro _ _ ⟨A65, n44, c65, rfl, hf82, rfl⟩
            refine WP.yes rfl rfl rfl ?_
            obtain ⟨r98, hg80, h⟩ := bind_some h
            refine WP.callV rfl rfl rfl rfl rfl rfl rfl (by kernel_rfl) (fun w1 hw1 => ref03_Ints_w hg80 (hw1.ow (.tail (.tail (.tail (.tail .head)))) hf78) (hw1.ow .head hf82)) True.intro ?_
            refine WP.yes rfl rfl rfl ?_
            iterate 3 (refine WP.st tysOk true rfl True.intro rfl rfl rfl rfl True.intro ?_)
            by_cases hh46 : r98 = true
            · rw [if_pos hh46] at h
              refine WP.yes rfl rfl (by simp [hh46]) ?_
              iterate 3 (refine WP.st tysOk true rfl True.intro rfl rfl rfl rfl True.intro ?_; refine WP.yes rfl rfl rfl ?_)
              obtain ⟨r99, hg81, h⟩ := bind_some h
              refine WP.callS (adj_Graph_At_S r99) rfl rfl rfl rfl rfl rfl rfl (by kernel_rfl) (fun w1 hw1 => adj_Graph_At_w hg81 (hgr2.le ((Held.mem (List.Mem.tail _ (List.Mem.tail _ (List.Mem.tail _ (List.Mem.tail _ (List.Mem.tail _ (List.Mem.tail _ (List.Mem.tail _ (List.Mem.head _))))))))) _ _ hw1))) ?_
              rintro _ _ ⟨A66, n45, c66, rfl, hf83, rfl⟩
              refine WP.yes rfl rfl rfl ?_
              obtain ⟨r100, hg82, h⟩ := bind_some h
              refine WP.callV rfl rfl rfl rfl rfl rfl rfl (by kernel_rfl) (fun w1 hw1 => ref03_Ints_w hg82 (hw1.ow (.tail (.tail (.tail .head))) hf80) (hw1.ow .head hf83)) True.intro ?_
              refine WP.yes rfl rfl rfl ?_
              iterate 2 (refine WP.st tysOk true rfl True.intro rfl rfl rfl rfl True.intro ?_)
              refine WP.cond_n rfl rfl (fun hh47 => ?_) (fun hh47 => ?_)
              · rw [if_neg (by simp [hh47])] at h
                refine WP.st tysOk true rfl True.intro rfl rfl rfl rfl True.intro ?_
                cases h
                refine WP.retR tysOk rfl rfl ⟨_, _, rfl, rfl, rfl⟩ (fun w1 hw1 => ⟨rfl, Ret.below_ hw1 (.cons (.tail (.tail (.tail (.tail (.tail (.tail (.tail (.tail (.tail (.tail (.tail (.tail (.tail (.tail .head)))))))))))))) .nil)⟩)
              · rw [if_pos hh47] at h
                iterate 3 (refine WP.st tysOk true rfl True.intro rfl rfl rfl rfl True.intro ?_)
                refine WP.stop rfl (n33, w64 (s2 + 1)) ⟨h, Nat.lt_succ_self _⟩ ?_ ?_
                · repeat (first | exact True.intro | refine And.intro rfl ?_)
                · exact (.cons (.tail (.tail (.tail (.tail (.tail (.tail (.tail (.tail .head)))))))) (.cons (.tail (.tail (.tail (.tail (.tail (.tail (.tail (.tail .head)))))))) (.cons (.tail (.tail (.tail (.tail (.tail (.tail (.tail (.tail .head)))))))) (.cons (.tail (.tail (.tail (.tail (.tail (.tail (.tail (.tail .head)))))))) (.cons (.tail (.tail (.tail (.tail (.tail (.tail (.tail (.tail .head)))))))) (.cons (.tail (.tail (.tail (.tail (.tail (.tail (.tail (.tail .head)))))))) (.cons (.tail (.tail (.tail (.tail (.tail (.tail (.tail (.tail .head)))))))) .nil)))))))
            · rw [if_neg hh46] at h
              refine WP.no rfl rfl (by simp [hh46]) rfl rfl ?_
              iterate 5 (refine WP.no rfl rfl rfl rfl rfl ?_)
              refine WP.st tysOk true rfl True.intro rfl rfl rfl rfl True.intro ?_
              refine WP.condT rfl rfl ?_
              refine WP.st tysOk true rfl True.intro rfl rfl rfl rfl True.intro ?_
              cases h
              refine WP.retR tysOk rfl rfl ⟨_, _, rfl, rfl, rfl⟩ (fun w1 hw1 => ⟨rfl, Ret.below_ hw1 (.cons (.tail (.tail (.tail (.tail (.tail (.tail (.tail (.tail (.tail (.tail (.tail (.tail (.tail .head))))))))))))) .nil)⟩)
          · rw [if_neg hh45] at h
            refine WP.no rfl rfl (by simp [hh45]) rfl rfl ?_
            iterate 5 (refine WP.no rfl rfl rfl rfl rfl ?_)
            iterate 2 (refine WP.st tysOk true rfl True.intro rfl rfl rfl rfl True.intro ?_)
            iterate 6 (refine WP.no rfl rfl rfl rfl rfl ?_)
            refine WP.st tysOk true rfl True.intro rfl rfl rfl rfl True.intro ?_
            refine WP.condT rfl rfl ?_
            refine WP.st tysOk true rfl True.intro rfl rfl rfl rfl True.intro ?_
            cases h
            refine WP.retR tysOk rfl rfl ⟨_, _, rfl, rfl, rfl⟩ (fun w1 hw1 => ⟨rfl, Ret.below_ hw1 (.cons (.tail (.tail (.tail (.tail (.tail (.tail (.tail (.tail (.tail (.tail (.tail (.tail .head)))))))))))) .nil)⟩)
        · rw [if_neg hh44] at h
          iterate 2 (refine WP.st tysOk true rfl True.intro rfl rfl rfl rfl True.intro ?_)
          refine WP.ld1 tysOk rfl True.intro rfl rfl rfl rfl rfl rfl rfl (CellAt.blk (.tail (.tail (.tail (.tail (.tail .head))))) rfl) ?_
          iterate 2 (refine WP.st tysOk true rfl True.intro rfl rfl rfl rfl True.intro ?_)
          refine WP.yes rfl rfl (decide_eq_false hh36) ?_
          iterate 2 (refine WP.st tysOk true rfl True.intro rfl rfl rfl rfl True.intro ?_; refine WP.yes rfl rfl rfl ?_)
          refine WP.ld1 tysOk rfl True.intro rfl rfl rfl rfl rfl rfl rfl (CellAt.blk (.tail (.tail (.tail (.tail (.tail .head))))) rfl) ?_
          refine WP.yes rfl rfl rfl ?_
          iterate 2 (refine WP.st tysOk true rfl True.intro rfl rfl rfl rfl True.intro ?_)
          refine WP.cond_d rfl rfl (fun hh' => (absurd hh' hh44)) (fun _ => ?_)
          iterate 3 (refine WP.st tysOk true rfl True.intro rfl rfl rfl rfl True.intro ?_)
          obtain ⟨r101, hg83, h⟩ := bind_some h
          refine WP.callS (adj_Graph_Out_S r101) rfl rfl rfl rfl rfl rfl rfl (by kernel_rfl) (fun w1 hw1 => adj_Graph_Out_w hg83 (hgr2.le ((Held.mem (List.Mem.tail _ (List.Mem.tail _ (List.Mem.tail _ (List.Mem.head _))))) _ _ hw1))) ?_
          rintro _ _ ⟨A67, n46, c67, rfl, hf84, rfl⟩
          obtain ⟨r102, hg84, h⟩ := bind_some h
          refine WP.callV rfl rfl rfl rfl rfl rfl rfl (by kernel_rfl) (fun w1 hw1 => ref03_Ints_w hg84 (hw1.ow (.tail (.tail (.tail .head))) hf60) (hw1.ow .head hf84)) True.intro ?_
          iterate 2 (refine WP.st tysOk true rfl True.intro rfl rfl rfl rfl True.intro ?_)
          by_cases hh48 : r102 = true
          · rw [if_pos hh48] at h
            refine WP.yes rfl rfl (by simp [hh48]) ?_
            iterate 3 (refine WP.st tysOk true rfl True.intro rfl rfl rfl rfl True.intro ?_; refine WP.yes rfl rfl rfl ?_)
            obtain ⟨r103, hg85, h⟩ := bind_some h
            refine WP.callS (adj_Graph_In_S r103) rfl rfl rfl rfl rfl rfl rfl (by kernel_rfl) (fun w1 hw1 => adj_Graph_In_w hg85 (hgr2.le ((Held.mem (List.Mem.tail _ (List.Mem.tail _ (List.Mem.tail _ (List.Mem.tail _ (List.Mem.head _)))))) _ _ hw1))) ?_
            rintro _ _ ⟨A68, n47, c68, rfl, hf85, rfl⟩
            refine WP.yes rfl rfl rfl ?_
            obtain ⟨r104, hg86, h⟩ := bind_some h
            refine WP.callV rfl rfl rfl rfl rfl rfl rfl (by kernel_rfl) (fun w1 hw1 => ref03_Ints_w hg86 (hw1.ow (.tail (.tail (.tail .head))) hf61) (hw1.ow .head hf85)) True.intro ?_
            refine WP.yes rfl rfl rfl ?_
            iterate 3 (refine WP.st tysOk true rfl True.intro rfl rfl rfl rfl True.intro ?_)
            by_cases hh49 : r104 = true
            · rw [if_pos hh49] at h
              refine WP.yes rfl rfl (by simp [hh49]) ?_
              iterate 3 (refine WP.st tysOk true rfl True.intro rfl rfl rfl rfl True.intro ?_; refine WP.yes rfl rfl rfl ?_)
              obtain ⟨r105, hg87, h⟩ := bind_some h
              refine WP.callS (adj_Graph_At_S r105) rfl rfl rfl rfl rfl rfl rfl (by kernel_rfl) (fun w1 hw1 => adj_Graph_At_w hg87 (hgr2.le ((Held.mem (List.Mem.tail _ (List.Mem.tail _ (List.Mem.tail _ (List.Mem.tail _ (List.Mem.tail _ (List.Mem.head _))))))) _ _ hw1))) ?_
              rintro _ _ ⟨A69, n48, c69, rfl, hf86, rfl⟩
              refine WP.yes rfl rfl rfl ?_
              obtain ⟨r106, hg88, h⟩ := bind_some h
              refine WP.callV rfl rfl rfl rfl rfl rfl rfl (by kernel_rfl) (fun w1 hw1 => ref03_Ints_w hg88 (hw1.ow (.tail (.tail (.tail .head))) hf62) (hw1.ow .head hf86)) True.intro ?_
              refine WP.yes rfl rfl rfl ?_
              iterate 2 (refine WP.st tysOk true rfl True.intro rfl rfl rfl rfl True.intro ?_)
              refine WP.cond_n rfl rfl (fun hh50 => ?_) (fun hh50 => ?_)
              · rw [if_neg (by simp [hh50])] at h
                refine WP.st tysOk true rfl True.intro rfl rfl rfl rfl True.intro ?_
                cases h
                refine WP.retR tysOk rfl rfl ⟨_, _, rfl, rfl, rfl⟩ (fun w1 hw1 => ⟨rfl, Ret.below_ hw1 (.cons (.tail (.tail (.tail (.tail (.tail (.tail (.tail (.tail (.tail (.tail (.tail (.tail .head)))))))))))) .nil)⟩)
              · rw [if_pos hh50] at h
                iterate 3 (refine WP.st tysOk true rfl True.intro rfl rfl rfl rfl True.intro ?_)
                refine WP.stop rfl (n33, w64 (s2 + 1)) ⟨h, Nat.lt_succ_self _⟩ ?_ ?_
                · repeat (first | exact True.intro | refine And.intro rfl ?_)
                · exact (.cons (.tail (.tail (.tail (.tail (.tail (.tail .head)))))) (.cons (.tail (.tail (.tail (.tail (.tail (.tail .head)))))) (.cons (.tail (.tail (.tail (.tail (.tail (.tail .head)))))) (.cons (.tail (.tail (.tail (.tail (.tail (.tail .head)))))) (.cons (.tail (.tail (.tail (.tail (.tail (.tail .head)))))) (.cons (.tail (.tail (.tail (.tail (.tail (.tail .head)))))) (.cons (.tail (.tail (.tail (.tail (.tail (.tail .head)))))) .nil)))))))
            · rw [if_neg hh49] at h
              refine WP.no rfl rfl (by simp [hh49]) rfl rfl ?_
              iterate 5 (refine WP.no rfl rfl rfl rfl rfl ?_)
              refine WP.st tysOk true rfl True.intro rfl rfl rfl rfl True.intro ?_
              refine WP.condT rfl rfl ?_
              refine WP.st tysOk true rfl True.intro rfl rfl rfl rfl True.intro ?_
              cases h
              refine WP.retR tysOk rfl rfl ⟨_, _, rfl, rfl, rfl⟩ (fun w1 hw1 => ⟨rfl, Ret.below_ hw1 (.cons (.tail (.tail (.tail (.tail (.tail (.tail (.tail (.tail (.tail (.tail (.tail .head))))))))))) .nil)⟩)
          · rw [if_neg hh48] at h
            refine WP.no rfl rfl (by simp [hh48]) rfl rfl ?_
            iterate 5 (refine WP.no rfl rfl rfl rfl rfl ?_)
            iterate 2 (refine WP.st tysOk true rfl True.intro rfl rfl rfl rfl True.intro ?_)
            iterate 6 (refine WP.no rfl rfl rfl rfl rfl ?_)
            refine WP.st tysOk true rfl True.intro rfl rfl rfl rfl True.intro ?_
            refine WP.condT rfl rfl ?_
            refine WP.st tysOk true rfl True.intro rfl rfl rfl rfl True.intro ?_
            cases h
            refine WP.retR tysOk rfl rfl ⟨_, _, rfl, rfl, rfl⟩ (fun w1 hw1 => ⟨rfl, Ret.below_ hw1 (.cons (.tail (.tail (.tail (.tail (.tail (.tail (.tail (.tail (.tail (.tail .head)))))))))) .nil)⟩)
    · rw [if_neg hh35] at h
      refine WP.draw rfl (by kernel_rfl) (by kernel_rfl) ?_
      obtain ⟨r107, hg89, h⟩ := bind_some h
      refine WP.callV rfl rfl rfl rfl rfl rfl rfl (by kernel_rfl) (fun w1 hw1 => law04_known_w hg89 ) rfl ?_
      refine WP.st tysOk true rfl rfl rfl rfl rfl rfl True.intro ?_
      by_cases hh51 : r107 = true
      · rw [if_pos hh51] at h
        refine WP.yes rfl rfl hh51 ?_
        iterate 2 (refine WP.st tysOk true rfl rfl rfl rfl rfl rfl True.intro ?_; refine WP.yes rfl rfl rfl ?_)
        refine WP.ld1 tysOk rfl rfl rfl rfl rfl rfl rfl rfl rfl (CellAt.blk (.tail (.tail (.tail .head))) rfl) ?_
        refine WP.yes rfl rfl rfl ?_
        refine WP.lenO (xs := r1.arcs) tysOk rfl rfl rfl rfl rfl rfl rfl rfl hf2 ?_
        refine WP.yes rfl rfl rfl ?_
        refine WP.st tysOk true rfl rfl rfl rfl rfl rfl True.intro ?_
        refine WP.yes rfl rfl rfl ?_
        refine WP.ld1 tysOk rfl rfl rfl rfl rfl rfl rfl rfl rfl (CellAt.blk (.tail (.tail .head)) rfl) ?_
        refine WP.yes rfl rfl rfl ?_
        obtain ⟨r108, hg90, h⟩ := bind_some h
        refine WP.callV rfl rfl rfl rfl rfl rfl rfl (by kernel_rfl) (fun w1 hw1 => adj_Graph_Other_w hg90 (hgr2.le ((Held.mem (List.Mem.head _)) _ _ hw1))) rfl ?_
        refine WP.yes rfl rfl rfl ?_
        refine WP.st tysOk true rfl rfl rfl rfl rfl rfl True.intro ?_
        refine WP.yes rfl rfl rfl ?_
        refine WP.ld1 tysOk rfl rfl rfl rfl rfl rfl rfl rfl rfl (CellAt.blk (.tail (.tail .head)) rfl) ?_
        refine WP.yes rfl rfl rfl ?_
        iterate 3 (refine WP.st tysOk true rfl rfl rfl rfl rfl rfl True.intro ?_)
        refine WP.qend rfl ?_
        cases h
        refine WP.retR tysOk rfl rfl ⟨_, _, rfl, rfl, rfl⟩ (fun w1 hw1 => ⟨rfl, Ret.below_ hw1 (.cons (.tail (.tail (.tail (.tail (.tail (.tail .head)))))) .nil)⟩)
      · rw [if_neg hh51] at h
        refine WP.no rfl rfl (bfalse hh51) rfl rfl ?_
        iterate 9 (refine WP.no rfl rfl rfl rfl rfl ?_)
        iterate 2 (refine WP.st tysOk true rfl rfl rfl rfl rfl rfl True.intro ?_)
        refine WP.qend rfl ?_
        cases h
        refine WP.retR tysOk rfl rfl ⟨_, _, rfl, rfl, rfl⟩ (fun w1 hw1 => ⟨rfl, Ret.below_ hw1 (.cons (.tail (.tail (.tail (.tail (.tail (.tail .head)))))) .nil)⟩)

set_option maxHeartbeats 8000000 in
theorem law04_AdjTurned_w {w : World} {v0 : Value} {v1 : Value} {d1 : List Int} {i1 : List Int} {r : Bool} (h : law04_AdjTurned d1 i1 = some r) (p1 : SlF (fI .u8) (PH.of w) v0 d1) (p2 : SlF (fI .u8) (PH.of w) v1 i1) :
    Calls Try.prog 6 #[v0, v1] w fun e w' => e = .returned (.bool (r)) ∧ Below w.heap.size w w' := by
  obtain ⟨A1, c1, rfl, hs1⟩ := p1
  obtain ⟨A2, c2, rfl, hs2⟩ := p2
  unfold law04_AdjTurned at h
  refine enter_ Try.func6 rfl Try.ntmps6 rfl ?_
  iterate 3 (refine WP.st tysOk true rfl True.intro rfl rfl rfl rfl True.intro ?_)
  obtain ⟨r1, hg1, h⟩ := bind_some h
  refine WP.callS (law03_Inst_S r1) rfl rfl rfl rfl rfl rfl rfl (by kernel_rfl) (fun w1 hw1 => law03_Inst_w hg1 (hs1.le' ((Held.mem (List.Mem.head _)) _ _ hw1)).of (hs2.le' ((Held.mem (List.Mem.head _)) _ _ hw1)).of) ?_
  rintro _ _ ⟨A3, n1, c3, A4, n2, c4, rfl, hf1, hf2, rfl⟩
  refine WP.al tysOk rfl rfl rfl rfl rfl rfl ?_
  intro g1
  refine WP.sto' tysOk [.slice A3 n1 c3, .slice A4 n2 c4] rfl rfl rfl rfl rfl rfl rfl rfl rfl .head rfl rfl ?_
  iterate 2 (refine WP.st tysOk true rfl True.intro rfl rfl rfl rfl True.intro ?_)
  obtain ⟨r2, hg2, h⟩ := bind_some h
  refine WP.callS (law03_Inst_S r2) rfl rfl rfl rfl rfl rfl rfl (by kernel_rfl) (fun w1 hw1 => law03_Inst_w hg2 (hs1.le' ((Held.mem (List.Mem.tail _ (List.Mem.tail _ (List.Mem.tail _ (List.Mem.head _))))) _ _ hw1)).of (hs2.le' ((Held.mem (List.Mem.tail _ (List.Mem.tail _ (List.Mem.tail _ (List.Mem.head _))))) _ _ hw1)).of) ?_
  rintro _ _ ⟨A5, n3, c5, A6, n4, c6, rfl, hf3, hf4, rfl⟩
  refine WP.al tysOk rfl rfl rfl rfl rfl rfl ?_
  intro g2
  refine WP.sto' tysOk [.slice A5 n3 c5, .slice A6 n4 c6] rfl rfl rfl rfl rfl rfl rfl rfl rfl .head rfl rfl ?_
  refine WP.st tysOk true rfl True.intro rfl rfl rfl rfl True.intro ?_
  refine WP.loop (α := Nat × Int × (List Arc) × (Option Addr) × Nat × Nat) (fun x => lp (law04_AdjTurned_b1 r1 r2) x.1 (x.2.1, x.2.2.1) = some r ∧ OwF x.2.2.2.1 x.2.2.2.2.1 x.2.2.1) (fun x => [(5, .pointer (some ⟨g1, 0, none⟩)), (6, .pointer (some ⟨g2, 0, none⟩)), (7, .int .i64 (x.2.1))]) (fun x => [.blk g2 26 [.slice A5 n3 c5, .slice x.2.2.2.1 x.2.2.2.2.1 x.2.2.2.2.2], Ow (fI .i64) 2 A5 n3 c5 r2.supply, Ow fA 31 x.2.2.2.1 x.2.2.2.2.1 x.2.2.2.2.2 x.2.2.1, .blk g1 26 [.slice A3 n1 c3, .slice A4 n2 c4], Ow (fI .i64) 2 A3 n1 c3 r1.supply, Ow fA 31 A4 n2 c4 r1.arcs, .fz (PH.of w)]) (fun x => x.1) rfl (big, 0, r2.arcs, A6, n4, c6) ⟨h, hf4⟩ ?_ ?_ ?_
  · repeat (first | exact True.intro | refine And.intro rfl ?_)
  · exact (.cons .head (.cons .head (.cons .head (.cons .head (.cons .head (.cons .head (.cons .head .nil)))))))
  · rintro ⟨n62, s9, xs8, A62, m2, c62⟩ ⟨h, hf66⟩
    dsimp only at h hf66 ⊢
    rcases n62 with _ | n62
    · exact (lp_no h).elim
    replace h := lp_succ h
    unfold law04_AdjTurned_b1 at h
    try dsimp only at h
    iterate 2 (refine WP.st tysOk true rfl True.intro rfl rfl rfl rfl True.intro ?_)
    refine WP.ld1 tysOk rfl True.intro rfl rfl rfl rfl rfl rfl rfl (CellAt.blk .head rfl) ?_
    refine WP.lenO (xs := xs8) tysOk rfl True.intro rfl rfl rfl rfl rfl rfl hf66 ?_
    refine WP.st tysOk true rfl True.intro rfl rfl rfl rfl True.intro ?_
    refine WP.cond_d rfl rfl (fun hh49 => ?_) (fun hh49 => ?_)
    · rw [if_pos hh49] at h
      obtain ⟨hj10, h⟩ := ck_some h
      obtain ⟨hj11, h⟩ := ck_some h
      refine WP.drawL 11 [] rfl (by kernel_rfl) (by kernel_rfl) (by kernel_rfl) ?_
      refine WP.st tysOk true rfl ⟨⟨rfl, rfl⟩, rfl⟩ rfl rfl rfl rfl True.intro ?_
      refine WP.ld1 tysOk rfl ⟨⟨rfl, rfl⟩, rfl⟩ rfl rfl rfl rfl rfl rfl rfl (CellAt.blk .head rfl) ?_
      iterate 2 (refine WP.st tysOk true rfl ⟨⟨rfl, rfl⟩, rfl⟩ rfl rfl rfl rfl True.intro ?_)
      refine WP.ld1 tysOk rfl ⟨⟨rfl, rfl⟩, rfl⟩ rfl rfl rfl rfl rfl rfl rfl (CellAt.blk (.tail (.tail (.tail .head))) rfl) ?_
      refine WP.st tysOk true rfl ⟨⟨rfl, rfl⟩, rfl⟩ rfl rfl rfl rfl True.intro ?_
      refine WP.ixO tysOk rfl ⟨⟨rfl, rfl⟩, rfl⟩ rfl rfl rfl rfl rfl rfl rfl rfl hf2 hj10 ?_
      intro b13 hA13
      refine WP.st tysOk true rfl ⟨⟨rfl, rfl⟩, rfl⟩ rfl rfl rfl rfl True.intro ?_
      refine WP.ld1 tysOk rfl ⟨⟨rfl, rfl⟩, rfl⟩ rfl rfl rfl rfl rfl rfl rfl (OwS.at (.tail (.tail (.tail (.tail (.tail .head))))) hA13 hj10 1 rfl) ?_
      refine WP.ixO tysOk rfl ⟨⟨rfl, rfl⟩, rfl⟩ rfl rfl rfl rfl rfl rfl rfl rfl hf66 hj11 ?_
      intro b14 hA14
      refine WP.st tysOk true rfl ⟨⟨rfl, rfl⟩, rfl⟩ rfl rfl rfl rfl True.intro ?_
      refine WP.lend rfl ⟨rfl, rfl⟩ ?_
      obtain ⟨xs9, hx7, h⟩ := lt_some h
      refine WP.stoO (f := fA) 0 (Arc.mk ((gt r1.arcs s9).dst) ((gt xs8 s9).dst) ((gt xs8 s9).low) ((gt xs8 s9).cap) ((gt xs8 s9).cost)) tysOk rfl rfl rfl rfl rfl rfl rfl rfl rfl (.tail (.tail .head)) hA14 hf66 hj11 rfl rfl rfl hx7 ?_
      intro hf67
      obtain ⟨hj12, h⟩ := ck_some h
      refine WP.drawL 11 [] rfl (by kernel_rfl) (by kernel_rfl) (by kernel_rfl) ?_
      refine WP.st tysOk true rfl ⟨⟨rfl, rfl⟩, rfl⟩ rfl rfl rfl rfl True.intro ?_
      refine WP.ld1 tysOk rfl ⟨⟨rfl, rfl⟩, rfl⟩ rfl rfl rfl rfl rfl rfl rfl (CellAt.blk (.tail .head) rfl) ?_
      iterate 2 (refine WP.st tysOk true rfl ⟨⟨rfl, rfl⟩, rfl⟩ rfl rfl rfl rfl True.intro ?_)
      refine WP.ld1 tysOk rfl ⟨⟨rfl, rfl⟩, rfl⟩ rfl rfl rfl rfl rfl rfl rfl (CellAt.blk (.tail (.tail (.tail .head))) rfl) ?_
      refine WP.st tysOk true rfl ⟨⟨rfl, rfl⟩, rfl⟩ rfl rfl rfl rfl True.intro ?_
      refine WP.ixO tysOk rfl ⟨⟨rfl, rfl⟩, rfl⟩ rfl rfl rfl rfl rfl rfl rfl rfl hf2 hj10 ?_
      intro b15 hA15
      refine WP.st tysOk true rfl ⟨⟨rfl, rfl⟩, rfl⟩ rfl rfl rfl rfl True.intro ?_
      refine WP.ld1 tysOk rfl ⟨⟨rfl, rfl⟩, rfl⟩ rfl rfl rfl rfl rfl rfl rfl (OwS.at0 (.tail (.tail (.tail (.tail (.tail .head))))) hA15 hj10 rfl) ?_
      refine WP.ixO tysOk rfl ⟨⟨rfl, rfl⟩, rfl⟩ rfl rfl rfl rfl rfl rfl rfl rfl hf67 hj12 ?_
      intro b16 hA16
      refine WP.st tysOk true rfl ⟨⟨rfl, rfl⟩, rfl⟩ rfl rfl rfl rfl True.intro ?_
      refine WP.lend rfl ⟨rfl, rfl⟩ ?_
      obtain ⟨xs10, hx8, h⟩ := lt_some h
      refine WP.stoO (f := fA) 1 (Arc.mk ((gt xs9 s9).src) ((gt r1.arcs s9).src) ((gt xs9 s9).low) ((gt xs9 s9).cap) ((gt xs9 s9).cost)) tysOk rfl rfl rfl rfl rfl rfl rfl rfl rfl .head hA16 hf67 hj12 rfl rfl rfl hx8 ?_
      intro hf68
      iterate 3 (refine WP.st tysOk true rfl True.intro rfl rfl rfl rfl True.intro ?_)
      refine WP.stop rfl (n62, w64 (s9 + 1), xs10, A62, m2, c62) ⟨⟨h, hf68⟩, Nat.lt_succ_self _⟩ ?_ ?_
      · repeat (first | exact True.intro | refine And.intro rfl ?_)
      · exact (.cons (.tail .head) (.cons (.tail .head) (.cons .head (.cons .head (.cons .head (.cons .head (.cons .head .nil)))))))
    · rw [if_neg hh49] at h
      refine WP.ldm tysOk rfl True.intro rfl rfl rfl rfl rfl rfl rfl (SegAt.blk' (.tail (.tail (.tail .head))) rfl) ?_
      obtain ⟨r117, hg117, h⟩ := bind_some h
      refine WP.callS (adj_New_S r117) rfl rfl rfl rfl rfl rfl rfl (by kernel_rfl) (fun w1 hw1 => adj_New_w hg117 (InsZ.mk_ (hw1.ow (.tail (.tail (.tail (.tail .head)))) hf1) (hw1.ow (.tail (.tail (.tail (.tail (.tail .head))))) hf2))) ?_
      rintro vg7 _ ⟨Zn7, hgr7, rfl⟩
      obtain ⟨gg7, rfl⟩ := hgr7.ptr'
      refine WP.st tysOk true rfl True.intro rfl rfl rfl rfl True.intro ?_
      refine WP.ldm tysOk rfl True.intro rfl rfl rfl rfl rfl rfl rfl (SegAt.blk' (.tail .head) rfl) ?_
      obtain ⟨r118, hg118, h⟩ := bind_some h
      refine WP.callS (adj_New_S r118) rfl rfl rfl rfl rfl rfl rfl (by kernel_rfl) (fun w1 hw1 => adj_New_w hg118 (InsZ.mk_ (hw1.ow (.tail (.tail .head)) hf3) (hw1.ow (.tail (.tail (.tail .head))) hf66))) ?_
      rintro vg8 _ ⟨Zn8, hgr8, rfl⟩
      obtain ⟨gg8, rfl⟩ := hgr8.ptr'
      iterate 4 (refine WP.st tysOk true rfl True.intro rfl rfl rfl rfl True.intro ?_)
      refine WP.yes rfl rfl rfl ?_
      refine WP.st tysOk true rfl True.intro rfl rfl rfl rfl True.intro ?_
      refine WP.yes rfl rfl rfl ?_
      iterate 2 (refine WP.st tysOk true rfl True.intro rfl rfl rfl rfl True.intro ?_)
      refine WP.condF rfl rfl ?_
      refine WP.st tysOk true rfl True.intro rfl rfl rfl rfl True.intro ?_
      refine WP.loop (α := Nat × Int) (fun x => lp (law04_AdjTurned_b2 r1 r117 r118) x.1 x.2 = some r) (fun x => [(5, .pointer (some ⟨g1, 0, none⟩)), (8, .pointer (some ⟨gg7, 0, none⟩)), (9, .pointer (some ⟨gg8, 0, none⟩)), (10, .int .i64 (x.2))]) (fun x => [.fz Zn8, .fz Zn7, .blk g1 26 [.slice A3 n1 c3, .slice A4 n2 c4], Ow (fI .i64) 2 A3 n1 c3 r1.supply, Ow fA 31 A4 n2 c4 r1.arcs, .fz (PH.of w)]) (fun x => x.1) rfl (big, 0) h ?_ ?_ ?_
      · repeat (first | exact True.intro | refine And.intro rfl ?_)
      · exact (.cons .head (.cons .head (.cons (.tail (.tail (.tail .head))) (.cons (.tail (.tail (.tail .head))) (.cons (.tail (.tail (.tail .head))) (.cons (.tail (.tail (.tail .head))) .nil))))))
      · rintro ⟨n75, s11⟩ h
        dsimp only at h ⊢
        rcases n75 with _ | n75
        · exact (lp_no h).elim
        replace h := lp_succ h
        unfold law04_AdjTurned_b2 at h
        try dsimp only at h
        iterate 2 (refine WP.st tysOk true rfl True.intro rfl rfl rfl rfl True.intro ?_)
        refine WP.ld1 tysOk rfl True.intro rfl rfl rfl rfl rfl rfl rfl (CellAt.blk (.tail (.tail .head)) rfl) ?_
        refine WP.lenO (xs := r1.supply) tysOk rfl True.intro rfl rfl rfl rfl rfl rfl hf1 ?_
        refine WP.st tysOk true rfl True.intro rfl rfl rfl rfl True.intro ?_
        refine WP.cond_d rfl rfl (fun hh60 => ?_) (fun hh60 => ?_)
        · rw [if_pos hh60] at h
          iterate 2 (refine WP.st tysOk true rfl True.intro rfl rfl rfl rfl True.intro ?_)
          obtain ⟨r143, hg143, h⟩ := bind_some h
          refine WP.callS (adj_Graph_Out_S r143) rfl rfl rfl rfl rfl rfl rfl (by kernel_rfl) (fun w1 hw1 => adj_Graph_Out_w hg143 (hgr7.le ((Held.mem (List.Mem.tail _ (List.Mem.head _))) _ _ hw1))) ?_
          rintro _ _ ⟨A75, n76, c75, rfl, hf81, rfl⟩
          iterate 2 (refine WP.st tysOk true rfl True.intro rfl rfl rfl rfl True.intro ?_)
          obtain ⟨r144, hg144, h⟩ := bind_some h
          refine WP.callS (adj_Graph_In_S r144) rfl rfl rfl rfl rfl rfl rfl (by kernel_rfl) (fun w1 hw1 => adj_Graph_In_w hg144 (hgr8.le ((Held.mem (List.Mem.tail _ (List.Mem.head _))) _ _ hw1))) ?_
          rintro _ _ ⟨A76, n77, c76, rfl, hf82, rfl⟩
          obtain ⟨r145, hg145, h⟩ := bind_some h
          refine WP.callV rfl rfl rfl rfl rfl rfl rfl (by kernel_rfl) (fun w1 hw1 => ref03_Ints_w hg145 (hw1.ow (.tail .head) hf81) (hw1.ow .head hf82)) True.intro ?_
          iterate 2 (refine WP.st tysOk true rfl True.intro rfl rfl rfl rfl True.intro ?_)
          by_cases hh61 : r145 = true
          · rw [if_pos hh61] at h
            refine WP.yes rfl rfl (by simp [hh61]) ?_
            iterate 2 (refine WP.st tysOk true rfl True.intro rfl rfl rfl rfl True.intro ?_; refine WP.yes rfl rfl rfl ?_)
            obtain ⟨r146, hg146, h⟩ := bind_some h
            refine WP.callS (adj_Graph_In_S r146) rfl rfl rfl rfl rfl rfl rfl (by kernel_rfl) (fun w1 hw1 => adj_Graph_In_w hg146 (hgr7.le ((Held.mem (List.Mem.tail _ (List.Mem.tail _ (List.Mem.tail _ (List.Mem.head _))))) _ _ hw1))) ?_
            rintro _ _ ⟨A77, n78, c77, rfl, hf83, rfl⟩
            iterate 2 (refine WP.yes rfl rfl rfl ?_; refine WP.st tysOk true rfl True.intro rfl rfl rfl rfl True.intro ?_)
            refine WP.yes rfl rfl rfl ?_
            obtain ⟨r147, hg147, h⟩ := bind_some h
            refine WP.callS (adj_Graph_Out_S r147) rfl rfl rfl rfl rfl rfl rfl (by kernel_rfl) (fun w1 hw1 => adj_Graph_Out_w hg147 (hgr8.le ((Held.mem (List.Mem.tail _ (List.Mem.tail _ (List.Mem.tail _ (List.Mem.head _))))) _ _ hw1))) ?_
            rintro _ _ ⟨A78, n79, c78, rfl, hf84, rfl⟩
            refine WP.yes rfl rfl rfl ?_
            obtain ⟨r148, hg148, h⟩ := bind_some h
            refine WP.callV rfl rfl rfl rfl rfl rfl rfl (by kernel_rfl) (fun w1 hw1 => ref03_Ints_w hg148 (hw1.ow (.tail .head) hf83) (hw1.ow .head hf84)) True.intro ?_
            refine WP.yes rfl rfl rfl ?_
            iterate 3 (refine WP.st tysOk true rfl True.intro rfl rfl rfl rfl True.intro ?_)
            by_cases hh62 : r148 = true
            · rw [if_pos hh62] at h
              refine WP.yes rfl rfl (by simp [hh62]) ?_
              iterate 2 (refine WP.st tysOk true rfl True.intro rfl rfl rfl rfl True.intro ?_; refine WP.yes rfl rfl rfl ?_)
              obtain ⟨r149, hg149, h⟩ := bind_some h
              refine WP.callS (adj_Graph_At_S r149) rfl rfl rfl rfl rfl rfl rfl (by kernel_rfl) (fun w1 hw1 => adj_Graph_At_w hg149 (hgr7.le ((Held.mem (List.Mem.tail _ (List.Mem.tail _ (List.Mem.tail _ (List.Mem.tail _ (List.Mem.tail _ (List.Mem.head _))))))) _ _ hw1))) ?_
              rintro _ _ ⟨A79, n80, c79, rfl, hf85, rfl⟩
              iterate 2 (refine WP.yes rfl rfl rfl ?_; refine WP.st tysOk true rfl True.intro rfl rfl rfl rfl True.intro ?_)
              refine WP.yes rfl rfl rfl ?_
              obtain ⟨r150, hg150, h⟩ := bind_some h
              refine WP.callS (adj_Graph_At_S r150) rfl rfl rfl rfl rfl rfl rfl (by kernel_rfl) (fun w1 hw1 => adj_Graph_At_w hg150 (hgr8.le ((Held.mem (List.Mem.tail _ (List.Mem.tail _ (List.Mem.tail _ (List.Mem.tail _ (List.Mem.tail _ (List.Mem.head _))))))) _ _ hw1))) ?_
              rintro _ _ ⟨A80, n81, c80, rfl, hf86, rfl⟩
              refine WP.yes rfl rfl rfl ?_
              obtain ⟨r151, hg151, h⟩ := bind_some h
              refine WP.callV rfl rfl rfl rfl rfl rfl rfl (by kernel_rfl) (fun w1 hw1 => ref03_Ints_w hg151 (hw1.ow (.tail .head) hf85) (hw1.ow .head hf86)) True.intro ?_
              refine WP.yes rfl rfl rfl ?_
              iterate 3 (refine WP.st tysOk true rfl True.intro rfl rfl rfl rfl True.intro ?_)
              by_cases hh63 : r151 = true
              · rw [if_pos hh63] at h
                refine WP.yes rfl rfl (by simp [hh63]) ?_
                iterate 2 (refine WP.st tysOk true rfl True.intro rfl rfl rfl rfl True.intro ?_; refine WP.yes rfl rfl rfl ?_)
                obtain ⟨r152, hg152, h⟩ := bind_some h
                refine WP.callV rfl rfl rfl rfl rfl rfl rfl (by kernel_rfl) (fun w1 hw1 => adj_Graph_Loops_w hg152 (hgr7.le ((Held.mem (List.Mem.tail _ (List.Mem.tail _ (List.Mem.tail _ (List.Mem.tail _ (List.Mem.tail _ (List.Mem.tail _ (List.Mem.tail _ (List.Mem.head _))))))))) _ _ hw1))) True.intro ?_
                iterate 2 (refine WP.yes rfl rfl rfl ?_; refine WP.st tysOk true rfl True.intro rfl rfl rfl rfl True.intro ?_)
                refine WP.yes rfl rfl rfl ?_
                obtain ⟨r153, hg153, h⟩ := bind_some h
                refine WP.callV rfl rfl rfl rfl rfl rfl rfl (by kernel_rfl) (fun w1 hw1 => adj_Graph_Loops_w hg153 (hgr8.le ((Held.mem (List.Mem.tail _ (List.Mem.tail _ (List.Mem.tail _ (List.Mem.tail _ (List.Mem.tail _ (List.Mem.tail _ (List.Mem.head _)))))))) _ _ hw1))) True.intro ?_
                refine WP.yes rfl rfl rfl ?_
                iterate 2 (refine WP.st tysOk true rfl True.intro rfl rfl rfl rfl True.intro ?_)
                refine WP.cond_d rfl rfl (fun hh64 => ?_) (fun hh64 => ?_)
                · rw [if_pos hh64] at h
                  refine WP.st tysOk true rfl True.intro rfl rfl rfl rfl True.intro ?_
                  cases h
                  refine WP.retR tysOk rfl rfl ⟨_, _, rfl, rfl, rfl⟩ (fun w1 hw1 => ⟨rfl, Ret.below_ hw1 (.cons (.tail (.tail (.tail (.tail (.tail (.tail (.tail (.tail (.tail (.tail (.tail .head))))))))))) .nil)⟩)
                · rw [if_neg hh64] at h
                  iterate 3 (refine WP.st tysOk true rfl True.intro rfl rfl rfl rfl True.intro ?_)
                  refine WP.stop rfl (n75, w64 (s11 + 1)) ⟨h, Nat.lt_succ_self _⟩ ?_ ?_
                  · repeat (first | exact True.intro | refine And.intro rfl ?_)
                  · exact (.cons (.tail (.tail (.tail (.tail (.tail (.tail .head)))))) (.cons (.tail (.tail (.tail (.tail (.tail (.tail .head)))))) (.cons (.tail (.tail (.tail (.tail (.tail (.tail .head)))))) (.cons (.tail (.tail (.tail (.tail (.tail (.tail .head)))))) (.cons (.tail (.tail (.tail (.tail (.tail (.tail .head)))))) (.cons (.tail (.tail (.tail (.tail (.tail (.tail .head)))))) .nil))))))
              · rw [if_neg hh63] at h
                refine WP.no rfl rfl (by simp [hh63]) rfl rfl ?_
                iterate 6 (refine WP.no rfl rfl rfl rfl rfl ?_)
                refine WP.st tysOk true rfl True.intro rfl rfl rfl rfl True.intro ?_
                refine WP.condT rfl rfl ?_
                refine WP.st tysOk true rfl True.intro rfl rfl rfl rfl True.intro ?_
                cases h
                refine WP.retR tysOk rfl rfl ⟨_, _, rfl, rfl, rfl⟩ (fun w1 hw1 => ⟨rfl, Ret.below_ hw1 (.cons (.tail (.tail (.tail (.tail (.tail (.tail (.tail (.tail (.tail (.tail (.tail .head))))))))))) .nil)⟩)
            · rw [if_neg hh62] at h
              refine WP.no rfl rfl (by simp [hh62]) rfl rfl ?_
              iterate 7 (refine WP.no rfl rfl rfl rfl rfl ?_)
              iterate 2 (refine WP.st tysOk true rfl True.intro rfl rfl rfl rfl True.intro ?_)
              iterate 7 (refine WP.no rfl rfl rfl rfl rfl ?_)
              refine WP.st tysOk true rfl True.intro rfl rfl rfl rfl True.intro ?_
              refine WP.condT rfl rfl ?_
              refine WP.st tysOk true rfl True.intro rfl rfl rfl rfl True.intro ?_
              cases h
              refine WP.retR tysOk rfl rfl ⟨_, _, rfl, rfl, rfl⟩ (fun w1 hw1 => ⟨rfl, Ret.below_ hw1 (.cons (.tail (.tail (.tail (.tail (.tail (.tail (.tail (.tail (.tail .head))))))))) .nil)⟩)
          · rw [if_neg hh61] at h
            refine WP.no rfl rfl (by simp [hh61]) rfl rfl ?_
            iterate 7 (refine WP.no rfl rfl rfl rfl rfl ?_)
            iterate 2 (refine WP.st tysOk true rfl True.intro rfl rfl rfl rfl True.intro ?_)
            iterate 8 (refine WP.no rfl rfl rfl rfl rfl ?_)
            iterate 2 (refine WP.st tysOk true rfl True.intro rfl rfl rfl rfl True.intro ?_)
            iterate 7 (refine WP.no rfl rfl rfl rfl rfl ?_)
            refine WP.st tysOk true rfl True.intro rfl rfl rfl rfl True.intro ?_
            refine WP.condT rfl rfl ?_
            refine WP.st tysOk true rfl True.intro rfl rfl rfl rfl True.intro ?_
            cases h
            refine WP.retR tysOk rfl rfl ⟨_, _, rfl, rfl, rfl⟩ (fun w1 hw1 => ⟨rfl, Ret.below_ hw1 (.cons (.tail (.tail (.tail (.tail (.tail (.tail (.tail .head))))))) .nil)⟩)
        · rw [if_neg hh60] at h
          obtain ⟨r154, hg154, h⟩ := bind_some h
          refine WP.callV rfl rfl rfl rfl rfl rfl rfl (by kernel_rfl) (fun w1 hw1 => law04_known_w hg154 ) True.intro ?_
          refine WP.st tysOk true rfl True.intro rfl rfl rfl rfl True.intro ?_
          cases h
          refine WP.retR tysOk rfl rfl ⟨_, _, rfl, rfl, rfl⟩ (fun w1 hw1 => ⟨rfl, Ret.below_ hw1 (.cons (.tail (.tail (.tail (.tail (.tail .head))))) .nil)⟩)
end Go.Proofs.Ytcmcbiojkanlnaa
