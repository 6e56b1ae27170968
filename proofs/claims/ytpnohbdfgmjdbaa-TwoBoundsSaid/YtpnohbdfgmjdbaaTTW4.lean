/- The walks: the code computes that. -/
import Derived.Test.YtpnohbdfgmjdbaaTTW3
import Derived.Test.YtpnohbdfgmjdbaaTys
import Derived.KernelRfl
namespace Go.Proofs.Ytpnohbdfgmjdbaa
open Go.RowKit Go.Qe
set_option maxRecDepth 20000 in
set_option maxHeartbeats 8000000 in
theorem law18_TwoNever_w {w : World} {d1 : Int} {i1 : Int} {x1 : Int} {r : Bool} (h : law18_TwoNever d1 i1 x1 = some r) :
    Calls Try.prog 5 #[.int .u8 (d1), .int .u8 (i1), .int .i64 (x1)] w fun e w' => e = .returned (.bool (r)) ∧ Below w.heap.size w w' := by
  unfold law18_TwoNever at h
  refine enter_ Try.func5 rfl Try.ntmps5 rfl ?_
  refine WP.st tysOk true rfl True.intro rfl rfl rfl rfl True.intro ?_
  obtain ⟨hm1, h⟩ := ck_some h
  refine WP.mkO (f := (fI .i64)) 0 tysOk rfl rfl rfl rfl rfl rfl rfl rfl rfl rfl rfl rfl hm1 ?_
  intro g1 hf1
  refine WP.bld (cs := [.slice (some ⟨g1, 0, none⟩) ((3 : Int).toNat) ((3 : Int).toNat), .slice none 0 0]) tysOk rfl True.intro rfl rfl rfl rfl rfl rfl rfl ?_
  refine WP.al tysOk rfl rfl rfl rfl rfl rfl ?_
  intro g2
  refine WP.sto' tysOk [.slice (some ⟨g1, 0, none⟩) ((3 : Int).toNat) ((3 : Int).toNat), .slice none 0 0] rfl rfl rfl rfl rfl rfl rfl rfl rfl .head rfl rfl ?_
  refine WP.st tysOk true rfl True.intro rfl rfl rfl rfl True.intro ?_
  refine WP.own_nil 23 fA.z ?_
  refine WP.loop (α := Nat × Int × (List Arc) × (Option Addr) × Nat × Nat) (fun x => lp (law18_TwoNever_b1 d1 i1 x1) x.1 (x.2.1, x.2.2.1) = some r ∧ OwF x.2.2.2.1 x.2.2.2.2.1 x.2.2.1) (fun x => [(0, .int .u8 (d1)), (1, .int .u8 (i1)), (2, .int .i64 (x1)), (7, .pointer (some ⟨g2, 0, none⟩)), (8, .int .i64 (x.2.1))]) (fun x => [Ow fA 23 x.2.2.2.1 x.2.2.2.2.1 x.2.2.2.2.2 x.2.2.1, .blk g2 27 [.slice (some ⟨g1, 0, none⟩) ((3 : Int).toNat) ((3 : Int).toNat), .slice x.2.2.2.1 x.2.2.2.2.1 x.2.2.2.2.2], Ow (fI .i64) 2 (some ⟨g1, 0, none⟩) ((3 : Int).toNat) ((3 : Int).toNat) (List.replicate (3 : Int).toNat 0), .fz (PH.of w)]) (fun x => x.1) rfl (big, 0, ([] : List Arc), none, 0, 0) ⟨h, OwF.nil_⟩ ?_ ?_ ?_
  · repeat (first | exact True.intro | refine And.intro rfl ?_)
  · exact (.cons .head (.cons .head (.cons .head (.cons .head .nil))))
  · rintro ⟨n1, s3, xs11, A11, m2, c11⟩ ⟨h, hf21⟩
    dsimp only at h hf21 ⊢
    rcases n1 with _ | n1
    · exact (lp_no h).elim
    replace h := lp_succ h
    unfold law18_TwoNever_b1 at h
    try dsimp only at h
    iterate 2 (refine WP.st tysOk true rfl True.intro rfl rfl rfl rfl True.intro ?_)
    refine WP.st tysOk true rfl True.intro rfl rfl rfl rfl (by decide) ?_
    iterate 2 (refine WP.st tysOk true rfl True.intro rfl rfl rfl rfl True.intro ?_)
    refine WP.cond_d rfl rfl (fun hh208 => ?_) (fun hh208 => ?_)
    · rw [if_pos hh208] at h
      refine WP.st tysOk true rfl True.intro rfl rfl rfl rfl True.intro ?_
      refine WP.bld (cs := [.int .i64 (0), .int .i64 (1), .int .i64 (0), .int .i64 (5), .int .i64 (s3)]) tysOk rfl True.intro rfl rfl rfl rfl rfl rfl rfl ?_
      refine WP.al tysOk rfl rfl rfl rfl rfl rfl ?_
      intro g39
      refine WP.sto' tysOk [.int .i64 (0), .int .i64 (1), .int .i64 (0), .int .i64 (5), .int .i64 (s3)] rfl rfl rfl rfl rfl rfl rfl rfl rfl .head rfl rfl ?_
      iterate 3 (refine WP.st tysOk true rfl True.intro rfl rfl rfl rfl True.intro ?_)
      obtain ⟨hz13, h⟩ := ck_some h
      refine WP.st tysOk true rfl True.intro rfl rfl rfl rfl hz13 ?_
      refine WP.st tysOk true rfl True.intro rfl rfl rfl rfl (by decide) ?_
      refine WP.st tysOk true rfl True.intro rfl rfl rfl rfl True.intro ?_
      refine WP.cond_d rfl rfl (fun hh209 => ?_) (fun hh209 => ?_)
      · rw [if_pos hh209] at h
        refine WP.st tysOk true rfl True.intro rfl rfl rfl rfl True.intro ?_
        refine WP.sto' tysOk [.int .i64 (1), .int .i64 (1), .int .i64 (0), .int .i64 (5), .int .i64 (s3)] rfl rfl rfl rfl rfl rfl rfl rfl rfl .head rfl rfl ?_
        refine WP.st tysOk true rfl True.intro rfl rfl rfl rfl True.intro ?_
        refine WP.sto' tysOk [.int .i64 (1), .int .i64 (2), .int .i64 (0), .int .i64 (5), .int .i64 (s3)] rfl rfl rfl rfl rfl rfl rfl rfl rfl .head rfl rfl ?_
        refine WP.st tysOk true rfl True.intro rfl rfl rfl rfl True.intro ?_
        refine WP.ld1 tysOk rfl True.intro rfl rfl rfl rfl rfl rfl rfl (CellAt.blk (.tail (.tail .head)) rfl) ?_
        refine WP.ldm tysOk rfl True.intro rfl rfl rfl rfl rfl rfl rfl (SegAt.blk' .head rfl) ?_
        refine WP.bsO (f := fA) [(Arc.mk 1 2 0 5 s3)] tysOk rfl rfl rfl rfl rfl rfl rfl rfl rfl rfl rfl rfl rfl rfl ?_
        intro g40 hf22
        obtain ⟨hl10, h⟩ := ck_some h
        obtain ⟨xs12, hz14, h⟩ := lt_some h
        refine WP.appO (f := fA) (xs := xs11) (ys := [(Arc.mk 1 2 0 5 s3)]) tysOk rfl rfl rfl rfl rfl rfl rfl rfl rfl rfl rfl rfl (.tail (.tail .head)) hf21 hf22.len (OwS.app .head hf22) hl10 hz14 ?_
        intro A12 c12 hf23
        refine WP.st tysOk true rfl True.intro rfl rfl rfl rfl True.intro ?_
        refine WP.sto' tysOk [.slice (some ⟨g1, 0, none⟩) ((3 : Int).toNat) ((3 : Int).toNat), .slice A12 xs12.length c12] rfl rfl rfl rfl rfl rfl rfl rfl rfl (.tail (.tail (.tail .head))) rfl rfl ?_
        iterate 3 (refine WP.st tysOk true rfl True.intro rfl rfl rfl rfl True.intro ?_)
        refine WP.stop rfl (n1, w64 (s3 + 1), xs12, A12, xs12.length, c12) ⟨⟨h, hf23⟩, Nat.lt_succ_self _⟩ ?_ ?_
        · repeat (first | exact True.intro | refine And.intro rfl ?_)
        · exact (.cons (.tail .head) (.cons .head (.cons (.tail (.tail .head)) (.cons (.tail (.tail .head)) .nil))))
      · rw [if_neg hh209] at h
        refine WP.st tysOk true rfl True.intro rfl rfl rfl rfl True.intro ?_
        refine WP.ld1 tysOk rfl True.intro rfl rfl rfl rfl rfl rfl rfl (CellAt.blk (.tail (.tail .head)) rfl) ?_
        refine WP.ldm tysOk rfl True.intro rfl rfl rfl rfl rfl rfl rfl (SegAt.blk' .head rfl) ?_
        refine WP.bsO (f := fA) [(Arc.mk 0 1 0 5 s3)] tysOk rfl rfl rfl rfl rfl rfl rfl rfl rfl rfl rfl rfl rfl rfl ?_
        intro g41 hf24
        obtain ⟨hl11, h⟩ := ck_some h
        obtain ⟨xs13, hz15, h⟩ := lt_some h
        refine WP.appO (f := fA) (xs := xs11) (ys := [(Arc.mk 0 1 0 5 s3)]) tysOk rfl rfl rfl rfl rfl rfl rfl rfl rfl rfl rfl rfl (.tail (.tail .head)) hf21 hf24.len (OwS.app .head hf24) hl11 hz15 ?_
        intro A13 c13 hf25
        refine WP.st tysOk true rfl True.intro rfl rfl rfl rfl True.intro ?_
        refine WP.sto' tysOk [.slice (some ⟨g1, 0, none⟩) ((3 : Int).toNat) ((3 : Int).toNat), .slice A13 xs13.length c13] rfl rfl rfl rfl rfl rfl rfl rfl rfl (.tail (.tail (.tail .head))) rfl rfl ?_
        iterate 3 (refine WP.st tysOk true rfl True.intro rfl rfl rfl rfl True.intro ?_)
        refine WP.stop rfl (n1, w64 (s3 + 1), xs13, A13, xs13.length, c13) ⟨⟨h, hf25⟩, Nat.lt_succ_self _⟩ ?_ ?_
        · repeat (first | exact True.intro | refine And.intro rfl ?_)
        · exact (.cons (.tail .head) (.cons .head (.cons (.tail (.tail .head)) (.cons (.tail (.tail .head)) .nil))))
    · rw [if_neg hh208] at h
      iterate 4 (refine WP.st tysOk true rfl True.intro rfl rfl rfl rfl True.intro ?_)
      refine WP.cond_d rfl rfl (fun hh210 => ?_) (fun hh210 => ?_)
      · rw [if_pos hh210] at h
        refine WP.st tysOk true rfl True.intro rfl rfl rfl rfl True.intro ?_
        refine WP.ld1 tysOk rfl True.intro rfl rfl rfl rfl rfl rfl rfl (CellAt.blk (.tail .head) rfl) ?_
        refine WP.bld (cs := [.int .i64 (1), .int .i64 (1), .int .i64 (0), .int .i64 (1), .int .i64 (0)]) tysOk rfl True.intro rfl rfl rfl rfl rfl rfl rfl ?_
        refine WP.bsO (f := fA) [(Arc.mk 1 1 0 1 0)] tysOk rfl rfl rfl rfl rfl rfl rfl rfl rfl rfl rfl rfl rfl rfl ?_
        intro g42 hf26
        obtain ⟨hl12, h⟩ := ck_some h
        obtain ⟨xs14, hz16, h⟩ := lt_some h
        refine WP.appO (f := fA) (xs := xs11) (ys := [(Arc.mk 1 1 0 1 0)]) tysOk rfl rfl rfl rfl rfl rfl rfl rfl rfl rfl rfl rfl (.tail .head) hf21 hf26.len (OwS.app .head hf26) hl12 hz16 ?_
        intro A14 c14 hf27
        refine WP.st tysOk true rfl True.intro rfl rfl rfl rfl True.intro ?_
        refine WP.sto' tysOk [.slice (some ⟨g1, 0, none⟩) ((3 : Int).toNat) ((3 : Int).toNat), .slice A14 xs14.length c14] rfl rfl rfl rfl rfl rfl rfl rfl rfl (.tail (.tail .head)) rfl rfl ?_
        refine WP.ldm tysOk rfl True.intro rfl rfl rfl rfl rfl rfl rfl (SegAt.blk' .head rfl) ?_
        obtain ⟨r37, hg37, h⟩ := bind_some h
        refine WP.callV rfl rfl rfl rfl rfl rfl rfl (by kernel_rfl) (fun w1 hw1 => (two_Chain_w hg37 (InsZ.mk_ (hw1.ow (.tail (.tail (.tail .head))) hf1) (hw1.ow (.tail .head) hf27)) :)) True.intro ?_
        iterate 3 (refine WP.st tysOk true rfl True.intro rfl rfl rfl rfl True.intro ?_)
        refine WP.al tysOk rfl rfl rfl rfl rfl rfl ?_
        intro g43
        refine WP.sto' tysOk [.int .i64 (r37.1.node), .int .i64 (r37.1.a), .int .i64 (r37.1.b), .int .i64 (r37.1.new.src), .int .i64 (r37.1.new.dst), .int .i64 (r37.1.new.low), .int .i64 (r37.1.new.cap), .int .i64 (r37.1.new.cost)] rfl rfl rfl rfl rfl rfl rfl rfl rfl .head rfl rfl ?_
        refine WP.st tysOk true rfl True.intro rfl rfl rfl rfl True.intro ?_
        refine WP.ldm tysOk rfl True.intro rfl rfl rfl rfl rfl rfl rfl (SegAt.blk' (.tail .head) rfl) ?_
        obtain ⟨r38, hg38, h⟩ := bind_some h
        refine WP.callV rfl rfl rfl rfl rfl rfl rfl (by kernel_rfl) (fun w1 hw1 => (two_Split_w hg38 (InsZ.mk_ (hw1.ow (.tail (.tail (.tail (.tail .head)))) hf1) (hw1.ow (.tail (.tail .head)) hf27)) :)) True.intro ?_
        iterate 3 (refine WP.st tysOk true rfl True.intro rfl rfl rfl rfl True.intro ?_)
        refine WP.al tysOk rfl rfl rfl rfl rfl rfl ?_
        intro g44
        refine WP.sto' tysOk [.int .i64 (r38.1.node), .int .i64 (r38.1.a), .int .i64 (r38.1.b), .int .i64 (r38.1.new.src), .int .i64 (r38.1.new.dst), .int .i64 (r38.1.new.low), .int .i64 (r38.1.new.cap), .int .i64 (r38.1.new.cost)] rfl rfl rfl rfl rfl rfl rfl rfl rfl .head rfl rfl ?_
        refine WP.st tysOk true rfl True.intro rfl rfl rfl rfl True.intro ?_
        refine WP.ldm tysOk rfl True.intro rfl rfl rfl rfl rfl rfl rfl (SegAt.blk' (.tail (.tail .head)) rfl) ?_
        refine WP.st tysOk true rfl True.intro rfl rfl rfl rfl True.intro ?_
        obtain ⟨r39, hg39, h⟩ := bind_some h
        refine WP.callV rfl rfl rfl rfl rfl rfl rfl (by kernel_rfl) (fun w1 hw1 => (two_Chain_w hg39 (InsZ.mk_ (hw1.ow (.tail (.tail (.tail (.tail (.tail .head))))) hf1) (hw1.ow (.tail (.tail (.tail .head))) hf27)) :)) True.intro ?_
        iterate 3 (refine WP.st tysOk true rfl True.intro rfl rfl rfl rfl True.intro ?_)
        refine WP.al tysOk rfl rfl rfl rfl rfl rfl ?_
        intro g45
        refine WP.sto' tysOk [.int .i64 (r39.1.node), .int .i64 (r39.1.a), .int .i64 (r39.1.b), .int .i64 (r39.1.new.src), .int .i64 (r39.1.new.dst), .int .i64 (r39.1.new.low), .int .i64 (r39.1.new.cap), .int .i64 (r39.1.new.cost)] rfl rfl rfl rfl rfl rfl rfl rfl rfl .head rfl rfl ?_
        refine WP.st tysOk true rfl True.intro rfl rfl rfl rfl True.intro ?_
        refine WP.ldm tysOk rfl True.intro rfl rfl rfl rfl rfl rfl rfl (SegAt.blk' (.tail (.tail (.tail .head))) rfl) ?_
        refine WP.st tysOk true rfl True.intro rfl rfl rfl rfl True.intro ?_
        obtain ⟨r40, hg40, h⟩ := bind_some h
        refine WP.callV rfl rfl rfl rfl rfl rfl rfl (by kernel_rfl) (fun w1 hw1 => (two_Split_w hg40 (InsZ.mk_ (hw1.ow (.tail (.tail (.tail (.tail (.tail (.tail .head)))))) hf1) (hw1.ow (.tail (.tail (.tail (.tail .head)))) hf27)) :)) True.intro ?_
        iterate 3 (refine WP.st tysOk true rfl True.intro rfl rfl rfl rfl True.intro ?_)
        refine WP.al tysOk rfl rfl rfl rfl rfl rfl ?_
        intro g46
        refine WP.sto' tysOk [.int .i64 (r40.1.node), .int .i64 (r40.1.a), .int .i64 (r40.1.b), .int .i64 (r40.1.new.src), .int .i64 (r40.1.new.dst), .int .i64 (r40.1.new.low), .int .i64 (r40.1.new.cap), .int .i64 (r40.1.new.cost)] rfl rfl rfl rfl rfl rfl rfl rfl rfl .head rfl rfl ?_
        iterate 4 (refine WP.st tysOk true rfl True.intro rfl rfl rfl rfl True.intro ?_)
        by_cases hh211 : x1 < 0
        · rw [if_pos hh211] at h
          refine WP.no rfl rfl (decide_eq_true hh211) rfl rfl ?_
          refine WP.no rfl rfl rfl rfl rfl ?_
          iterate 2 (refine WP.st tysOk true rfl True.intro rfl rfl rfl rfl True.intro ?_)
          obtain ⟨r41, hg41, h⟩ := bind_some h
          refine WP.callV rfl rfl rfl rfl rfl rfl rfl (by kernel_rfl) (fun w1 hw1 => (law18_known_w hg41  :)) True.intro ?_
          refine WP.st tysOk true rfl True.intro rfl rfl rfl rfl True.intro ?_
          by_cases hh212 : r41 = true
          · rw [if_pos hh212] at h
            refine WP.yes rfl rfl hh212 ?_
            refine WP.st tysOk true rfl True.intro rfl rfl rfl rfl True.intro ?_
            refine WP.yes rfl rfl rfl ?_
            refine WP.st tysOk true rfl True.intro rfl rfl rfl rfl True.intro ?_
            by_cases hh213 : r37.2 = true
            · rw [if_pos hh213] at h
              refine WP.no rfl rfl hh213 rfl rfl ?_
              iterate 2 (refine WP.yes rfl rfl rfl ?_; refine WP.st tysOk true rfl True.intro rfl rfl rfl rfl True.intro ?_)
              refine WP.yes rfl rfl rfl ?_
              refine WP.st tysOk true rfl True.intro rfl rfl rfl rfl (by decide) ?_
              iterate 2 (refine WP.yes rfl rfl rfl ?_; refine WP.st tysOk true rfl True.intro rfl rfl rfl rfl True.intro ?_)
              by_cases hh214 : (d1.tmod 5) = 2
              · rw [if_pos hh214] at h
                refine WP.yes rfl rfl (decide_eq_true hh214) ?_
                iterate 3 (refine WP.st tysOk true rfl True.intro rfl rfl rfl rfl True.intro ?_; refine WP.yes rfl rfl rfl ?_)
                iterate 3 (refine WP.st tysOk true rfl True.intro rfl rfl rfl rfl True.intro ?_)
                by_cases hh215 : (true == (!(decide (128 ≤ i1)))) = true
                · rw [if_pos hh215] at h
                  refine WP.yes rfl rfl hh215 ?_
                  refine WP.st tysOk true rfl True.intro rfl rfl rfl rfl True.intro ?_
                  refine WP.yes rfl rfl rfl ?_
                  refine WP.st tysOk true rfl True.intro rfl rfl rfl rfl True.intro ?_
                  refine WP.yes rfl rfl hh213 ?_
                  iterate 2 (refine WP.st tysOk true rfl True.intro rfl rfl rfl rfl True.intro ?_; refine WP.yes rfl rfl rfl ?_)
                  iterate 3 (refine WP.st tysOk true rfl True.intro rfl rfl rfl rfl True.intro ?_)
                  by_cases hh216 : r38.2 = true
                  · rw [if_pos hh216] at h
                    refine WP.no rfl rfl (by simp [hh216]) rfl rfl ?_
                    iterate 2 (refine WP.no rfl rfl rfl rfl rfl ?_)
                    iterate 6 (refine WP.noU rfl rfl rfl rfl ?_)
                    refine WP.no rfl rfl rfl rfl rfl ?_
                    iterate 2 (refine WP.st tysOk true rfl True.intro rfl rfl rfl rfl True.intro ?_)
                    cases h
                    refine WP.retR tysOk rfl rfl ⟨_, _, rfl, rfl, rfl⟩ (fun w1 hw1 => ⟨rfl, Ret.below_ hw1 (.cons (.tail (.tail (.tail (.tail (.tail (.tail (.tail (.tail .head)))))))) .nil)⟩)
                  · rw [if_neg hh216] at h
                    refine WP.yes rfl rfl (by simp [hh216]) ?_
                    iterate 5 (refine WP.st tysOk true rfl True.intro rfl rfl rfl rfl True.intro ?_; refine WP.yes rfl rfl rfl ?_)
                    refine WP.st tysOk true rfl True.intro rfl rfl rfl rfl True.intro ?_
                    by_cases hh217 : r39.2 = true
                    · rw [if_pos hh217] at h
                      refine WP.no rfl rfl (by simp [hh217]) rfl rfl ?_
                      refine WP.no rfl rfl rfl rfl rfl ?_
                      refine WP.yes rfl rfl rfl ?_
                      refine WP.st tysOk true rfl True.intro rfl rfl rfl rfl True.intro ?_
                      refine WP.yes rfl rfl rfl ?_
                      iterate 3 (refine WP.st tysOk true rfl True.intro rfl rfl rfl rfl True.intro ?_)
                      cases h
                      refine WP.retR tysOk rfl rfl ⟨_, _, rfl, rfl, rfl⟩ (fun w1 hw1 => ⟨rfl, Ret.below_ hw1 (.cons (.tail (.tail (.tail (.tail (.tail (.tail (.tail (.tail .head)))))))) .nil)⟩)
                    · rw [if_neg hh217] at h
                      refine WP.yes rfl rfl (by simp [hh217]) ?_
                      iterate 3 (refine WP.st tysOk true rfl True.intro rfl rfl rfl rfl True.intro ?_; refine WP.yes rfl rfl rfl ?_)
                      iterate 3 (refine WP.st tysOk true rfl True.intro rfl rfl rfl rfl True.intro ?_)
                      cases h
                      refine WP.retR tysOk rfl rfl ⟨_, _, rfl, rfl, rfl⟩ (fun w1 hw1 => ⟨rfl, Ret.below_ hw1 (.cons (.tail (.tail (.tail (.tail (.tail (.tail (.tail (.tail .head)))))))) .nil)⟩)
                · rw [if_neg hh215] at h
                  refine WP.no rfl rfl (bfalse hh215) rfl rfl ?_
                  refine WP.no rfl rfl rfl rfl rfl ?_
                  refine WP.noU rfl rfl rfl rfl ?_
                  iterate 2 (refine WP.no rfl rfl rfl rfl rfl ?_)
                  iterate 2 (refine WP.st tysOk true rfl True.intro rfl rfl rfl rfl True.intro ?_)
                  iterate 3 (refine WP.no rfl rfl rfl rfl rfl ?_)
                  iterate 6 (refine WP.noU rfl rfl rfl rfl ?_)
                  refine WP.no rfl rfl rfl rfl rfl ?_
                  iterate 2 (refine WP.st tysOk true rfl True.intro rfl rfl rfl rfl True.intro ?_)
                  cases h
                  refine WP.retR tysOk rfl rfl ⟨_, _, rfl, rfl, rfl⟩ (fun w1 hw1 => ⟨rfl, Ret.below_ hw1 (.cons (.tail (.tail (.tail (.tail (.tail (.tail (.tail (.tail .head)))))))) .nil)⟩)
              · rw [if_neg hh214] at h
                refine WP.no rfl rfl (decide_eq_false hh214) rfl rfl ?_
                refine WP.no rfl rfl rfl rfl rfl ?_
                refine WP.yes rfl rfl rfl ?_
                refine WP.st tysOk true rfl True.intro rfl rfl rfl rfl True.intro ?_
                refine WP.yes rfl rfl rfl ?_
                iterate 3 (refine WP.st tysOk true rfl True.intro rfl rfl rfl rfl True.intro ?_)
                by_cases hh218 : (true == false) = true
                · rw [if_pos hh218] at h
                  refine WP.yes rfl rfl hh218 ?_
                  refine WP.st tysOk true rfl True.intro rfl rfl rfl rfl True.intro ?_
                  refine WP.yes rfl rfl rfl ?_
                  refine WP.st tysOk true rfl True.intro rfl rfl rfl rfl True.intro ?_
                  refine WP.yes rfl rfl hh213 ?_
                  iterate 2 (refine WP.st tysOk true rfl True.intro rfl rfl rfl rfl True.intro ?_; refine WP.yes rfl rfl rfl ?_)
                  iterate 3 (refine WP.st tysOk true rfl True.intro rfl rfl rfl rfl True.intro ?_)
                  by_cases hh219 : r38.2 = true
                  · rw [if_pos hh219] at h
                    refine WP.no rfl rfl (by simp [hh219]) rfl rfl ?_
                    iterate 2 (refine WP.no rfl rfl rfl rfl rfl ?_)
                    iterate 6 (refine WP.noU rfl rfl rfl rfl ?_)
                    refine WP.no rfl rfl rfl rfl rfl ?_
                    iterate 2 (refine WP.st tysOk true rfl True.intro rfl rfl rfl rfl True.intro ?_)
                    cases h
                    refine WP.retR tysOk rfl rfl ⟨_, _, rfl, rfl, rfl⟩ (fun w1 hw1 => ⟨rfl, Ret.below_ hw1 (.cons (.tail (.tail (.tail (.tail (.tail (.tail (.tail (.tail .head)))))))) .nil)⟩)
                  · rw [if_neg hh219] at h
                    refine WP.yes rfl rfl (by simp [hh219]) ?_
                    iterate 5 (refine WP.st tysOk true rfl True.intro rfl rfl rfl rfl True.intro ?_; refine WP.yes rfl rfl rfl ?_)
                    refine WP.st tysOk true rfl True.intro rfl rfl rfl rfl True.intro ?_
                    by_cases hh220 : r39.2 = true
                    · rw [if_pos hh220] at h
                      refine WP.no rfl rfl (by simp [hh220]) rfl rfl ?_
                      refine WP.no rfl rfl rfl rfl rfl ?_
                      refine WP.yes rfl rfl rfl ?_
                      refine WP.st tysOk true rfl True.intro rfl rfl rfl rfl True.intro ?_
                      refine WP.yes rfl rfl rfl ?_
                      iterate 3 (refine WP.st tysOk true rfl True.intro rfl rfl rfl rfl True.intro ?_)
                      cases h
                      refine WP.retR tysOk rfl rfl ⟨_, _, rfl, rfl, rfl⟩ (fun w1 hw1 => ⟨rfl, Ret.below_ hw1 (.cons (.tail (.tail (.tail (.tail (.tail (.tail (.tail (.tail .head)))))))) .nil)⟩)
                    · rw [if_neg hh220] at h
                      refine WP.yes rfl rfl (by simp [hh220]) ?_
                      iterate 3 (refine WP.st tysOk true rfl True.intro rfl rfl rfl rfl True.intro ?_; refine WP.yes rfl rfl rfl ?_)
                      iterate 3 (refine WP.st tysOk true rfl True.intro rfl rfl rfl rfl True.intro ?_)
                      cases h
                      refine WP.retR tysOk rfl rfl ⟨_, _, rfl, rfl, rfl⟩ (fun w1 hw1 => ⟨rfl, Ret.below_ hw1 (.cons (.tail (.tail (.tail (.tail (.tail (.tail (.tail (.tail .head)))))))) .nil)⟩)
                · rw [if_neg hh218] at h
                  refine WP.no rfl rfl (bfalse hh218) rfl rfl ?_
                  refine WP.no rfl rfl rfl rfl rfl ?_
                  refine WP.noU rfl rfl rfl rfl ?_
                  iterate 2 (refine WP.no rfl rfl rfl rfl rfl ?_)
                  iterate 2 (refine WP.st tysOk true rfl True.intro rfl rfl rfl rfl True.intro ?_)
                  iterate 3 (refine WP.no rfl rfl rfl rfl rfl ?_)
                  iterate 6 (refine WP.noU rfl rfl rfl rfl ?_)
                  refine WP.no rfl rfl rfl rfl rfl ?_
                  iterate 2 (refine WP.st tysOk true rfl True.intro rfl rfl rfl rfl True.intro ?_)
                  cases h
                  refine WP.retR tysOk rfl rfl ⟨_, _, rfl, rfl, rfl⟩ (fun w1 hw1 => ⟨rfl, Ret.below_ hw1 (.cons (.tail (.tail (.tail (.tail (.tail (.tail (.tail (.tail .head)))))))) .nil)⟩)
            · rw [if_neg hh213] at h
              refine WP.yes rfl rfl (bfalse hh213) ?_
              iterate 3 (refine WP.st tysOk true rfl True.intro rfl rfl rfl rfl True.intro ?_; refine WP.yes rfl rfl rfl ?_)
              refine WP.st tysOk true rfl True.intro rfl rfl rfl rfl (by decide) ?_
              iterate 2 (refine WP.yes rfl rfl rfl ?_; refine WP.st tysOk true rfl True.intro rfl rfl rfl rfl True.intro ?_)
              by_cases hh221 : (d1.tmod 5) = 2
              · rw [if_pos hh221] at h
                refine WP.yes rfl rfl (decide_eq_true hh221) ?_
                iterate 3 (refine WP.st tysOk true rfl True.intro rfl rfl rfl rfl True.intro ?_; refine WP.yes rfl rfl rfl ?_)
                iterate 3 (refine WP.st tysOk true rfl True.intro rfl rfl rfl rfl True.intro ?_)
                by_cases hh222 : (r38.2 == (!(decide (128 ≤ i1)))) = true
                · rw [if_pos hh222] at h
                  refine WP.yes rfl rfl hh222 ?_
                  refine WP.st tysOk true rfl True.intro rfl rfl rfl rfl True.intro ?_
                  refine WP.yes rfl rfl rfl ?_
                  refine WP.st tysOk true rfl True.intro rfl rfl rfl rfl True.intro ?_
                  refine WP.no rfl rfl (bfalse hh213) rfl rfl ?_
                  refine WP.yes rfl rfl rfl ?_
                  refine WP.st tysOk true rfl True.intro rfl rfl rfl rfl True.intro ?_
                  refine WP.yes rfl rfl rfl ?_
                  iterate 3 (refine WP.st tysOk true rfl True.intro rfl rfl rfl rfl True.intro ?_)
                  iterate 6 (refine WP.yes rfl rfl rfl ?_; refine WP.st tysOk true rfl True.intro rfl rfl rfl rfl True.intro ?_)
                  by_cases hh223 : r39.2 = true
                  · rw [if_pos hh223] at h
                    refine WP.no rfl rfl (by simp [hh223]) rfl rfl ?_
                    refine WP.no rfl rfl rfl rfl rfl ?_
                    refine WP.yes rfl rfl rfl ?_
                    refine WP.st tysOk true rfl True.intro rfl rfl rfl rfl True.intro ?_
                    refine WP.yes rfl rfl rfl ?_
                    iterate 3 (refine WP.st tysOk true rfl True.intro rfl rfl rfl rfl True.intro ?_)
                    cases h
                    refine WP.retR tysOk rfl rfl ⟨_, _, rfl, rfl, rfl⟩ (fun w1 hw1 => ⟨rfl, Ret.below_ hw1 (.cons (.tail (.tail (.tail (.tail (.tail (.tail (.tail (.tail .head)))))))) .nil)⟩)
                  · rw [if_neg hh223] at h
                    refine WP.yes rfl rfl (by simp [hh223]) ?_
                    iterate 3 (refine WP.st tysOk true rfl True.intro rfl rfl rfl rfl True.intro ?_; refine WP.yes rfl rfl rfl ?_)
                    iterate 3 (refine WP.st tysOk true rfl True.intro rfl rfl rfl rfl True.intro ?_)
                    cases h
                    refine WP.retR tysOk rfl rfl ⟨_, _, rfl, rfl, rfl⟩ (fun w1 hw1 => ⟨rfl, Ret.below_ hw1 (.cons (.tail (.tail (.tail (.tail (.tail (.tail (.tail (.tail .head)))))))) .nil)⟩)
                · rw [if_neg hh222] at h
                  refine WP.no rfl rfl (bfalse hh222) rfl rfl ?_
                  refine WP.no rfl rfl rfl rfl rfl ?_
                  refine WP.noU rfl rfl rfl rfl ?_
                  iterate 2 (refine WP.no rfl rfl rfl rfl rfl ?_)
                  iterate 2 (refine WP.st tysOk true rfl True.intro rfl rfl rfl rfl True.intro ?_)
                  iterate 3 (refine WP.no rfl rfl rfl rfl rfl ?_)
                  iterate 6 (refine WP.noU rfl rfl rfl rfl ?_)
                  refine WP.no rfl rfl rfl rfl rfl ?_
                  iterate 2 (refine WP.st tysOk true rfl True.intro rfl rfl rfl rfl True.intro ?_)
                  cases h
                  refine WP.retR tysOk rfl rfl ⟨_, _, rfl, rfl, rfl⟩ (fun w1 hw1 => ⟨rfl, Ret.below_ hw1 (.cons (.tail (.tail (.tail (.tail (.tail (.tail (.tail (.tail .head)))))))) .nil)⟩)
              · rw [if_neg hh221] at h
                refine WP.no rfl rfl (decide_eq_false hh221) rfl rfl ?_
                refine WP.no rfl rfl rfl rfl rfl ?_
                refine WP.yes rfl rfl rfl ?_
                refine WP.st tysOk true rfl True.intro rfl rfl rfl rfl True.intro ?_
                refine WP.yes rfl rfl rfl ?_
                iterate 3 (refine WP.st tysOk true rfl True.intro rfl rfl rfl rfl True.intro ?_)
                by_cases hh224 : (r38.2 == false) = true
                · rw [if_pos hh224] at h
                  refine WP.yes rfl rfl hh224 ?_
                  refine WP.st tysOk true rfl True.intro rfl rfl rfl rfl True.intro ?_
                  refine WP.yes rfl rfl rfl ?_
                  refine WP.st tysOk true rfl True.intro rfl rfl rfl rfl True.intro ?_
                  refine WP.no rfl rfl (bfalse hh213) rfl rfl ?_
                  refine WP.yes rfl rfl rfl ?_
                  refine WP.st tysOk true rfl True.intro rfl rfl rfl rfl True.intro ?_
                  refine WP.yes rfl rfl rfl ?_
                  iterate 3 (refine WP.st tysOk true rfl True.intro rfl rfl rfl rfl True.intro ?_)
                  iterate 6 (refine WP.yes rfl rfl rfl ?_; refine WP.st tysOk true rfl True.intro rfl rfl rfl rfl True.intro ?_)
                  by_cases hh225 : r39.2 = true
                  · rw [if_pos hh225] at h
                    refine WP.no rfl rfl (by simp [hh225]) rfl rfl ?_
                    refine WP.no rfl rfl rfl rfl rfl ?_
                    refine WP.yes rfl rfl rfl ?_
                    refine WP.st tysOk true rfl True.intro rfl rfl rfl rfl True.intro ?_
                    refine WP.yes rfl rfl rfl ?_
                    iterate 3 (refine WP.st tysOk true rfl True.intro rfl rfl rfl rfl True.intro ?_)
                    cases h
                    refine WP.retR tysOk rfl rfl ⟨_, _, rfl, rfl, rfl⟩ (fun w1 hw1 => ⟨rfl, Ret.below_ hw1 (.cons (.tail (.tail (.tail (.tail (.tail (.tail (.tail (.tail .head)))))))) .nil)⟩)
                  · rw [if_neg hh225] at h
                    refine WP.yes rfl rfl (by simp [hh225]) ?_
                    iterate 3 (refine WP.st tysOk true rfl True.intro rfl rfl rfl rfl True.intro ?_; refine WP.yes rfl rfl rfl ?_)
                    iterate 3 (refine WP.st tysOk true rfl True.intro rfl rfl rfl rfl True.intro ?_)
                    cases h
                    refine WP.retR tysOk rfl rfl ⟨_, _, rfl, rfl, rfl⟩ (fun w1 hw1 => ⟨rfl, Ret.below_ hw1 (.cons (.tail (.tail (.tail (.tail (.tail (.tail (.tail (.tail .head)))))))) .nil)⟩)
                · rw [if_neg hh224] at h
                  refine WP.no rfl rfl (bfalse hh224) rfl rfl ?_
                  refine WP.no rfl rfl rfl rfl rfl ?_
                  refine WP.noU rfl rfl rfl rfl ?_
                  iterate 2 (refine WP.no rfl rfl rfl rfl rfl ?_)
                  iterate 2 (refine WP.st tysOk true rfl True.intro rfl rfl rfl rfl True.intro ?_)
                  iterate 3 (refine WP.no rfl rfl rfl rfl rfl ?_)
                  iterate 6 (refine WP.noU rfl rfl rfl rfl ?_)
                  refine WP.no rfl rfl rfl rfl rfl ?_
                  iterate 2 (refine WP.st tysOk true rfl True.intro rfl rfl rfl rfl True.intro ?_)
                  cases h
                  refine WP.retR tysOk rfl rfl ⟨_, _, rfl, rfl, rfl⟩ (fun w1 hw1 => ⟨rfl, Ret.below_ hw1 (.cons (.tail (.tail (.tail (.tail (.tail (.tail (.tail (.tail .head)))))))) .nil)⟩)
          · rw [if_neg hh212] at h
            refine WP.no rfl rfl (bfalse hh212) rfl rfl ?_
            refine WP.no rfl rfl rfl rfl rfl ?_
            refine WP.noU rfl rfl rfl rfl ?_
            iterate 5 (refine WP.no rfl rfl rfl rfl rfl ?_)
            iterate 2 (refine WP.noU rfl rfl rfl rfl ?_)
            iterate 2 (refine WP.no rfl rfl rfl rfl rfl ?_)
            iterate 2 (refine WP.st tysOk true rfl True.intro rfl rfl rfl rfl True.intro ?_)
            iterate 2 (refine WP.no rfl rfl rfl rfl rfl ?_)
            refine WP.noU rfl rfl rfl rfl ?_
            iterate 2 (refine WP.no rfl rfl rfl rfl rfl ?_)
            iterate 2 (refine WP.st tysOk true rfl True.intro rfl rfl rfl rfl True.intro ?_)
            iterate 3 (refine WP.no rfl rfl rfl rfl rfl ?_)
            iterate 6 (refine WP.noU rfl rfl rfl rfl ?_)
            refine WP.no rfl rfl rfl rfl rfl ?_
            iterate 2 (refine WP.st tysOk true rfl True.intro rfl rfl rfl rfl True.intro ?_)
            cases h
            refine WP.retR tysOk rfl rfl ⟨_, _, rfl, rfl, rfl⟩ (fun w1 hw1 => ⟨rfl, Ret.below_ hw1 (.cons (.tail (.tail (.tail (.tail (.tail (.tail (.tail (.tail .head)))))))) .nil)⟩)
        · rw [if_neg hh211] at h
          refine WP.yes rfl rfl (decide_eq_false hh211) ?_
          refine WP.st tysOk true rfl True.intro rfl rfl rfl rfl True.intro ?_
          refine WP.yes rfl rfl rfl ?_
          iterate 3 (refine WP.st tysOk true rfl True.intro rfl rfl rfl rfl True.intro ?_)
          obtain ⟨r42, hg42, h⟩ := bind_some h
          refine WP.callV rfl rfl rfl rfl rfl rfl rfl (by kernel_rfl) (fun w1 hw1 => (law18_known_w hg42  :)) True.intro ?_
          refine WP.st tysOk true rfl True.intro rfl rfl rfl rfl True.intro ?_
          by_cases hh226 : r42 = true
          · rw [if_pos hh226] at h
            refine WP.yes rfl rfl hh226 ?_
            refine WP.st tysOk true rfl True.intro rfl rfl rfl rfl True.intro ?_
            refine WP.yes rfl rfl rfl ?_
            refine WP.st tysOk true rfl True.intro rfl rfl rfl rfl True.intro ?_
            by_cases hh227 : r37.2 = true
            · rw [if_pos hh227] at h
              refine WP.no rfl rfl hh227 rfl rfl ?_
              iterate 2 (refine WP.yes rfl rfl rfl ?_; refine WP.st tysOk true rfl True.intro rfl rfl rfl rfl True.intro ?_)
              refine WP.yes rfl rfl rfl ?_
              refine WP.st tysOk true rfl True.intro rfl rfl rfl rfl (by decide) ?_
              iterate 2 (refine WP.yes rfl rfl rfl ?_; refine WP.st tysOk true rfl True.intro rfl rfl rfl rfl True.intro ?_)
              by_cases hh228 : (d1.tmod 5) = 2
              · rw [if_pos hh228] at h
                refine WP.yes rfl rfl (decide_eq_true hh228) ?_
                iterate 3 (refine WP.st tysOk true rfl True.intro rfl rfl rfl rfl True.intro ?_; refine WP.yes rfl rfl rfl ?_)
                iterate 3 (refine WP.st tysOk true rfl True.intro rfl rfl rfl rfl True.intro ?_)
                by_cases hh229 : (true == (!(decide (128 ≤ i1)))) = true
                · rw [if_pos hh229] at h
                  refine WP.yes rfl rfl hh229 ?_
                  refine WP.st tysOk true rfl True.intro rfl rfl rfl rfl True.intro ?_
                  refine WP.yes rfl rfl rfl ?_
                  refine WP.st tysOk true rfl True.intro rfl rfl rfl rfl True.intro ?_
                  refine WP.yes rfl rfl hh227 ?_
                  iterate 2 (refine WP.st tysOk true rfl True.intro rfl rfl rfl rfl True.intro ?_; refine WP.yes rfl rfl rfl ?_)
                  iterate 3 (refine WP.st tysOk true rfl True.intro rfl rfl rfl rfl True.intro ?_)
                  by_cases hh230 : r38.2 = true
                  · rw [if_pos hh230] at h
                    refine WP.no rfl rfl (by simp [hh230]) rfl rfl ?_
                    iterate 2 (refine WP.no rfl rfl rfl rfl rfl ?_)
                    iterate 6 (refine WP.noU rfl rfl rfl rfl ?_)
                    refine WP.no rfl rfl rfl rfl rfl ?_
                    iterate 2 (refine WP.st tysOk true rfl True.intro rfl rfl rfl rfl True.intro ?_)
                    cases h
                    refine WP.retR tysOk rfl rfl ⟨_, _, rfl, rfl, rfl⟩ (fun w1 hw1 => ⟨rfl, Ret.below_ hw1 (.cons (.tail (.tail (.tail (.tail (.tail (.tail (.tail (.tail .head)))))))) .nil)⟩)
                  · rw [if_neg hh230] at h
                    refine WP.yes rfl rfl (by simp [hh230]) ?_
                    iterate 2 (refine WP.st tysOk true rfl True.intro rfl rfl rfl rfl True.intro ?_; refine WP.yes rfl rfl rfl ?_)
                    refine WP.st tysOk true rfl True.intro rfl rfl rfl rfl True.intro ?_
                    by_cases hh231 : 2 < x1
                    · rw [if_pos hh231] at h
                      refine WP.yes rfl rfl (by simp [hh231]) ?_
                      iterate 2 (refine WP.st tysOk true rfl True.intro rfl rfl rfl rfl True.intro ?_; refine WP.yes rfl rfl rfl ?_)
                      refine WP.st tysOk true rfl True.intro rfl rfl rfl rfl True.intro ?_
                      by_cases hh232 : r39.2 = true
                      · rw [if_pos hh232] at h
                        refine WP.no rfl rfl (by simp [hh232]) rfl rfl ?_
                        refine WP.no rfl rfl rfl rfl rfl ?_
                        refine WP.yes rfl rfl rfl ?_
                        refine WP.st tysOk true rfl True.intro rfl rfl rfl rfl True.intro ?_
                        refine WP.yes rfl rfl rfl ?_
                        iterate 3 (refine WP.st tysOk true rfl True.intro rfl rfl rfl rfl True.intro ?_)
                        cases h
                        refine WP.retR tysOk rfl rfl ⟨_, _, rfl, rfl, rfl⟩ (fun w1 hw1 => ⟨rfl, Ret.below_ hw1 (.cons (.tail (.tail (.tail (.tail (.tail (.tail (.tail (.tail .head)))))))) .nil)⟩)
                      · rw [if_neg hh232] at h
                        refine WP.yes rfl rfl (by simp [hh232]) ?_
                        iterate 3 (refine WP.st tysOk true rfl True.intro rfl rfl rfl rfl True.intro ?_; refine WP.yes rfl rfl rfl ?_)
                        iterate 3 (refine WP.st tysOk true rfl True.intro rfl rfl rfl rfl True.intro ?_)
                        cases h
                        refine WP.retR tysOk rfl rfl ⟨_, _, rfl, rfl, rfl⟩ (fun w1 hw1 => ⟨rfl, Ret.below_ hw1 (.cons (.tail (.tail (.tail (.tail (.tail (.tail (.tail (.tail .head)))))))) .nil)⟩)
                    · rw [if_neg hh231] at h
                      refine WP.no rfl rfl (by simp [hh231]) rfl rfl ?_
                      iterate 2 (refine WP.no rfl rfl rfl rfl rfl ?_)
                      iterate 2 (refine WP.noU rfl rfl rfl rfl ?_)
                      refine WP.no rfl rfl rfl rfl rfl ?_
                      refine WP.yes rfl rfl rfl ?_
                      iterate 3 (refine WP.st tysOk true rfl True.intro rfl rfl rfl rfl True.intro ?_)
                      cases h
                      refine WP.retR tysOk rfl rfl ⟨_, _, rfl, rfl, rfl⟩ (fun w1 hw1 => ⟨rfl, Ret.below_ hw1 (.cons (.tail (.tail (.tail (.tail (.tail (.tail (.tail (.tail .head)))))))) .nil)⟩)
                · rw [if_neg hh229] at h
                  refine WP.no rfl rfl (bfalse hh229) rfl rfl ?_
                  refine WP.no rfl rfl rfl rfl rfl ?_
                  refine WP.noU rfl rfl rfl rfl ?_
                  iterate 2 (refine WP.no rfl rfl rfl rfl rfl ?_)
                  iterate 2 (refine WP.st tysOk true rfl True.intro rfl rfl rfl rfl True.intro ?_)
                  iterate 3 (refine WP.no rfl rfl rfl rfl rfl ?_)
                  iterate 6 (refine WP.noU rfl rfl rfl rfl ?_)
                  refine WP.no rfl rfl rfl rfl rfl ?_
                  iterate 2 (refine WP.st tysOk true rfl True.intro rfl rfl rfl rfl True.intro ?_)
                  cases h
                  refine WP.retR tysOk rfl rfl ⟨_, _, rfl, rfl, rfl⟩ (fun w1 hw1 => ⟨rfl, Ret.below_ hw1 (.cons (.tail (.tail (.tail (.tail (.tail (.tail (.tail (.tail .head)))))))) .nil)⟩)
              · rw [if_neg hh228] at h
                refine WP.no rfl rfl (decide_eq_false hh228) rfl rfl ?_
                refine WP.no rfl rfl rfl rfl rfl ?_
                refine WP.yes rfl rfl rfl ?_
                refine WP.st tysOk true rfl True.intro rfl rfl rfl rfl True.intro ?_
                refine WP.yes rfl rfl rfl ?_
                iterate 3 (refine WP.st tysOk true rfl True.intro rfl rfl rfl rfl True.intro ?_)
                by_cases hh233 : (true == false) = true
                · rw [if_pos hh233] at h
                  refine WP.yes rfl rfl hh233 ?_
                  refine WP.st tysOk true rfl True.intro rfl rfl rfl rfl True.intro ?_
                  refine WP.yes rfl rfl rfl ?_
                  refine WP.st tysOk true rfl True.intro rfl rfl rfl rfl True.intro ?_
                  refine WP.yes rfl rfl hh227 ?_
                  iterate 2 (refine WP.st tysOk true rfl True.intro rfl rfl rfl rfl True.intro ?_; refine WP.yes rfl rfl rfl ?_)
                  iterate 3 (refine WP.st tysOk true rfl True.intro rfl rfl rfl rfl True.intro ?_)
                  by_cases hh234 : r38.2 = true
                  · rw [if_pos hh234] at h
                    refine WP.no rfl rfl (by simp [hh234]) rfl rfl ?_
                    iterate 2 (refine WP.no rfl rfl rfl rfl rfl ?_)
                    iterate 6 (refine WP.noU rfl rfl rfl rfl ?_)
                    refine WP.no rfl rfl rfl rfl rfl ?_
                    iterate 2 (refine WP.st tysOk true rfl True.intro rfl rfl rfl rfl True.intro ?_)
                    cases h
                    refine WP.retR tysOk rfl rfl ⟨_, _, rfl, rfl, rfl⟩ (fun w1 hw1 => ⟨rfl, Ret.below_ hw1 (.cons (.tail (.tail (.tail (.tail (.tail (.tail (.tail (.tail .head)))))))) .nil)⟩)
                  · rw [if_neg hh234] at h
                    refine WP.yes rfl rfl (by simp [hh234]) ?_
                    iterate 2 (refine WP.st tysOk true rfl True.intro rfl rfl rfl rfl True.intro ?_; refine WP.yes rfl rfl rfl ?_)
                    refine WP.st tysOk true rfl True.intro rfl rfl rfl rfl True.intro ?_
                    by_cases hh235 : 2 < x1
                    · rw [if_pos hh235] at h
                      refine WP.yes rfl rfl (by simp [hh235]) ?_
                      iterate 2 (refine WP.st tysOk true rfl True.intro rfl rfl rfl rfl True.intro ?_; refine WP.yes rfl rfl rfl ?_)
                      refine WP.st tysOk true rfl True.intro rfl rfl rfl rfl True.intro ?_
                      by_cases hh236 : r39.2 = true
                      · rw [if_pos hh236] at h
                        refine WP.no rfl rfl (by simp [hh236]) rfl rfl ?_
                        refine WP.no rfl rfl rfl rfl rfl ?_
                        refine WP.yes rfl rfl rfl ?_
                        refine WP.st tysOk true rfl True.intro rfl rfl rfl rfl True.intro ?_
                        refine WP.yes rfl rfl rfl ?_
                        iterate 3 (refine WP.st tysOk true rfl True.intro rfl rfl rfl rfl True.intro ?_)
                        cases h
                        refine WP.retR tysOk rfl rfl ⟨_, _, rfl, rfl, rfl⟩ (fun w1 hw1 => ⟨rfl, Ret.below_ hw1 (.cons (.tail (.tail (.tail (.tail (.tail (.tail (.tail (.tail .head)))))))) .nil)⟩)
                      · rw [if_neg hh236] at h
                        refine WP.yes rfl rfl (by simp [hh236]) ?_
                        iterate 3 (refine WP.st tysOk true rfl True.intro rfl rfl rfl rfl True.intro ?_; refine WP.yes rfl rfl rfl ?_)
                        iterate 3 (refine WP.st tysOk true rfl True.intro rfl rfl rfl rfl True.intro ?_)
                        cases h
                        refine WP.retR tysOk rfl rfl ⟨_, _, rfl, rfl, rfl⟩ (fun w1 hw1 => ⟨rfl, Ret.below_ hw1 (.cons (.tail (.tail (.tail (.tail (.tail (.tail (.tail (.tail .head)))))))) .nil)⟩)
                    · rw [if_neg hh235] at h
                      refine WP.no rfl rfl (by simp [hh235]) rfl rfl ?_
                      iterate 2 (refine WP.no rfl rfl rfl rfl rfl ?_)
                      iterate 2 (refine WP.noU rfl rfl rfl rfl ?_)
                      refine WP.no rfl rfl rfl rfl rfl ?_
                      refine WP.yes rfl rfl rfl ?_
                      iterate 3 (refine WP.st tysOk true rfl True.intro rfl rfl rfl rfl True.intro ?_)
                      cases h
                      refine WP.retR tysOk rfl rfl ⟨_, _, rfl, rfl, rfl⟩ (fun w1 hw1 => ⟨rfl, Ret.below_ hw1 (.cons (.tail (.tail (.tail (.tail (.tail (.tail (.tail (.tail .head)))))))) .nil)⟩)
                · rw [if_neg hh233] at h
                  refine WP.no rfl rfl (bfalse hh233) rfl rfl ?_
                  refine WP.no rfl rfl rfl rfl rfl ?_
                  refine WP.noU rfl rfl rfl rfl ?_
                  iterate 2 (refine WP.no rfl rfl rfl rfl rfl ?_)
                  iterate 2 (refine WP.st tysOk true rfl True.intro rfl rfl rfl rfl True.intro ?_)
                  iterate 3 (refine WP.no rfl rfl rfl rfl rfl ?_)
                  iterate 6 (refine WP.noU rfl rfl rfl rfl ?_)
                  refine WP.no rfl rfl rfl rfl rfl ?_
                  iterate 2 (refine WP.st tysOk true rfl True.intro rfl rfl rfl rfl True.intro ?_)
                  cases h
                  refine WP.retR tysOk rfl rfl ⟨_, _, rfl, rfl, rfl⟩ (fun w1 hw1 => ⟨rfl, Ret.below_ hw1 (.cons (.tail (.tail (.tail (.tail (.tail (.tail (.tail (.tail .head)))))))) .nil)⟩)
            · rw [if_neg hh227] at h
              refine WP.yes rfl rfl (bfalse hh227) ?_
              iterate 3 (refine WP.st tysOk true rfl True.intro rfl rfl rfl rfl True.intro ?_; refine WP.yes rfl rfl rfl ?_)
              refine WP.st tysOk true rfl True.intro rfl rfl rfl rfl (by decide) ?_
              iterate 2 (refine WP.yes rfl rfl rfl ?_; refine WP.st tysOk true rfl True.intro rfl rfl rfl rfl True.intro ?_)
              by_cases hh237 : (d1.tmod 5) = 2
              · rw [if_pos hh237] at h
                refine WP.yes rfl rfl (decide_eq_true hh237) ?_
                iterate 3 (refine WP.st tysOk true rfl True.intro rfl rfl rfl rfl True.intro ?_; refine WP.yes rfl rfl rfl ?_)
                iterate 3 (refine WP.st tysOk true rfl True.intro rfl rfl rfl rfl True.intro ?_)
                by_cases hh238 : (r38.2 == (!(decide (128 ≤ i1)))) = true
                · rw [if_pos hh238] at h
                  refine WP.yes rfl rfl hh238 ?_
                  refine WP.st tysOk true rfl True.intro rfl rfl rfl rfl True.intro ?_
                  refine WP.yes rfl rfl rfl ?_
                  refine WP.st tysOk true rfl True.intro rfl rfl rfl rfl True.intro ?_
                  refine WP.no rfl rfl (bfalse hh227) rfl rfl ?_
                  refine WP.yes rfl rfl rfl ?_
                  refine WP.st tysOk true rfl True.intro rfl rfl rfl rfl True.intro ?_
                  refine WP.yes rfl rfl rfl ?_
                  iterate 3 (refine WP.st tysOk true rfl True.intro rfl rfl rfl rfl True.intro ?_)
                  iterate 3 (refine WP.yes rfl rfl rfl ?_; refine WP.st tysOk true rfl True.intro rfl rfl rfl rfl True.intro ?_)
                  by_cases hh239 : 2 < x1
                  · rw [if_pos hh239] at h
                    refine WP.yes rfl rfl (by simp [hh239]) ?_
                    iterate 2 (refine WP.st tysOk true rfl True.intro rfl rfl rfl rfl True.intro ?_; refine WP.yes rfl rfl rfl ?_)
                    refine WP.st tysOk true rfl True.intro rfl rfl rfl rfl True.intro ?_
                    by_cases hh240 : r39.2 = true
                    · rw [if_pos hh240] at h
                      refine WP.no rfl rfl (by simp [hh240]) rfl rfl ?_
                      refine WP.no rfl rfl rfl rfl rfl ?_
                      refine WP.yes rfl rfl rfl ?_
                      refine WP.st tysOk true rfl True.intro rfl rfl rfl rfl True.intro ?_
                      refine WP.yes rfl rfl rfl ?_
                      iterate 3 (refine WP.st tysOk true rfl True.intro rfl rfl rfl rfl True.intro ?_)
                      cases h
                      refine WP.retR tysOk rfl rfl ⟨_, _, rfl, rfl, rfl⟩ (fun w1 hw1 => ⟨rfl, Ret.below_ hw1 (.cons (.tail (.tail (.tail (.tail (.tail (.tail (.tail (.tail .head)))))))) .nil)⟩)
                    · rw [if_neg hh240] at h
                      refine WP.yes rfl rfl (by simp [hh240]) ?_
                      iterate 3 (refine WP.st tysOk true rfl True.intro rfl rfl rfl rfl True.intro ?_; refine WP.yes rfl rfl rfl ?_)
                      iterate 3 (refine WP.st tysOk true rfl True.intro rfl rfl rfl rfl True.intro ?_)
                      cases h
                      refine WP.retR tysOk rfl rfl ⟨_, _, rfl, rfl, rfl⟩ (fun w1 hw1 => ⟨rfl, Ret.below_ hw1 (.cons (.tail (.tail (.tail (.tail (.tail (.tail (.tail (.tail .head)))))))) .nil)⟩)
                  · rw [if_neg hh239] at h
                    refine WP.no rfl rfl (by simp [hh239]) rfl rfl ?_
                    iterate 2 (refine WP.no rfl rfl rfl rfl rfl ?_)
                    iterate 2 (refine WP.noU rfl rfl rfl rfl ?_)
                    refine WP.no rfl rfl rfl rfl rfl ?_
                    refine WP.yes rfl rfl rfl ?_
                    iterate 3 (refine WP.st tysOk true rfl True.intro rfl rfl rfl rfl True.intro ?_)
                    cases h
                    refine WP.retR tysOk rfl rfl ⟨_, _, rfl, rfl, rfl⟩ (fun w1 hw1 => ⟨rfl, Ret.below_ hw1 (.cons (.tail (.tail (.tail (.tail (.tail (.tail (.tail (.tail .head)))))))) .nil)⟩)
                · rw [if_neg hh238] at h
                  refine WP.no rfl rfl (bfalse hh238) rfl rfl ?_
                  refine WP.no rfl rfl rfl rfl rfl ?_
                  refine WP.noU rfl rfl rfl rfl ?_
                  iterate 2 (refine WP.no rfl rfl rfl rfl rfl ?_)
                  iterate 2 (refine WP.st tysOk true rfl True.intro rfl rfl rfl rfl True.intro ?_)
                  iterate 3 (refine WP.no rfl rfl rfl rfl rfl ?_)
                  iterate 6 (refine WP.noU rfl rfl rfl rfl ?_)
                  refine WP.no rfl rfl rfl rfl rfl ?_
                  iterate 2 (refine WP.st tysOk true rfl True.intro rfl rfl rfl rfl True.intro ?_)
                  cases h
                  refine WP.retR tysOk rfl rfl ⟨_, _, rfl, rfl, rfl⟩ (fun w1 hw1 => ⟨rfl, Ret.below_ hw1 (.cons (.tail (.tail (.tail (.tail (.tail (.tail (.tail (.tail .head)))))))) .nil)⟩)
              · rw [if_neg hh237] at h
                refine WP.no rfl rfl (decide_eq_false hh237) rfl rfl ?_
                refine WP.no rfl rfl rfl rfl rfl ?_
                refine WP.yes rfl rfl rfl ?_
                refine WP.st tysOk true rfl True.intro rfl rfl rfl rfl True.intro ?_
                refine WP.yes rfl rfl rfl ?_
                iterate 3 (refine WP.st tysOk true rfl True.intro rfl rfl rfl rfl True.intro ?_)
                by_cases hh241 : (r38.2 == false) = true
                · rw [if_pos hh241] at h
                  refine WP.yes rfl rfl hh241 ?_
                  refine WP.st tysOk true rfl True.intro rfl rfl rfl rfl True.intro ?_
                  refine WP.yes rfl rfl rfl ?_
                  refine WP.st tysOk true rfl True.intro rfl rfl rfl rfl True.intro ?_
                  refine WP.no rfl rfl (bfalse hh227) rfl rfl ?_
                  refine WP.yes rfl rfl rfl ?_
                  refine WP.st tysOk true rfl True.intro rfl rfl rfl rfl True.intro ?_
                  refine WP.yes rfl rfl rfl ?_
                  iterate 3 (refine WP.st tysOk true rfl True.intro rfl rfl rfl rfl True.intro ?_)
                  iterate 3 (refine WP.yes rfl rfl rfl ?_; refine WP.st tysOk true rfl True.intro rfl rfl rfl rfl True.intro ?_)
                  by_cases hh242 : 2 < x1
                  · rw [if_pos hh242] at h
                    refine WP.yes rfl rfl (by simp [hh242]) ?_
                    iterate 2 (refine WP.st tysOk true rfl True.intro rfl rfl rfl rfl True.intro ?_; refine WP.yes rfl rfl rfl ?_)
                    refine WP.st tysOk true rfl True.intro rfl rfl rfl rfl True.intro ?_
                    by_cases hh243 : r39.2 = true
                    · rw [if_pos hh243] at h
                      refine WP.no rfl rfl (by simp [hh243]) rfl rfl ?_
                      refine WP.no rfl rfl rfl rfl rfl ?_
                      refine WP.yes rfl rfl rfl ?_
                      refine WP.st tysOk true rfl True.intro rfl rfl rfl rfl True.intro ?_
                      refine WP.yes rfl rfl rfl ?_
                      iterate 3 (refine WP.st tysOk true rfl True.intro rfl rfl rfl rfl True.intro ?_)
                      cases h
                      refine WP.retR tysOk rfl rfl ⟨_, _, rfl, rfl, rfl⟩ (fun w1 hw1 => ⟨rfl, Ret.below_ hw1 (.cons (.tail (.tail (.tail (.tail (.tail (.tail (.tail (.tail .head)))))))) .nil)⟩)
                    · rw [if_neg hh243] at h
                      refine WP.yes rfl rfl (by simp [hh243]) ?_
                      iterate 3 (refine WP.st tysOk true rfl True.intro rfl rfl rfl rfl True.intro ?_; refine WP.yes rfl rfl rfl ?_)
                      iterate 3 (refine WP.st tysOk true rfl True.intro rfl rfl rfl rfl True.intro ?_)
                      cases h
                      refine WP.retR tysOk rfl rfl ⟨_, _, rfl, rfl, rfl⟩ (fun w1 hw1 => ⟨rfl, Ret.below_ hw1 (.cons (.tail (.tail (.tail (.tail (.tail (.tail (.tail (.tail .head)))))))) .nil)⟩)
                  · rw [if_neg hh242] at h
                    refine WP.no rfl rfl (by simp [hh242]) rfl rfl ?_
                    iterate 2 (refine WP.no rfl rfl rfl rfl rfl ?_)
                    iterate 2 (refine WP.noU rfl rfl rfl rfl ?_)
                    refine WP.no rfl rfl rfl rfl rfl ?_
                    refine WP.yes rfl rfl rfl ?_
                    iterate 3 (refine WP.st tysOk true rfl True.intro rfl rfl rfl rfl True.intro ?_)
                    cases h
                    refine WP.retR tysOk rfl rfl ⟨_, _, rfl, rfl, rfl⟩ (fun w1 hw1 => ⟨rfl, Ret.below_ hw1 (.cons (.tail (.tail (.tail (.tail (.tail (.tail (.tail (.tail .head)))))))) .nil)⟩)
                · rw [if_neg hh241] at h
                  refine WP.no rfl rfl (bfalse hh241) rfl rfl ?_
                  refine WP.no rfl rfl rfl rfl rfl ?_
                  refine WP.noU rfl rfl rfl rfl ?_
                  iterate 2 (refine WP.no rfl rfl rfl rfl rfl ?_)
                  iterate 2 (refine WP.st tysOk true rfl True.intro rfl rfl rfl rfl True.intro ?_)
                  iterate 3 (refine WP.no rfl rfl rfl rfl rfl ?_)
                  iterate 6 (refine WP.noU rfl rfl rfl rfl ?_)
                  refine WP.no rfl rfl rfl rfl rfl ?_
                  iterate 2 (refine WP.st tysOk true rfl True.intro rfl rfl rfl rfl True.intro ?_)
                  cases h
                  refine WP.retR tysOk rfl rfl ⟨_, _, rfl, rfl, rfl⟩ (fun w1 hw1 => ⟨rfl, Ret.below_ hw1 (.cons (.tail (.tail (.tail (.tail (.tail (.tail (.tail (.tail .head)))))))) .nil)⟩)
          · rw [if_neg hh226] at h
            refine WP.no rfl rfl (bfalse hh226) rfl rfl ?_
            refine WP.no rfl rfl rfl rfl rfl ?_
            refine WP.noU rfl rfl rfl rfl ?_
            iterate 5 (refine WP.no rfl rfl rfl rfl rfl ?_)
            iterate 2 (refine WP.noU rfl rfl rfl rfl ?_)
            iterate 2 (refine WP.no rfl rfl rfl rfl rfl ?_)
            iterate 2 (refine WP.st tysOk true rfl True.intro rfl rfl rfl rfl True.intro ?_)
            iterate 2 (refine WP.no rfl rfl rfl rfl rfl ?_)
            refine WP.noU rfl rfl rfl rfl ?_
            iterate 2 (refine WP.no rfl rfl rfl rfl rfl ?_)
            iterate 2 (refine WP.st tysOk true rfl True.intro rfl rfl rfl rfl True.intro ?_)
            iterate 3 (refine WP.no rfl rfl rfl rfl rfl ?_)
            iterate 6 (refine WP.noU rfl rfl rfl rfl ?_)
            refine WP.no rfl rfl rfl rfl rfl ?_
            iterate 2 (refine WP.st tysOk true rfl True.intro rfl rfl rfl rfl True.intro ?_)
            cases h
            refine WP.retR tysOk rfl rfl ⟨_, _, rfl, rfl, rfl⟩ (fun w1 hw1 => ⟨rfl, Ret.below_ hw1 (.cons (.tail (.tail (.tail (.tail (.tail (.tail (.tail (.tail .head)))))))) .nil)⟩)
      · rw [if_neg hh210] at h
        refine WP.ldm tysOk rfl True.intro rfl rfl rfl rfl rfl rfl rfl (SegAt.blk' (.tail .head) rfl) ?_
        obtain ⟨r43, hg43, h⟩ := bind_some h
        refine WP.callV rfl rfl rfl rfl rfl rfl rfl (by kernel_rfl) (fun w1 hw1 => (two_Chain_w hg43 (InsZ.mk_ (hw1.ow (.tail (.tail .head)) hf1) (hw1.ow .head hf21)) :)) True.intro ?_
        iterate 3 (refine WP.st tysOk true rfl True.intro rfl rfl rfl rfl True.intro ?_)
        refine WP.al tysOk rfl rfl rfl rfl rfl rfl ?_
        intro g47
        refine WP.sto' tysOk [.int .i64 (r43.1.node), .int .i64 (r43.1.a), .int .i64 (r43.1.b), .int .i64 (r43.1.new.src), .int .i64 (r43.1.new.dst), .int .i64 (r43.1.new.low), .int .i64 (r43.1.new.cap), .int .i64 (r43.1.new.cost)] rfl rfl rfl rfl rfl rfl rfl rfl rfl .head rfl rfl ?_
        refine WP.st tysOk true rfl True.intro rfl rfl rfl rfl True.intro ?_
        refine WP.ldm tysOk rfl True.intro rfl rfl rfl rfl rfl rfl rfl (SegAt.blk' (.tail (.tail .head)) rfl) ?_
        obtain ⟨r44, hg44, h⟩ := bind_some h
        refine WP.callV rfl rfl rfl rfl rfl rfl rfl (by kernel_rfl) (fun w1 hw1 => (two_Split_w hg44 (InsZ.mk_ (hw1.ow (.tail (.tail (.tail .head))) hf1) (hw1.ow (.tail .head) hf21)) :)) True.intro ?_
        iterate 3 (refine WP.st tysOk true rfl True.intro rfl rfl rfl rfl True.intro ?_)
        refine WP.al tysOk rfl rfl rfl rfl rfl rfl ?_
        intro g48
        refine WP.sto' tysOk [.int .i64 (r44.1.node), .int .i64 (r44.1.a), .int .i64 (r44.1.b), .int .i64 (r44.1.new.src), .int .i64 (r44.1.new.dst), .int .i64 (r44.1.new.low), .int .i64 (r44.1.new.cap), .int .i64 (r44.1.new.cost)] rfl rfl rfl rfl rfl rfl rfl rfl rfl .head rfl rfl ?_
        refine WP.st tysOk true rfl True.intro rfl rfl rfl rfl True.intro ?_
        refine WP.ldm tysOk rfl True.intro rfl rfl rfl rfl rfl rfl rfl (SegAt.blk' (.tail (.tail (.tail .head))) rfl) ?_
        refine WP.st tysOk true rfl True.intro rfl rfl rfl rfl True.intro ?_
        obtain ⟨r45, hg45, h⟩ := bind_some h
        refine WP.callV rfl rfl rfl rfl rfl rfl rfl (by kernel_rfl) (fun w1 hw1 => (two_Chain_w hg45 (InsZ.mk_ (hw1.ow (.tail (.tail (.tail (.tail .head)))) hf1) (hw1.ow (.tail (.tail .head)) hf21)) :)) True.intro ?_
        iterate 3 (refine WP.st tysOk true rfl True.intro rfl rfl rfl rfl True.intro ?_)
        refine WP.al tysOk rfl rfl rfl rfl rfl rfl ?_
        intro g49
        refine WP.sto' tysOk [.int .i64 (r45.1.node), .int .i64 (r45.1.a), .int .i64 (r45.1.b), .int .i64 (r45.1.new.src), .int .i64 (r45.1.new.dst), .int .i64 (r45.1.new.low), .int .i64 (r45.1.new.cap), .int .i64 (r45.1.new.cost)] rfl rfl rfl rfl rfl rfl rfl rfl rfl .head rfl rfl ?_
        refine WP.st tysOk true rfl True.intro rfl rfl rfl rfl True.intro ?_
        refine WP.ldm tysOk rfl True.intro rfl rfl rfl rfl rfl rfl rfl (SegAt.blk' (.tail (.tail (.tail (.tail .head)))) rfl) ?_
        refine WP.st tysOk true rfl True.intro rfl rfl rfl rfl True.intro ?_
        obtain ⟨r46, hg46, h⟩ := bind_some h
        refine WP.callV rfl rfl rfl rfl rfl rfl rfl (by kernel_rfl) (fun w1 hw1 => (two_Split_w hg46 (InsZ.mk_ (hw1.ow (.tail (.tail (.tail (.tail (.tail .head))))) hf1) (hw1.ow (.tail (.tail (.tail .head))) hf21)) :)) True.intro ?_
        iterate 3 (refine WP.st tysOk true rfl True.intro rfl rfl rfl rfl True.intro ?_)
        refine WP.al tysOk rfl rfl rfl rfl rfl rfl ?_
        intro g50
        refine WP.sto' tysOk [.int .i64 (r46.1.node), .int .i64 (r46.1.a), .int .i64 (r46.1.b), .int .i64 (r46.1.new.src), .int .i64 (r46.1.new.dst), .int .i64 (r46.1.new.low), .int .i64 (r46.1.new.cap), .int .i64 (r46.1.new.cost)] rfl rfl rfl rfl rfl rfl rfl rfl rfl .head rfl rfl ?_
        iterate 4 (refine WP.st tysOk true rfl True.intro rfl rfl rfl rfl True.intro ?_)
        by_cases hh244 : x1 < 0
        · rw [if_pos hh244] at h
          refine WP.no rfl rfl (decide_eq_true hh244) rfl rfl ?_
          refine WP.no rfl rfl rfl rfl rfl ?_
          iterate 2 (refine WP.st tysOk true rfl True.intro rfl rfl rfl rfl True.intro ?_)
          obtain ⟨r47, hg47, h⟩ := bind_some h
          refine WP.callV rfl rfl rfl rfl rfl rfl rfl (by kernel_rfl) (fun w1 hw1 => (law18_known_w hg47  :)) True.intro ?_
          refine WP.st tysOk true rfl True.intro rfl rfl rfl rfl True.intro ?_
          by_cases hh245 : r47 = true
          · rw [if_pos hh245] at h
            refine WP.yes rfl rfl hh245 ?_
            refine WP.st tysOk true rfl True.intro rfl rfl rfl rfl True.intro ?_
            refine WP.yes rfl rfl rfl ?_
            refine WP.st tysOk true rfl True.intro rfl rfl rfl rfl True.intro ?_
            by_cases hh246 : r43.2 = true
            · rw [if_pos hh246] at h
              refine WP.no rfl rfl hh246 rfl rfl ?_
              iterate 2 (refine WP.yes rfl rfl rfl ?_; refine WP.st tysOk true rfl True.intro rfl rfl rfl rfl True.intro ?_)
              refine WP.yes rfl rfl rfl ?_
              refine WP.st tysOk true rfl True.intro rfl rfl rfl rfl (by decide) ?_
              iterate 2 (refine WP.yes rfl rfl rfl ?_; refine WP.st tysOk true rfl True.intro rfl rfl rfl rfl True.intro ?_)
              by_cases hh247 : (d1.tmod 5) = 2
              · rw [if_pos hh247] at h
                refine WP.yes rfl rfl (decide_eq_true hh247) ?_
                iterate 3 (refine WP.st tysOk true rfl True.intro rfl rfl rfl rfl True.intro ?_; refine WP.yes rfl rfl rfl ?_)
                iterate 3 (refine WP.st tysOk true rfl True.intro rfl rfl rfl rfl True.intro ?_)
                by_cases hh248 : (true == (!(decide (128 ≤ i1)))) = true
                · rw [if_pos hh248] at h
                  refine WP.yes rfl rfl hh248 ?_
                  refine WP.st tysOk true rfl True.intro rfl rfl rfl rfl True.intro ?_
                  refine WP.yes rfl rfl rfl ?_
                  refine WP.st tysOk true rfl True.intro rfl rfl rfl rfl True.intro ?_
                  refine WP.yes rfl rfl hh246 ?_
                  iterate 2 (refine WP.st tysOk true rfl True.intro rfl rfl rfl rfl True.intro ?_; refine WP.yes rfl rfl rfl ?_)
                  iterate 3 (refine WP.st tysOk true rfl True.intro rfl rfl rfl rfl True.intro ?_)
                  by_cases hh249 : r44.2 = true
                  · rw [if_pos hh249] at h
                    refine WP.no rfl rfl (by simp [hh249]) rfl rfl ?_
                    iterate 2 (refine WP.no rfl rfl rfl rfl rfl ?_)
                    iterate 6 (refine WP.noU rfl rfl rfl rfl ?_)
                    refine WP.no rfl rfl rfl rfl rfl ?_
                    iterate 2 (refine WP.st tysOk true rfl True.intro rfl rfl rfl rfl True.intro ?_)
                    cases h
                    refine WP.retR tysOk rfl rfl ⟨_, _, rfl, rfl, rfl⟩ (fun w1 hw1 => ⟨rfl, Ret.below_ hw1 (.cons (.tail (.tail (.tail (.tail (.tail (.tail (.tail .head))))))) .nil)⟩)
                  · rw [if_neg hh249] at h
                    refine WP.yes rfl rfl (by simp [hh249]) ?_
                    iterate 5 (refine WP.st tysOk true rfl True.intro rfl rfl rfl rfl True.intro ?_; refine WP.yes rfl rfl rfl ?_)
                    refine WP.st tysOk true rfl True.intro rfl rfl rfl rfl True.intro ?_
                    by_cases hh250 : r45.2 = true
                    · rw [if_pos hh250] at h
                      refine WP.no rfl rfl (by simp [hh250]) rfl rfl ?_
                      refine WP.no rfl rfl rfl rfl rfl ?_
                      refine WP.yes rfl rfl rfl ?_
                      refine WP.st tysOk true rfl True.intro rfl rfl rfl rfl True.intro ?_
                      refine WP.yes rfl rfl rfl ?_
                      iterate 3 (refine WP.st tysOk true rfl True.intro rfl rfl rfl rfl True.intro ?_)
                      cases h
                      refine WP.retR tysOk rfl rfl ⟨_, _, rfl, rfl, rfl⟩ (fun w1 hw1 => ⟨rfl, Ret.below_ hw1 (.cons (.tail (.tail (.tail (.tail (.tail (.tail (.tail .head))))))) .nil)⟩)
                    · rw [if_neg hh250] at h
                      refine WP.yes rfl rfl (by simp [hh250]) ?_
                      iterate 3 (refine WP.st tysOk true rfl True.intro rfl rfl rfl rfl True.intro ?_; refine WP.yes rfl rfl rfl ?_)
                      iterate 3 (refine WP.st tysOk true rfl True.intro rfl rfl rfl rfl True.intro ?_)
                      cases h
                      refine WP.retR tysOk rfl rfl ⟨_, _, rfl, rfl, rfl⟩ (fun w1 hw1 => ⟨rfl, Ret.below_ hw1 (.cons (.tail (.tail (.tail (.tail (.tail (.tail (.tail .head))))))) .nil)⟩)
                · rw [if_neg hh248] at h
                  refine WP.no rfl rfl (bfalse hh248) rfl rfl ?_
                  refine WP.no rfl rfl rfl rfl rfl ?_
                  refine WP.noU rfl rfl rfl rfl ?_
                  iterate 2 (refine WP.no rfl rfl rfl rfl rfl ?_)
                  iterate 2 (refine WP.st tysOk true rfl True.intro rfl rfl rfl rfl True.intro ?_)
                  iterate 3 (refine WP.no rfl rfl rfl rfl rfl ?_)
                  iterate 6 (refine WP.noU rfl rfl rfl rfl ?_)
                  refine WP.no rfl rfl rfl rfl rfl ?_
                  iterate 2 (refine WP.st tysOk true rfl True.intro rfl rfl rfl rfl True.intro ?_)
                  cases h
                  refine WP.retR tysOk rfl rfl ⟨_, _, rfl, rfl, rfl⟩ (fun w1 hw1 => ⟨rfl, Ret.below_ hw1 (.cons (.tail (.tail (.tail (.tail (.tail (.tail (.tail .head))))))) .nil)⟩)
              · rw [if_neg hh247] at h
                refine WP.no rfl rfl (decide_eq_false hh247) rfl rfl ?_
                refine WP.no rfl rfl rfl rfl rfl ?_
                refine WP.yes rfl rfl rfl ?_
                refine WP.st tysOk true rfl True.intro rfl rfl rfl rfl True.intro ?_
                refine WP.yes rfl rfl rfl ?_
                iterate 3 (refine WP.st tysOk true rfl True.intro rfl rfl rfl rfl True.intro ?_)
                by_cases hh251 : (true == false) = true
                · rw [if_pos hh251] at h
                  refine WP.yes rfl rfl hh251 ?_
                  refine WP.st tysOk true rfl True.intro rfl rfl rfl rfl True.intro ?_
                  refine WP.yes rfl rfl rfl ?_
                  refine WP.st tysOk true rfl True.intro rfl rfl rfl rfl True.intro ?_
                  refine WP.yes rfl rfl hh246 ?_
                  iterate 2 (refine WP.st tysOk true rfl True.intro rfl rfl rfl rfl True.intro ?_; refine WP.yes rfl rfl rfl ?_)
                  iterate 3 (refine WP.st tysOk true rfl True.intro rfl rfl rfl rfl True.intro ?_)
                  by_cases hh252 : r44.2 = true
                  · rw [if_pos hh252] at h
                    refine WP.no rfl rfl (by simp [hh252]) rfl rfl ?_
                    iterate 2 (refine WP.no rfl rfl rfl rfl rfl ?_)
                    iterate 6 (refine WP.noU rfl rfl rfl rfl ?_)
                    refine WP.no rfl rfl rfl rfl rfl ?_
                    iterate 2 (refine WP.st tysOk true rfl True.intro rfl rfl rfl rfl True.intro ?_)
                    cases h
                    refine WP.retR tysOk rfl rfl ⟨_, _, rfl, rfl, rfl⟩ (fun w1 hw1 => ⟨rfl, Ret.below_ hw1 (.cons (.tail (.tail (.tail (.tail (.tail (.tail (.tail .head))))))) .nil)⟩)
                  · rw [if_neg hh252] at h
                    refine WP.yes rfl rfl (by simp [hh252]) ?_
                    iterate 5 (refine WP.st tysOk true rfl True.intro rfl rfl rfl rfl True.intro ?_; refine WP.yes rfl rfl rfl ?_)
                    refine WP.st tysOk true rfl True.intro rfl rfl rfl rfl True.intro ?_
                    by_cases hh253 : r45.2 = true
                    · rw [if_pos hh253] at h
                      refine WP.no rfl rfl (by simp [hh253]) rfl rfl ?_
                      refine WP.no rfl rfl rfl rfl rfl ?_
                      refine WP.yes rfl rfl rfl ?_
                      refine WP.st tysOk true rfl True.intro rfl rfl rfl rfl True.intro ?_
                      refine WP.yes rfl rfl rfl ?_
                      iterate 3 (refine WP.st tysOk true rfl True.intro rfl rfl rfl rfl True.intro ?_)
                      cases h
                      refine WP.retR tysOk rfl rfl ⟨_, _, rfl, rfl, rfl⟩ (fun w1 hw1 => ⟨rfl, Ret.below_ hw1 (.cons (.tail (.tail (.tail (.tail (.tail (.tail (.tail .head))))))) .nil)⟩)
                    · rw [if_neg hh253] at h
                      refine WP.yes rfl rfl (by simp [hh253]) ?_
                      iterate 3 (refine WP.st tysOk true rfl True.intro rfl rfl rfl rfl True.intro ?_; refine WP.yes rfl rfl rfl ?_)
                      iterate 3 (refine WP.st tysOk true rfl True.intro rfl rfl rfl rfl True.intro ?_)
                      cases h
                      refine WP.retR tysOk rfl rfl ⟨_, _, rfl, rfl, rfl⟩ (fun w1 hw1 => ⟨rfl, Ret.below_ hw1 (.cons (.tail (.tail (.tail (.tail (.tail (.tail (.tail .head))))))) .nil)⟩)
                · rw [if_neg hh251] at h
                  refine WP.no rfl rfl (bfalse hh251) rfl rfl ?_
                  refine WP.no rfl rfl rfl rfl rfl ?_
                  refine WP.noU rfl rfl rfl rfl ?_
                  iterate 2 (refine WP.no rfl rfl rfl rfl rfl ?_)
                  iterate 2 (refine WP.st tysOk true rfl True.intro rfl rfl rfl rfl True.intro ?_)
                  iterate 3 (refine WP.no rfl rfl rfl rfl rfl ?_)
                  iterate 6 (refine WP.noU rfl rfl rfl rfl ?_)
                  refine WP.no rfl rfl rfl rfl rfl ?_
                  iterate 2 (refine WP.st tysOk true rfl True.intro rfl rfl rfl rfl True.intro ?_)
                  cases h
                  refine WP.retR tysOk rfl rfl ⟨_, _, rfl, rfl, rfl⟩ (fun w1 hw1 => ⟨rfl, Ret.below_ hw1 (.cons (.tail (.tail (.tail (.tail (.tail (.tail (.tail .head))))))) .nil)⟩)
            · rw [if_neg hh246] at h
              refine WP.yes rfl rfl (bfalse hh246) ?_
              iterate 3 (refine WP.st tysOk true rfl True.intro rfl rfl rfl rfl True.intro ?_; refine WP.yes rfl rfl rfl ?_)
              refine WP.st tysOk true rfl True.intro rfl rfl rfl rfl (by decide) ?_
              iterate 2 (refine WP.yes rfl rfl rfl ?_; refine WP.st tysOk true rfl True.intro rfl rfl rfl rfl True.intro ?_)
              by_cases hh254 : (d1.tmod 5) = 2
              · rw [if_pos hh254] at h
                refine WP.yes rfl rfl (decide_eq_true hh254) ?_
                iterate 3 (refine WP.st tysOk true rfl True.intro rfl rfl rfl rfl True.intro ?_; refine WP.yes rfl rfl rfl ?_)
                iterate 3 (refine WP.st tysOk true rfl True.intro rfl rfl rfl rfl True.intro ?_)
                by_cases hh255 : (r44.2 == (!(decide (128 ≤ i1)))) = true
                · rw [if_pos hh255] at h
                  refine WP.yes rfl rfl hh255 ?_
                  refine WP.st tysOk true rfl True.intro rfl rfl rfl rfl True.intro ?_
                  refine WP.yes rfl rfl rfl ?_
                  refine WP.st tysOk true rfl True.intro rfl rfl rfl rfl True.intro ?_
                  refine WP.no rfl rfl (bfalse hh246) rfl rfl ?_
                  refine WP.yes rfl rfl rfl ?_
                  refine WP.st tysOk true rfl True.intro rfl rfl rfl rfl True.intro ?_
                  refine WP.yes rfl rfl rfl ?_
                  iterate 3 (refine WP.st tysOk true rfl True.intro rfl rfl rfl rfl True.intro ?_)
                  iterate 6 (refine WP.yes rfl rfl rfl ?_; refine WP.st tysOk true rfl True.intro rfl rfl rfl rfl True.intro ?_)
                  by_cases hh256 : r45.2 = true
                  · rw [if_pos hh256] at h
                    refine WP.no rfl rfl (by simp [hh256]) rfl rfl ?_
                    refine WP.no rfl rfl rfl rfl rfl ?_
                    refine WP.yes rfl rfl rfl ?_
                    refine WP.st tysOk true rfl True.intro rfl rfl rfl rfl True.intro ?_
                    refine WP.yes rfl rfl rfl ?_
                    iterate 3 (refine WP.st tysOk true rfl True.intro rfl rfl rfl rfl True.intro ?_)
                    cases h
                    refine WP.retR tysOk rfl rfl ⟨_, _, rfl, rfl, rfl⟩ (fun w1 hw1 => ⟨rfl, Ret.below_ hw1 (.cons (.tail (.tail (.tail (.tail (.tail (.tail (.tail .head))))))) .nil)⟩)
                  · rw [if_neg hh256] at h
                    refine WP.yes rfl rfl (by simp [hh256]) ?_
                    iterate 3 (refine WP.st tysOk true rfl True.intro rfl rfl rfl rfl True.intro ?_; refine WP.yes rfl rfl rfl ?_)
                    iterate 3 (refine WP.st tysOk true rfl True.intro rfl rfl rfl rfl True.intro ?_)
                    cases h
                    refine WP.retR tysOk rfl rfl ⟨_, _, rfl, rfl, rfl⟩ (fun w1 hw1 => ⟨rfl, Ret.below_ hw1 (.cons (.tail (.tail (.tail (.tail (.tail (.tail (.tail .head))))))) .nil)⟩)
                · rw [if_neg hh255] at h
                  refine WP.no rfl rfl (bfalse hh255) rfl rfl ?_
                  refine WP.no rfl rfl rfl rfl rfl ?_
                  refine WP.noU rfl rfl rfl rfl ?_
                  iterate 2 (refine WP.no rfl rfl rfl rfl rfl ?_)
                  iterate 2 (refine WP.st tysOk true rfl True.intro rfl rfl rfl rfl True.intro ?_)
                  iterate 3 (refine WP.no rfl rfl rfl rfl rfl ?_)
                  iterate 6 (refine WP.noU rfl rfl rfl rfl ?_)
                  refine WP.no rfl rfl rfl rfl rfl ?_
                  iterate 2 (refine WP.st tysOk true rfl True.intro rfl rfl rfl rfl True.intro ?_)
                  cases h
                  refine WP.retR tysOk rfl rfl ⟨_, _, rfl, rfl, rfl⟩ (fun w1 hw1 => ⟨rfl, Ret.below_ hw1 (.cons (.tail (.tail (.tail (.tail (.tail (.tail (.tail .head))))))) .nil)⟩)
              · rw [if_neg hh254] at h
                refine WP.no rfl rfl (decide_eq_false hh254) rfl rfl ?_
                refine WP.no rfl rfl rfl rfl rfl ?_
                refine WP.yes rfl rfl rfl ?_
                refine WP.st tysOk true rfl True.intro rfl rfl rfl rfl True.intro ?_
                refine WP.yes rfl rfl rfl ?_
                iterate 3 (refine WP.st tysOk true rfl True.intro rfl rfl rfl rfl True.intro ?_)
                by_cases hh257 : (r44.2 == false) = true
                · rw [if_pos hh257] at h
                  refine WP.yes rfl rfl hh257 ?_
                  refine WP.st tysOk true rfl True.intro rfl rfl rfl rfl True.intro ?_
                  refine WP.yes rfl rfl rfl ?_
                  refine WP.st tysOk true rfl True.intro rfl rfl rfl rfl True.intro ?_
                  refine WP.no rfl rfl (bfalse hh246) rfl rfl ?_
                  refine WP.yes rfl rfl rfl ?_
                  refine WP.st tysOk true rfl True.intro rfl rfl rfl rfl True.intro ?_
                  refine WP.yes rfl rfl rfl ?_
                  iterate 3 (refine WP.st tysOk true rfl True.intro rfl rfl rfl rfl True.intro ?_)
                  iterate 6 (refine WP.yes rfl rfl rfl ?_; refine WP.st tysOk true rfl True.intro rfl rfl rfl rfl True.intro ?_)
                  by_cases hh258 : r45.2 = true
                  · rw [if_pos hh258] at h
                    refine WP.no rfl rfl (by simp [hh258]) rfl rfl ?_
                    refine WP.no rfl rfl rfl rfl rfl ?_
                    refine WP.yes rfl rfl rfl ?_
                    refine WP.st tysOk true rfl True.intro rfl rfl rfl rfl True.intro ?_
                    refine WP.yes rfl rfl rfl ?_
                    iterate 3 (refine WP.st tysOk true rfl True.intro rfl rfl rfl rfl True.intro ?_)
                    cases h
                    refine WP.retR tysOk rfl rfl ⟨_, _, rfl, rfl, rfl⟩ (fun w1 hw1 => ⟨rfl, Ret.below_ hw1 (.cons (.tail (.tail (.tail (.tail (.tail (.tail (.tail .head))))))) .nil)⟩)
                  · rw [if_neg hh258] at h
                    refine WP.yes rfl rfl (by simp [hh258]) ?_
                    iterate 3 (refine WP.st tysOk true rfl True.intro rfl rfl rfl rfl True.intro ?_; refine WP.yes rfl rfl rfl ?_)
                    iterate 3 (refine WP.st tysOk true rfl True.intro rfl rfl rfl rfl True.intro ?_)
                    cases h
                    refine WP.retR tysOk rfl rfl ⟨_, _, rfl, rfl, rfl⟩ (fun w1 hw1 => ⟨rfl, Ret.below_ hw1 (.cons (.tail (.tail (.tail (.tail (.tail (.tail (.tail .head))))))) .nil)⟩)
                · rw [if_neg hh257] at h
                  refine WP.no rfl rfl (bfalse hh257) rfl rfl ?_
                  refine WP.no rfl rfl rfl rfl rfl ?_
                  refine WP.noU rfl rfl rfl rfl ?_
                  iterate 2 (refine WP.no rfl rfl rfl rfl rfl ?_)
                  iterate 2 (refine WP.st tysOk true rfl True.intro rfl rfl rfl rfl True.intro ?_)
                  iterate 3 (refine WP.no rfl rfl rfl rfl rfl ?_)
                  iterate 6 (refine WP.noU rfl rfl rfl rfl ?_)
                  refine WP.no rfl rfl rfl rfl rfl ?_
                  iterate 2 (refine WP.st tysOk true rfl True.intro rfl rfl rfl rfl True.intro ?_)
                  cases h
                  refine WP.retR tysOk rfl rfl ⟨_, _, rfl, rfl, rfl⟩ (fun w1 hw1 => ⟨rfl, Ret.below_ hw1 (.cons (.tail (.tail (.tail (.tail (.tail (.tail (.tail .head))))))) .nil)⟩)
          · rw [if_neg hh245] at h
            refine WP.no rfl rfl (bfalse hh245) rfl rfl ?_
            refine WP.no rfl rfl rfl rfl rfl ?_
            refine WP.noU rfl rfl rfl rfl ?_
            iterate 5 (refine WP.no rfl rfl rfl rfl rfl ?_)
            iterate 2 (refine WP.noU rfl rfl rfl rfl ?_)
            iterate 2 (refine WP.no rfl rfl rfl rfl rfl ?_)
            iterate 2 (refine WP.st tysOk true rfl True.intro rfl rfl rfl rfl True.intro ?_)
            iterate 2 (refine WP.no rfl rfl rfl rfl rfl ?_)
            refine WP.noU rfl rfl rfl rfl ?_
            iterate 2 (refine WP.no rfl rfl rfl rfl rfl ?_)
            iterate 2 (refine WP.st tysOk true rfl True.intro rfl rfl rfl rfl True.intro ?_)
            iterate 3 (refine WP.no rfl rfl rfl rfl rfl ?_)
            iterate 6 (refine WP.noU rfl rfl rfl rfl ?_)
            refine WP.no rfl rfl rfl rfl rfl ?_
            iterate 2 (refine WP.st tysOk true rfl True.intro rfl rfl rfl rfl True.intro ?_)
            cases h
            refine WP.retR tysOk rfl rfl ⟨_, _, rfl, rfl, rfl⟩ (fun w1 hw1 => ⟨rfl, Ret.below_ hw1 (.cons (.tail (.tail (.tail (.tail (.tail (.tail (.tail .head))))))) .nil)⟩)
        · rw [if_neg hh244] at h
          refine WP.yes rfl rfl (decide_eq_false hh244) ?_
          refine WP.st tysOk true rfl True.intro rfl rfl rfl rfl True.intro ?_
          refine WP.yes rfl rfl rfl ?_
          iterate 3 (refine WP.st tysOk true rfl True.intro rfl rfl rfl rfl True.intro ?_)
          obtain ⟨r48, hg48, h⟩ := bind_some h
          refine WP.callV rfl rfl rfl rfl rfl rfl rfl (by kernel_rfl) (fun w1 hw1 => (law18_known_w hg48  :)) True.intro ?_
          refine WP.st tysOk true rfl True.intro rfl rfl rfl rfl True.intro ?_
          by_cases hh259 : r48 = true
          · rw [if_pos hh259] at h
            refine WP.yes rfl rfl hh259 ?_
            refine WP.st tysOk true rfl True.intro rfl rfl rfl rfl True.intro ?_
            refine WP.yes rfl rfl rfl ?_
            refine WP.st tysOk true rfl True.intro rfl rfl rfl rfl True.intro ?_
            by_cases hh260 : r43.2 = true
            · rw [if_pos hh260] at h
              refine WP.no rfl rfl hh260 rfl rfl ?_
              iterate 2 (refine WP.yes rfl rfl rfl ?_; refine WP.st tysOk true rfl True.intro rfl rfl rfl rfl True.intro ?_)
              refine WP.yes rfl rfl rfl ?_
              refine WP.st tysOk true rfl True.intro rfl rfl rfl rfl (by decide) ?_
              iterate 2 (refine WP.yes rfl rfl rfl ?_; refine WP.st tysOk true rfl True.intro rfl rfl rfl rfl True.intro ?_)
              by_cases hh261 : (d1.tmod 5) = 2
              · rw [if_pos hh261] at h
                refine WP.yes rfl rfl (decide_eq_true hh261) ?_
                iterate 3 (refine WP.st tysOk true rfl True.intro rfl rfl rfl rfl True.intro ?_; refine WP.yes rfl rfl rfl ?_)
                iterate 3 (refine WP.st tysOk true rfl True.intro rfl rfl rfl rfl True.intro ?_)
                by_cases hh262 : (true == (!(decide (128 ≤ i1)))) = true
                · rw [if_pos hh262] at h
                  refine WP.yes rfl rfl hh262 ?_
                  refine WP.st tysOk true rfl True.intro rfl rfl rfl rfl True.intro ?_
                  refine WP.yes rfl rfl rfl ?_
                  refine WP.st tysOk true rfl True.intro rfl rfl rfl rfl True.intro ?_
                  refine WP.yes rfl rfl hh260 ?_
                  iterate 2 (refine WP.st tysOk true rfl True.intro rfl rfl rfl rfl True.intro ?_; refine WP.yes rfl rfl rfl ?_)
                  iterate 3 (refine WP.st tysOk true rfl True.intro rfl rfl rfl rfl True.intro ?_)
                  by_cases hh263 : r44.2 = true
                  · rw [if_pos hh263] at h
                    refine WP.no rfl rfl (by simp [hh263]) rfl rfl ?_
                    iterate 2 (refine WP.no rfl rfl rfl rfl rfl ?_)
                    iterate 6 (refine WP.noU rfl rfl rfl rfl ?_)
                    refine WP.no rfl rfl rfl rfl rfl ?_
                    iterate 2 (refine WP.st tysOk true rfl True.intro rfl rfl rfl rfl True.intro ?_)
                    cases h
                    refine WP.retR tysOk rfl rfl ⟨_, _, rfl, rfl, rfl⟩ (fun w1 hw1 => ⟨rfl, Ret.below_ hw1 (.cons (.tail (.tail (.tail (.tail (.tail (.tail (.tail .head))))))) .nil)⟩)
                  · rw [if_neg hh263] at h
                    refine WP.yes rfl rfl (by simp [hh263]) ?_
                    iterate 2 (refine WP.st tysOk true rfl True.intro rfl rfl rfl rfl True.intro ?_; refine WP.yes rfl rfl rfl ?_)
                    refine WP.st tysOk true rfl True.intro rfl rfl rfl rfl True.intro ?_
                    by_cases hh264 : 2 < x1
                    · rw [if_pos hh264] at h
                      refine WP.yes rfl rfl (by simp [hh264]) ?_
                      iterate 2 (refine WP.st tysOk true rfl True.intro rfl rfl rfl rfl True.intro ?_; refine WP.yes rfl rfl rfl ?_)
                      refine WP.st tysOk true rfl True.intro rfl rfl rfl rfl True.intro ?_
                      by_cases hh265 : r45.2 = true
                      · rw [if_pos hh265] at h
                        refine WP.no rfl rfl (by simp [hh265]) rfl rfl ?_
                        refine WP.no rfl rfl rfl rfl rfl ?_
                        refine WP.yes rfl rfl rfl ?_
                        refine WP.st tysOk true rfl True.intro rfl rfl rfl rfl True.intro ?_
                        refine WP.yes rfl rfl rfl ?_
                        iterate 3 (refine WP.st tysOk true rfl True.intro rfl rfl rfl rfl True.intro ?_)
                        cases h
                        refine WP.retR tysOk rfl rfl ⟨_, _, rfl, rfl, rfl⟩ (fun w1 hw1 => ⟨rfl, Ret.below_ hw1 (.cons (.tail (.tail (.tail (.tail (.tail (.tail (.tail .head))))))) .nil)⟩)
                      · rw [if_neg hh265] at h
                        refine WP.yes rfl rfl (by simp [hh265]) ?_
                        iterate 3 (refine WP.st tysOk true rfl True.intro rfl rfl rfl rfl True.intro ?_; refine WP.yes rfl rfl rfl ?_)
                        iterate 3 (refine WP.st tysOk true rfl True.intro rfl rfl rfl rfl True.intro ?_)
                        cases h
                        refine WP.retR tysOk rfl rfl ⟨_, _, rfl, rfl, rfl⟩ (fun w1 hw1 => ⟨rfl, Ret.below_ hw1 (.cons (.tail (.tail (.tail (.tail (.tail (.tail (.tail .head))))))) .nil)⟩)
                    · rw [if_neg hh264] at h
                      refine WP.no rfl rfl (by simp [hh264]) rfl rfl ?_
                      iterate 2 (refine WP.no rfl rfl rfl rfl rfl ?_)
                      iterate 2 (refine WP.noU rfl rfl rfl rfl ?_)
                      refine WP.no rfl rfl rfl rfl rfl ?_
                      refine WP.yes rfl rfl rfl ?_
                      iterate 3 (refine WP.st tysOk true rfl True.intro rfl rfl rfl rfl True.intro ?_)
                      cases h
                      refine WP.retR tysOk rfl rfl ⟨_, _, rfl, rfl, rfl⟩ (fun w1 hw1 => ⟨rfl, Ret.below_ hw1 (.cons (.tail (.tail (.tail (.tail (.tail (.tail (.tail .head))))))) .nil)⟩)
                · rw [if_neg hh262] at h
                  refine WP.no rfl rfl (bfalse hh262) rfl rfl ?_
                  refine WP.no rfl rfl rfl rfl rfl ?_
                  refine WP.noU rfl rfl rfl rfl ?_
                  iterate 2 (refine WP.no rfl rfl rfl rfl rfl ?_)
                  iterate 2 (refine WP.st tysOk true rfl True.intro rfl rfl rfl rfl True.intro ?_)
                  iterate 3 (refine WP.no rfl rfl rfl rfl rfl ?_)
                  iterate 6 (refine WP.noU rfl rfl rfl rfl ?_)
                  refine WP.no rfl rfl rfl rfl rfl ?_
                  iterate 2 (refine WP.st tysOk true rfl True.intro rfl rfl rfl rfl True.intro ?_)
                  cases h
                  refine WP.retR tysOk rfl rfl ⟨_, _, rfl, rfl, rfl⟩ (fun w1 hw1 => ⟨rfl, Ret.below_ hw1 (.cons (.tail (.tail (.tail (.tail (.tail (.tail (.tail .head))))))) .nil)⟩)
              · rw [if_neg hh261] at h
                refine WP.no rfl rfl (decide_eq_false hh261) rfl rfl ?_
                refine WP.no rfl rfl rfl rfl rfl ?_
                refine WP.yes rfl rfl rfl ?_
                refine WP.st tysOk true rfl True.intro rfl rfl rfl rfl True.intro ?_
                refine WP.yes rfl rfl rfl ?_
                iterate 3 (refine WP.st tysOk true rfl True.intro rfl rfl rfl rfl True.intro ?_)
                by_cases hh266 : (true == false) = true
                · rw [if_pos hh266] at h
                  refine WP.yes rfl rfl hh266 ?_
                  refine WP.st tysOk true rfl True.intro rfl rfl rfl rfl True.intro ?_
                  refine WP.yes rfl rfl rfl ?_
                  refine WP.st tysOk true rfl True.intro rfl rfl rfl rfl True.intro ?_
                  refine WP.yes rfl rfl hh260 ?_
                  iterate 2 (refine WP.st tysOk true rfl True.intro rfl rfl rfl rfl True.intro ?_; refine WP.yes rfl rfl rfl ?_)
                  iterate 3 (refine WP.st tysOk true rfl True.intro rfl rfl rfl rfl True.intro ?_)
                  by_cases hh267 : r44.2 = true
                  · rw [if_pos hh267] at h
                    refine WP.no rfl rfl (by simp [hh267]) rfl rfl ?_
                    iterate 2 (refine WP.no rfl rfl rfl rfl rfl ?_)
                    iterate 6 (refine WP.noU rfl rfl rfl rfl ?_)
                    refine WP.no rfl rfl rfl rfl rfl ?_
                    iterate 2 (refine WP.st tysOk true rfl True.intro rfl rfl rfl rfl True.intro ?_)
                    cases h
                    refine WP.retR tysOk rfl rfl ⟨_, _, rfl, rfl, rfl⟩ (fun w1 hw1 => ⟨rfl, Ret.below_ hw1 (.cons (.tail (.tail (.tail (.tail (.tail (.tail (.tail .head))))))) .nil)⟩)
                  · rw [if_neg hh267] at h
                    refine WP.yes rfl rfl (by simp [hh267]) ?_
                    iterate 2 (refine WP.st tysOk true rfl True.intro rfl rfl rfl rfl True.intro ?_; refine WP.yes rfl rfl rfl ?_)
                    refine WP.st tysOk true rfl True.intro rfl rfl rfl rfl True.intro ?_
                    by_cases hh268 : 2 < x1
                    · rw [if_pos hh268] at h
                      refine WP.yes rfl rfl (by simp [hh268]) ?_
                      iterate 2 (refine WP.st tysOk true rfl True.intro rfl rfl rfl rfl True.intro ?_; refine WP.yes rfl rfl rfl ?_)
                      refine WP.st tysOk true rfl True.intro rfl rfl rfl rfl True.intro ?_
                      by_cases hh269 : r45.2 = true
                      · rw [if_pos hh269] at h
                        refine WP.no rfl rfl (by simp [hh269]) rfl rfl ?_
                        refine WP.no rfl rfl rfl rfl rfl ?_
                        refine WP.yes rfl rfl rfl ?_
                        refine WP.st tysOk true rfl True.intro rfl rfl rfl rfl True.intro ?_
                        refine WP.yes rfl rfl rfl ?_
                        iterate 3 (refine WP.st tysOk true rfl True.intro rfl rfl rfl rfl True.intro ?_)
                        cases h
                        refine WP.retR tysOk rfl rfl ⟨_, _, rfl, rfl, rfl⟩ (fun w1 hw1 => ⟨rfl, Ret.below_ hw1 (.cons (.tail (.tail (.tail (.tail (.tail (.tail (.tail .head))))))) .nil)⟩)
                      · rw [if_neg hh269] at h
                        refine WP.yes rfl rfl (by simp [hh269]) ?_
                        iterate 3 (refine WP.st tysOk true rfl True.intro rfl rfl rfl rfl True.intro ?_; refine WP.yes rfl rfl rfl ?_)
                        iterate 3 (refine WP.st tysOk true rfl True.intro rfl rfl rfl rfl True.intro ?_)
                        cases h
                        refine WP.retR tysOk rfl rfl ⟨_, _, rfl, rfl, rfl⟩ (fun w1 hw1 => ⟨rfl, Ret.below_ hw1 (.cons (.tail (.tail (.tail (.tail (.tail (.tail (.tail .head))))))) .nil)⟩)
                    · rw [if_neg hh268] at h
                      refine WP.no rfl rfl (by simp [hh268]) rfl rfl ?_
                      iterate 2 (refine WP.no rfl rfl rfl rfl rfl ?_)
                      iterate 2 (refine WP.noU rfl rfl rfl rfl ?_)
                      refine WP.no rfl rfl rfl rfl rfl ?_
                      refine WP.yes rfl rfl rfl ?_
                      iterate 3 (refine WP.st tysOk true rfl True.intro rfl rfl rfl rfl True.intro ?_)
                      cases h
                      refine WP.retR tysOk rfl rfl ⟨_, _, rfl, rfl, rfl⟩ (fun w1 hw1 => ⟨rfl, Ret.below_ hw1 (.cons (.tail (.tail (.tail (.tail (.tail (.tail (.tail .head))))))) .nil)⟩)
                · rw [if_neg hh266] at h
                  refine WP.no rfl rfl (bfalse hh266) rfl rfl ?_
                  refine WP.no rfl rfl rfl rfl rfl ?_
                  refine WP.noU rfl rfl rfl rfl ?_
                  iterate 2 (refine WP.no rfl rfl rfl rfl rfl ?_)
                  iterate 2 (refine WP.st tysOk true rfl True.intro rfl rfl rfl rfl True.intro ?_)
                  iterate 3 (refine WP.no rfl rfl rfl rfl rfl ?_)
                  iterate 6 (refine WP.noU rfl rfl rfl rfl ?_)
                  refine WP.no rfl rfl rfl rfl rfl ?_
                  iterate 2 (refine WP.st tysOk true rfl True.intro rfl rfl rfl rfl True.intro ?_)
                  cases h
                  refine WP.retR tysOk rfl rfl ⟨_, _, rfl, rfl, rfl⟩ (fun w1 hw1 => ⟨rfl, Ret.below_ hw1 (.cons (.tail (.tail (.tail (.tail (.tail (.tail (.tail .head))))))) .nil)⟩)
            · rw [if_neg hh260] at h
              refine WP.yes rfl rfl (bfalse hh260) ?_
              iterate 3 (refine WP.st tysOk true rfl True.intro rfl rfl rfl rfl True.intro ?_; refine WP.yes rfl rfl rfl ?_)
              refine WP.st tysOk true rfl True.intro rfl rfl rfl rfl (by decide) ?_
              iterate 2 (refine WP.yes rfl rfl rfl ?_; refine WP.st tysOk true rfl True.intro rfl rfl rfl rfl True.intro ?_)
              by_cases hh270 : (d1.tmod 5) = 2
              · rw [if_pos hh270] at h
                refine WP.yes rfl rfl (decide_eq_true hh270) ?_
                iterate 3 (refine WP.st tysOk true rfl True.intro rfl rfl rfl rfl True.intro ?_; refine WP.yes rfl rfl rfl ?_)
                iterate 3 (refine WP.st tysOk true rfl True.intro rfl rfl rfl rfl True.intro ?_)
                by_cases hh271 : (r44.2 == (!(decide (128 ≤ i1)))) = true
                · rw [if_pos hh271] at h
                  refine WP.yes rfl rfl hh271 ?_
                  refine WP.st tysOk true rfl True.intro rfl rfl rfl rfl True.intro ?_
                  refine WP.yes rfl rfl rfl ?_
                  refine WP.st tysOk true rfl True.intro rfl rfl rfl rfl True.intro ?_
                  refine WP.no rfl rfl (bfalse hh260) rfl rfl ?_
                  refine WP.yes rfl rfl rfl ?_
                  refine WP.st tysOk true rfl True.intro rfl rfl rfl rfl True.intro ?_
                  refine WP.yes rfl rfl rfl ?_
                  iterate 3 (refine WP.st tysOk true rfl True.intro rfl rfl rfl rfl True.intro ?_)
                  iterate 3 (refine WP.yes rfl rfl rfl ?_; refine WP.st tysOk true rfl True.intro rfl rfl rfl rfl True.intro ?_)
                  by_cases hh272 : 2 < x1
                  · rw [if_pos hh272] at h
                    refine WP.yes rfl rfl (by simp [hh272]) ?_
                    iterate 2 (refine WP.st tysOk true rfl True.intro rfl rfl rfl rfl True.intro ?_; refine WP.yes rfl rfl rfl ?_)
                    refine WP.st tysOk true rfl True.intro rfl rfl rfl rfl True.intro ?_
                    by_cases hh273 : r45.2 = true
                    · rw [if_pos hh273] at h
                      refine WP.no rfl rfl (by simp [hh273]) rfl rfl ?_
                      refine WP.no rfl rfl rfl rfl rfl ?_
                      refine WP.yes rfl rfl rfl ?_
                      refine WP.st tysOk true rfl True.intro rfl rfl rfl rfl True.intro ?_
                      refine WP.yes rfl rfl rfl ?_
                      iterate 3 (refine WP.st tysOk true rfl True.intro rfl rfl rfl rfl True.intro ?_)
                      cases h
                      refine WP.retR tysOk rfl rfl ⟨_, _, rfl, rfl, rfl⟩ (fun w1 hw1 => ⟨rfl, Ret.below_ hw1 (.cons (.tail (.tail (.tail (.tail (.tail (.tail (.tail .head))))))) .nil)⟩)
                    · rw [if_neg hh273] at h
                      refine WP.yes rfl rfl (by simp [hh273]) ?_
                      iterate 3 (refine WP.st tysOk true rfl True.intro rfl rfl rfl rfl True.intro ?_; refine WP.yes rfl rfl rfl ?_)
                      iterate 3 (refine WP.st tysOk true rfl True.intro rfl rfl rfl rfl True.intro ?_)
                      cases h
                      refine WP.retR tysOk rfl rfl ⟨_, _, rfl, rfl, rfl⟩ (fun w1 hw1 => ⟨rfl, Ret.below_ hw1 (.cons (.tail (.tail (.tail (.tail (.tail (.tail (.tail .head))))))) .nil)⟩)
                  · rw [if_neg hh272] at h
                    refine WP.no rfl rfl (by simp [hh272]) rfl rfl ?_
                    iterate 2 (refine WP.no rfl rfl rfl rfl rfl ?_)
                    iterate 2 (refine WP.noU rfl rfl rfl rfl ?_)
                    refine WP.no rfl rfl rfl rfl rfl ?_
                    refine WP.yes rfl rfl rfl ?_
                    iterate 3 (refine WP.st tysOk true rfl True.intro rfl rfl rfl rfl True.intro ?_)
                    cases h
                    refine WP.retR tysOk rfl rfl ⟨_, _, rfl, rfl, rfl⟩ (fun w1 hw1 => ⟨rfl, Ret.below_ hw1 (.cons (.tail (.tail (.tail (.tail (.tail (.tail (.tail .head))))))) .nil)⟩)
                · rw [if_neg hh271] at h
                  refine WP.no rfl rfl (bfalse hh271) rfl rfl ?_
                  refine WP.no rfl rfl rfl rfl rfl ?_
                  refine WP.noU rfl rfl rfl rfl ?_
                  iterate 2 (refine WP.no rfl rfl rfl rfl rfl ?_)
                  iterate 2 (refine WP.st tysOk true rfl True.intro rfl rfl rfl rfl True.intro ?_)
                  iterate 3 (refine WP.no rfl rfl rfl rfl rfl ?_)
                  iterate 6 (refine WP.noU rfl rfl rfl rfl ?_)
                  refine WP.no rfl rfl rfl rfl rfl ?_
                  iterate 2 (refine WP.st tysOk true rfl True.intro rfl rfl rfl rfl True.intro ?_)
                  cases h
                  refine WP.retR tysOk rfl rfl ⟨_, _, rfl, rfl, rfl⟩ (fun w1 hw1 => ⟨rfl, Ret.below_ hw1 (.cons (.tail (.tail (.tail (.tail (.tail (.tail (.tail .head))))))) .nil)⟩)
              · rw [if_neg hh270] at h
                refine WP.no rfl rfl (decide_eq_false hh270) rfl rfl ?_
                refine WP.no rfl rfl rfl rfl rfl ?_
                refine WP.yes rfl rfl rfl ?_
                refine WP.st tysOk true rfl True.intro rfl rfl rfl rfl True.intro ?_
                refine WP.yes rfl rfl rfl ?_
                iterate 3 (refine WP.st tysOk true rfl True.intro rfl rfl rfl rfl True.intro ?_)
                by_cases hh274 : (r44.2 == false) = true
                · rw [if_pos hh274] at h
                  refine WP.yes rfl rfl hh274 ?_
                  refine WP.st tysOk true rfl True.intro rfl rfl rfl rfl True.intro ?_
                  refine WP.yes rfl rfl rfl ?_
                  refine WP.st tysOk true rfl True.intro rfl rfl rfl rfl True.intro ?_
                  refine WP.no rfl rfl (bfalse hh260) rfl rfl ?_
                  refine WP.yes rfl rfl rfl ?_
                  refine WP.st tysOk true rfl True.intro rfl rfl rfl rfl True.intro ?_
                  refine WP.yes rfl rfl rfl ?_
                  iterate 3 (refine WP.st tysOk true rfl True.intro rfl rfl rfl rfl True.intro ?_)
                  iterate 3 (refine WP.yes rfl rfl rfl ?_; refine WP.st tysOk true rfl True.intro rfl rfl rfl rfl True.intro ?_)
                  by_cases hh275 : 2 < x1
                  · rw [if_pos hh275] at h
                    refine WP.yes rfl rfl (by simp [hh275]) ?_
                    iterate 2 (refine WP.st tysOk true rfl True.intro rfl rfl rfl rfl True.intro ?_; refine WP.yes rfl rfl rfl ?_)
                    refine WP.st tysOk true rfl True.intro rfl rfl rfl rfl True.intro ?_
                    by_cases hh276 : r45.2 = true
                    · rw [if_pos hh276] at h
                      refine WP.no rfl rfl (by simp [hh276]) rfl rfl ?_
                      refine WP.no rfl rfl rfl rfl rfl ?_
                      refine WP.yes rfl rfl rfl ?_
                      refine WP.st tysOk true rfl True.intro rfl rfl rfl rfl True.intro ?_
                      refine WP.yes rfl rfl rfl ?_
                      iterate 3 (refine WP.st tysOk true rfl True.intro rfl rfl rfl rfl True.intro ?_)
                      cases h
                      refine WP.retR tysOk rfl rfl ⟨_, _, rfl, rfl, rfl⟩ (fun w1 hw1 => ⟨rfl, Ret.below_ hw1 (.cons (.tail (.tail (.tail (.tail (.tail (.tail (.tail .head))))))) .nil)⟩)
                    · rw [if_neg hh276] at h
                      refine WP.yes rfl rfl (by simp [hh276]) ?_
                      iterate 3 (refine WP.st tysOk true rfl True.intro rfl rfl rfl rfl True.intro ?_; refine WP.yes rfl rfl rfl ?_)
                      iterate 3 (refine WP.st tysOk true rfl True.intro rfl rfl rfl rfl True.intro ?_)
                      cases h
                      refine WP.retR tysOk rfl rfl ⟨_, _, rfl, rfl, rfl⟩ (fun w1 hw1 => ⟨rfl, Ret.below_ hw1 (.cons (.tail (.tail (.tail (.tail (.tail (.tail (.tail .head))))))) .nil)⟩)
                  · rw [if_neg hh275] at h
                    refine WP.no rfl rfl (by simp [hh275]) rfl rfl ?_
                    iterate 2 (refine WP.no rfl rfl rfl rfl rfl ?_)
                    iterate 2 (refine WP.noU rfl rfl rfl rfl ?_)
                    refine WP.no rfl rfl rfl rfl rfl ?_
                    refine WP.yes rfl rfl rfl ?_
                    iterate 3 (refine WP.st tysOk true rfl True.intro rfl rfl rfl rfl True.intro ?_)
                    cases h
                    refine WP.retR tysOk rfl rfl ⟨_, _, rfl, rfl, rfl⟩ (fun w1 hw1 => ⟨rfl, Ret.below_ hw1 (.cons (.tail (.tail (.tail (.tail (.tail (.tail (.tail .head))))))) .nil)⟩)
                · rw [if_neg hh274] at h
                  refine WP.no rfl rfl (bfalse hh274) rfl rfl ?_
                  refine WP.no rfl rfl rfl rfl rfl ?_
                  refine WP.noU rfl rfl rfl rfl ?_
                  iterate 2 (refine WP.no rfl rfl rfl rfl rfl ?_)
                  iterate 2 (refine WP.st tysOk true rfl True.intro rfl rfl rfl rfl True.intro ?_)
                  iterate 3 (refine WP.no rfl rfl rfl rfl rfl ?_)
                  iterate 6 (refine WP.noU rfl rfl rfl rfl ?_)
                  refine WP.no rfl rfl rfl rfl rfl ?_
                  iterate 2 (refine WP.st tysOk true rfl True.intro rfl rfl rfl rfl True.intro ?_)
                  cases h
                  refine WP.retR tysOk rfl rfl ⟨_, _, rfl, rfl, rfl⟩ (fun w1 hw1 => ⟨rfl, Ret.below_ hw1 (.cons (.tail (.tail (.tail (.tail (.tail (.tail (.tail .head))))))) .nil)⟩)
          · rw [if_neg hh259] at h
            refine WP.no rfl rfl (bfalse hh259) rfl rfl ?_
            refine WP.no rfl rfl rfl rfl rfl ?_
            refine WP.noU rfl rfl rfl rfl ?_
            iterate 5 (refine WP.no rfl rfl rfl rfl rfl ?_)
            iterate 2 (refine WP.noU rfl rfl rfl rfl ?_)
            iterate 2 (refine WP.no rfl rfl rfl rfl rfl ?_)
            iterate 2 (refine WP.st tysOk true rfl True.intro rfl rfl rfl rfl True.intro ?_)
            iterate 2 (refine WP.no rfl rfl rfl rfl rfl ?_)
            refine WP.noU rfl rfl rfl rfl ?_
            iterate 2 (refine WP.no rfl rfl rfl rfl rfl ?_)
            iterate 2 (refine WP.st tysOk true rfl True.intro rfl rfl rfl rfl True.intro ?_)
            iterate 3 (refine WP.no rfl rfl rfl rfl rfl ?_)
            iterate 6 (refine WP.noU rfl rfl rfl rfl ?_)
            refine WP.no rfl rfl rfl rfl rfl ?_
            iterate 2 (refine WP.st tysOk true rfl True.intro rfl rfl rfl rfl True.intro ?_)
            cases h
            refine WP.retR tysOk rfl rfl ⟨_, _, rfl, rfl, rfl⟩ (fun w1 hw1 => ⟨rfl, Ret.below_ hw1 (.cons (.tail (.tail (.tail (.tail (.tail (.tail (.tail .head))))))) .nil)⟩)
end Go.Proofs.Ytpnohbdfgmjdbaa
