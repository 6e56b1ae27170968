/- The walks: the code computes that. -/
import Derived.Test.YthelgjfdkdaijaaDoorGW1
import Derived.Test.YthelgjfdkdaijaaDoorTys
import Derived.Test.YthelgjfdkdaijaaDoorEngG
import Derived.KernelRfl
namespace Go.Proofs.YthelgjfdkdaijaaDoor
open Go.RowKit Go.Qe
set_option maxRecDepth 20000 in
set_option maxHeartbeats 8000000 in
theorem law02_WordCounts_w {w : World} {d1 : Int} {i1 : Int} {x1 : Int} {x2 : Int} {r : Bool} (h : law02_WordCounts d1 i1 x1 x2 = some r) (pg : GlobE (PH.of w)) :
    Calls Tryd.prog 8 #[.int .u16 (d1), .int .u16 (i1), .int .u16 (x1), .int .u8 (x2)] w fun e w' => e = .returned (.bool (r)) ∧ Below w.heap.size w w' := by
  unfold law02_WordCounts at h
  refine enter_ Tryd.func8 rfl Tryd.ntmps8 rfl ?_
  iterate 3 (refine WP.sx tysOk rfl ⟨⟨⟩, ⟨⟩⟩ ?_)
  obtain ⟨r1, hg1, h⟩ := bind_some h
  refine WP.callV rfl rfl rfl rfl rfl rfl rfl (by kernel_rfl) (fun w1 hw1 => (word_Text_w hg1 (pg.le ((Held.mem (List.Mem.head _)) _ _ hw1)) :)) ⟨⟩ ?_
  iterate 4 (refine WP.sx tysOk rfl ⟨⟨⟩, ⟨⟩⟩ ?_)
  obtain ⟨r2, hg2, h⟩ := bind_some h
  refine WP.callV rfl rfl rfl rfl rfl rfl rfl (by kernel_rfl) (fun w1 hw1 => (word_Count_w hg2 (pg.le ((Held.mem (List.Mem.head _)) _ _ hw1)) :)) ⟨⟩ ?_
  iterate 11 (refine WP.sx tysOk rfl ⟨⟨⟩, ⟨⟩⟩ ?_)
  obtain ⟨r3, hg3, h⟩ := bind_some h
  refine WP.callV rfl rfl rfl rfl rfl rfl rfl (by kernel_rfl) (fun w1 hw1 => (word_Count_w hg3 (pg.le ((Held.mem (List.Mem.head _)) _ _ hw1)) :)) ⟨⟩ ?_
  iterate 6 (refine WP.sx tysOk rfl ⟨⟨⟩, ⟨⟩⟩ ?_)
  refine WP.sx tysOk rfl ⟨⟨⟩, (by decide)⟩ ?_
  obtain ⟨hj1, h⟩ := ck_some h
  refine WP.sidx tysOk rfl ⟨⟩ rfl rfl rfl rfl rfl rfl rfl hj1 ?_
  refine WP.bsO (f := (fI .u8)) [bt (ByteArray.mk #[48, 45, 43, 32]) (x2.tmod 4)] tysOk rfl rfl rfl rfl rfl rfl rfl rfl rfl rfl rfl rfl rfl rfl ?_
  intro g1 hf1
  obtain ⟨hp1, h⟩ := ck_some h
  refine WP.b2s (xs := ([bt (ByteArray.mk #[48, 45, 43, 32]) (x2.tmod 4)])) tysOk rfl ⟨⟩ rfl rfl rfl rfl rfl (by kernel_rfl) rfl rfl hf1.len (OwS.app .head hf1) (by first | exact hp1 | (rw [← hf1.len]; exact hp1)) ?_
  refine WP.sx tysOk rfl ⟨⟨⟩, ⟨⟩⟩ ?_
  obtain ⟨hz1, h⟩ := ck_some h
  refine WP.sx tysOk rfl ⟨⟨⟩, hz1⟩ ?_
  obtain ⟨r4, hg4, h⟩ := bind_some h
  refine WP.callV rfl rfl rfl rfl rfl rfl rfl (by kernel_rfl) (fun w1 hw1 => (word_Count_w hg4 (pg.le ((Held.mem (List.Mem.tail _ (List.Mem.head _))) _ _ hw1)) :)) ⟨⟩ ?_
  iterate 5 (refine WP.sx tysOk rfl ⟨⟨⟩, ⟨⟩⟩ ?_)
  obtain ⟨r5, hg5, h⟩ := bind_some h
  refine WP.callV rfl rfl rfl rfl rfl rfl rfl (by kernel_rfl) (fun w1 hw1 => (law02_known_w hg5 (pg.le ((Held.mem (List.Mem.tail _ (List.Mem.head _))) _ _ hw1)) :)) ⟨⟩ ?_
  refine WP.sx tysOk rfl ⟨⟨⟩, ⟨⟩⟩ ?_
  by_cases hh1 : r5 = true
  ·rw [if_pos hh1] at h
   refine WP.yes rfl rfl hh1 ?_
   iterate 4 (refine WP.sx tysOk rfl ⟨⟨⟩, ⟨⟩⟩ ?_; refine WP.yes rfl rfl rfl ?_)
   iterate 3 (refine WP.sx tysOk rfl ⟨⟨⟩, ⟨⟩⟩ ?_)
   by_cases hh2 : (r2.2 == (decide (d1 ≤ i1))) = true
   ·rw [if_pos hh2] at h
    refine WP.yes rfl rfl hh2 ?_
    iterate 2 (refine WP.sx tysOk rfl ⟨⟨⟩, ⟨⟩⟩ ?_; refine WP.yes rfl rfl rfl ?_)
    refine WP.sx tysOk rfl ⟨⟨⟩, ⟨⟩⟩ ?_
    by_cases hh3 : r2.2 = true
    ·rw [if_pos hh3] at h
     refine WP.no rfl rfl (by rw [hh3]; try rfl) rfl rfl ?_
     refine WP.no rfl rfl rfl rfl rfl ?_
     iterate 7 (refine WP.yes rfl rfl rfl ?_; refine WP.sx tysOk rfl ⟨⟨⟩, ⟨⟩⟩ ?_)
     by_cases hh4 : r2.1 = (w64 (d1))
     ·rw [if_pos hh4] at h
      refine WP.yes rfl rfl (decide_eq_true hh4) ?_
      iterate 2 (refine WP.sx tysOk rfl ⟨⟨⟩, ⟨⟩⟩ ?_; refine WP.yes rfl rfl rfl ?_)
      refine WP.sx tysOk rfl ⟨⟨⟩, ⟨⟩⟩ ?_
      by_cases hh5 : r3.2 = true
      ·rw [if_pos hh5] at h
       refine WP.yes rfl rfl hh5 ?_
       iterate 4 (refine WP.sx tysOk rfl ⟨⟨⟩, ⟨⟩⟩ ?_; refine WP.yes rfl rfl rfl ?_)
       iterate 3 (refine WP.sx tysOk rfl ⟨⟨⟩, ⟨⟩⟩ ?_)
       by_cases hh6 : r3.1 = r2.1
       ·rw [if_pos hh6] at h
        refine WP.yes rfl rfl (decide_eq_true hh6) ?_
        refine WP.sx tysOk rfl ⟨⟨⟩, ⟨⟩⟩ ?_
        refine WP.yes rfl rfl rfl ?_
        iterate 3 (refine WP.sx tysOk rfl ⟨⟨⟩, ⟨⟩⟩ ?_)
        by_cases hh7 : r4.2 = true
        ·rw [if_pos hh7] at h
         refine WP.no rfl rfl (by rw [hh7]; try rfl) rfl rfl ?_
         iterate 2 (refine WP.no rfl rfl rfl rfl rfl ?_)
         iterate 2 (refine WP.sx tysOk rfl ⟨⟨⟩, ⟨⟩⟩ ?_)
         cases h
         refine WP.retR tysOk rfl rfl ⟨_, _, rfl, rfl, rfl⟩ (fun w1 hw1 => ⟨rfl, Ret.below_ hw1 (.cons (.tail .head) .nil)⟩)
        rw [if_neg hh7] at h
        refine WP.yes rfl rfl (by rw [bfalse hh7]; try rfl) ?_
        refine WP.sx tysOk rfl ⟨⟨⟩, ⟨⟩⟩ ?_
        refine WP.yes rfl rfl rfl ?_
        obtain ⟨r6, hg6, h⟩ := bind_some h
        refine WP.callV rfl rfl rfl rfl rfl rfl rfl (by kernel_rfl) (fun w1 hw1 => (word_Join_w hg6 SlF.nil_ :)) ⟨⟩ ?_
        refine WP.yes rfl rfl rfl ?_
        iterate 3 (refine WP.sx tysOk rfl ⟨⟨⟩, ⟨⟩⟩ ?_)
        cases h
        refine WP.retR tysOk rfl rfl ⟨_, _, rfl, rfl, rfl⟩ (fun w1 hw1 => ⟨rfl, Ret.below_ hw1 (.cons (.tail .head) .nil)⟩)
       rw [if_neg hh6] at h
       refine WP.no rfl rfl (decide_eq_false hh6) rfl rfl ?_
       refine WP.no rfl rfl rfl rfl rfl ?_
       iterate 2 (refine WP.sx tysOk rfl ⟨⟨⟩, ⟨⟩⟩ ?_)
       iterate 3 (refine WP.no rfl rfl rfl rfl rfl ?_)
       iterate 2 (refine WP.sx tysOk rfl ⟨⟨⟩, ⟨⟩⟩ ?_)
       cases h
       refine WP.retR tysOk rfl rfl ⟨_, _, rfl, rfl, rfl⟩ (fun w1 hw1 => ⟨rfl, Ret.below_ hw1 (.cons (.tail .head) .nil)⟩)
      rw [if_neg hh5] at h
      refine WP.no rfl rfl (bfalse hh5) rfl rfl ?_
      iterate 2 (refine WP.no rfl rfl rfl rfl rfl ?_)
      refine WP.yes rfl rfl rfl ?_
      refine WP.sx tysOk rfl ⟨⟨⟩, ⟨⟩⟩ ?_
      refine WP.yes rfl rfl rfl ?_
      iterate 3 (refine WP.sx tysOk rfl ⟨⟨⟩, ⟨⟩⟩ ?_)
      iterate 2 (refine WP.no rfl rfl rfl rfl rfl ?_)
      iterate 2 (refine WP.sx tysOk rfl ⟨⟨⟩, ⟨⟩⟩ ?_)
      iterate 3 (refine WP.no rfl rfl rfl rfl rfl ?_)
      iterate 2 (refine WP.sx tysOk rfl ⟨⟨⟩, ⟨⟩⟩ ?_)
      cases h
      refine WP.retR tysOk rfl rfl ⟨_, _, rfl, rfl, rfl⟩ (fun w1 hw1 => ⟨rfl, Ret.below_ hw1 (.cons (.tail .head) .nil)⟩)
     rw [if_neg hh4] at h
     refine WP.no rfl rfl (decide_eq_false hh4) rfl rfl ?_
     iterate 2 (refine WP.yes rfl rfl rfl ?_; refine WP.sx tysOk rfl ⟨⟨⟩, ⟨⟩⟩ ?_)
     iterate 3 (refine WP.no rfl rfl rfl rfl rfl ?_)
     refine WP.yes rfl rfl rfl ?_
     refine WP.sx tysOk rfl ⟨⟨⟩, ⟨⟩⟩ ?_
     refine WP.yes rfl rfl rfl ?_
     iterate 3 (refine WP.sx tysOk rfl ⟨⟨⟩, ⟨⟩⟩ ?_)
     iterate 2 (refine WP.no rfl rfl rfl rfl rfl ?_)
     iterate 2 (refine WP.sx tysOk rfl ⟨⟨⟩, ⟨⟩⟩ ?_)
     iterate 3 (refine WP.no rfl rfl rfl rfl rfl ?_)
     iterate 2 (refine WP.sx tysOk rfl ⟨⟨⟩, ⟨⟩⟩ ?_)
     cases h
     refine WP.retR tysOk rfl rfl ⟨_, _, rfl, rfl, rfl⟩ (fun w1 hw1 => ⟨rfl, Ret.below_ hw1 (.cons (.tail .head) .nil)⟩)
    rw [if_neg hh3] at h
    refine WP.yes rfl rfl (by rw [bfalse hh3]; try rfl) ?_
    iterate 3 (refine WP.sx tysOk rfl ⟨⟨⟩, ⟨⟩⟩ ?_; refine WP.yes rfl rfl rfl ?_)
    refine WP.sx tysOk rfl ⟨⟨⟩, ⟨⟩⟩ ?_
    by_cases hh8 : r2.1 = 0
    ·rw [if_pos hh8] at h
     refine WP.no rfl rfl (decide_eq_true hh8) rfl rfl ?_
     iterate 4 (refine WP.no rfl rfl rfl rfl rfl ?_)
     refine WP.noU rfl rfl rfl rfl ?_
     iterate 2 (refine WP.no rfl rfl rfl rfl rfl ?_)
     iterate 3 (refine WP.noU rfl rfl rfl rfl ?_)
     refine WP.no rfl rfl rfl rfl rfl ?_
     refine WP.yes rfl rfl rfl ?_
     iterate 3 (refine WP.sx tysOk rfl ⟨⟨⟩, ⟨⟩⟩ ?_)
     refine WP.yes rfl rfl rfl ?_
     refine WP.sx tysOk rfl ⟨⟨⟩, ⟨⟩⟩ ?_
     refine WP.yes rfl rfl rfl ?_
     iterate 3 (refine WP.sx tysOk rfl ⟨⟨⟩, ⟨⟩⟩ ?_)
     by_cases hh9 : r4.2 = true
     ·rw [if_pos hh9] at h
      refine WP.no rfl rfl (by rw [hh9]; try rfl) rfl rfl ?_
      iterate 2 (refine WP.no rfl rfl rfl rfl rfl ?_)
      iterate 2 (refine WP.sx tysOk rfl ⟨⟨⟩, ⟨⟩⟩ ?_)
      cases h
      refine WP.retR tysOk rfl rfl ⟨_, _, rfl, rfl, rfl⟩ (fun w1 hw1 => ⟨rfl, Ret.below_ hw1 (.cons (.tail .head) .nil)⟩)
     rw [if_neg hh9] at h
     refine WP.yes rfl rfl (by rw [bfalse hh9]; try rfl) ?_
     refine WP.sx tysOk rfl ⟨⟨⟩, ⟨⟩⟩ ?_
     refine WP.yes rfl rfl rfl ?_
     obtain ⟨r7, hg7, h⟩ := bind_some h
     refine WP.callV rfl rfl rfl rfl rfl rfl rfl (by kernel_rfl) (fun w1 hw1 => (word_Join_w hg7 SlF.nil_ :)) ⟨⟩ ?_
     refine WP.yes rfl rfl rfl ?_
     iterate 3 (refine WP.sx tysOk rfl ⟨⟨⟩, ⟨⟩⟩ ?_)
     cases h
     refine WP.retR tysOk rfl rfl ⟨_, _, rfl, rfl, rfl⟩ (fun w1 hw1 => ⟨rfl, Ret.below_ hw1 (.cons (.tail .head) .nil)⟩)
    rw [if_neg hh8] at h
    refine WP.yes rfl rfl (decide_eq_false hh8) ?_
    iterate 4 (refine WP.sx tysOk rfl ⟨⟨⟩, ⟨⟩⟩ ?_; refine WP.yes rfl rfl rfl ?_)
    refine WP.sx tysOk rfl ⟨⟨⟩, ⟨⟩⟩ ?_
    by_cases hh10 : r2.1 = (w64 (d1))
    ·rw [if_pos hh10] at h
     refine WP.yes rfl rfl (decide_eq_true hh10) ?_
     iterate 2 (refine WP.sx tysOk rfl ⟨⟨⟩, ⟨⟩⟩ ?_; refine WP.yes rfl rfl rfl ?_)
     refine WP.sx tysOk rfl ⟨⟨⟩, ⟨⟩⟩ ?_
     by_cases hh11 : r3.2 = true
     ·rw [if_pos hh11] at h
      refine WP.yes rfl rfl hh11 ?_
      iterate 4 (refine WP.sx tysOk rfl ⟨⟨⟩, ⟨⟩⟩ ?_; refine WP.yes rfl rfl rfl ?_)
      iterate 3 (refine WP.sx tysOk rfl ⟨⟨⟩, ⟨⟩⟩ ?_)
      by_cases hh12 : r3.1 = r2.1
      ·rw [if_pos hh12] at h
       refine WP.yes rfl rfl (decide_eq_true hh12) ?_
       refine WP.sx tysOk rfl ⟨⟨⟩, ⟨⟩⟩ ?_
       refine WP.yes rfl rfl rfl ?_
       iterate 3 (refine WP.sx tysOk rfl ⟨⟨⟩, ⟨⟩⟩ ?_)
       by_cases hh13 : r4.2 = true
       ·rw [if_pos hh13] at h
        refine WP.no rfl rfl (by rw [hh13]; try rfl) rfl rfl ?_
        iterate 2 (refine WP.no rfl rfl rfl rfl rfl ?_)
        iterate 2 (refine WP.sx tysOk rfl ⟨⟨⟩, ⟨⟩⟩ ?_)
        cases h
        refine WP.retR tysOk rfl rfl ⟨_, _, rfl, rfl, rfl⟩ (fun w1 hw1 => ⟨rfl, Ret.below_ hw1 (.cons (.tail .head) .nil)⟩)
       rw [if_neg hh13] at h
       refine WP.yes rfl rfl (by rw [bfalse hh13]; try rfl) ?_
       refine WP.sx tysOk rfl ⟨⟨⟩, ⟨⟩⟩ ?_
       refine WP.yes rfl rfl rfl ?_
       obtain ⟨r8, hg8, h⟩ := bind_some h
       refine WP.callV rfl rfl rfl rfl rfl rfl rfl (by kernel_rfl) (fun w1 hw1 => (word_Join_w hg8 SlF.nil_ :)) ⟨⟩ ?_
       refine WP.yes rfl rfl rfl ?_
       iterate 3 (refine WP.sx tysOk rfl ⟨⟨⟩, ⟨⟩⟩ ?_)
       cases h
       refine WP.retR tysOk rfl rfl ⟨_, _, rfl, rfl, rfl⟩ (fun w1 hw1 => ⟨rfl, Ret.below_ hw1 (.cons (.tail .head) .nil)⟩)
      rw [if_neg hh12] at h
      refine WP.no rfl rfl (decide_eq_false hh12) rfl rfl ?_
      refine WP.no rfl rfl rfl rfl rfl ?_
      iterate 2 (refine WP.sx tysOk rfl ⟨⟨⟩, ⟨⟩⟩ ?_)
      iterate 3 (refine WP.no rfl rfl rfl rfl rfl ?_)
      iterate 2 (refine WP.sx tysOk rfl ⟨⟨⟩, ⟨⟩⟩ ?_)
      cases h
      refine WP.retR tysOk rfl rfl ⟨_, _, rfl, rfl, rfl⟩ (fun w1 hw1 => ⟨rfl, Ret.below_ hw1 (.cons (.tail .head) .nil)⟩)
     rw [if_neg hh11] at h
     refine WP.no rfl rfl (bfalse hh11) rfl rfl ?_
     iterate 2 (refine WP.no rfl rfl rfl rfl rfl ?_)
     refine WP.yes rfl rfl rfl ?_
     refine WP.sx tysOk rfl ⟨⟨⟩, ⟨⟩⟩ ?_
     refine WP.yes rfl rfl rfl ?_
     iterate 3 (refine WP.sx tysOk rfl ⟨⟨⟩, ⟨⟩⟩ ?_)
     iterate 2 (refine WP.no rfl rfl rfl rfl rfl ?_)
     iterate 2 (refine WP.sx tysOk rfl ⟨⟨⟩, ⟨⟩⟩ ?_)
     iterate 3 (refine WP.no rfl rfl rfl rfl rfl ?_)
     iterate 2 (refine WP.sx tysOk rfl ⟨⟨⟩, ⟨⟩⟩ ?_)
     cases h
     refine WP.retR tysOk rfl rfl ⟨_, _, rfl, rfl, rfl⟩ (fun w1 hw1 => ⟨rfl, Ret.below_ hw1 (.cons (.tail .head) .nil)⟩)
    rw [if_neg hh10] at h
    refine WP.no rfl rfl (decide_eq_false hh10) rfl rfl ?_
    iterate 2 (refine WP.yes rfl rfl rfl ?_; refine WP.sx tysOk rfl ⟨⟨⟩, ⟨⟩⟩ ?_)
    iterate 3 (refine WP.no rfl rfl rfl rfl rfl ?_)
    refine WP.yes rfl rfl rfl ?_
    refine WP.sx tysOk rfl ⟨⟨⟩, ⟨⟩⟩ ?_
    refine WP.yes rfl rfl rfl ?_
    iterate 3 (refine WP.sx tysOk rfl ⟨⟨⟩, ⟨⟩⟩ ?_)
    iterate 2 (refine WP.no rfl rfl rfl rfl rfl ?_)
    iterate 2 (refine WP.sx tysOk rfl ⟨⟨⟩, ⟨⟩⟩ ?_)
    iterate 3 (refine WP.no rfl rfl rfl rfl rfl ?_)
    iterate 2 (refine WP.sx tysOk rfl ⟨⟨⟩, ⟨⟩⟩ ?_)
    cases h
    refine WP.retR tysOk rfl rfl ⟨_, _, rfl, rfl, rfl⟩ (fun w1 hw1 => ⟨rfl, Ret.below_ hw1 (.cons (.tail .head) .nil)⟩)
   rw [if_neg hh2] at h
   refine WP.no rfl rfl (bfalse hh2) rfl rfl ?_
   iterate 2 (refine WP.no rfl rfl rfl rfl rfl ?_; refine WP.no rfl rfl rfl rfl rfl ?_; refine WP.noU rfl rfl rfl rfl ?_; refine WP.noU rfl rfl rfl rfl ?_)
   iterate 10 (refine WP.noU rfl rfl rfl rfl ?_)
   iterate 2 (refine WP.no rfl rfl rfl rfl rfl ?_; (iterate 2 (refine WP.sx tysOk rfl ⟨⟨⟩, ⟨⟩⟩ ?_)); refine WP.no rfl rfl rfl rfl rfl ?_)
   iterate 2 (refine WP.no rfl rfl rfl rfl rfl ?_)
   iterate 2 (refine WP.sx tysOk rfl ⟨⟨⟩, ⟨⟩⟩ ?_)
   cases h
   refine WP.retR tysOk rfl rfl ⟨_, _, rfl, rfl, rfl⟩ (fun w1 hw1 => ⟨rfl, Ret.below_ hw1 (.cons (.tail .head) .nil)⟩)
  rw [if_neg hh1] at h
  refine WP.no rfl rfl (bfalse hh1) rfl rfl ?_
  iterate 4 (refine WP.no rfl rfl rfl rfl rfl ?_)
  iterate 2 (refine WP.sx tysOk rfl ⟨⟨⟩, ⟨⟩⟩ ?_)
  iterate 3 (refine WP.no rfl rfl rfl rfl rfl ?_)
  iterate 2 (refine WP.noU rfl rfl rfl rfl ?_)
  iterate 2 (refine WP.no rfl rfl rfl rfl rfl ?_)
  iterate 12 (refine WP.noU rfl rfl rfl rfl ?_)
  iterate 2 (refine WP.no rfl rfl rfl rfl rfl ?_; (iterate 2 (refine WP.sx tysOk rfl ⟨⟨⟩, ⟨⟩⟩ ?_)); refine WP.no rfl rfl rfl rfl rfl ?_)
  iterate 2 (refine WP.no rfl rfl rfl rfl rfl ?_)
  iterate 2 (refine WP.sx tysOk rfl ⟨⟨⟩, ⟨⟩⟩ ?_)
  cases h
  refine WP.retR tysOk rfl rfl ⟨_, _, rfl, rfl, rfl⟩ (fun w1 hw1 => ⟨rfl, Ret.below_ hw1 (.cons (.tail .head) .nil)⟩)
end Go.Proofs.YthelgjfdkdaijaaDoor
