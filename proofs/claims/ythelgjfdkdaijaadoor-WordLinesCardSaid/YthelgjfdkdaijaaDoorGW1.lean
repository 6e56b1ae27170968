/- The walks: the code computes that. -/
import Derived.Test.YthelgjfdkdaijaaDoorGD
import Derived.Test.YthelgjfdkdaijaaDoorTys
import Derived.Test.YthelgjfdkdaijaaDoorEngG
import Derived.KernelRfl
namespace Go.Proofs.YthelgjfdkdaijaaDoor
open Go.RowKit Go.Qe
set_option maxRecDepth 20000 in
set_option maxHeartbeats 8000000 in
theorem word_plain_w {w : World} {s1 : ByteArray} {r : Bool} (h : word_plain s1 = some r) :
    Calls Tryd.prog 24 #[.string (s1)] w fun e w' => e = .returned (.bool (r)) ∧ Below w.heap.size w w' := by
  unfold word_plain at h
  refine enter_ Tryd.func24 rfl Tryd.ntmps24 rfl ?_
  iterate 3 (refine WP.sx tysOk rfl ⟨⟨⟩, ⟨⟩⟩ ?_)
  refine WP.cond rfl rfl (fun hh1 => ?_) (fun hh1 => ?_)
  ·rw [if_pos hh1] at h
   refine WP.sx tysOk rfl ⟨⟨⟩, ⟨⟩⟩ ?_
   cases h
   refine WP.retR tysOk rfl rfl ⟨_, _, rfl, rfl, rfl⟩ (fun w1 hw1 => ⟨rfl, Ret.below_ hw1 (.cons .head .nil)⟩)
  rw [if_neg (bneg hh1)] at h
  iterate 2 (refine WP.sx tysOk rfl ⟨⟨⟩, ⟨⟩⟩ ?_)
  refine WP.rng tysOk rfl rfl rfl rfl rfl rfl rfl ?_
  intro g1
  refine WP.loop (α := Nat × Bool × Nat) (fun x => lp (word_plain_b1 s1) x.1 (x.2.1, x.2.2) = some r) (fun x => [(3, .bool (x.2.1)), (9, pt g1)]) (fun x => [.fz (itZ g1 s1 x.2.2), .fz (PH.of w)]) (fun x => x.1) rfl (big, true, 0) h ?_ ?_ ?_
  ·repeat first|exact ⟨⟩|refine ⟨rfl,?_⟩
  ·exact Pick.all
  rintro ⟨n1, first2, atv3⟩ h
  dsimp only at h ⊢
  rcases n1 with _ | n1
  · exact (lp_no h).elim
  replace h := lp_succ h
  unfold word_plain_b1 at h
  try dsimp only at h
  by_cases hh22 : atv3 < s1.size
  ·rw [if_pos hh22] at h
   refine WP.nxtT rfl rfl rfl rfl rfl rfl .head hh22 ?_
   refine WP.sx tysOk rfl ⟨⟨⟩, ⟨⟩⟩ ?_
   refine WP.condT rfl rfl ?_
   iterate 3 (refine WP.sx tysOk rfl ⟨⟨⟩, ⟨⟩⟩ ?_)
   obtain ⟨r3, hx3, h⟩ := lt_some h
   refine WP.sx tysOk rfl ⟨⟨⟩, ⟨⟩⟩ ?_
   refine WP.retell (s := 5) (.int .i32 r3) rfl (congrArg (Value.int .i32) hx3.symm) ?_
   iterate 3 (refine WP.sx tysOk rfl ⟨⟨⟩, ⟨⟩⟩ ?_)
   by_cases hh23 : r3 = 45
   ·rw [if_pos hh23] at h
    refine WP.yes rfl rfl (decide_eq_true hh23) ?_
    refine WP.sx tysOk rfl ⟨⟨⟩, ⟨⟩⟩ ?_
    refine WP.yes rfl rfl rfl ?_
    iterate 2 (refine WP.sx tysOk rfl ⟨⟨⟩, ⟨⟩⟩ ?_)
    refine WP.cond_d rfl rfl (fun hh24 => ?_) (fun hh24 => ?_)
    ·rw [if_pos hh24] at h
     refine WP.stop rfl (n1, first2, (atv3 + (Utf8.decode s1 atv3).2)) ⟨h, Nat.lt_succ_self _⟩ ?_ ?_
     ·repeat first|exact ⟨⟩|refine ⟨rfl,?_⟩
     exact Pick.all
    rw [if_neg hh24] at h
    iterate 3 (refine WP.sx tysOk rfl ⟨⟨⟩, ⟨⟩⟩ ?_)
    by_cases hh25 : r3 < 48
    ·rw [if_pos hh25] at h
     refine WP.no rfl rfl (decide_eq_true hh25) rfl rfl ?_
     refine WP.no rfl rfl rfl rfl rfl ?_
     iterate 2 (refine WP.sx tysOk rfl ⟨⟨⟩, ⟨⟩⟩ ?_)
     iterate 3 (refine WP.no rfl rfl rfl rfl rfl ?_)
     refine WP.noU rfl rfl rfl rfl ?_
     refine WP.no rfl rfl rfl rfl rfl ?_
     refine WP.sx tysOk rfl ⟨⟨⟩, ⟨⟩⟩ ?_
     refine WP.condT rfl rfl ?_
     refine WP.sx tysOk rfl ⟨⟨⟩, ⟨⟩⟩ ?_
     cases h
     refine WP.retR tysOk rfl rfl ⟨_, _, rfl, rfl, rfl⟩ (fun w1 hw1 => ⟨rfl, Ret.below_ hw1 (.cons (.tail .head) .nil)⟩)
    rw [if_neg hh25] at h
    refine WP.yes rfl rfl (decide_eq_false hh25) ?_
    refine WP.sx tysOk rfl ⟨⟨⟩, ⟨⟩⟩ ?_
    refine WP.yes rfl rfl rfl ?_
    iterate 3 (refine WP.sx tysOk rfl ⟨⟨⟩, ⟨⟩⟩ ?_)
    by_cases hh26 : 57 < r3
    ·rw [if_pos hh26] at h
     refine WP.no rfl rfl (decide_eq_true hh26) rfl rfl ?_
     iterate 2 (refine WP.no rfl rfl rfl rfl rfl ?_)
     refine WP.noU rfl rfl rfl rfl ?_
     refine WP.no rfl rfl rfl rfl rfl ?_
     refine WP.sx tysOk rfl ⟨⟨⟩, ⟨⟩⟩ ?_
     refine WP.condT rfl rfl ?_
     refine WP.sx tysOk rfl ⟨⟨⟩, ⟨⟩⟩ ?_
     cases h
     refine WP.retR tysOk rfl rfl ⟨_, _, rfl, rfl, rfl⟩ (fun w1 hw1 => ⟨rfl, Ret.below_ hw1 (.cons (.tail .head) .nil)⟩)
    rw [if_neg hh26] at h
    refine WP.yes rfl rfl (decide_eq_false hh26) ?_
    iterate 2 (refine WP.sx tysOk rfl ⟨⟨⟩, ⟨⟩⟩ ?_; refine WP.yes rfl rfl rfl ?_)
    refine WP.sx tysOk rfl ⟨⟨⟩, ⟨⟩⟩ ?_
    by_cases hh27 : r3 = 48
    ·rw [if_pos hh27] at h
     refine WP.yes rfl rfl (decide_eq_true hh27) ?_
     refine WP.sx tysOk rfl ⟨⟨⟩, ⟨⟩⟩ ?_
     refine WP.yes rfl rfl rfl ?_
     iterate 2 (refine WP.sx tysOk rfl ⟨⟨⟩, ⟨⟩⟩ ?_)
     refine WP.cond rfl rfl (fun hh28 => ?_) (fun hh28 => ?_)
     ·rw [if_pos hh28] at h
      refine WP.sx tysOk rfl ⟨⟨⟩, ⟨⟩⟩ ?_
      cases h
      refine WP.retR tysOk rfl rfl ⟨_, _, rfl, rfl, rfl⟩ (fun w1 hw1 => ⟨rfl, Ret.below_ hw1 (.cons (.tail .head) .nil)⟩)
     rw [if_neg (bneg hh28)] at h
     refine WP.sx tysOk rfl ⟨⟨⟩, ⟨⟩⟩ ?_
     refine WP.stop rfl (n1, false, (atv3 + (Utf8.decode s1 atv3).2)) ⟨h, Nat.lt_succ_self _⟩ ?_ ?_
     ·repeat first|exact ⟨⟩|refine ⟨rfl,?_⟩
     exact Pick.all
    rw [if_neg hh27] at h
    refine WP.no rfl rfl (decide_eq_false hh27) rfl rfl ?_
    refine WP.yes rfl rfl rfl ?_
    iterate 2 (refine WP.sx tysOk rfl ⟨⟨⟩, ⟨⟩⟩ ?_)
    refine WP.condF rfl rfl ?_
    refine WP.sx tysOk rfl ⟨⟨⟩, ⟨⟩⟩ ?_
    refine WP.stop rfl (n1, false, (atv3 + (Utf8.decode s1 atv3).2)) ⟨h, Nat.lt_succ_self _⟩ ?_ ?_
    ·repeat first|exact ⟨⟩|refine ⟨rfl,?_⟩
    exact Pick.all
   rw [if_neg hh23] at h
   refine WP.no rfl rfl (decide_eq_false hh23) rfl rfl ?_
   refine WP.no rfl rfl rfl rfl rfl ?_
   refine WP.sx tysOk rfl ⟨⟨⟩, ⟨⟩⟩ ?_
   refine WP.condF rfl rfl ?_
   iterate 3 (refine WP.sx tysOk rfl ⟨⟨⟩, ⟨⟩⟩ ?_)
   by_cases hh29 : r3 < 48
   ·rw [if_pos hh29] at h
    refine WP.no rfl rfl (decide_eq_true hh29) rfl rfl ?_
    refine WP.no rfl rfl rfl rfl rfl ?_
    iterate 2 (refine WP.sx tysOk rfl ⟨⟨⟩, ⟨⟩⟩ ?_)
    iterate 3 (refine WP.no rfl rfl rfl rfl rfl ?_)
    refine WP.noU rfl rfl rfl rfl ?_
    refine WP.no rfl rfl rfl rfl rfl ?_
    refine WP.sx tysOk rfl ⟨⟨⟩, ⟨⟩⟩ ?_
    refine WP.condT rfl rfl ?_
    refine WP.sx tysOk rfl ⟨⟨⟩, ⟨⟩⟩ ?_
    cases h
    refine WP.retR tysOk rfl rfl ⟨_, _, rfl, rfl, rfl⟩ (fun w1 hw1 => ⟨rfl, Ret.below_ hw1 (.cons (.tail .head) .nil)⟩)
   rw [if_neg hh29] at h
   refine WP.yes rfl rfl (decide_eq_false hh29) ?_
   refine WP.sx tysOk rfl ⟨⟨⟩, ⟨⟩⟩ ?_
   refine WP.yes rfl rfl rfl ?_
   iterate 3 (refine WP.sx tysOk rfl ⟨⟨⟩, ⟨⟩⟩ ?_)
   by_cases hh30 : 57 < r3
   ·rw [if_pos hh30] at h
    refine WP.no rfl rfl (decide_eq_true hh30) rfl rfl ?_
    iterate 2 (refine WP.no rfl rfl rfl rfl rfl ?_)
    refine WP.noU rfl rfl rfl rfl ?_
    refine WP.no rfl rfl rfl rfl rfl ?_
    refine WP.sx tysOk rfl ⟨⟨⟩, ⟨⟩⟩ ?_
    refine WP.condT rfl rfl ?_
    refine WP.sx tysOk rfl ⟨⟨⟩, ⟨⟩⟩ ?_
    cases h
    refine WP.retR tysOk rfl rfl ⟨_, _, rfl, rfl, rfl⟩ (fun w1 hw1 => ⟨rfl, Ret.below_ hw1 (.cons (.tail .head) .nil)⟩)
   rw [if_neg hh30] at h
   refine WP.yes rfl rfl (decide_eq_false hh30) ?_
   iterate 2 (refine WP.sx tysOk rfl ⟨⟨⟩, ⟨⟩⟩ ?_; refine WP.yes rfl rfl rfl ?_)
   refine WP.sx tysOk rfl ⟨⟨⟩, ⟨⟩⟩ ?_
   by_cases hh31 : r3 = 48
   ·rw [if_pos hh31] at h
    refine WP.yes rfl rfl (decide_eq_true hh31) ?_
    refine WP.sx tysOk rfl ⟨⟨⟩, ⟨⟩⟩ ?_
    refine WP.yes rfl rfl rfl ?_
    iterate 2 (refine WP.sx tysOk rfl ⟨⟨⟩, ⟨⟩⟩ ?_)
    refine WP.cond rfl rfl (fun hh32 => ?_) (fun hh32 => ?_)
    ·rw [if_pos hh32] at h
     refine WP.sx tysOk rfl ⟨⟨⟩, ⟨⟩⟩ ?_
     cases h
     refine WP.retR tysOk rfl rfl ⟨_, _, rfl, rfl, rfl⟩ (fun w1 hw1 => ⟨rfl, Ret.below_ hw1 (.cons (.tail .head) .nil)⟩)
    rw [if_neg (bneg hh32)] at h
    refine WP.sx tysOk rfl ⟨⟨⟩, ⟨⟩⟩ ?_
    refine WP.stop rfl (n1, false, (atv3 + (Utf8.decode s1 atv3).2)) ⟨h, Nat.lt_succ_self _⟩ ?_ ?_
    ·repeat first|exact ⟨⟩|refine ⟨rfl,?_⟩
    exact Pick.all
   rw [if_neg hh31] at h
   refine WP.no rfl rfl (decide_eq_false hh31) rfl rfl ?_
   refine WP.yes rfl rfl rfl ?_
   iterate 2 (refine WP.sx tysOk rfl ⟨⟨⟩, ⟨⟩⟩ ?_)
   refine WP.condF rfl rfl ?_
   refine WP.sx tysOk rfl ⟨⟨⟩, ⟨⟩⟩ ?_
   refine WP.stop rfl (n1, false, (atv3 + (Utf8.decode s1 atv3).2)) ⟨h, Nat.lt_succ_self _⟩ ?_ ?_
   ·repeat first|exact ⟨⟩|refine ⟨rfl,?_⟩
   exact Pick.all
  rw [if_neg hh22] at h
  refine WP.nxtF rfl rfl rfl rfl rfl rfl .head hh22 ?_
  refine WP.sx tysOk rfl ⟨⟨⟩, ⟨⟩⟩ ?_
  refine WP.condF rfl rfl ?_
  iterate 3 (refine WP.sx tysOk rfl ⟨⟨⟩, ⟨⟩⟩ ?_)
  cases h
  refine WP.retR tysOk rfl rfl ⟨_, _, rfl, rfl, rfl⟩ (fun w1 hw1 => ⟨rfl, Ret.below_ hw1 (.cons (.tail .head) .nil)⟩)

set_option maxRecDepth 20000 in
set_option maxHeartbeats 8000000 in
theorem word_Number_w {w : World} {s1 : ByteArray} {r : Int × Int} (h : word_Number s1 = some r) (pg : GlobE (PH.of w)) :
    Calls Tryd.prog 12 #[.string (s1)] w fun e w' => e = .returned (.tuple #[iv r.1, .int .u16 (r.2)]) ∧ Below w.heap.size w w' := by
  unfold word_Number at h
  refine enter_ Tryd.func12 rfl Tryd.ntmps12 rfl ?_
  iterate 3 (refine WP.sx tysOk rfl ⟨⟨⟩, ⟨⟩⟩ ?_)
  obtain ⟨r1, hg1, h⟩ := bind_some h
  refine WP.callV rfl rfl rfl rfl rfl rfl rfl (by kernel_rfl) (fun w1 hw1 => (word_plain_w hg1  :)) ⟨⟩ ?_
  refine WP.sx tysOk rfl ⟨⟨⟩, ⟨⟩⟩ ?_
  refine WP.cond_n rfl rfl (fun hh1 => ?_) (fun hh1 => ?_)
  ·rw [if_neg (bneg hh1)] at h
   iterate 2 (refine WP.sx tysOk rfl ⟨⟨⟩, ⟨⟩⟩ ?_)
   cases h
   refine WP.retR tysOk rfl rfl ⟨_, _, rfl, ⟨_, _, rfl, rfl, rfl⟩, rfl⟩ (fun w1 hw1 => ⟨rfl, Ret.below_ hw1 (.cons .head .nil)⟩)
  rw [if_pos hh1] at h
  refine WP.sx tysOk rfl ⟨⟨⟩, ⟨⟩⟩ ?_
  by_cases hh2 : pRng s1 = true
  ·rw [if_pos hh2] at h
   obtain ⟨hs2, h⟩ := ck_some h
   refine WP.callS (pErr_S s1) rfl rfl rfl rfl rfl rfl rfl (by kernel_rfl) (fun w1 hw1 => pErr_w hs2 hh2 (pg.le ((Held.mem (List.Mem.head _)) _ _ hw1))) ?_
   rintro _ _ ⟨g1, rfl, rfl⟩
   iterate 6 (refine WP.sx tysOk rfl ⟨⟨⟩, ⟨⟩⟩ ?_)
   refine WP.eqNil false true rfl ⟨⟩ rfl rfl rfl rfl rfl (.inr ⟨⟨_, _, rfl⟩, rfl⟩) (by kernel_rfl) ?_
   refine WP.condT rfl rfl ?_
   iterate 2 (refine WP.sx tysOk rfl ⟨⟨⟩, ⟨⟩⟩ ?_)
   cases h
   refine WP.retR tysOk rfl rfl ⟨_, _, rfl, ⟨_, _, rfl, rfl, rfl⟩, rfl⟩ (fun w1 hw1 => ⟨rfl, Ret.below_ hw1 (.cons .head .nil)⟩)
  rw [if_neg hh2] at h
  obtain ⟨hs3, h⟩ := ck_some h
  obtain ⟨r2, hg2, h⟩ := bind_some h
  refine WP.callV rfl rfl rfl rfl rfl rfl rfl (by kernel_rfl) (fun w1 hw1 => pVal_w hs3 hg2) ⟨⟩ ?_
  iterate 6 (refine WP.sx tysOk rfl ⟨⟨⟩, ⟨⟩⟩ ?_)
  refine WP.eqNil true true rfl ⟨⟩ rfl rfl rfl rfl rfl (.inl ⟨rfl, rfl⟩) (by kernel_rfl) ?_
  refine WP.condF rfl rfl ?_
  iterate 3 (refine WP.sx tysOk rfl ⟨⟨⟩, ⟨⟩⟩ ?_)
  cases h
  refine WP.retR tysOk rfl rfl ⟨_, _, rfl, ⟨_, _, rfl, rfl, rfl⟩, rfl⟩ (fun w1 hw1 => ⟨rfl, Ret.below_ hw1 (.cons .head .nil)⟩)

abbrev word_Words_S (r : (List ByteArray)) : Value → Heap → Prop := fun v L => ∃ (A1 : Option Addr) (n1 c1 : Nat), v = .slice A1 n1 c1 ∧ OwF A1 n1 r ∧ L = [Ow fS 9 A1 n1 c1 r]
set_option maxRecDepth 20000 in
set_option maxHeartbeats 8000000 in
theorem word_Words_w {w : World} {s1 : ByteArray} {r : (List ByteArray)} (h : word_Words s1 = some r) (pg : GlobE (PH.of w)) :
    Calls Tryd.prog 15 #[.string (s1)] w fun e w' => ∃ v L, e = .returned v ∧ word_Words_S r v L ∧ Ret w w' L := by
  unfold word_Words at h
  refine enter_ Tryd.func15 rfl Tryd.ntmps15 rfl ?_
  iterate 2 (refine WP.sx tysOk rfl ⟨⟨⟩, ⟨⟩⟩ ?_)
  obtain ⟨r1, hg1, h⟩ := bind_some h
  refine WP.callS (strings_Split_S r1) rfl rfl rfl rfl rfl rfl rfl (by kernel_rfl) (fun w1 hw1 => (strings_Split_w hg1 (pg.le ((Held.mem (List.Mem.head _)) _ _ hw1)) :)) ?_
  rintro _ _ ⟨A1, n1, c1, rfl, hf1, rfl⟩
  refine WP.sx tysOk rfl ⟨⟨⟩, ⟨⟩⟩ ?_
  cases h
  refine WP.retR tysOk rfl rfl ⟨_, _, rfl, rfl, rfl⟩ (fun w1 hw1 => ⟨_, _, rfl, ⟨A1, n1, c1, rfl, hf1, rfl⟩, Ret.of_KH hw1 (.cons .head (.cons .head .nil))⟩)

set_option maxRecDepth 20000 in
set_option maxHeartbeats 8000000 in
theorem ref02_Same_w {w : World} {v0 : Value} {v1 : Value} {a1 : List ByteArray} {b1 : List ByteArray} {r : Bool} (h : ref02_Same a1 b1 = some r) (p1 : SlF fS (PH.of w) v0 a1) (p2 : SlF fS (PH.of w) v1 b1) :
    Calls Tryd.prog 14 #[v0, v1] w fun e w' => e = .returned (.bool (r)) ∧ Below w.heap.size w w' := by
  obtain ⟨A1, c1, rfl, hs1⟩ := p1
  obtain ⟨A2, c2, rfl, hs2⟩ := p2
  unfold ref02_Same at h
  refine enter_ Tryd.func14 rfl Tryd.ntmps14 rfl ?_
  iterate 6 (refine WP.sx tysOk rfl ⟨⟨⟩, ⟨⟩⟩ ?_)
  refine WP.cond_d rfl rfl (fun hh1 => ?_) (fun hh1 => ?_)
  ·rw [if_pos hh1] at h
   refine WP.sx tysOk rfl ⟨⟨⟩, ⟨⟩⟩ ?_
   cases h
   refine WP.retR tysOk rfl rfl ⟨_, _, rfl, rfl, rfl⟩ (fun w1 hw1 => ⟨rfl, Ret.below_ hw1 (.cons .head .nil)⟩)
  rw [if_neg hh1] at h
  refine WP.sx tysOk rfl ⟨⟨⟩, ⟨⟩⟩ ?_
  refine WP.loop (α := Nat × Int) (fun x => lp (ref02_Same_b1 a1 b1) x.1 x.2 = some r) (fun x => [(0, .slice A1 a1.length c1), (1, .slice A2 b1.length c2), (5, iv x.2)]) (fun x => [.fz (PH.of w)]) (fun x => x.1) rfl (big, 0) h ?_ ?_ ?_
  ·repeat first|exact ⟨⟩|refine ⟨rfl,?_⟩
  ·exact (.cons .head .nil)
  rintro ⟨n1, i2⟩ h
  dsimp only at h ⊢
  rcases n1 with _ | n1
  · exact (lp_no h).elim
  replace h := lp_succ h
  unfold ref02_Same_b1 at h
  try dsimp only at h
  iterate 4 (refine WP.sx tysOk rfl ⟨⟨⟩, ⟨⟩⟩ ?_)
  refine WP.cond_d rfl rfl (fun hh6 => ?_) (fun hh6 => ?_)
  ·rw [if_pos hh6] at h
   refine WP.draw rfl (by kernel_rfl) (by kernel_rfl) ?_
   iterate 2 (refine WP.sx tysOk rfl ⟨rfl, ⟨⟩⟩ ?_)
   obtain ⟨hj5, h⟩ := ck_some h
   refine WP.ixA tysOk rfl rfl rfl rfl rfl rfl rfl rfl rfl rfl hj5 (hs1.ex hj5) ?_
   intro b6 b6v hA5
   refine WP.lx tysOk rfl rfl (hs1.at0 hA5 (Held.mem (List.Mem.head _)) hj5 rfl) ?_
   iterate 2 (refine WP.sx tysOk rfl ⟨rfl, ⟨⟩⟩ ?_)
   obtain ⟨hj6, h⟩ := ck_some h
   refine WP.ixA tysOk rfl rfl rfl rfl rfl rfl rfl rfl rfl rfl hj6 (hs2.ex hj6) ?_
   intro b7 b7v hA6
   refine WP.lx tysOk rfl rfl (hs2.at0 hA6 (Held.mem (List.Mem.head _)) hj6 rfl) ?_
   refine WP.sx tysOk rfl ⟨rfl, ⟨⟩⟩ ?_
   refine WP.qend rfl ?_
   refine WP.cond_n rfl rfl (fun hh7 => ?_) (fun hh7 => ?_)
   ·rw [if_neg (bneg hh7)] at h
    refine WP.sx tysOk rfl ⟨⟨⟩, ⟨⟩⟩ ?_
    cases h
    refine WP.retR tysOk rfl rfl ⟨_, _, rfl, rfl, rfl⟩ (fun w1 hw1 => ⟨rfl, Ret.below_ hw1 (.cons .head .nil)⟩)
   rw [if_pos hh7] at h
   iterate 3 (refine WP.sx tysOk rfl ⟨⟨⟩, ⟨⟩⟩ ?_)
   refine WP.stop rfl (n1, w64 (i2 + 1)) ⟨h, Nat.lt_succ_self _⟩ ?_ ?_
   ·repeat first|exact ⟨⟩|refine ⟨rfl,?_⟩
   exact (.cons .head .nil)
  rw [if_neg hh6] at h
  refine WP.sx tysOk rfl ⟨⟨⟩, ⟨⟩⟩ ?_
  cases h
  refine WP.retR tysOk rfl rfl ⟨_, _, rfl, rfl, rfl⟩ (fun w1 hw1 => ⟨rfl, Ret.below_ hw1 (.cons .head .nil)⟩)

set_option maxRecDepth 20000 in
set_option maxHeartbeats 8000000 in
theorem word_Text_w {w : World} {n1 : Int} {r : ByteArray} (h : word_Text n1 = some r) (pg : GlobE (PH.of w)) :
    Calls Tryd.prog 11 #[iv n1] w fun e w' => e = .returned (.string (r)) ∧ Below w.heap.size w w' := by
  unfold word_Text at h
  refine enter_ Tryd.func11 rfl Tryd.ntmps11 rfl ?_
  iterate 2 (refine WP.sx tysOk rfl ⟨⟨⟩, ⟨⟩⟩ ?_)
  obtain ⟨r1, hg1, h⟩ := bind_some h
  refine WP.callV rfl rfl rfl rfl rfl rfl rfl (by kernel_rfl) (fun w1 hw1 => (strconv_FormatInt_w hg1 (pg.le ((Held.mem (List.Mem.head _)) _ _ hw1)) :)) ⟨⟩ ?_
  refine WP.sx tysOk rfl ⟨⟨⟩, ⟨⟩⟩ ?_
  cases h
  refine WP.retR tysOk rfl rfl ⟨_, _, rfl, rfl, rfl⟩ (fun w1 hw1 => ⟨rfl, Ret.below_ hw1 (.cons .head .nil)⟩)

abbrev strings_splitSeq_S (o0_0 : ByteArray) (o1_0 : ByteArray) (o2_0 : Int) : Value → Heap → Prop := fun v L => ∃ g2 g1 g3 : Nat, v = .func (.func 42) #[] #[pt g2, pt g1, pt g3] ∧ L = [.blk g2 9 [.string o1_0], .blk g1 9 [.string o0_0], .blk g3 3 [iv o2_0]]
set_option maxRecDepth 20000 in
set_option maxHeartbeats 8000000 in
theorem strings_splitSeq_w {w : World} {o0_0 : ByteArray} {o1_0 : ByteArray} {o2_0 : Int} :
    Calls Tryd.prog 32 #[.string o0_0, .string o1_0, iv o2_0] w fun e w' => ∃ v L, e = .returned v ∧ strings_splitSeq_S o0_0 o1_0 o2_0 v L ∧ Ret w w' L := by
  refine enter_ Tryd.func32 rfl Tryd.ntmps32 rfl ?_
  refine WP.box rfl rfl rfl rfl rfl rfl ?_
  intro g1
  refine WP.box rfl rfl rfl rfl rfl rfl ?_
  intro g2
  refine WP.box rfl rfl rfl rfl rfl rfl ?_
  intro g3
  iterate 3 (refine WP.sx tysOk rfl ⟨⟨⟩, ⟨⟩⟩ ?_)
  refine WP.retR tysOk rfl rfl ⟨_, _, rfl, rfl, rfl⟩ (fun w1 hw1 => ⟨_, _, rfl, ⟨g2, g1, g3, rfl, rfl⟩, Ret.of_KH hw1 (.cons (.tail .head) (.cons (.tail .head) (.cons .head (.cons .head .nil))))⟩)

abbrev strings_SplitSeq_S (o0_0 : ByteArray) (o1_0 : ByteArray) : Value → Heap → Prop := fun v L => ∃ g1 g2 g3 : Nat, v = .func (.func 42) #[] #[pt g1, pt g2, pt g3] ∧ L = [.blk g1 9 [.string o1_0], .blk g2 9 [.string o0_0], .blk g3 3 [iv 0]]
set_option maxRecDepth 20000 in
set_option maxHeartbeats 8000000 in
theorem strings_SplitSeq_w {w : World} {o0_0 : ByteArray} {o1_0 : ByteArray} :
    Calls Tryd.prog 22 #[.string o0_0, .string o1_0] w fun e w' => ∃ v L, e = .returned v ∧ strings_SplitSeq_S o0_0 o1_0 v L ∧ Ret w w' L := by
  refine enter_ Tryd.func22 rfl Tryd.ntmps22 rfl ?_
  iterate 3 (refine WP.sx tysOk rfl ⟨⟨⟩, ⟨⟩⟩ ?_)
  refine WP.callS (strings_splitSeq_S o0_0 o1_0 0) rfl rfl rfl rfl rfl rfl rfl (by kernel_rfl) (fun w1 hw1 => strings_splitSeq_w) ?_
  rintro _ _ ⟨g1, g2, g3, rfl, rfl⟩
  refine WP.sx tysOk rfl ⟨⟨⟩, ⟨⟩⟩ ?_
  refine WP.retR tysOk rfl rfl ⟨_, _, rfl, rfl, rfl⟩ (fun w1 hw1 => ⟨_, _, rfl, ⟨g1, g2, g3, rfl, rfl⟩, Ret.of_KH hw1 Pick.all⟩)

set_option maxRecDepth 20000 in
set_option maxHeartbeats 8000000 in
theorem strings_splitSeq_1_it {Zg : PH} {gg1 : Nat} {gg2 : Nat} {gg3 : Nat} {x1 : ByteArray} {x2 : ByteArray} {x3 : Int} {xs : List (ByteArray)} (h : strings_splitSeq_1 x1 x2 x3 = some xs) :
    IterM Tryd.prog 42 #[pt gg1, pt gg2, pt gg3] strings_splitSeq_1_enc xs [.blk gg2 9 [.string (x2)]] [.blk gg1 9 [.string (x1)], .blk gg3 3 [iv x3], .fz Zg] := by
  intro l C Cx Z w hy hC hK
  obtain ⟨ZB, hZB⟩ : ∃ Z', Z' = PH.butM w Z [.blk gg2 9 [.string (x2)]] := ⟨_, rfl⟩
  have hKs : KH w [.fz Z, .blk gg2 9 [.string (x2)], .fz ZB] w := by rw [hZB]; exact hK.splitM
  have hb1 : Zc ZB gg1 0 = some (.string (x1)) := by rw [hZB]; exact hK.butMCell (List.Mem.head _) rfl
  have hb2 : Zc ZB gg3 0 = some (iv x3) := by rw [hZB]; exact hK.butMCell (List.Mem.tail _ (List.Mem.head _)) rfl
  obtain ⟨r, h, hx⟩ : ∃ r, strings_splitSeq_1 x1 x2 x3 = some r ∧ xs = [] ++ r := ⟨xs, h, rfl⟩
  unfold strings_splitSeq_1 at h
  refine enterH Tryd.func42 rfl Tryd.ntmps42 rfl hKs (args := [.func (.yield l) #[] #[], pt gg1, pt gg2, pt gg3]) ?_
  refine WP.lx tysOk rfl ⟨⟩ (Held.cell (Held.mem (List.Mem.tail _ (List.Mem.tail _ (List.Mem.head _)))) hb1) ?_
  iterate 2 (refine WP.sx tysOk rfl ⟨⟨⟩, ⟨⟩⟩ ?_)
  refine WP.cond_d rfl rfl (fun hh1 => ?_) (fun hh1 => ?_)
  ·rw [if_pos hh1] at h
   refine WP.loop (α := Nat × ByteArray × (List (ByteArray)) × (List (ByteArray)) × PH) (fun x => lp (strings_splitSeq_1_b1) x.1 x.2.1 = some x.2.2.2.1 ∧ xs = x.2.2.1 ++ x.2.2.2.1 ∧ C x.2.2.1 x.2.2.2.2) (fun x => [(0, .func (.yield l) #[] #[]), (2, pt gg2)]) (fun x => [.fz x.2.2.2.2, .blk gg2 9 [.string (x.2.1)], .fz ZB]) (fun x => x.1) rfl (big, x2, [], r, Z) ⟨h, hx, hC⟩ ?_ ?_ ?_
   ·repeat first|exact ⟨⟩|refine ⟨rfl,?_⟩
   ·exact Pick.all
   rintro ⟨n1, s2, pre3, r5, Zy7⟩ ⟨h, hx5, hC7⟩
   dsimp only at h hx5 hC7 ⊢
   rcases n1 with _ | n1
   · exact (lp_no h).elim
   replace h := lp_succ h
   unfold strings_splitSeq_1_b1 at h
   try dsimp only at h
   refine WP.lx tysOk rfl ⟨⟩ (CellAt.blk (.tail .head) rfl) ?_
   iterate 2 (refine WP.sx tysOk rfl ⟨⟨⟩, ⟨⟩⟩ ?_)
   refine WP.cond_d rfl rfl (fun hh4 => ?_) (fun hh4 => ?_)
   ·rw [if_pos hh4] at h
    refine WP.lx tysOk rfl ⟨⟩ (CellAt.blk (.tail .head) rfl) ?_
    obtain ⟨r6, hg3, h⟩ := bind_some h
    refine WP.callV rfl rfl rfl rfl rfl rfl rfl (by kernel_rfl) (fun w1 hw1 => (unicode_utf8_DecodeRuneInString_w hg3  :)) ⟨⟩ ?_
    iterate 6 (refine WP.sx tysOk rfl ⟨⟨⟩, ⟨⟩⟩ ?_)
    refine WP.lx tysOk rfl ⟨⟩ (CellAt.blk (.tail .head) rfl) ?_
    refine WP.sx tysOk rfl ⟨⟨⟩, ⟨⟩⟩ ?_
    obtain ⟨hb7, h⟩ := ck_some h
    refine WP.sslc 0 r6.2 tysOk rfl ⟨⟩ rfl rfl rfl rfl rfl rfl rfl ⟨_, rfl⟩ hb7 ?_
    obtain ⟨post3, hq, e3⟩ := bind_some h
    clear h
    replace e3 := Option.some.inj e3
    subst e3
    have h := hq
    clear hq
    have hx6 := snoc_post hx5
    refine WP.yield hy (x := (s2.extract (0 : Int).toNat r6.2.toNat)) (pre := pre3) rfl rfl rfl rfl rfl rfl rfl rfl ⟨post3, hx5⟩ hC7 .head (fun Zy8 hC8 => ?_) (fun Zy9 hC9 => ?_)
    ·refine WP.sx tysOk rfl ⟨⟨⟩, ⟨⟩⟩ ?_
     refine WP.condF rfl rfl ?_
     refine WP.lx tysOk rfl ⟨⟩ (CellAt.blk (.tail .head) rfl) ?_
     refine WP.sx tysOk rfl ⟨⟨⟩, ⟨⟩⟩ ?_
     obtain ⟨hb8, h⟩ := ck_some h
     refine WP.sslc r6.2 (s2.size : Int) tysOk rfl ⟨⟩ rfl rfl rfl rfl rfl rfl ⟨_, rfl⟩ rfl hb8 ?_
     refine WP.sto' tysOk [.string ((s2.extract r6.2.toNat (s2.size : Int).toNat))] rfl rfl rfl rfl rfl rfl rfl rfl rfl (.tail .head) rfl rfl ?_
     refine WP.stop rfl (n1, (s2.extract r6.2.toNat (s2.size : Int).toNat), (pre3 ++ [(s2.extract (0 : Int).toNat r6.2.toNat)]), post3, Zy8) ⟨⟨h, hx6, hC8⟩, Nat.lt_succ_self _⟩ ?_ ?_
     ·repeat first|exact ⟨⟩|refine ⟨rfl,?_⟩
     exact (.cons (.tail .head) (.cons .head (.cons .head .nil)))
    refine WP.sx tysOk rfl ⟨⟨⟩, ⟨⟩⟩ ?_
    refine WP.condT rfl rfl ?_
    refine WP.ret0 rfl rfl (fun w1 hw1 => ⟨⟨_, rfl⟩, .inr ⟨_, Zy9, hC9, hw1.toTurnM' hZB (.cons .head (.cons (.tail .head) (.cons .head .nil))) (foot_keep (.cons .nil))⟩⟩)
   rw [if_neg hh4] at h
   replace h := Option.some.inj h
   subst h
   refine WP.ret0 rfl rfl (fun w1 hw1 => ⟨⟨_, rfl⟩, .inl ⟨Zy7, by rw [hx5, List.append_nil]; exact hC7, hw1.toTurnM' hZB (.cons .head (.cons (.tail .head) (.cons .head .nil))) (foot_keep (.cons .nil))⟩⟩)
  rw [if_neg hh1] at h
  refine WP.loop (α := Nat × ByteArray × (List (ByteArray)) × (List (ByteArray)) × PH) (fun x => lp (strings_splitSeq_1_b2 x1 x3) x.1 x.2.1 = some x.2.2.2.1 ∧ xs = x.2.2.1 ++ x.2.2.2.1 ∧ C x.2.2.1 x.2.2.2.2) (fun x => [(0, .func (.yield l) #[] #[]), (1, pt gg1), (2, pt gg2), (3, pt gg3)]) (fun x => [.fz x.2.2.2.2, .blk gg2 9 [.string (x.2.1)], .fz ZB]) (fun x => x.1) rfl (big, x2, [], r, Z) ⟨h, hx, hC⟩ ?_ ?_ ?_
  ·repeat first|exact ⟨⟩|refine ⟨rfl,?_⟩
  ·exact Pick.all
  rintro ⟨n2, s4, pre6, r11, Zy20⟩ ⟨h, hx13, hC20⟩
  dsimp only at h hx13 hC20 ⊢
  rcases n2 with _ | n2
  · exact (lp_no h).elim
  replace h := lp_succ h
  unfold strings_splitSeq_1_b2 at h
  try dsimp only at h
  refine WP.lx tysOk rfl ⟨⟩ (CellAt.blk (.tail .head) rfl) ?_
  refine WP.lx tysOk rfl ⟨⟩ (Held.cell (Held.mem (List.Mem.tail _ (List.Mem.tail _ (List.Mem.head _)))) hb1) ?_
  obtain ⟨r12, hg6, h⟩ := bind_some h
  refine WP.callV rfl rfl rfl rfl rfl rfl rfl (by kernel_rfl) (fun w1 hw1 => (strings_Index_w hg6  :)) ⟨⟩ ?_
  iterate 3 (refine WP.sx tysOk rfl ⟨⟨⟩, ⟨⟩⟩ ?_)
  refine WP.cond_d rfl rfl (fun hh7 => ?_) (fun hh7 => ?_)
  ·rw [if_pos hh7] at h
   refine WP.sx tysOk rfl ⟨⟨⟩, ⟨⟩⟩ ?_
   refine WP.lx tysOk rfl ⟨⟩ (CellAt.blk (.tail .head) rfl) ?_
   obtain ⟨post8, hq, e8⟩ := bind_some h
   clear h
   replace e8 := Option.some.inj e8
   subst e8
   have h := hq
   clear hq
   have hx14 := snoc_post hx13
   refine WP.yield hy (x := s4) (pre := pre6) rfl rfl rfl rfl rfl rfl rfl rfl ⟨post8, hx13⟩ hC20 .head (fun Zy21 hC21 => ?_) (fun Zy22 hC22 => ?_)
   ·replace h := Option.some.inj h
    subst h
    refine WP.end0 rfl rfl (fun w1 hw1 => ⟨⟨_, rfl⟩, .inl ⟨Zy21, by rw [hx14, List.append_nil]; exact hC21, hw1.toTurnM' hZB (.cons .head (.cons (.tail .head) (.cons .head .nil))) (foot_keep (.cons .nil))⟩⟩)
   refine WP.end0 rfl rfl (fun w1 hw1 => ⟨⟨_, rfl⟩, .inr ⟨_, Zy22, hC22, hw1.toTurnM' hZB (.cons .head (.cons (.tail .head) (.cons .head .nil))) (foot_keep (.cons .nil))⟩⟩)
  rw [if_neg hh7] at h
  refine WP.lx tysOk rfl ⟨⟩ (CellAt.blk (.tail .head) rfl) ?_
  refine WP.sx tysOk rfl ⟨⟨⟩, ⟨⟩⟩ ?_
  refine WP.lx tysOk rfl ⟨⟩ (Held.cell (Held.mem (List.Mem.tail _ (List.Mem.tail _ (List.Mem.head _)))) hb2) ?_
  refine WP.sx tysOk rfl ⟨⟨⟩, ⟨⟩⟩ ?_
  obtain ⟨hb13, h⟩ := ck_some h
  refine WP.sslc 0 (w64 (r12 + x3)) tysOk rfl ⟨⟩ rfl rfl rfl rfl rfl rfl rfl ⟨_, rfl⟩ hb13 ?_
  iterate 3 (refine WP.sx tysOk rfl ⟨⟨⟩, ⟨⟩⟩ ?_)
  obtain ⟨post9, hq, e9⟩ := bind_some h
  clear h
  replace e9 := Option.some.inj e9
  subst e9
  have h := hq
  clear hq
  have hx15 := snoc_post hx13
  refine WP.yield hy (x := (s4.extract (0 : Int).toNat (w64 (r12 + x3)).toNat)) (pre := pre6) rfl rfl rfl rfl rfl rfl rfl rfl ⟨post9, hx13⟩ hC20 .head (fun Zy23 hC23 => ?_) (fun Zy24 hC24 => ?_)
  ·refine WP.sx tysOk rfl ⟨⟨⟩, ⟨⟩⟩ ?_
   refine WP.condF rfl rfl ?_
   refine WP.lx tysOk rfl ⟨⟩ (CellAt.blk (.tail .head) rfl) ?_
   refine WP.sx tysOk rfl ⟨⟨⟩, ⟨⟩⟩ ?_
   refine WP.lx tysOk rfl ⟨⟩ (Held.cell (Held.mem (List.Mem.tail _ (List.Mem.tail _ (List.Mem.head _)))) hb1) ?_
   iterate 2 (refine WP.sx tysOk rfl ⟨⟨⟩, ⟨⟩⟩ ?_)
   obtain ⟨hb14, h⟩ := ck_some h
   refine WP.sslc (w64 (r12 + (x1.size : Int))) (s4.size : Int) tysOk rfl ⟨⟩ rfl rfl rfl rfl rfl rfl ⟨_, rfl⟩ rfl hb14 ?_
   refine WP.sto' tysOk [.string ((s4.extract (w64 (r12 + (x1.size : Int))).toNat (s4.size : Int).toNat))] rfl rfl rfl rfl rfl rfl rfl rfl rfl (.tail .head) rfl rfl ?_
   refine WP.stop rfl (n2, (s4.extract (w64 (r12 + (x1.size : Int))).toNat (s4.size : Int).toNat), (pre6 ++ [(s4.extract (0 : Int).toNat (w64 (r12 + x3)).toNat)]), post9, Zy23) ⟨⟨h, hx15, hC23⟩, Nat.lt_succ_self _⟩ ?_ ?_
   ·repeat first|exact ⟨⟩|refine ⟨rfl,?_⟩
   exact (.cons (.tail .head) (.cons .head (.cons .head .nil)))
  refine WP.sx tysOk rfl ⟨⟨⟩, ⟨⟩⟩ ?_
  refine WP.condT rfl rfl ?_
  refine WP.ret0 rfl rfl (fun w1 hw1 => ⟨⟨_, rfl⟩, .inr ⟨_, Zy24, hC24, hw1.toTurnM' hZB (.cons .head (.cons (.tail .head) (.cons .head .nil))) (foot_keep (.cons .nil))⟩⟩)

abbrev word_Lines_S (r : (List ByteArray)) : Value → Heap → Prop := fun v L => ∃ (A1 : Option Addr) (n1 c1 : Nat), v = .slice A1 n1 c1 ∧ OwF A1 n1 r ∧ L = [Ow fS 9 A1 n1 c1 r]
set_option maxRecDepth 20000 in
set_option maxHeartbeats 8000000 in
theorem word_Lines_w {w : World} {s1 : ByteArray} {r : (List ByteArray)} (h : word_Lines s1 = some r) :
    Calls Tryd.prog 10 #[.string (s1)] w fun e w' => ∃ v L, e = .returned v ∧ word_Lines_S r v L ∧ Ret w w' L := by
  unfold word_Lines at h
  refine enterM_ Tryd.func10 rfl Tryd.ntmps10 rfl ?_
  refine WP.sx tysOk rfl ⟨⟨⟩, ⟨⟩⟩ ?_
  refine WP.al tysOk rfl rfl rfl rfl rfl rfl ?_
  intro g1
  refine WP.sx tysOk rfl ⟨⟨⟩, ⟨⟩⟩ ?_
  refine WP.callS (strings_SplitSeq_S s1 (ByteArray.mk #[10])) rfl rfl rfl rfl rfl rfl rfl (by kernel_rfl) (fun w1 hw1 => strings_SplitSeq_w) ?_
  rintro _ _ ⟨g2, g3, g4, rfl, rfl⟩
  obtain ⟨xs8, hxs1, h⟩ := bind_some h
  obtain ⟨kd1, hkd1, h⟩ := lt_some h
  refine WP.own_nil 9 fS.z ?_
  refine WP.rangeM (α := ByteArray) (σ := (List ByteArray) × (Option Addr) × Nat × Nat) (β := Unit) xs8 (Jc := fun pre st => ∃ post, xs8 = pre ++ post ∧ fe word_Lines_r1 post kd1 st.1 = some r ∧ OwF st.2.1 st.2.2.1 st.1) (Hc := fun st => [Ow fS 9 st.2.1 st.2.2.1 st.2.2.2 st.1, .blk g1 23 [.slice st.2.1 st.2.2.1 st.2.2.2]]) (Jx := fun _ _ _ => False) (fun x y => [(2, sn), (3, pt g1), (4, .string (x))]) (fun x y => []) [.blk g3 9 [.string (s1)]] [.blk g2 9 [.string ((ByteArray.mk #[10]))], .blk g4 3 [iv 0], .fz (PH.of w)] (([] : List ByteArray), none, 0, 0) rfl rfl (by kernel_rfl) (fun _ => rfl) rfl ⟨xs8, rfl, h, OwF.nil_⟩ ?_ (strings_splitSeq_1_it hxs1 ) ?_ ?_ ?_ ?_
  ·exact (.cons .head (.cons (.tail (.tail (.tail .head))) (.cons (.tail .head) (.cons .head (.cons .head (.cons .head .nil))))))
  ·intro l1 x1 W1 Zr1
   refine WP.sx tysOk rfl ⟨⟨⟩, ⟨⟩⟩ ?_
   refine WP.stop rfl () True.intro ?_ ?_
   ·repeat first|exact ⟨⟩|refine ⟨rfl,?_⟩
   exact (.cons .head .nil)
  ·rintro l1 pre1 x1 post1 ⟨xs5, A5, m2, c5⟩ _ W2 Zr1 e1 ⟨postq1, e2, h, hf8⟩
   obtain rfl := cancel_post e1 e2
   dsimp only at h hf8 ⊢
   replace h := fe_cons h
   unfold word_Lines_r1 at h
   try dsimp only at h
   refine WP.lx tysOk rfl ⟨⟩ (CellAt.blk (.tail .head) rfl) ?_
   refine WP.sx tysOk rfl ⟨⟨⟩, ⟨⟩⟩ ?_
   refine WP.bsO (f := fS) [x1] tysOk rfl rfl rfl rfl rfl rfl rfl rfl rfl rfl rfl rfl rfl rfl ?_
   intro g8 hf10
   obtain ⟨hl4, h⟩ := ck_some h
   obtain ⟨xs7, hz5, h⟩ := lt_some h
   refine WP.appO (f := fS) (xs := xs5) (ys := [x1]) tysOk rfl rfl rfl rfl rfl rfl rfl rfl rfl rfl rfl rfl (.tail .head) hf8 hf10.len (OwS.app .head hf10) hl4 hz5 ?_
   intro A6 c6 hf11
   refine WP.sto' tysOk [.slice A6 xs7.length c6] rfl rfl rfl rfl rfl rfl rfl rfl rfl (.tail (.tail .head)) rfl rfl ?_
   refine WP.stop rfl (xs7, A6, xs7.length, c6) ⟨post1, snoc_post e1, h, hf11⟩ ?_ ?_
   ·repeat first|exact ⟨⟩|refine ⟨rfl,?_⟩
   exact (.cons (.tail .head) (.cons .head (.cons (.tail .head) .nil)))
  ·rintro Dd1 Zd1 ⟨xs5, A5, m2, c5⟩ hZd1 ⟨post1, e1, h, hf8⟩
   obtain rfl : post1 = [] := by simpa using e1
   replace h := (show _ = some r from h)
   dsimp only [fe] at h ⊢
   subst hkd1
   try dsimp only at h
   refine WP.lx tysOk rfl ⟨⟩ (CellAt.blk (.tail .head) rfl) ?_
   refine WP.lx tysOk rfl ⟨⟩ (CellAt.blk (.tail .head) rfl) ?_
   refine WP.lenO (xs := xs5) tysOk rfl ⟨⟩ rfl rfl rfl rfl rfl rfl hf8 ?_
   refine WP.sx tysOk rfl ⟨⟨⟩, ⟨⟩⟩ ?_
   obtain ⟨hj1, h⟩ := ck_some h
   refine WP.ixO tysOk rfl ⟨⟩ rfl rfl rfl rfl rfl rfl rfl rfl hf8 hj1 ?_
   intro b1 hA1
   refine WP.lx tysOk rfl ⟨⟩ (OwS.at0 .head hA1 hj1 rfl) ?_
   refine WP.sx tysOk rfl ⟨⟨⟩, ⟨⟩⟩ ?_
   refine WP.cond rfl rfl (fun hh1 => ?_) (fun hh1 => ?_)
   ·rw [if_pos hh1] at h
    refine WP.lx tysOk rfl ⟨⟩ (CellAt.blk (.tail .head) rfl) ?_
    refine WP.lx tysOk rfl ⟨⟩ (CellAt.blk (.tail .head) rfl) ?_
    refine WP.lenO (xs := xs5) tysOk rfl ⟨⟩ rfl rfl rfl rfl rfl rfl hf8 ?_
    refine WP.sx tysOk rfl ⟨⟨⟩, ⟨⟩⟩ ?_
    obtain ⟨hb1, h⟩ := ck_some h
    obtain ⟨xs6, hz4, h⟩ := lt_some h
    refine WP.slP (f := fS) (xs := xs5) (zs := xs6) (w64 ((xs5.length : Int) - 1)) tysOk rfl ⟨⟩ rfl rfl rfl rfl rfl rfl rfl ⟨_, rfl⟩ .head hf8 hb1 hz4 (by decide) ?_
    intro hf9
    refine WP.sto' tysOk [.slice A5 ((w64 ((xs5.length : Int) - 1)).toNat) c5] rfl rfl rfl rfl rfl rfl rfl rfl rfl (.tail .head) rfl rfl ?_
    refine WP.lx tysOk rfl ⟨⟩ (CellAt.blk .head rfl) ?_
    refine WP.sx tysOk rfl ⟨⟨⟩, ⟨⟩⟩ ?_
    replace h := Option.some.inj h
    subst h
    refine WP.retM1 tysOk rfl hZd1 (.tail (.tail (.tail (.tail (.tail .head))))) rfl ⟨_, _, rfl, rfl, rfl⟩ (fun w1 hw1 => ⟨_, _, rfl, ⟨A5, (w64 ((xs5.length : Int) - 1)).toNat, c5, rfl, hf9, rfl⟩, Ret.of_KH hw1 (.cons (.tail .head) (.cons (.tail (.tail (.tail .head))) .nil))⟩)
   rw [if_neg (bneg hh1)] at h
   refine WP.lx tysOk rfl ⟨⟩ (CellAt.blk (.tail .head) rfl) ?_
   refine WP.sx tysOk rfl ⟨⟨⟩, ⟨⟩⟩ ?_
   replace h := Option.some.inj h
   subst h
   refine WP.retM1 tysOk rfl hZd1 (.tail (.tail (.tail (.tail (.tail .head))))) rfl ⟨_, _, rfl, rfl, rfl⟩ (fun w1 hw1 => ⟨_, _, rfl, ⟨A5, m2, c5, rfl, hf8, rfl⟩, Ret.of_KH hw1 (.cons .head (.cons (.tail (.tail (.tail .head))) .nil))⟩)
  rintro Dd1 Zd1 c7 pre2 _ hZd1 hf
  exact hf.elim

set_option maxRecDepth 20000 in
set_option maxHeartbeats 8000000 in
theorem law02_known_w {w : World} {r : Bool} (h : law02_known  = some r) (pg : GlobE (PH.of w)) :
    Calls Tryd.prog 9 #[] w fun e w' => e = .returned (.bool (r)) ∧ Below w.heap.size w w' := by
  unfold law02_known at h
  refine enter_ Tryd.func9 rfl Tryd.ntmps9 rfl ?_
  refine WP.sx tysOk rfl ⟨⟨⟩, ⟨⟩⟩ ?_
  obtain ⟨r1, hg1, h⟩ := bind_some h
  refine WP.callV rfl rfl rfl rfl rfl rfl rfl (by kernel_rfl) (fun w1 hw1 => (word_Number_w hg1 (pg.le ((Held.mem (List.Mem.head _)) _ _ hw1)) :)) ⟨⟩ ?_
  iterate 5 (refine WP.sx tysOk rfl ⟨⟨⟩, ⟨⟩⟩ ?_)
  obtain ⟨r2, hg2, h⟩ := bind_some h
  refine WP.callV rfl rfl rfl rfl rfl rfl rfl (by kernel_rfl) (fun w1 hw1 => (word_Number_w hg2 (pg.le ((Held.mem (List.Mem.head _)) _ _ hw1)) :)) ⟨⟩ ?_
  iterate 5 (refine WP.sx tysOk rfl ⟨⟨⟩, ⟨⟩⟩ ?_)
  obtain ⟨r3, hg3, h⟩ := bind_some h
  refine WP.callV rfl rfl rfl rfl rfl rfl rfl (by kernel_rfl) (fun w1 hw1 => (word_Number_w hg3 (pg.le ((Held.mem (List.Mem.head _)) _ _ hw1)) :)) ⟨⟩ ?_
  iterate 5 (refine WP.sx tysOk rfl ⟨⟨⟩, ⟨⟩⟩ ?_)
  obtain ⟨r4, hg4, h⟩ := bind_some h
  refine WP.callS (word_Words_S r4) rfl rfl rfl rfl rfl rfl rfl (by kernel_rfl) (fun w1 hw1 => (word_Words_w hg4 (pg.le ((Held.mem (List.Mem.head _)) _ _ hw1)) :)) ?_
  rintro _ _ ⟨A1, n1, c1, rfl, hf1, rfl⟩
  refine WP.bsO (f := fS) [(ByteArray.mk #[97]), (ByteArray.mk #[]), (ByteArray.mk #[98])] tysOk rfl rfl rfl rfl rfl rfl rfl rfl rfl rfl rfl rfl rfl rfl ?_
  intro g1 hf2
  obtain ⟨r5, hg5, h⟩ := bind_some h
  refine WP.callV rfl rfl rfl rfl rfl rfl rfl (by kernel_rfl) (fun w1 hw1 => (ref02_Same_w hg5 (hw1.ow (.tail .head) hf1) (hw1.ow .head hf2) :)) ⟨⟩ ?_
  refine WP.sx tysOk rfl ⟨⟨⟩, ⟨⟩⟩ ?_
  by_cases hh1 : r5 = true
  ·rw [if_pos hh1] at h
   refine WP.yes rfl rfl hh1 ?_
   refine WP.sx tysOk rfl ⟨⟨⟩, ⟨⟩⟩ ?_
   refine WP.yes rfl rfl rfl ?_
   iterate 3 (refine WP.sx tysOk rfl ⟨⟨⟩, ⟨⟩⟩ ?_)
   by_cases hh2 : r1.2 = 10
   ·rw [if_pos hh2] at h
    refine WP.yes rfl rfl (decide_eq_true hh2) ?_
    refine WP.sx tysOk rfl ⟨⟨⟩, ⟨⟩⟩ ?_
    refine WP.yes rfl rfl rfl ?_
    iterate 3 (refine WP.sx tysOk rfl ⟨⟨⟩, ⟨⟩⟩ ?_)
    by_cases hh3 : r2.1 = (-9223372036854775808)
    ·rw [if_pos hh3] at h
     refine WP.yes rfl rfl (decide_eq_true hh3) ?_
     refine WP.sx tysOk rfl ⟨⟨⟩, ⟨⟩⟩ ?_
     refine WP.yes rfl rfl rfl ?_
     iterate 3 (refine WP.sx tysOk rfl ⟨⟨⟩, ⟨⟩⟩ ?_)
     by_cases hh4 : r2.2 = 0
     ·rw [if_pos hh4] at h
      refine WP.yes rfl rfl (decide_eq_true hh4) ?_
      refine WP.sx tysOk rfl ⟨⟨⟩, ⟨⟩⟩ ?_
      refine WP.yes rfl rfl rfl ?_
      iterate 3 (refine WP.sx tysOk rfl ⟨⟨⟩, ⟨⟩⟩ ?_)
      by_cases hh5 : r3.2 = 11
      ·rw [if_pos hh5] at h
       refine WP.yes rfl rfl (decide_eq_true hh5) ?_
       obtain ⟨r6, hg6, h⟩ := bind_some h
       refine WP.callV rfl rfl rfl rfl rfl rfl rfl (by kernel_rfl) (fun w1 hw1 => (word_Text_w hg6 (pg.le ((Held.mem (List.Mem.tail _ (List.Mem.tail _ (List.Mem.head _)))) _ _ hw1)) :)) ⟨⟩ ?_
       refine WP.yes rfl rfl rfl ?_
       iterate 3 (refine WP.sx tysOk rfl ⟨⟨⟩, ⟨⟩⟩ ?_)
       by_cases hh6 : (r6.toList == (ByteArray.mk #[45, 55]).toList) = true
       ·rw [if_pos hh6] at h
        refine WP.yes rfl rfl hh6 ?_
        obtain ⟨r7, hg7, h⟩ := bind_some h
        refine WP.callS (word_Lines_S r7) rfl rfl rfl rfl rfl rfl rfl (by kernel_rfl) (fun w1 hw1 => (word_Lines_w hg7  :)) ?_
        rintro _ _ ⟨A2, n2, c2, rfl, hf3, rfl⟩
        refine WP.yes rfl rfl rfl ?_
        refine WP.lenO (xs := r7) tysOk rfl ⟨⟩ rfl rfl rfl rfl rfl rfl hf3 ?_
        refine WP.yes rfl rfl rfl ?_
        iterate 3 (refine WP.sx tysOk rfl ⟨⟨⟩, ⟨⟩⟩ ?_)
        cases h
        refine WP.retR tysOk rfl rfl ⟨_, _, rfl, rfl, rfl⟩ (fun w1 hw1 => ⟨rfl, Ret.below_ hw1 (.cons (.tail (.tail (.tail .head))) .nil)⟩)
       rw [if_neg hh6] at h
       refine WP.no rfl rfl (bfalse hh6) rfl rfl ?_
       iterate 2 (refine WP.no rfl rfl rfl rfl rfl ?_)
       iterate 2 (refine WP.sx tysOk rfl ⟨⟨⟩, ⟨⟩⟩ ?_)
       cases h
       refine WP.retR tysOk rfl rfl ⟨_, _, rfl, rfl, rfl⟩ (fun w1 hw1 => ⟨rfl, Ret.below_ hw1 (.cons (.tail (.tail .head)) .nil)⟩)
      rw [if_neg hh5] at h
      refine WP.no rfl rfl (decide_eq_false hh5) rfl rfl ?_
      refine WP.no rfl rfl rfl rfl rfl ?_
      iterate 2 (refine WP.sx tysOk rfl ⟨⟨⟩, ⟨⟩⟩ ?_)
      iterate 3 (refine WP.no rfl rfl rfl rfl rfl ?_)
      iterate 2 (refine WP.sx tysOk rfl ⟨⟨⟩, ⟨⟩⟩ ?_)
      cases h
      refine WP.retR tysOk rfl rfl ⟨_, _, rfl, rfl, rfl⟩ (fun w1 hw1 => ⟨rfl, Ret.below_ hw1 (.cons (.tail (.tail .head)) .nil)⟩)
     rw [if_neg hh4] at h
     refine WP.no rfl rfl (decide_eq_false hh4) rfl rfl ?_
     iterate 2 (refine WP.no rfl rfl rfl rfl rfl ?_; (iterate 2 (refine WP.sx tysOk rfl ⟨⟨⟩, ⟨⟩⟩ ?_)); refine WP.no rfl rfl rfl rfl rfl ?_)
     iterate 2 (refine WP.no rfl rfl rfl rfl rfl ?_)
     iterate 2 (refine WP.sx tysOk rfl ⟨⟨⟩, ⟨⟩⟩ ?_)
     cases h
     refine WP.retR tysOk rfl rfl ⟨_, _, rfl, rfl, rfl⟩ (fun w1 hw1 => ⟨rfl, Ret.below_ hw1 (.cons (.tail (.tail .head)) .nil)⟩)
    rw [if_neg hh3] at h
    refine WP.no rfl rfl (decide_eq_false hh3) rfl rfl ?_
    iterate 3 (refine WP.no rfl rfl rfl rfl rfl ?_; (iterate 2 (refine WP.sx tysOk rfl ⟨⟨⟩, ⟨⟩⟩ ?_)); refine WP.no rfl rfl rfl rfl rfl ?_)
    iterate 2 (refine WP.no rfl rfl rfl rfl rfl ?_)
    iterate 2 (refine WP.sx tysOk rfl ⟨⟨⟩, ⟨⟩⟩ ?_)
    cases h
    refine WP.retR tysOk rfl rfl ⟨_, _, rfl, rfl, rfl⟩ (fun w1 hw1 => ⟨rfl, Ret.below_ hw1 (.cons (.tail (.tail .head)) .nil)⟩)
   rw [if_neg hh2] at h
   refine WP.no rfl rfl (decide_eq_false hh2) rfl rfl ?_
   iterate 4 (refine WP.no rfl rfl rfl rfl rfl ?_; (iterate 2 (refine WP.sx tysOk rfl ⟨⟨⟩, ⟨⟩⟩ ?_)); refine WP.no rfl rfl rfl rfl rfl ?_)
   iterate 2 (refine WP.no rfl rfl rfl rfl rfl ?_)
   iterate 2 (refine WP.sx tysOk rfl ⟨⟨⟩, ⟨⟩⟩ ?_)
   cases h
   refine WP.retR tysOk rfl rfl ⟨_, _, rfl, rfl, rfl⟩ (fun w1 hw1 => ⟨rfl, Ret.below_ hw1 (.cons (.tail (.tail .head)) .nil)⟩)
  rw [if_neg hh1] at h
  refine WP.no rfl rfl (bfalse hh1) rfl rfl ?_
  iterate 5 (refine WP.no rfl rfl rfl rfl rfl ?_; (iterate 2 (refine WP.sx tysOk rfl ⟨⟨⟩, ⟨⟩⟩ ?_)); refine WP.no rfl rfl rfl rfl rfl ?_)
  iterate 2 (refine WP.no rfl rfl rfl rfl rfl ?_)
  iterate 2 (refine WP.sx tysOk rfl ⟨⟨⟩, ⟨⟩⟩ ?_)
  cases h
  refine WP.retR tysOk rfl rfl ⟨_, _, rfl, rfl, rfl⟩ (fun w1 hw1 => ⟨rfl, Ret.below_ hw1 (.cons (.tail (.tail .head)) .nil)⟩)

set_option maxRecDepth 20000 in
set_option maxHeartbeats 8000000 in
theorem law02_WordLines_w {w : World} {d1 : ByteArray} {r : Bool} (h : law02_WordLines d1 = some r) (pg : GlobE (PH.of w)) :
    Calls Tryd.prog 3 #[.string (d1)] w fun e w' => e = .returned (.bool (r)) ∧ Below w.heap.size w w' := by
  unfold law02_WordLines at h
  refine enter_ Tryd.func3 rfl Tryd.ntmps3 rfl ?_
  iterate 4 (refine WP.sx tysOk rfl ⟨⟨⟩, ⟨⟩⟩ ?_)
  refine WP.cond_d rfl rfl (fun hh1 => ?_) (fun hh1 => ?_)
  ·rw [if_pos hh1] at h
   obtain ⟨r1, hg1, h⟩ := bind_some h
   refine WP.callV rfl rfl rfl rfl rfl rfl rfl (by kernel_rfl) (fun w1 hw1 => (law02_known_w hg1 (pg.le ((Held.mem (List.Mem.head _)) _ _ hw1)) :)) ⟨⟩ ?_
   refine WP.sx tysOk rfl ⟨⟨⟩, ⟨⟩⟩ ?_
   cases h
   refine WP.retR tysOk rfl rfl ⟨_, _, rfl, rfl, rfl⟩ (fun w1 hw1 => ⟨rfl, Ret.below_ hw1 (.cons .head .nil)⟩)
  rw [if_neg hh1] at h
  refine WP.sx tysOk rfl ⟨⟨⟩, ⟨⟩⟩ ?_
  obtain ⟨r2, hg2, h⟩ := bind_some h
  refine WP.callS (word_Lines_S r2) rfl rfl rfl rfl rfl rfl rfl (by kernel_rfl) (fun w1 hw1 => (word_Lines_w hg2  :)) ?_
  rintro _ _ ⟨A1, n1, c1, rfl, hf1, rfl⟩
  iterate 3 (refine WP.sx tysOk rfl ⟨⟨⟩, ⟨⟩⟩ ?_)
  refine WP.loop (α := Nat × ByteArray × Int) (fun x => lp (law02_WordLines_b1 d1 r2) x.1 (x.2.1, x.2.2) = some r) (fun x => [(0, .string (d1)), (3, .slice A1 n1 c1), (4, .string (x.2.1)), (5, iv x.2.2)]) (fun x => [Ow fS 9 A1 n1 c1 r2, .fz (PH.of w)]) (fun x => x.1) rfl (big, (ByteArray.mk #[]), 0) h ?_ ?_ ?_
  ·repeat first|exact ⟨⟩|refine ⟨rfl,?_⟩
  ·exact Pick.all
  rintro ⟨n4, s7, s8⟩ h
  dsimp only at h ⊢
  rcases n4 with _ | n4
  · exact (lp_no h).elim
  replace h := lp_succ h
  unfold law02_WordLines_b1 at h
  try dsimp only at h
  iterate 2 (refine WP.sx tysOk rfl ⟨⟨⟩, ⟨⟩⟩ ?_)
  refine WP.lenO (xs := r2) tysOk rfl ⟨⟩ rfl rfl rfl rfl rfl rfl hf1 ?_
  refine WP.sx tysOk rfl ⟨⟨⟩, ⟨⟩⟩ ?_
  refine WP.cond_d rfl rfl (fun hh24 => ?_) (fun hh24 => ?_)
  ·rw [if_pos hh24] at h
   refine WP.sx tysOk rfl ⟨⟨⟩, ⟨⟩⟩ ?_
   refine WP.loop (α := Nat × Int) (fun x => lp (law02_WordLines_b2 r2 s7 s8 (lp (law02_WordLines_b1 d1 r2) n4)) x.1 x.2 = some r) (fun x => [(0, .string (d1)), (3, .slice A1 n1 c1), (4, .string (s7)), (5, iv s8), (6, iv x.2)]) (fun x => [Ow fS 9 A1 n1 c1 r2, .fz (PH.of w)]) (fun x => x.1) rfl (big, 0) h ?_ ?_ ?_
   ·repeat first|exact ⟨⟩|refine ⟨rfl,?_⟩
   ·exact Pick.all
   rintro ⟨n5, s10⟩ h
   dsimp only at h ⊢
   rcases n5 with _ | n5
   · exact (lp_no h).elim
   replace h := lp_succ h
   unfold law02_WordLines_b2 at h
   try dsimp only at h
   iterate 3 (refine WP.sx tysOk rfl ⟨⟨⟩, ⟨⟩⟩ ?_)
   obtain ⟨hj19, h⟩ := ck_some h
   refine WP.ixO tysOk rfl ⟨⟩ rfl rfl rfl rfl rfl rfl rfl rfl hf1 hj19 ?_
   intro b25 hA25
   refine WP.lx tysOk rfl ⟨⟩ (OwS.at0 .head hA25 hj19 rfl) ?_
   iterate 2 (refine WP.sx tysOk rfl ⟨⟨⟩, ⟨⟩⟩ ?_)
   refine WP.cond_d rfl rfl (fun hh29 => ?_) (fun hh29 => ?_)
   ·rw [if_pos hh29] at h
    iterate 2 (refine WP.sx tysOk rfl ⟨⟨⟩, ⟨⟩⟩ ?_)
    refine WP.ixO tysOk rfl ⟨⟩ rfl rfl rfl rfl rfl rfl rfl rfl hf1 hj19 ?_
    intro b26 hA26
    refine WP.lx tysOk rfl ⟨⟩ (OwS.at0 .head hA26 hj19 rfl) ?_
    refine WP.sx tysOk rfl ⟨⟨⟩, ⟨⟩⟩ ?_
    obtain ⟨hj20, h⟩ := ck_some h
    refine WP.sidx tysOk rfl ⟨⟩ rfl rfl rfl rfl rfl rfl rfl hj20 ?_
    refine WP.sx tysOk rfl ⟨⟨⟩, ⟨⟩⟩ ?_
    refine WP.cond_d rfl rfl (fun hh30 => ?_) (fun hh30 => ?_)
    ·rw [if_pos hh30] at h
     refine WP.sx tysOk rfl ⟨⟨⟩, ⟨⟩⟩ ?_
     cases h
     refine WP.retR tysOk rfl rfl ⟨_, _, rfl, rfl, rfl⟩ (fun w1 hw1 => ⟨rfl, Ret.below_ hw1 (.cons (.tail .head) .nil)⟩)
    rw [if_neg hh30] at h
    iterate 3 (refine WP.sx tysOk rfl ⟨⟨⟩, ⟨⟩⟩ ?_)
    refine WP.stop rfl (n5, w64 (s10 + 1)) ⟨h, Nat.lt_succ_self _⟩ ?_ ?_
    ·repeat first|exact ⟨⟩|refine ⟨rfl,?_⟩
    exact Pick.all
   rw [if_neg hh29] at h
   iterate 3 (refine WP.sx tysOk rfl ⟨⟨⟩, ⟨⟩⟩ ?_)
   refine WP.ixO tysOk rfl ⟨⟩ rfl rfl rfl rfl rfl rfl rfl rfl hf1 hj19 ?_
   intro b27 hA27
   refine WP.lx tysOk rfl ⟨⟩ (OwS.at0 .head hA27 hj19 rfl) ?_
   obtain ⟨hz19, h⟩ := ck_some h
   refine WP.sx tysOk rfl ⟨⟨⟩, hz19⟩ ?_
   obtain ⟨hz20, h⟩ := ck_some h
   refine WP.sx tysOk rfl ⟨⟨⟩, hz20⟩ ?_
   iterate 4 (refine WP.sx tysOk rfl ⟨⟨⟩, ⟨⟩⟩ ?_)
   refine WP.stop rfl (n4, ((s7 ++ (gt r2 s8)) ++ (ByteArray.mk #[10])), w64 (s8 + 1)) ⟨h, Nat.lt_succ_self _⟩ ?_ ?_
   ·repeat first|exact ⟨⟩|refine ⟨rfl,?_⟩
   exact Pick.all
  rw [if_neg hh24] at h
  obtain ⟨r5, hg5, h⟩ := bind_some h
  refine WP.callV rfl rfl rfl rfl rfl rfl rfl (by kernel_rfl) (fun w1 hw1 => (law02_known_w hg5 (pg.le ((Held.mem (List.Mem.tail _ (List.Mem.head _))) _ _ hw1)) :)) ⟨⟩ ?_
  refine WP.sx tysOk rfl ⟨⟨⟩, ⟨⟩⟩ ?_
  by_cases hh31 : r5 = true
  ·rw [if_pos hh31] at h
   refine WP.yes rfl rfl hh31 ?_
   iterate 3 (refine WP.sx tysOk rfl ⟨⟨⟩, ⟨⟩⟩ ?_; refine WP.yes rfl rfl rfl ?_)
   refine WP.sx tysOk rfl ⟨⟨⟩, ⟨⟩⟩ ?_
   by_cases hh32 : (s7.toList == d1.toList) = true
   ·rw [if_pos hh32] at h
    refine WP.no rfl rfl hh32 rfl rfl ?_
    iterate 4 (refine WP.no rfl rfl rfl rfl rfl ?_)
    iterate 2 (refine WP.noU rfl rfl rfl rfl ?_)
    iterate 2 (refine WP.no rfl rfl rfl rfl rfl ?_)
    iterate 6 (refine WP.noU rfl rfl rfl rfl ?_)
    refine WP.no rfl rfl rfl rfl rfl ?_
    refine WP.yes rfl rfl rfl ?_
    iterate 3 (refine WP.sx tysOk rfl ⟨⟨⟩, ⟨⟩⟩ ?_)
    cases h
    refine WP.retR tysOk rfl rfl ⟨_, _, rfl, rfl, rfl⟩ (fun w1 hw1 => ⟨rfl, Ret.below_ hw1 (.cons (.tail .head) .nil)⟩)
   rw [if_neg hh32] at h
   refine WP.yes rfl rfl (bfalse hh32) ?_
   iterate 2 (refine WP.sx tysOk rfl ⟨⟨⟩, ⟨⟩⟩ ?_; refine WP.yes rfl rfl rfl ?_)
   obtain ⟨hz21, h⟩ := ck_some h
   refine WP.sx tysOk rfl ⟨⟨⟩, hz21⟩ ?_
   iterate 2 (refine WP.yes rfl rfl rfl ?_; refine WP.sx tysOk rfl ⟨⟨⟩, ⟨⟩⟩ ?_)
   by_cases hh33 : (s7.toList == (d1 ++ (ByteArray.mk #[10])).toList) = true
   ·rw [if_pos hh33] at h
    refine WP.yes rfl rfl hh33 ?_
    iterate 3 (refine WP.sx tysOk rfl ⟨⟨⟩, ⟨⟩⟩ ?_; refine WP.yes rfl rfl rfl ?_)
    refine WP.sx tysOk rfl ⟨⟨⟩, ⟨⟩⟩ ?_
    by_cases hh34 : (d1.toList == (ByteArray.mk #[]).toList) = true
    ·rw [if_pos hh34] at h
     refine WP.no rfl rfl (by rw [hh34]; try rfl) rfl rfl ?_
     iterate 5 (refine WP.no rfl rfl rfl rfl rfl ?_)
     refine WP.yes rfl rfl rfl ?_
     refine WP.sx tysOk rfl ⟨⟨⟩, ⟨⟩⟩ ?_
     refine WP.yes rfl rfl rfl ?_
     iterate 3 (refine WP.sx tysOk rfl ⟨⟨⟩, ⟨⟩⟩ ?_)
     cases h
     refine WP.retR tysOk rfl rfl ⟨_, _, rfl, rfl, rfl⟩ (fun w1 hw1 => ⟨rfl, Ret.below_ hw1 (.cons (.tail .head) .nil)⟩)
    rw [if_neg hh34] at h
    refine WP.yes rfl rfl (by rw [bfalse hh34]; try rfl) ?_
    iterate 4 (refine WP.sx tysOk rfl ⟨⟨⟩, ⟨⟩⟩ ?_; refine WP.yes rfl rfl rfl ?_)
    obtain ⟨hj21, h⟩ := ck_some h
    refine WP.sidx tysOk rfl ⟨⟩ rfl rfl rfl rfl rfl rfl rfl hj21 ?_
    iterate 2 (refine WP.yes rfl rfl rfl ?_; refine WP.sx tysOk rfl ⟨⟨⟩, ⟨⟩⟩ ?_)
    refine WP.yes rfl rfl rfl ?_
    iterate 3 (refine WP.sx tysOk rfl ⟨⟨⟩, ⟨⟩⟩ ?_)
    cases h
    refine WP.retR tysOk rfl rfl ⟨_, _, rfl, rfl, rfl⟩ (fun w1 hw1 => ⟨rfl, Ret.below_ hw1 (.cons (.tail .head) .nil)⟩)
   rw [if_neg hh33] at h
   refine WP.no rfl rfl (bfalse hh33) rfl rfl ?_
   refine WP.no rfl rfl rfl rfl rfl ?_
   iterate 2 (refine WP.yes rfl rfl rfl ?_; refine WP.sx tysOk rfl ⟨⟨⟩, ⟨⟩⟩ ?_)
   iterate 6 (refine WP.no rfl rfl rfl rfl rfl ?_)
   refine WP.yes rfl rfl rfl ?_
   refine WP.sx tysOk rfl ⟨⟨⟩, ⟨⟩⟩ ?_
   refine WP.yes rfl rfl rfl ?_
   iterate 3 (refine WP.sx tysOk rfl ⟨⟨⟩, ⟨⟩⟩ ?_)
   cases h
   refine WP.retR tysOk rfl rfl ⟨_, _, rfl, rfl, rfl⟩ (fun w1 hw1 => ⟨rfl, Ret.below_ hw1 (.cons (.tail .head) .nil)⟩)
  rw [if_neg hh31] at h
  refine WP.no rfl rfl (bfalse hh31) rfl rfl ?_
  iterate 3 (refine WP.no rfl rfl rfl rfl rfl ?_)
  iterate 16 (refine WP.noU rfl rfl rfl rfl ?_)
  refine WP.no rfl rfl rfl rfl rfl ?_
  iterate 2 (refine WP.sx tysOk rfl ⟨⟨⟩, ⟨⟩⟩ ?_)
  cases h
  refine WP.retR tysOk rfl rfl ⟨_, _, rfl, rfl, rfl⟩ (fun w1 hw1 => ⟨rfl, Ret.below_ hw1 (.cons (.tail .head) .nil)⟩)

set_option maxRecDepth 20000 in
set_option maxHeartbeats 8000000 in
theorem law02_WordDigits_w {w : World} {d1 : Int} {i1 : Int} {x1 : Bool} {r : Bool} (h : law02_WordDigits d1 i1 x1 = some r) (pg : GlobE (PH.of w)) :
    Calls Tryd.prog 4 #[iv d1, .int .u8 (i1), .bool (x1)] w fun e w' => e = .returned (.bool (r)) ∧ Below w.heap.size w w' := by
  unfold law02_WordDigits at h
  refine enter_ Tryd.func4 rfl Tryd.ntmps4 rfl ?_
  iterate 2 (refine WP.sx tysOk rfl ⟨⟨⟩, ⟨⟩⟩ ?_)
  refine WP.sx tysOk rfl ⟨⟨⟩, (by decide)⟩ ?_
  iterate 3 (refine WP.sx tysOk rfl ⟨⟨⟩, ⟨⟩⟩ ?_)
  obtain ⟨k1, hk1, h⟩ := lt_some h
  refine WP.join (α := Int) (fun x => k1 x = some r) (fun x => [(1, .int .u8 (i1)), (2, .bool (x1)), (7, iv x)]) (fun x => [.fz (PH.of w)]) rfl ?_ ?_
  ·refine WP.cond_d rfl rfl (fun hh25 => ?_) (fun hh25 => ?_)
   ·rw [if_pos hh25] at h
    iterate 3 (refine WP.sx tysOk rfl ⟨⟨⟩, ⟨⟩⟩ ?_)
    refine WP.stop rfl (w64 (0 - (w64 (d1.tdiv 10)))) h ?_ ?_
    ·repeat first|exact ⟨⟩|refine ⟨rfl,?_⟩
    exact (.cons .head .nil)
   rw [if_neg hh25] at h
   refine WP.stop rfl (w64 (d1.tdiv 10)) h ?_ ?_
   ·repeat first|exact ⟨⟩|refine ⟨rfl,?_⟩
   exact (.cons .head .nil)
  rintro s1 h
  skip
  subst hk1
  try dsimp only at h
  refine WP.sx tysOk rfl ⟨⟨⟩, ⟨⟩⟩ ?_
  obtain ⟨r1, hg1, h⟩ := bind_some h
  refine WP.callV rfl rfl rfl rfl rfl rfl rfl (by kernel_rfl) (fun w1 hw1 => (word_Text_w hg1 (pg.le ((Held.mem (List.Mem.head _)) _ _ hw1)) :)) ⟨⟩ ?_
  iterate 3 (refine WP.sx tysOk rfl ⟨⟨⟩, ⟨⟩⟩ ?_)
  obtain ⟨k2, hk2, h⟩ := lt_some h
  refine WP.join (α := ByteArray) (fun x => k2 x = some r) (fun x => [(1, .int .u8 (i1)), (2, .bool (x1)), (7, iv s1), (8, .string (x))]) (fun x => [.fz (PH.of w)]) rfl ?_ ?_
  ·refine WP.cond_d rfl rfl (fun hh24 => ?_) (fun hh24 => ?_)
   ·rw [if_pos hh24] at h
    refine WP.sx tysOk rfl ⟨⟨⟩, ⟨⟩⟩ ?_
    refine WP.stop rfl (ByteArray.mk #[]) h ?_ ?_
    ·repeat first|exact ⟨⟩|refine ⟨rfl,?_⟩
    exact (.cons .head .nil)
   rw [if_neg hh24] at h
   refine WP.stop rfl r1 h ?_ ?_
   ·repeat first|exact ⟨⟩|refine ⟨rfl,?_⟩
   exact (.cons .head .nil)
  rintro s2 h
  skip
  subst hk2
  try dsimp only at h
  obtain ⟨k3, hk3, h⟩ := lt_some h
  refine WP.joinO (α := Bool) (fun x => k3 x = some r) (fun x => [(1, .int .u8 (i1)), (2, .bool (x1)), (7, iv s1), (8, .string (s2)), (28, .bool (x))]) (fun x => [.fz (PH.of w)]) rfl ?_ ?_
  ·iterate 2 (refine WP.sx tysOk rfl ⟨⟨⟩, ⟨⟩⟩ ?_)
   by_cases hh23 : x1 = true
   ·rw [if_pos hh23] at h
    refine WP.yes rfl rfl hh23 ?_
    refine WP.sx tysOk rfl ⟨⟨⟩, ⟨⟩⟩ ?_
    refine WP.yes rfl rfl rfl ?_
    iterate 2 (refine WP.sx tysOk rfl ⟨⟨⟩, ⟨⟩⟩ ?_)
    refine WP.stop rfl (!(s2.toList == (ByteArray.mk #[]).toList)) h ?_ ?_
    ·repeat first|exact ⟨⟩|refine ⟨rfl,?_⟩
    exact (.cons .head .nil)
   rw [if_neg hh23] at h
   refine WP.no rfl rfl (bfalse hh23) rfl rfl ?_
   refine WP.no rfl rfl rfl rfl rfl ?_
   refine WP.sx tysOk rfl ⟨⟨⟩, ⟨⟩⟩ ?_
   refine WP.stop rfl false h ?_ ?_
   ·repeat first|exact ⟨⟩|refine ⟨rfl,?_⟩
   exact (.cons .head .nil)
  rintro s3 h
  skip
  subst hk3
  try dsimp only at h
  obtain ⟨k4, hk4, h⟩ := lt_some h
  refine WP.join (α := ByteArray) (fun x => k4 x = some r) (fun x => [(1, .int .u8 (i1)), (2, .bool (x1)), (7, iv s1), (8, .string (x))]) (fun x => [.fz (PH.of w)]) rfl ?_ ?_
  ·refine WP.cond rfl rfl (fun hh22 => ?_) (fun hh22 => ?_)
   ·rw [if_pos hh22] at h
    refine WP.sx tysOk rfl ⟨⟨⟩, ⟨⟩⟩ ?_
    obtain ⟨hz3, h⟩ := ck_some h
    refine WP.sx tysOk rfl ⟨⟨⟩, hz3⟩ ?_
    refine WP.sx tysOk rfl ⟨⟨⟩, ⟨⟩⟩ ?_
    refine WP.stop rfl ((ByteArray.mk #[45]) ++ s2) h ?_ ?_
    ·repeat first|exact ⟨⟩|refine ⟨rfl,?_⟩
    exact (.cons .head .nil)
   rw [if_neg (bneg hh22)] at h
   refine WP.stop rfl s2 h ?_ ?_
   ·repeat first|exact ⟨⟩|refine ⟨rfl,?_⟩
   exact (.cons .head .nil)
  rintro s4 h
  skip
  subst hk4
  try dsimp only at h
  refine WP.sx tysOk rfl ⟨⟨⟩, ⟨⟩⟩ ?_
  refine WP.sx tysOk rfl ⟨⟨⟩, (by decide)⟩ ?_
  iterate 4 (refine WP.sx tysOk rfl ⟨⟨⟩, ⟨⟩⟩ ?_)
  obtain ⟨r2, hg2, h⟩ := bind_some h
  refine WP.callV rfl rfl rfl rfl rfl rfl rfl (by kernel_rfl) (fun w1 hw1 => (word_Text_w hg2 (pg.le ((Held.mem (List.Mem.head _)) _ _ hw1)) :)) ⟨⟩ ?_
  obtain ⟨hz2, h⟩ := ck_some h
  refine WP.sx tysOk rfl ⟨⟨⟩, hz2⟩ ?_
  obtain ⟨r3, hg3, h⟩ := bind_some h
  refine WP.callV rfl rfl rfl rfl rfl rfl rfl (by kernel_rfl) (fun w1 hw1 => (word_Number_w hg3 (pg.le ((Held.mem (List.Mem.head _)) _ _ hw1)) :)) ⟨⟩ ?_
  iterate 5 (refine WP.sx tysOk rfl ⟨⟨⟩, ⟨⟩⟩ ?_)
  obtain ⟨k5, hk5, h⟩ := lt_some h
  refine WP.joinO (α := Bool) (fun x => k5 x = some r) (fun x => [(2, .bool (x1)), (7, iv s1), (8, .string (s4)), (9, iv (w64 (i1.tmod 10))), (10, iv r3.1), (11, .int .u16 (r3.2)), (12, .bool (x))]) (fun x => [.fz (PH.of w)]) rfl ?_ ?_
  ·iterate 3 (refine WP.sx tysOk rfl ⟨⟨⟩, ⟨⟩⟩ ?_)
   by_cases hh18 : s1 < 922337203685477580
   ·rw [if_pos hh18] at h
    refine WP.no rfl rfl (decide_eq_true hh18) rfl rfl ?_
    iterate 2 (refine WP.no rfl rfl rfl rfl rfl ?_)
    iterate 9 (refine WP.noU rfl rfl rfl rfl ?_)
    refine WP.no rfl rfl rfl rfl rfl ?_
    iterate 2 (refine WP.sx tysOk rfl ⟨⟨⟩, ⟨⟩⟩ ?_)
    refine WP.stop rfl true h ?_ ?_
    ·repeat first|exact ⟨⟩|refine ⟨rfl,?_⟩
    exact (.cons .head .nil)
   rw [if_neg hh18] at h
   refine WP.yes rfl rfl (decide_eq_false hh18) ?_
   iterate 2 (refine WP.sx tysOk rfl ⟨⟨⟩, ⟨⟩⟩ ?_; refine WP.yes rfl rfl rfl ?_)
   refine WP.sx tysOk rfl ⟨⟨⟩, ⟨⟩⟩ ?_
   by_cases hh19 : s1 = 922337203685477580
   ·rw [if_pos hh19] at h
    refine WP.yes rfl rfl (decide_eq_true hh19) ?_
    iterate 2 (refine WP.sx tysOk rfl ⟨⟨⟩, ⟨⟩⟩ ?_; refine WP.yes rfl rfl rfl ?_)
    refine WP.sx tysOk rfl ⟨⟨⟩, ⟨⟩⟩ ?_
    by_cases hh20 : (w64 (i1.tmod 10)) ≤ 7
    ·rw [if_pos hh20] at h
     refine WP.no rfl rfl (decide_eq_true hh20) rfl rfl ?_
     iterate 2 (refine WP.no rfl rfl rfl rfl rfl ?_)
     refine WP.noU rfl rfl rfl rfl ?_
     refine WP.no rfl rfl rfl rfl rfl ?_
     refine WP.yes rfl rfl rfl ?_
     refine WP.sx tysOk rfl ⟨⟨⟩, ⟨⟩⟩ ?_
     refine WP.yes rfl rfl rfl ?_
     iterate 3 (refine WP.sx tysOk rfl ⟨⟨⟩, ⟨⟩⟩ ?_)
     refine WP.stop rfl true h ?_ ?_
     ·repeat first|exact ⟨⟩|refine ⟨rfl,?_⟩
     exact (.cons .head .nil)
    rw [if_neg hh20] at h
    refine WP.yes rfl rfl (decide_eq_false hh20) ?_
    iterate 2 (refine WP.sx tysOk rfl ⟨⟨⟩, ⟨⟩⟩ ?_; refine WP.yes rfl rfl rfl ?_)
    refine WP.sx tysOk rfl ⟨⟨⟩, ⟨⟩⟩ ?_
    by_cases hh21 : (w64 (i1.tmod 10)) = 8
    ·rw [if_pos hh21] at h
     refine WP.yes rfl rfl (decide_eq_true hh21) ?_
     iterate 3 (refine WP.sx tysOk rfl ⟨⟨⟩, ⟨⟩⟩ ?_; refine WP.yes rfl rfl rfl ?_)
     iterate 3 (refine WP.sx tysOk rfl ⟨⟨⟩, ⟨⟩⟩ ?_)
     refine WP.stop rfl x1 h ?_ ?_
     ·repeat first|exact ⟨⟩|refine ⟨rfl,?_⟩
     exact (.cons .head .nil)
    rw [if_neg hh21] at h
    refine WP.no rfl rfl (decide_eq_false hh21) rfl rfl ?_
    iterate 2 (refine WP.yes rfl rfl rfl ?_; refine WP.sx tysOk rfl ⟨⟨⟩, ⟨⟩⟩ ?_)
    refine WP.yes rfl rfl rfl ?_
    iterate 3 (refine WP.sx tysOk rfl ⟨⟨⟩, ⟨⟩⟩ ?_)
    refine WP.stop rfl false h ?_ ?_
    ·repeat first|exact ⟨⟩|refine ⟨rfl,?_⟩
    exact (.cons .head .nil)
   rw [if_neg hh19] at h
   refine WP.no rfl rfl (decide_eq_false hh19) rfl rfl ?_
   iterate 2 (refine WP.no rfl rfl rfl rfl rfl ?_)
   iterate 5 (refine WP.noU rfl rfl rfl rfl ?_)
   refine WP.no rfl rfl rfl rfl rfl ?_
   refine WP.yes rfl rfl rfl ?_
   iterate 3 (refine WP.sx tysOk rfl ⟨⟨⟩, ⟨⟩⟩ ?_)
   refine WP.stop rfl false h ?_ ?_
   ·repeat first|exact ⟨⟩|refine ⟨rfl,?_⟩
   exact (.cons .head .nil)
  rintro s5 h
  skip
  subst hk5
  try dsimp only at h
  iterate 5 (refine WP.sx tysOk rfl ⟨⟨⟩, ⟨⟩⟩ ?_)
  obtain ⟨k6, hk6, h⟩ := lt_some h
  refine WP.joinO (α := Bool) (fun x => k6 x = some r) (fun x => [(10, iv r3.1), (11, .int .u16 (r3.2)), (12, .bool (s5)), (13, iv (w64 ((w64 (10 * s1)) + (w64 (i1.tmod 10))))), (67, .bool (x))]) (fun x => [.fz (PH.of w)]) rfl ?_ ?_
  ·iterate 2 (refine WP.sx tysOk rfl ⟨⟨⟩, ⟨⟩⟩ ?_)
   by_cases hh17 : x1 = true
   ·rw [if_pos hh17] at h
    refine WP.yes rfl rfl hh17 ?_
    refine WP.sx tysOk rfl ⟨⟨⟩, ⟨⟩⟩ ?_
    refine WP.yes rfl rfl rfl ?_
    iterate 2 (refine WP.sx tysOk rfl ⟨⟨⟩, ⟨⟩⟩ ?_)
    refine WP.stop rfl (!(s4.toList == (ByteArray.mk #[]).toList)) h ?_ ?_
    ·repeat first|exact ⟨⟩|refine ⟨rfl,?_⟩
    exact (.cons .head .nil)
   rw [if_neg hh17] at h
   refine WP.no rfl rfl (bfalse hh17) rfl rfl ?_
   refine WP.no rfl rfl rfl rfl rfl ?_
   refine WP.sx tysOk rfl ⟨⟨⟩, ⟨⟩⟩ ?_
   refine WP.stop rfl false h ?_ ?_
   ·repeat first|exact ⟨⟩|refine ⟨rfl,?_⟩
   exact (.cons .head .nil)
  rintro s6 h
  skip
  subst hk6
  try dsimp only at h
  obtain ⟨k7, hk7, h⟩ := lt_some h
  refine WP.join (α := Int) (fun x => k7 x = some r) (fun x => [(10, iv r3.1), (11, .int .u16 (r3.2)), (12, .bool (s5)), (13, iv x)]) (fun x => [.fz (PH.of w)]) rfl ?_ ?_
  ·refine WP.cond rfl rfl (fun hh16 => ?_) (fun hh16 => ?_)
   ·rw [if_pos hh16] at h
    iterate 3 (refine WP.sx tysOk rfl ⟨⟨⟩, ⟨⟩⟩ ?_)
    refine WP.stop rfl (w64 (0 - (w64 ((w64 (10 * s1)) + (w64 (i1.tmod 10)))))) h ?_ ?_
    ·repeat first|exact ⟨⟩|refine ⟨rfl,?_⟩
    exact (.cons .head .nil)
   rw [if_neg (bneg hh16)] at h
   refine WP.stop rfl (w64 ((w64 (10 * s1)) + (w64 (i1.tmod 10)))) h ?_ ?_
   ·repeat first|exact ⟨⟩|refine ⟨rfl,?_⟩
   exact (.cons .head .nil)
  rintro s7 h
  skip
  subst hk7
  try dsimp only at h
  obtain ⟨r4, hg4, h⟩ := bind_some h
  refine WP.callV rfl rfl rfl rfl rfl rfl rfl (by kernel_rfl) (fun w1 hw1 => (law02_known_w hg4 (pg.le ((Held.mem (List.Mem.head _)) _ _ hw1)) :)) ⟨⟩ ?_
  refine WP.sx tysOk rfl ⟨⟨⟩, ⟨⟩⟩ ?_
  by_cases hh11 : r4 = true
  ·rw [if_pos hh11] at h
   refine WP.yes rfl rfl hh11 ?_
   iterate 3 (refine WP.sx tysOk rfl ⟨⟨⟩, ⟨⟩⟩ ?_; refine WP.yes rfl rfl rfl ?_)
   iterate 3 (refine WP.sx tysOk rfl ⟨⟨⟩, ⟨⟩⟩ ?_)
   by_cases hh12 : ((decide (r3.2 = 0)) == s5) = true
   ·rw [if_pos hh12] at h
    refine WP.yes rfl rfl hh12 ?_
    iterate 2 (refine WP.sx tysOk rfl ⟨⟨⟩, ⟨⟩⟩ ?_; refine WP.yes rfl rfl rfl ?_)
    refine WP.sx tysOk rfl ⟨⟨⟩, ⟨⟩⟩ ?_
    by_cases hh13 : s5 = true
    ·rw [if_pos hh13] at h
     refine WP.yes rfl rfl (by rw [hh13]; try rfl) ?_
     iterate 3 (refine WP.sx tysOk rfl ⟨⟨⟩, ⟨⟩⟩ ?_; refine WP.yes rfl rfl rfl ?_)
     iterate 3 (refine WP.sx tysOk rfl ⟨⟨⟩, ⟨⟩⟩ ?_)
     by_cases hh14 : r3.1 = s7
     ·rw [if_pos hh14] at h
      refine WP.yes rfl rfl (decide_eq_true hh14) ?_
      refine WP.sx tysOk rfl ⟨⟨⟩, ⟨⟩⟩ ?_
      refine WP.yes rfl rfl rfl ?_
      refine WP.sx tysOk rfl ⟨⟨⟩, ⟨⟩⟩ ?_
      refine WP.no rfl rfl hh13 rfl rfl ?_
      iterate 2 (refine WP.no rfl rfl rfl rfl rfl ?_)
      iterate 2 (refine WP.noU rfl rfl rfl rfl ?_)
      refine WP.no rfl rfl rfl rfl rfl ?_
      refine WP.yes rfl rfl rfl ?_
      iterate 3 (refine WP.sx tysOk rfl ⟨⟨⟩, ⟨⟩⟩ ?_)
      cases h
      refine WP.retR tysOk rfl rfl ⟨_, _, rfl, rfl, rfl⟩ (fun w1 hw1 => ⟨rfl, Ret.below_ hw1 (.cons .head .nil)⟩)
     rw [if_neg hh14] at h
     refine WP.no rfl rfl (decide_eq_false hh14) rfl rfl ?_
     refine WP.no rfl rfl rfl rfl rfl ?_
     iterate 6 (refine WP.noU rfl rfl rfl rfl ?_)
     refine WP.no rfl rfl rfl rfl rfl ?_
     iterate 2 (refine WP.sx tysOk rfl ⟨⟨⟩, ⟨⟩⟩ ?_)
     cases h
     refine WP.retR tysOk rfl rfl ⟨_, _, rfl, rfl, rfl⟩ (fun w1 hw1 => ⟨rfl, Ret.below_ hw1 (.cons .head .nil)⟩)
    rw [if_neg hh13] at h
    refine WP.no rfl rfl (by rw [bfalse hh13]; try rfl) rfl rfl ?_
    iterate 2 (refine WP.no rfl rfl rfl rfl rfl ?_)
    refine WP.yes rfl rfl rfl ?_
    iterate 3 (refine WP.sx tysOk rfl ⟨⟨⟩, ⟨⟩⟩ ?_)
    iterate 2 (refine WP.yes rfl rfl rfl ?_; refine WP.sx tysOk rfl ⟨⟨⟩, ⟨⟩⟩ ?_)
    refine WP.yes rfl rfl (bfalse hh13) ?_
    iterate 2 (refine WP.sx tysOk rfl ⟨⟨⟩, ⟨⟩⟩ ?_; refine WP.yes rfl rfl rfl ?_)
    refine WP.sx tysOk rfl ⟨⟨⟩, ⟨⟩⟩ ?_
    by_cases hh15 : r3.2 = 11
    ·rw [if_pos hh15] at h
     refine WP.yes rfl rfl (decide_eq_true hh15) ?_
     iterate 3 (refine WP.sx tysOk rfl ⟨⟨⟩, ⟨⟩⟩ ?_; refine WP.yes rfl rfl rfl ?_)
     iterate 3 (refine WP.sx tysOk rfl ⟨⟨⟩, ⟨⟩⟩ ?_)
     cases h
     refine WP.retR tysOk rfl rfl ⟨_, _, rfl, rfl, rfl⟩ (fun w1 hw1 => ⟨rfl, Ret.below_ hw1 (.cons .head .nil)⟩)
    rw [if_neg hh15] at h
    refine WP.no rfl rfl (decide_eq_false hh15) rfl rfl ?_
    refine WP.no rfl rfl rfl rfl rfl ?_
    refine WP.yes rfl rfl rfl ?_
    refine WP.sx tysOk rfl ⟨⟨⟩, ⟨⟩⟩ ?_
    refine WP.yes rfl rfl rfl ?_
    iterate 3 (refine WP.sx tysOk rfl ⟨⟨⟩, ⟨⟩⟩ ?_)
    cases h
    refine WP.retR tysOk rfl rfl ⟨_, _, rfl, rfl, rfl⟩ (fun w1 hw1 => ⟨rfl, Ret.below_ hw1 (.cons .head .nil)⟩)
   rw [if_neg hh12] at h
   refine WP.no rfl rfl (bfalse hh12) rfl rfl ?_
   iterate 2 (refine WP.no rfl rfl rfl rfl rfl ?_)
   iterate 3 (refine WP.noU rfl rfl rfl rfl ?_)
   refine WP.no rfl rfl rfl rfl rfl ?_
   iterate 2 (refine WP.sx tysOk rfl ⟨⟨⟩, ⟨⟩⟩ ?_)
   iterate 2 (refine WP.no rfl rfl rfl rfl rfl ?_)
   iterate 6 (refine WP.noU rfl rfl rfl rfl ?_)
   refine WP.no rfl rfl rfl rfl rfl ?_
   iterate 2 (refine WP.sx tysOk rfl ⟨⟨⟩, ⟨⟩⟩ ?_)
   cases h
   refine WP.retR tysOk rfl rfl ⟨_, _, rfl, rfl, rfl⟩ (fun w1 hw1 => ⟨rfl, Ret.below_ hw1 (.cons .head .nil)⟩)
  rw [if_neg hh11] at h
  refine WP.no rfl rfl (bfalse hh11) rfl rfl ?_
  iterate 3 (refine WP.no rfl rfl rfl rfl rfl ?_)
  iterate 2 (refine WP.sx tysOk rfl ⟨⟨⟩, ⟨⟩⟩ ?_)
  iterate 3 (refine WP.no rfl rfl rfl rfl rfl ?_)
  iterate 3 (refine WP.noU rfl rfl rfl rfl ?_)
  refine WP.no rfl rfl rfl rfl rfl ?_
  iterate 2 (refine WP.sx tysOk rfl ⟨⟨⟩, ⟨⟩⟩ ?_)
  iterate 2 (refine WP.no rfl rfl rfl rfl rfl ?_)
  iterate 6 (refine WP.noU rfl rfl rfl rfl ?_)
  refine WP.no rfl rfl rfl rfl rfl ?_
  iterate 2 (refine WP.sx tysOk rfl ⟨⟨⟩, ⟨⟩⟩ ?_)
  cases h
  refine WP.retR tysOk rfl rfl ⟨_, _, rfl, rfl, rfl⟩ (fun w1 hw1 => ⟨rfl, Ret.below_ hw1 (.cons .head .nil)⟩)

set_option maxRecDepth 20000 in
set_option maxHeartbeats 8000000 in
theorem law02_many_w {w : World} {v0 : Value} {l1 : List ByteArray} {r : Bool} (h : law02_many l1 = some r) (p1 : SlF fS (PH.of w) v0 l1) :
    Calls Tryd.prog 13 #[v0] w fun e w' => e = .returned (.bool (r)) ∧ Below w.heap.size w w' := by
  obtain ⟨A1, c1, rfl, hs1⟩ := p1
  unfold law02_many at h
  refine enter_ Tryd.func13 rfl Tryd.ntmps13 rfl ?_
  iterate 3 (refine WP.sx tysOk rfl ⟨⟨⟩, ⟨⟩⟩ ?_)
  refine WP.loop (α := Nat × Int × Int) (fun x => lp (law02_many_b1 l1) x.1 (x.2.1, x.2.2) = some r) (fun x => [(0, .slice A1 l1.length c1), (3, iv x.2.1), (4, iv x.2.2)]) (fun x => [.fz (PH.of w)]) (fun x => x.1) rfl (big, 0, 0) h ?_ ?_ ?_
  ·repeat first|exact ⟨⟩|refine ⟨rfl,?_⟩
  ·exact (.cons .head .nil)
  rintro ⟨n5, n4, k2⟩ h
  dsimp only at h ⊢
  rcases n5 with _ | n5
  · exact (lp_no h).elim
  replace h := lp_succ h
  unfold law02_many_b1 at h
  try dsimp only at h
  iterate 4 (refine WP.sx tysOk rfl ⟨⟨⟩, ⟨⟩⟩ ?_)
  refine WP.cond_d rfl rfl (fun hh3 => ?_) (fun hh3 => ?_)
  ·rw [if_pos hh3] at h
   iterate 3 (refine WP.sx tysOk rfl ⟨⟨⟩, ⟨⟩⟩ ?_)
   obtain ⟨hj3, h⟩ := ck_some h
   refine WP.ixA tysOk rfl ⟨⟩ rfl rfl rfl rfl rfl rfl rfl rfl hj3 (hs1.ex hj3) ?_
   intro b3 b3v hA3
   refine WP.lx tysOk rfl ⟨⟩ (hs1.at0 hA3 (Held.mem (List.Mem.head _)) hj3 rfl) ?_
   iterate 3 (refine WP.sx tysOk rfl ⟨⟨⟩, ⟨⟩⟩ ?_)
   obtain ⟨n6, hx3, h⟩ := lt_some h
   refine WP.sx tysOk rfl ⟨⟨⟩, ⟨⟩⟩ ?_
   refine WP.retell (s := 3) (.int .i64 n6) rfl (congrArg (Value.int .i64) hx3.symm) ?_
   iterate 3 (refine WP.sx tysOk rfl ⟨⟨⟩, ⟨⟩⟩ ?_)
   refine WP.stop rfl (n5, n6, w64 (k2 + 1)) ⟨h, Nat.lt_succ_self _⟩ ?_ ?_
   ·repeat first|exact ⟨⟩|refine ⟨rfl,?_⟩
   exact (.cons .head .nil)
  rw [if_neg hh3] at h
  iterate 3 (refine WP.sx tysOk rfl ⟨⟨⟩, ⟨⟩⟩ ?_)
  cases h
  refine WP.retR tysOk rfl rfl ⟨_, _, rfl, rfl, rfl⟩ (fun w1 hw1 => ⟨rfl, Ret.below_ hw1 (.cons .head .nil)⟩)

set_option maxRecDepth 20000 in
set_option maxHeartbeats 8000000 in
theorem word_Join_w {w : World} {v0 : Value} {l1 : List ByteArray} {between1 : ByteArray} {r : ByteArray} (h : word_Join l1 between1 = some r) (p1 : SlF fS (PH.of w) v0 l1) :
    Calls Tryd.prog 16 #[v0, .string (between1)] w fun e w' => e = .returned (.string (r)) ∧ Below w.heap.size w w' := by
  obtain ⟨A1, c1, rfl, hs1⟩ := p1
  unfold word_Join at h
  refine enter_ Tryd.func16 rfl Tryd.ntmps16 rfl ?_
  iterate 3 (refine WP.sx tysOk rfl ⟨⟨⟩, ⟨⟩⟩ ?_)
  obtain ⟨r1, hg1, h⟩ := bind_some h
  refine WP.callV rfl rfl rfl rfl rfl rfl rfl (by kernel_rfl) (fun w1 hw1 => (strings_Join_w hg1 (hs1.le' ((Held.mem (List.Mem.head _)) _ _ hw1)).of :)) ⟨⟩ ?_
  refine WP.sx tysOk rfl ⟨⟨⟩, ⟨⟩⟩ ?_
  cases h
  refine WP.retR tysOk rfl rfl ⟨_, _, rfl, rfl, rfl⟩ (fun w1 hw1 => ⟨rfl, Ret.below_ hw1 (.cons .head .nil)⟩)

set_option maxRecDepth 20000 in
set_option maxHeartbeats 8000000 in
theorem law02_WordBack_w {w : World} {v0 : Value} {d1 : Int} {i1 : ByteArray} {x1 : List ByteArray} {r : Bool} (h : law02_WordBack d1 i1 x1 = some r) (p1 : SlF fS (PH.of w) v0 x1) (pg : GlobE (PH.of w)) :
    Calls Tryd.prog 5 #[iv d1, .string (i1), v0] w fun e w' => e = .returned (.bool (r)) ∧ Below w.heap.size w w' := by
  obtain ⟨A1, c1, rfl, hs1⟩ := p1
  unfold law02_WordBack at h
  refine enter_ Tryd.func5 rfl Tryd.ntmps5 rfl ?_
  iterate 2 (refine WP.sx tysOk rfl ⟨⟨⟩, ⟨⟩⟩ ?_)
  obtain ⟨r1, hg1, h⟩ := bind_some h
  refine WP.callV rfl rfl rfl rfl rfl rfl rfl (by kernel_rfl) (fun w1 hw1 => (word_Text_w hg1 (pg.le ((Held.mem (List.Mem.head _)) _ _ hw1)) :)) ⟨⟩ ?_
  obtain ⟨r2, hg2, h⟩ := bind_some h
  refine WP.callV rfl rfl rfl rfl rfl rfl rfl (by kernel_rfl) (fun w1 hw1 => (word_Number_w hg2 (pg.le ((Held.mem (List.Mem.head _)) _ _ hw1)) :)) ⟨⟩ ?_
  iterate 6 (refine WP.sx tysOk rfl ⟨⟨⟩, ⟨⟩⟩ ?_)
  obtain ⟨r3, hg3, h⟩ := bind_some h
  refine WP.callV rfl rfl rfl rfl rfl rfl rfl (by kernel_rfl) (fun w1 hw1 => (law02_many_w hg3 (hs1.le' ((Held.mem (List.Mem.head _)) _ _ hw1)).of :)) ⟨⟩ ?_
  refine WP.sx tysOk rfl ⟨⟨⟩, ⟨⟩⟩ ?_
  by_cases hh1 : r3 = true
  ·rw [if_pos hh1] at h
   refine WP.no rfl rfl hh1 rfl rfl ?_
   iterate 2 (refine WP.no rfl rfl rfl rfl rfl ?_)
   refine WP.sx tysOk rfl ⟨⟨⟩, ⟨⟩⟩ ?_
   refine WP.condT rfl rfl ?_
   obtain ⟨r4, hg4, h⟩ := bind_some h
   refine WP.callV rfl rfl rfl rfl rfl rfl rfl (by kernel_rfl) (fun w1 hw1 => (law02_known_w hg4 (pg.le ((Held.mem (List.Mem.head _)) _ _ hw1)) :)) ⟨⟩ ?_
   refine WP.sx tysOk rfl ⟨⟨⟩, ⟨⟩⟩ ?_
   cases h
   refine WP.retR tysOk rfl rfl ⟨_, _, rfl, rfl, rfl⟩ (fun w1 hw1 => ⟨rfl, Ret.below_ hw1 (.cons .head .nil)⟩)
  rw [if_neg hh1] at h
  refine WP.yes rfl rfl (bfalse hh1) ?_
  iterate 2 (refine WP.sx tysOk rfl ⟨⟨⟩, ⟨⟩⟩ ?_; refine WP.yes rfl rfl rfl ?_)
  iterate 2 (refine WP.sx tysOk rfl ⟨⟨⟩, ⟨⟩⟩ ?_)
  refine WP.cond_d rfl rfl (fun hh2 => ?_) (fun hh2 => ?_)
  ·rw [if_pos hh2] at h
   obtain ⟨r5, hg5, h⟩ := bind_some h
   refine WP.callV rfl rfl rfl rfl rfl rfl rfl (by kernel_rfl) (fun w1 hw1 => (law02_known_w hg5 (pg.le ((Held.mem (List.Mem.head _)) _ _ hw1)) :)) ⟨⟩ ?_
   refine WP.sx tysOk rfl ⟨⟨⟩, ⟨⟩⟩ ?_
   cases h
   refine WP.retR tysOk rfl rfl ⟨_, _, rfl, rfl, rfl⟩ (fun w1 hw1 => ⟨rfl, Ret.below_ hw1 (.cons .head .nil)⟩)
  rw [if_neg hh2] at h
  refine WP.sx tysOk rfl ⟨⟨⟩, ⟨⟩⟩ ?_
  obtain ⟨r6, hg6, h⟩ := bind_some h
  refine WP.callV rfl rfl rfl rfl rfl rfl rfl (by kernel_rfl) (fun w1 hw1 => (word_Number_w hg6 (pg.le ((Held.mem (List.Mem.head _)) _ _ hw1)) :)) ⟨⟩ ?_
  iterate 10 (refine WP.sx tysOk rfl ⟨⟨⟩, ⟨⟩⟩ ?_)
  refine WP.loop (α := Nat × Int × Bool) (fun x => lp (law02_WordBack_b1 d1 i1 x1 r2 r6) x.1 (x.2.1, x.2.2) = some r) (fun x => [(0, iv d1), (1, .string (i1)), (2, .slice A1 x1.length c1), (7, iv r2.1), (8, .int .u16 (r2.2)), (9, iv r6.1), (10, .int .u16 (r6.2)), (11, .bool (x.2.2)), (12, iv x.2.1)]) (fun x => [.fz (PH.of w)]) (fun x => x.1) rfl (big, 0, decide (0 < (x1.length : Int))) h ?_ ?_ ?_
  ·repeat first|exact ⟨⟩|refine ⟨rfl,?_⟩
  ·exact (.cons .head .nil)
  rintro ⟨n8, s16, s17⟩ h
  dsimp only at h ⊢
  rcases n8 with _ | n8
  · exact (lp_no h).elim
  replace h := lp_succ h
  unfold law02_WordBack_b1 at h
  try dsimp only at h
  iterate 4 (refine WP.sx tysOk rfl ⟨⟨⟩, ⟨⟩⟩ ?_)
  refine WP.cond_d rfl rfl (fun hh42 => ?_) (fun hh42 => ?_)
  ·rw [if_pos hh42] at h
   refine WP.sx tysOk rfl ⟨⟨⟩, ⟨⟩⟩ ?_
   refine WP.loop (α := Nat × Bool × Int) (fun x => lp (law02_WordBack_b2 x1 s16 (lp (law02_WordBack_b1 d1 i1 x1 r2 r6) n8)) x.1 (x.2.1, x.2.2) = some r) (fun x => [(0, iv d1), (1, .string (i1)), (2, .slice A1 x1.length c1), (7, iv r2.1), (8, .int .u16 (r2.2)), (9, iv r6.1), (10, .int .u16 (r6.2)), (11, .bool (x.2.1)), (12, iv s16), (13, iv x.2.2)]) (fun x => [.fz (PH.of w)]) (fun x => x.1) rfl (big, s17, 0) h ?_ ?_ ?_
   ·repeat first|exact ⟨⟩|refine ⟨rfl,?_⟩
   ·exact (.cons .head .nil)
   rintro ⟨n9, s20, s21⟩ h
   dsimp only at h ⊢
   rcases n9 with _ | n9
   · exact (lp_no h).elim
   replace h := lp_succ h
   unfold law02_WordBack_b2 at h
   try dsimp only at h
   iterate 3 (refine WP.sx tysOk rfl ⟨⟨⟩, ⟨⟩⟩ ?_)
   obtain ⟨hj23, h⟩ := ck_some h
   refine WP.ixA tysOk rfl ⟨⟩ rfl rfl rfl rfl rfl rfl rfl rfl hj23 (hs1.ex hj23) ?_
   intro b23 b23v hA23
   refine WP.lx tysOk rfl ⟨⟩ (hs1.at0 hA23 (Held.mem (List.Mem.head _)) hj23 rfl) ?_
   iterate 2 (refine WP.sx tysOk rfl ⟨⟨⟩, ⟨⟩⟩ ?_)
   refine WP.cond_d rfl rfl (fun hh47 => ?_) (fun hh47 => ?_)
   ·rw [if_pos hh47] at h
    iterate 2 (refine WP.sx tysOk rfl ⟨⟨⟩, ⟨⟩⟩ ?_)
    by_cases hh48 : s20 = true
    ·rw [if_pos hh48] at h
     refine WP.yes rfl rfl hh48 ?_
     iterate 2 (refine WP.sx tysOk rfl ⟨⟨⟩, ⟨⟩⟩ ?_; refine WP.yes rfl rfl rfl ?_)
     refine WP.ixA tysOk rfl ⟨⟩ rfl rfl rfl rfl rfl rfl rfl rfl hj23 (hs1.ex hj23) ?_
     intro b24 b24v hA24
     refine WP.yes rfl rfl rfl ?_
     refine WP.lx tysOk rfl ⟨⟩ (hs1.at0 hA24 (Held.mem (List.Mem.head _)) hj23 rfl) ?_
     refine WP.yes rfl rfl rfl ?_
     refine WP.sx tysOk rfl ⟨⟨⟩, ⟨⟩⟩ ?_
     refine WP.yes rfl rfl rfl ?_
     obtain ⟨hj24, h⟩ := ck_some h
     refine WP.sidx tysOk rfl ⟨⟩ rfl rfl rfl rfl rfl rfl rfl hj24 ?_
     refine WP.yes rfl rfl rfl ?_
     iterate 6 (refine WP.sx tysOk rfl ⟨⟨⟩, ⟨⟩⟩ ?_)
     refine WP.stop rfl (n9, decide (¬ (bt (gt x1 s16) s21) = 32), w64 (s21 + 1)) ⟨h, Nat.lt_succ_self _⟩ ?_ ?_
     ·repeat first|exact ⟨⟩|refine ⟨rfl,?_⟩
     exact (.cons .head .nil)
    rw [if_neg hh48] at h
    refine WP.no rfl rfl (bfalse hh48) rfl rfl ?_
    iterate 6 (refine WP.no rfl rfl rfl rfl rfl ?_)
    iterate 5 (refine WP.sx tysOk rfl ⟨⟨⟩, ⟨⟩⟩ ?_)
    refine WP.stop rfl (n9, false, w64 (s21 + 1)) ⟨h, Nat.lt_succ_self _⟩ ?_ ?_
    ·repeat first|exact ⟨⟩|refine ⟨rfl,?_⟩
    exact (.cons .head .nil)
   rw [if_neg hh47] at h
   iterate 3 (refine WP.sx tysOk rfl ⟨⟨⟩, ⟨⟩⟩ ?_)
   refine WP.stop rfl (n8, w64 (s16 + 1), s20) ⟨h, Nat.lt_succ_self _⟩ ?_ ?_
   ·repeat first|exact ⟨⟩|refine ⟨rfl,?_⟩
   exact (.cons .head .nil)
  rw [if_neg hh42] at h
  obtain ⟨r25, hg25, h⟩ := bind_some h
  refine WP.callV rfl rfl rfl rfl rfl rfl rfl (by kernel_rfl) (fun w1 hw1 => (law02_known_w hg25 (pg.le ((Held.mem (List.Mem.head _)) _ _ hw1)) :)) ⟨⟩ ?_
  refine WP.sx tysOk rfl ⟨⟨⟩, ⟨⟩⟩ ?_
  by_cases hh49 : r25 = true
  ·rw [if_pos hh49] at h
   refine WP.yes rfl rfl hh49 ?_
   refine WP.sx tysOk rfl ⟨⟨⟩, ⟨⟩⟩ ?_
   refine WP.yes rfl rfl rfl ?_
   iterate 3 (refine WP.sx tysOk rfl ⟨⟨⟩, ⟨⟩⟩ ?_)
   by_cases hh50 : r2.2 = 0
   ·rw [if_pos hh50] at h
    refine WP.yes rfl rfl (decide_eq_true hh50) ?_
    iterate 2 (refine WP.sx tysOk rfl ⟨⟨⟩, ⟨⟩⟩ ?_; refine WP.yes rfl rfl rfl ?_)
    iterate 3 (refine WP.sx tysOk rfl ⟨⟨⟩, ⟨⟩⟩ ?_)
    by_cases hh51 : r2.1 = d1
    ·rw [if_pos hh51] at h
     refine WP.yes rfl rfl (decide_eq_true hh51) ?_
     iterate 2 (refine WP.sx tysOk rfl ⟨⟨⟩, ⟨⟩⟩ ?_; refine WP.yes rfl rfl rfl ?_)
     refine WP.sx tysOk rfl ⟨⟨⟩, ⟨⟩⟩ ?_
     by_cases hh52 : ¬ r6.2 = 0
     ·rw [if_pos hh52] at h
      refine WP.no rfl rfl (decide_eq_true hh52) rfl rfl ?_
      iterate 3 (refine WP.no rfl rfl rfl rfl rfl ?_)
      refine WP.yes rfl rfl rfl ?_
      iterate 3 (refine WP.sx tysOk rfl ⟨⟨⟩, ⟨⟩⟩ ?_)
      iterate 3 (refine WP.yes rfl rfl rfl ?_; refine WP.sx tysOk rfl ⟨⟨⟩, ⟨⟩⟩ ?_)
      by_cases hh53 : s17 = true
      ·rw [if_pos hh53] at h
       refine WP.yes rfl rfl (by rw [hh53]; try rfl) ?_
       refine WP.sx tysOk rfl ⟨⟨⟩, ⟨⟩⟩ ?_
       refine WP.yes rfl rfl rfl ?_
       obtain ⟨r26, hg26, h⟩ := bind_some h
       refine WP.callV rfl rfl rfl rfl rfl rfl rfl (by kernel_rfl) (fun w1 hw1 => (word_Join_w hg26 (hs1.le' ((Held.mem (List.Mem.head _)) _ _ hw1)).of :)) ⟨⟩ ?_
       refine WP.yes rfl rfl rfl ?_
       obtain ⟨r27, hg27, h⟩ := bind_some h
       refine WP.callS (word_Words_S r27) rfl rfl rfl rfl rfl rfl rfl (by kernel_rfl) (fun w1 hw1 => (word_Words_w hg27 (pg.le ((Held.mem (List.Mem.head _)) _ _ hw1)) :)) ?_
       rintro _ _ ⟨A6, n10, c6, rfl, hf5, rfl⟩
       refine WP.yes rfl rfl rfl ?_
       refine WP.sx tysOk rfl ⟨⟨⟩, ⟨⟩⟩ ?_
       refine WP.yes rfl rfl rfl ?_
       obtain ⟨r28, hg28, h⟩ := bind_some h
       refine WP.callV rfl rfl rfl rfl rfl rfl rfl (by kernel_rfl) (fun w1 hw1 => (ref02_Same_w hg28 (hw1.ow .head hf5) (hs1.le' ((Held.mem (List.Mem.tail _ (List.Mem.head _))) _ _ hw1)).of :)) ⟨⟩ ?_
       refine WP.yes rfl rfl rfl ?_
       iterate 3 (refine WP.sx tysOk rfl ⟨⟨⟩, ⟨⟩⟩ ?_)
       cases h
       refine WP.retR tysOk rfl rfl ⟨_, _, rfl, rfl, rfl⟩ (fun w1 hw1 => ⟨rfl, Ret.below_ hw1 (.cons (.tail .head) .nil)⟩)
      rw [if_neg hh53] at h
      refine WP.no rfl rfl (by rw [bfalse hh53]; try rfl) rfl rfl ?_
      iterate 4 (refine WP.no rfl rfl rfl rfl rfl ?_)
      refine WP.yes rfl rfl rfl ?_
      iterate 3 (refine WP.sx tysOk rfl ⟨⟨⟩, ⟨⟩⟩ ?_)
      cases h
      refine WP.retR tysOk rfl rfl ⟨_, _, rfl, rfl, rfl⟩ (fun w1 hw1 => ⟨rfl, Ret.below_ hw1 (.cons .head .nil)⟩)
     rw [if_neg hh52] at h
     refine WP.yes rfl rfl (decide_eq_false hh52) ?_
     refine WP.sx tysOk rfl ⟨⟨⟩, ⟨⟩⟩ ?_
     refine WP.yes rfl rfl rfl ?_
     obtain ⟨r29, hg29, h⟩ := bind_some h
     refine WP.callV rfl rfl rfl rfl rfl rfl rfl (by kernel_rfl) (fun w1 hw1 => (word_Text_w hg29 (pg.le ((Held.mem (List.Mem.head _)) _ _ hw1)) :)) ⟨⟩ ?_
     iterate 2 (refine WP.yes rfl rfl rfl ?_; refine WP.sx tysOk rfl ⟨⟨⟩, ⟨⟩⟩ ?_)
     refine WP.yes rfl rfl rfl ?_
     iterate 3 (refine WP.sx tysOk rfl ⟨⟨⟩, ⟨⟩⟩ ?_)
     by_cases hh54 : (r29.toList == i1.toList) = true
     ·rw [if_pos hh54] at h
      refine WP.yes rfl rfl hh54 ?_
      iterate 2 (refine WP.sx tysOk rfl ⟨⟨⟩, ⟨⟩⟩ ?_; refine WP.yes rfl rfl rfl ?_)
      refine WP.sx tysOk rfl ⟨⟨⟩, ⟨⟩⟩ ?_
      by_cases hh55 : s17 = true
      ·rw [if_pos hh55] at h
       refine WP.yes rfl rfl (by rw [hh55]; try rfl) ?_
       refine WP.sx tysOk rfl ⟨⟨⟩, ⟨⟩⟩ ?_
       refine WP.yes rfl rfl rfl ?_
       obtain ⟨r30, hg30, h⟩ := bind_some h
       refine WP.callV rfl rfl rfl rfl rfl rfl rfl (by kernel_rfl) (fun w1 hw1 => (word_Join_w hg30 (hs1.le' ((Held.mem (List.Mem.head _)) _ _ hw1)).of :)) ⟨⟩ ?_
       refine WP.yes rfl rfl rfl ?_
       obtain ⟨r31, hg31, h⟩ := bind_some h
       refine WP.callS (word_Words_S r31) rfl rfl rfl rfl rfl rfl rfl (by kernel_rfl) (fun w1 hw1 => (word_Words_w hg31 (pg.le ((Held.mem (List.Mem.head _)) _ _ hw1)) :)) ?_
       rintro _ _ ⟨A7, n11, c7, rfl, hf6, rfl⟩
       refine WP.yes rfl rfl rfl ?_
       refine WP.sx tysOk rfl ⟨⟨⟩, ⟨⟩⟩ ?_
       refine WP.yes rfl rfl rfl ?_
       obtain ⟨r32, hg32, h⟩ := bind_some h
       refine WP.callV rfl rfl rfl rfl rfl rfl rfl (by kernel_rfl) (fun w1 hw1 => (ref02_Same_w hg32 (hw1.ow .head hf6) (hs1.le' ((Held.mem (List.Mem.tail _ (List.Mem.head _))) _ _ hw1)).of :)) ⟨⟩ ?_
       refine WP.yes rfl rfl rfl ?_
       iterate 3 (refine WP.sx tysOk rfl ⟨⟨⟩, ⟨⟩⟩ ?_)
       cases h
       refine WP.retR tysOk rfl rfl ⟨_, _, rfl, rfl, rfl⟩ (fun w1 hw1 => ⟨rfl, Ret.below_ hw1 (.cons (.tail .head) .nil)⟩)
      rw [if_neg hh55] at h
      refine WP.no rfl rfl (by rw [bfalse hh55]; try rfl) rfl rfl ?_
      iterate 4 (refine WP.no rfl rfl rfl rfl rfl ?_)
      refine WP.yes rfl rfl rfl ?_
      iterate 3 (refine WP.sx tysOk rfl ⟨⟨⟩, ⟨⟩⟩ ?_)
      cases h
      refine WP.retR tysOk rfl rfl ⟨_, _, rfl, rfl, rfl⟩ (fun w1 hw1 => ⟨rfl, Ret.below_ hw1 (.cons .head .nil)⟩)
     rw [if_neg hh54] at h
     refine WP.no rfl rfl (bfalse hh54) rfl rfl ?_
     iterate 2 (refine WP.no rfl rfl rfl rfl rfl ?_)
     iterate 5 (refine WP.noU rfl rfl rfl rfl ?_)
     refine WP.no rfl rfl rfl rfl rfl ?_
     iterate 2 (refine WP.sx tysOk rfl ⟨⟨⟩, ⟨⟩⟩ ?_)
     cases h
     refine WP.retR tysOk rfl rfl ⟨_, _, rfl, rfl, rfl⟩ (fun w1 hw1 => ⟨rfl, Ret.below_ hw1 (.cons .head .nil)⟩)
    rw [if_neg hh51] at h
    refine WP.no rfl rfl (decide_eq_false hh51) rfl rfl ?_
    iterate 2 (refine WP.no rfl rfl rfl rfl rfl ?_)
    iterate 4 (refine WP.noU rfl rfl rfl rfl ?_)
    refine WP.no rfl rfl rfl rfl rfl ?_
    iterate 2 (refine WP.sx tysOk rfl ⟨⟨⟩, ⟨⟩⟩ ?_)
    iterate 3 (refine WP.no rfl rfl rfl rfl rfl ?_)
    iterate 5 (refine WP.noU rfl rfl rfl rfl ?_)
    refine WP.no rfl rfl rfl rfl rfl ?_
    iterate 2 (refine WP.sx tysOk rfl ⟨⟨⟩, ⟨⟩⟩ ?_)
    cases h
    refine WP.retR tysOk rfl rfl ⟨_, _, rfl, rfl, rfl⟩ (fun w1 hw1 => ⟨rfl, Ret.below_ hw1 (.cons .head .nil)⟩)
   rw [if_neg hh50] at h
   refine WP.no rfl rfl (decide_eq_false hh50) rfl rfl ?_
   iterate 2 (refine WP.no rfl rfl rfl rfl rfl ?_)
   iterate 2 (refine WP.sx tysOk rfl ⟨⟨⟩, ⟨⟩⟩ ?_)
   iterate 3 (refine WP.no rfl rfl rfl rfl rfl ?_)
   iterate 4 (refine WP.noU rfl rfl rfl rfl ?_)
   refine WP.no rfl rfl rfl rfl rfl ?_
   iterate 2 (refine WP.sx tysOk rfl ⟨⟨⟩, ⟨⟩⟩ ?_)
   iterate 3 (refine WP.no rfl rfl rfl rfl rfl ?_)
   iterate 5 (refine WP.noU rfl rfl rfl rfl ?_)
   refine WP.no rfl rfl rfl rfl rfl ?_
   iterate 2 (refine WP.sx tysOk rfl ⟨⟨⟩, ⟨⟩⟩ ?_)
   cases h
   refine WP.retR tysOk rfl rfl ⟨_, _, rfl, rfl, rfl⟩ (fun w1 hw1 => ⟨rfl, Ret.below_ hw1 (.cons .head .nil)⟩)
  rw [if_neg hh49] at h
  refine WP.no rfl rfl (bfalse hh49) rfl rfl ?_
  iterate 2 (refine WP.no rfl rfl rfl rfl rfl ?_; (iterate 2 (refine WP.sx tysOk rfl ⟨⟨⟩, ⟨⟩⟩ ?_)); refine WP.no rfl rfl rfl rfl rfl ?_; refine WP.no rfl rfl rfl rfl rfl ?_)
  refine WP.no rfl rfl rfl rfl rfl ?_
  iterate 4 (refine WP.noU rfl rfl rfl rfl ?_)
  refine WP.no rfl rfl rfl rfl rfl ?_
  iterate 2 (refine WP.sx tysOk rfl ⟨⟨⟩, ⟨⟩⟩ ?_)
  iterate 3 (refine WP.no rfl rfl rfl rfl rfl ?_)
  iterate 5 (refine WP.noU rfl rfl rfl rfl ?_)
  refine WP.no rfl rfl rfl rfl rfl ?_
  iterate 2 (refine WP.sx tysOk rfl ⟨⟨⟩, ⟨⟩⟩ ?_)
  cases h
  refine WP.retR tysOk rfl rfl ⟨_, _, rfl, rfl, rfl⟩ (fun w1 hw1 => ⟨rfl, Ret.below_ hw1 (.cons .head .nil)⟩)

set_option maxRecDepth 20000 in
set_option maxHeartbeats 8000000 in
theorem law02_WordParts_w {w : World} {s1 : ByteArray} {r : Bool} (h : law02_WordParts s1 = some r) (pg : GlobE (PH.of w)) :
    Calls Tryd.prog 6 #[.string (s1)] w fun e w' => e = .returned (.bool (r)) ∧ Below w.heap.size w w' := by
  unfold law02_WordParts at h
  refine enter_ Tryd.func6 rfl Tryd.ntmps6 rfl ?_
  iterate 4 (refine WP.sx tysOk rfl ⟨⟨⟩, ⟨⟩⟩ ?_)
  refine WP.cond_d rfl rfl (fun hh1 => ?_) (fun hh1 => ?_)
  ·rw [if_pos hh1] at h
   obtain ⟨r1, hg1, h⟩ := bind_some h
   refine WP.callV rfl rfl rfl rfl rfl rfl rfl (by kernel_rfl) (fun w1 hw1 => (law02_known_w hg1 (pg.le ((Held.mem (List.Mem.head _)) _ _ hw1)) :)) ⟨⟩ ?_
   refine WP.sx tysOk rfl ⟨⟨⟩, ⟨⟩⟩ ?_
   cases h
   refine WP.retR tysOk rfl rfl ⟨_, _, rfl, rfl, rfl⟩ (fun w1 hw1 => ⟨rfl, Ret.below_ hw1 (.cons .head .nil)⟩)
  rw [if_neg hh1] at h
  iterate 2 (refine WP.sx tysOk rfl ⟨⟨⟩, ⟨⟩⟩ ?_)
  refine WP.loop (α := Nat × Int × Int) (fun x => lp (law02_WordParts_b1 s1) x.1 (x.2.1, x.2.2) = some r) (fun x => [(0, .string (s1)), (3, iv x.2.1), (4, iv x.2.2)]) (fun x => [.fz (PH.of w)]) (fun x => x.1) rfl (big, 1, 0) h ?_ ?_ ?_
  ·repeat first|exact ⟨⟩|refine ⟨rfl,?_⟩
  ·exact (.cons .head .nil)
  rintro ⟨n5, n4, k2⟩ h
  dsimp only at h ⊢
  rcases n5 with _ | n5
  · exact (lp_no h).elim
  replace h := lp_succ h
  unfold law02_WordParts_b1 at h
  try dsimp only at h
  iterate 4 (refine WP.sx tysOk rfl ⟨⟨⟩, ⟨⟩⟩ ?_)
  refine WP.cond_d rfl rfl (fun hh10 => ?_) (fun hh10 => ?_)
  ·rw [if_pos hh10] at h
   iterate 2 (refine WP.sx tysOk rfl ⟨⟨⟩, ⟨⟩⟩ ?_)
   obtain ⟨hj3, h⟩ := ck_some h
   refine WP.sidx tysOk rfl ⟨⟩ rfl rfl rfl rfl rfl rfl rfl hj3 ?_
   refine WP.sx tysOk rfl ⟨⟨⟩, ⟨⟩⟩ ?_
   refine WP.cond_d rfl rfl (fun hh11 => ?_) (fun hh11 => ?_)
   ·rw [if_pos hh11] at h
    iterate 6 (refine WP.sx tysOk rfl ⟨⟨⟩, ⟨⟩⟩ ?_)
    refine WP.stop rfl (n5, w64 (n4 + 1), w64 (k2 + 1)) ⟨h, Nat.lt_succ_self _⟩ ?_ ?_
    ·repeat first|exact ⟨⟩|refine ⟨rfl,?_⟩
    exact (.cons .head .nil)
   rw [if_neg hh11] at h
   iterate 3 (refine WP.sx tysOk rfl ⟨⟨⟩, ⟨⟩⟩ ?_)
   refine WP.stop rfl (n5, n4, w64 (k2 + 1)) ⟨h, Nat.lt_succ_self _⟩ ?_ ?_
   ·repeat first|exact ⟨⟩|refine ⟨rfl,?_⟩
   exact (.cons .head .nil)
  rw [if_neg hh10] at h
  refine WP.sx tysOk rfl ⟨⟨⟩, ⟨⟩⟩ ?_
  obtain ⟨r8, hg8, h⟩ := bind_some h
  refine WP.callS (word_Words_S r8) rfl rfl rfl rfl rfl rfl rfl (by kernel_rfl) (fun w1 hw1 => (word_Words_w hg8 (pg.le ((Held.mem (List.Mem.head _)) _ _ hw1)) :)) ?_
  rintro _ _ ⟨A3, n6, c3, rfl, hf3, rfl⟩
  refine WP.sx tysOk rfl ⟨⟨⟩, ⟨⟩⟩ ?_
  obtain ⟨r9, hg9, h⟩ := bind_some h
  refine WP.callV rfl rfl rfl rfl rfl rfl rfl (by kernel_rfl) (fun w1 hw1 => (law02_known_w hg9 (pg.le ((Held.mem (List.Mem.tail _ (List.Mem.head _))) _ _ hw1)) :)) ⟨⟩ ?_
  refine WP.sx tysOk rfl ⟨⟨⟩, ⟨⟩⟩ ?_
  by_cases hh12 : r9 = true
  ·rw [if_pos hh12] at h
   refine WP.yes rfl rfl hh12 ?_
   refine WP.sx tysOk rfl ⟨⟨⟩, ⟨⟩⟩ ?_
   refine WP.yes rfl rfl rfl ?_
   refine WP.lenO (xs := r8) tysOk rfl ⟨⟩ rfl rfl rfl rfl rfl rfl hf3 ?_
   refine WP.yes rfl rfl rfl ?_
   refine WP.sx tysOk rfl ⟨⟨⟩, ⟨⟩⟩ ?_
   refine WP.yes rfl rfl rfl ?_
   iterate 3 (refine WP.sx tysOk rfl ⟨⟨⟩, ⟨⟩⟩ ?_)
   by_cases hh13 : (r8.length : Int) = n4
   ·rw [if_pos hh13] at h
    refine WP.yes rfl rfl (decide_eq_true hh13) ?_
    refine WP.sx tysOk rfl ⟨⟨⟩, ⟨⟩⟩ ?_
    refine WP.yes rfl rfl rfl ?_
    obtain ⟨r10, hg10, h⟩ := bind_some h
    refine WP.callV rfl rfl rfl rfl rfl rfl rfl (by kernel_rfl) (fun w1 hw1 => (word_Join_w hg10 (hw1.ow .head hf3) :)) ⟨⟩ ?_
    refine WP.yes rfl rfl rfl ?_
    refine WP.sx tysOk rfl ⟨⟨⟩, ⟨⟩⟩ ?_
    refine WP.yes rfl rfl rfl ?_
    iterate 3 (refine WP.sx tysOk rfl ⟨⟨⟩, ⟨⟩⟩ ?_)
    cases h
    refine WP.retR tysOk rfl rfl ⟨_, _, rfl, rfl, rfl⟩ (fun w1 hw1 => ⟨rfl, Ret.below_ hw1 (.cons (.tail .head) .nil)⟩)
   rw [if_neg hh13] at h
   refine WP.no rfl rfl (decide_eq_false hh13) rfl rfl ?_
   iterate 3 (refine WP.no rfl rfl rfl rfl rfl ?_)
   iterate 2 (refine WP.sx tysOk rfl ⟨⟨⟩, ⟨⟩⟩ ?_)
   cases h
   refine WP.retR tysOk rfl rfl ⟨_, _, rfl, rfl, rfl⟩ (fun w1 hw1 => ⟨rfl, Ret.below_ hw1 (.cons (.tail .head) .nil)⟩)
  rw [if_neg hh12] at h
  refine WP.no rfl rfl (bfalse hh12) rfl rfl ?_
  iterate 3 (refine WP.no rfl rfl rfl rfl rfl ?_)
  iterate 2 (refine WP.sx tysOk rfl ⟨⟨⟩, ⟨⟩⟩ ?_)
  iterate 4 (refine WP.no rfl rfl rfl rfl rfl ?_)
  iterate 2 (refine WP.sx tysOk rfl ⟨⟨⟩, ⟨⟩⟩ ?_)
  cases h
  refine WP.retR tysOk rfl rfl ⟨_, _, rfl, rfl, rfl⟩ (fun w1 hw1 => ⟨rfl, Ret.below_ hw1 (.cons (.tail .head) .nil)⟩)

set_option maxRecDepth 20000 in
set_option maxHeartbeats 8000000 in
theorem ref02_form_w {w : World} {s1 : ByteArray} {r : Bool} (h : ref02_form s1 = some r) :
    Calls Tryd.prog 40 #[.string (s1)] w fun e w' => e = .returned (.bool (r)) ∧ Below w.heap.size w w' := by
  unfold ref02_form at h
  refine enter_ Tryd.func40 rfl Tryd.ntmps40 rfl ?_
  iterate 3 (refine WP.sx tysOk rfl ⟨⟨⟩, ⟨⟩⟩ ?_)
  refine WP.cond rfl rfl (fun hh1 => ?_) (fun hh1 => ?_)
  ·rw [if_pos hh1] at h
   refine WP.sx tysOk rfl ⟨⟨⟩, ⟨⟩⟩ ?_
   cases h
   refine WP.retR tysOk rfl rfl ⟨_, _, rfl, rfl, rfl⟩ (fun w1 hw1 => ⟨rfl, Ret.below_ hw1 (.cons .head .nil)⟩)
  rw [if_neg (bneg hh1)] at h
  iterate 3 (refine WP.sx tysOk rfl ⟨⟨⟩, ⟨⟩⟩ ?_)
  by_cases hh2 : (s1.toList == (ByteArray.mk #[]).toList) = true
  ·rw [if_pos hh2] at h
   refine WP.no rfl rfl (by rw [hh2]; try rfl) rfl rfl ?_
   iterate 2 (refine WP.no rfl rfl rfl rfl rfl ?_)
   refine WP.sx tysOk rfl ⟨⟨⟩, ⟨⟩⟩ ?_
   refine WP.condF rfl rfl ?_
   refine WP.sx tysOk rfl ⟨⟨⟩, ⟨⟩⟩ ?_
   refine WP.loop (α := Nat × Int) (fun x => lp (ref02_form_b1 s1) x.1 x.2 = some r) (fun x => [(0, .string (s1)), (3, iv x.2)]) (fun x => [.fz (PH.of w)]) (fun x => x.1) rfl (big, 0) h ?_ ?_ ?_
   ·repeat first|exact ⟨⟩|refine ⟨rfl,?_⟩
   ·exact (.cons .head .nil)
   rintro ⟨n1, i2⟩ h
   dsimp only at h ⊢
   rcases n1 with _ | n1
   · exact (lp_no h).elim
   replace h := lp_succ h
   unfold ref02_form_b1 at h
   try dsimp only at h
   iterate 4 (refine WP.sx tysOk rfl ⟨⟨⟩, ⟨⟩⟩ ?_)
   refine WP.cond_d rfl rfl (fun hh9 => ?_) (fun hh9 => ?_)
   ·rw [if_pos hh9] at h
    iterate 2 (refine WP.sx tysOk rfl ⟨⟨⟩, ⟨⟩⟩ ?_)
    obtain ⟨hj3, h⟩ := ck_some h
    refine WP.sidx tysOk rfl ⟨⟩ rfl rfl rfl rfl rfl rfl rfl hj3 ?_
    iterate 2 (refine WP.sx tysOk rfl ⟨⟨⟩, ⟨⟩⟩ ?_)
    by_cases hh10 : (bt s1 i2) < 48
    ·rw [if_pos hh10] at h
     refine WP.no rfl rfl (decide_eq_true hh10) rfl rfl ?_
     iterate 3 (refine WP.no rfl rfl rfl rfl rfl ?_)
     refine WP.sx tysOk rfl ⟨⟨⟩, ⟨⟩⟩ ?_
     refine WP.condT rfl rfl ?_
     refine WP.sx tysOk rfl ⟨⟨⟩, ⟨⟩⟩ ?_
     cases h
     refine WP.retR tysOk rfl rfl ⟨_, _, rfl, rfl, rfl⟩ (fun w1 hw1 => ⟨rfl, Ret.below_ hw1 (.cons .head .nil)⟩)
    rw [if_neg hh10] at h
    refine WP.yes rfl rfl (decide_eq_false hh10) ?_
    iterate 2 (refine WP.sx tysOk rfl ⟨⟨⟩, ⟨⟩⟩ ?_; refine WP.yes rfl rfl rfl ?_)
    refine WP.sidx tysOk rfl ⟨⟩ rfl rfl rfl rfl rfl rfl rfl hj3 ?_
    refine WP.yes rfl rfl rfl ?_
    iterate 2 (refine WP.sx tysOk rfl ⟨⟨⟩, ⟨⟩⟩ ?_)
    refine WP.cond_d rfl rfl (fun hh11 => ?_) (fun hh11 => ?_)
    ·rw [if_pos hh11] at h
     refine WP.sx tysOk rfl ⟨⟨⟩, ⟨⟩⟩ ?_
     cases h
     refine WP.retR tysOk rfl rfl ⟨_, _, rfl, rfl, rfl⟩ (fun w1 hw1 => ⟨rfl, Ret.below_ hw1 (.cons .head .nil)⟩)
    rw [if_neg hh11] at h
    iterate 3 (refine WP.sx tysOk rfl ⟨⟨⟩, ⟨⟩⟩ ?_)
    refine WP.stop rfl (n1, w64 (i2 + 1)) ⟨h, Nat.lt_succ_self _⟩ ?_ ?_
    ·repeat first|exact ⟨⟩|refine ⟨rfl,?_⟩
    exact (.cons .head .nil)
   rw [if_neg hh9] at h
   iterate 3 (refine WP.sx tysOk rfl ⟨⟨⟩, ⟨⟩⟩ ?_)
   refine WP.no rfl rfl (by rw [hh2]; try rfl) rfl rfl ?_
   iterate 2 (refine WP.no rfl rfl rfl rfl rfl ?_)
   iterate 2 (refine WP.sx tysOk rfl ⟨⟨⟩, ⟨⟩⟩ ?_)
   cases h
   refine WP.retR tysOk rfl rfl ⟨_, _, rfl, rfl, rfl⟩ (fun w1 hw1 => ⟨rfl, Ret.below_ hw1 (.cons .head .nil)⟩)
  rw [if_neg hh2] at h
  refine WP.yes rfl rfl (by rw [bfalse hh2]; try rfl) ?_
  refine WP.sx tysOk rfl ⟨⟨⟩, ⟨⟩⟩ ?_
  refine WP.yes rfl rfl rfl ?_
  obtain ⟨hj4, h⟩ := ck_some h
  refine WP.sidx tysOk rfl ⟨⟩ rfl rfl rfl rfl rfl rfl rfl hj4 ?_
  refine WP.yes rfl rfl rfl ?_
  iterate 2 (refine WP.sx tysOk rfl ⟨⟨⟩, ⟨⟩⟩ ?_)
  refine WP.cond_d rfl rfl (fun hh12 => ?_) (fun hh12 => ?_)
  ·rw [if_pos hh12] at h
   refine WP.sx tysOk rfl ⟨⟨⟩, ⟨⟩⟩ ?_
   obtain ⟨hb1, h⟩ := ck_some h
   refine WP.sslc (1 : Int) (s1.size : Int) tysOk rfl ⟨⟩ rfl rfl rfl rfl rfl rfl ⟨_, rfl⟩ rfl hb1 ?_
   iterate 2 (refine WP.sx tysOk rfl ⟨⟨⟩, ⟨⟩⟩ ?_)
   refine WP.loop (α := Nat × Int) (fun x => lp (ref02_form_b2 s1) x.1 x.2 = some r) (fun x => [(0, .string ((s1.extract (1 : Int).toNat (s1.size : Int).toNat))), (3, iv x.2)]) (fun x => [.fz (PH.of w)]) (fun x => x.1) rfl (big, 0) h ?_ ?_ ?_
   ·repeat first|exact ⟨⟩|refine ⟨rfl,?_⟩
   ·exact (.cons .head .nil)
   rintro ⟨n2, i4⟩ h
   dsimp only at h ⊢
   rcases n2 with _ | n2
   · exact (lp_no h).elim
   replace h := lp_succ h
   unfold ref02_form_b2 at h
   try dsimp only at h
   iterate 4 (refine WP.sx tysOk rfl ⟨⟨⟩, ⟨⟩⟩ ?_)
   refine WP.cond_d rfl rfl (fun hh21 => ?_) (fun hh21 => ?_)
   ·rw [if_pos hh21] at h
    iterate 2 (refine WP.sx tysOk rfl ⟨⟨⟩, ⟨⟩⟩ ?_)
    obtain ⟨hj9, h⟩ := ck_some h
    refine WP.sidx tysOk rfl ⟨⟩ rfl rfl rfl rfl rfl rfl rfl hj9 ?_
    iterate 2 (refine WP.sx tysOk rfl ⟨⟨⟩, ⟨⟩⟩ ?_)
    by_cases hh22 : (bt (s1.extract (1 : Int).toNat (s1.size : Int).toNat) i4) < 48
    ·rw [if_pos hh22] at h
     refine WP.no rfl rfl (decide_eq_true hh22) rfl rfl ?_
     iterate 3 (refine WP.no rfl rfl rfl rfl rfl ?_)
     refine WP.sx tysOk rfl ⟨⟨⟩, ⟨⟩⟩ ?_
     refine WP.condT rfl rfl ?_
     refine WP.sx tysOk rfl ⟨⟨⟩, ⟨⟩⟩ ?_
     cases h
     refine WP.retR tysOk rfl rfl ⟨_, _, rfl, rfl, rfl⟩ (fun w1 hw1 => ⟨rfl, Ret.below_ hw1 (.cons .head .nil)⟩)
    rw [if_neg hh22] at h
    refine WP.yes rfl rfl (decide_eq_false hh22) ?_
    iterate 2 (refine WP.sx tysOk rfl ⟨⟨⟩, ⟨⟩⟩ ?_; refine WP.yes rfl rfl rfl ?_)
    refine WP.sidx tysOk rfl ⟨⟩ rfl rfl rfl rfl rfl rfl rfl hj9 ?_
    refine WP.yes rfl rfl rfl ?_
    iterate 2 (refine WP.sx tysOk rfl ⟨⟨⟩, ⟨⟩⟩ ?_)
    refine WP.cond_d rfl rfl (fun hh23 => ?_) (fun hh23 => ?_)
    ·rw [if_pos hh23] at h
     refine WP.sx tysOk rfl ⟨⟨⟩, ⟨⟩⟩ ?_
     cases h
     refine WP.retR tysOk rfl rfl ⟨_, _, rfl, rfl, rfl⟩ (fun w1 hw1 => ⟨rfl, Ret.below_ hw1 (.cons .head .nil)⟩)
    rw [if_neg hh23] at h
    iterate 3 (refine WP.sx tysOk rfl ⟨⟨⟩, ⟨⟩⟩ ?_)
    refine WP.stop rfl (n2, w64 (i4 + 1)) ⟨h, Nat.lt_succ_self _⟩ ?_ ?_
    ·repeat first|exact ⟨⟩|refine ⟨rfl,?_⟩
    exact (.cons .head .nil)
   rw [if_neg hh21] at h
   iterate 3 (refine WP.sx tysOk rfl ⟨⟨⟩, ⟨⟩⟩ ?_)
   by_cases hh24 : ((s1.extract (1 : Int).toNat (s1.size : Int).toNat).toList == (ByteArray.mk #[]).toList) = true
   ·rw [if_pos hh24] at h
    refine WP.no rfl rfl (by rw [hh24]; try rfl) rfl rfl ?_
    iterate 2 (refine WP.no rfl rfl rfl rfl rfl ?_)
    iterate 2 (refine WP.sx tysOk rfl ⟨⟨⟩, ⟨⟩⟩ ?_)
    cases h
    refine WP.retR tysOk rfl rfl ⟨_, _, rfl, rfl, rfl⟩ (fun w1 hw1 => ⟨rfl, Ret.below_ hw1 (.cons .head .nil)⟩)
   rw [if_neg hh24] at h
   refine WP.yes rfl rfl (by rw [bfalse hh24]; try rfl) ?_
   refine WP.sx tysOk rfl ⟨⟨⟩, ⟨⟩⟩ ?_
   refine WP.yes rfl rfl rfl ?_
   obtain ⟨hj10, h⟩ := ck_some h
   refine WP.sidx tysOk rfl ⟨⟩ rfl rfl rfl rfl rfl rfl rfl hj10 ?_
   refine WP.yes rfl rfl rfl ?_
   iterate 3 (refine WP.sx tysOk rfl ⟨⟨⟩, ⟨⟩⟩ ?_)
   cases h
   refine WP.retR tysOk rfl rfl ⟨_, _, rfl, rfl, rfl⟩ (fun w1 hw1 => ⟨rfl, Ret.below_ hw1 (.cons .head .nil)⟩)
  rw [if_neg hh12] at h
  refine WP.sx tysOk rfl ⟨⟨⟩, ⟨⟩⟩ ?_
  refine WP.loop (α := Nat × Int) (fun x => lp (ref02_form_b3 s1) x.1 x.2 = some r) (fun x => [(0, .string (s1)), (3, iv x.2)]) (fun x => [.fz (PH.of w)]) (fun x => x.1) rfl (big, 0) h ?_ ?_ ?_
  ·repeat first|exact ⟨⟩|refine ⟨rfl,?_⟩
  ·exact (.cons .head .nil)
  rintro ⟨n3, i6⟩ h
  dsimp only at h ⊢
  rcases n3 with _ | n3
  · exact (lp_no h).elim
  replace h := lp_succ h
  unfold ref02_form_b3 at h
  try dsimp only at h
  iterate 4 (refine WP.sx tysOk rfl ⟨⟨⟩, ⟨⟩⟩ ?_)
  refine WP.cond_d rfl rfl (fun hh31 => ?_) (fun hh31 => ?_)
  ·rw [if_pos hh31] at h
   iterate 2 (refine WP.sx tysOk rfl ⟨⟨⟩, ⟨⟩⟩ ?_)
   obtain ⟨hj12, h⟩ := ck_some h
   refine WP.sidx tysOk rfl ⟨⟩ rfl rfl rfl rfl rfl rfl rfl hj12 ?_
   iterate 2 (refine WP.sx tysOk rfl ⟨⟨⟩, ⟨⟩⟩ ?_)
   by_cases hh32 : (bt s1 i6) < 48
   ·rw [if_pos hh32] at h
    refine WP.no rfl rfl (decide_eq_true hh32) rfl rfl ?_
    iterate 3 (refine WP.no rfl rfl rfl rfl rfl ?_)
    refine WP.sx tysOk rfl ⟨⟨⟩, ⟨⟩⟩ ?_
    refine WP.condT rfl rfl ?_
    refine WP.sx tysOk rfl ⟨⟨⟩, ⟨⟩⟩ ?_
    cases h
    refine WP.retR tysOk rfl rfl ⟨_, _, rfl, rfl, rfl⟩ (fun w1 hw1 => ⟨rfl, Ret.below_ hw1 (.cons .head .nil)⟩)
   rw [if_neg hh32] at h
   refine WP.yes rfl rfl (decide_eq_false hh32) ?_
   iterate 2 (refine WP.sx tysOk rfl ⟨⟨⟩, ⟨⟩⟩ ?_; refine WP.yes rfl rfl rfl ?_)
   refine WP.sidx tysOk rfl ⟨⟩ rfl rfl rfl rfl rfl rfl rfl hj12 ?_
   refine WP.yes rfl rfl rfl ?_
   iterate 2 (refine WP.sx tysOk rfl ⟨⟨⟩, ⟨⟩⟩ ?_)
   refine WP.cond_d rfl rfl (fun hh33 => ?_) (fun hh33 => ?_)
   ·rw [if_pos hh33] at h
    refine WP.sx tysOk rfl ⟨⟨⟩, ⟨⟩⟩ ?_
    cases h
    refine WP.retR tysOk rfl rfl ⟨_, _, rfl, rfl, rfl⟩ (fun w1 hw1 => ⟨rfl, Ret.below_ hw1 (.cons .head .nil)⟩)
   rw [if_neg hh33] at h
   iterate 3 (refine WP.sx tysOk rfl ⟨⟨⟩, ⟨⟩⟩ ?_)
   refine WP.stop rfl (n3, w64 (i6 + 1)) ⟨h, Nat.lt_succ_self _⟩ ?_ ?_
   ·repeat first|exact ⟨⟩|refine ⟨rfl,?_⟩
   exact (.cons .head .nil)
  rw [if_neg hh31] at h
  iterate 3 (refine WP.sx tysOk rfl ⟨⟨⟩, ⟨⟩⟩ ?_)
  refine WP.yes rfl rfl (by rw [bfalse hh2]; try rfl) ?_
  refine WP.sx tysOk rfl ⟨⟨⟩, ⟨⟩⟩ ?_
  refine WP.yes rfl rfl rfl ?_
  refine WP.sidx tysOk rfl ⟨⟩ rfl rfl rfl rfl rfl rfl rfl hj4 ?_
  refine WP.yes rfl rfl rfl ?_
  iterate 3 (refine WP.sx tysOk rfl ⟨⟨⟩, ⟨⟩⟩ ?_)
  cases h
  refine WP.retR tysOk rfl rfl ⟨_, _, rfl, rfl, rfl⟩ (fun w1 hw1 => ⟨rfl, Ret.below_ hw1 (.cons .head .nil)⟩)

set_option maxRecDepth 20000 in
set_option maxHeartbeats 8000000 in
theorem ref02_Number_w {w : World} {s1 : ByteArray} {r : Int × Int} (h : ref02_Number s1 = some r) :
    Calls Tryd.prog 28 #[.string (s1)] w fun e w' => e = .returned (.tuple #[iv r.1, iv r.2]) ∧ Below w.heap.size w w' := by
  unfold ref02_Number at h
  refine enter_ Tryd.func28 rfl Tryd.ntmps28 rfl ?_
  iterate 3 (refine WP.sx tysOk rfl ⟨⟨⟩, ⟨⟩⟩ ?_)
  obtain ⟨r1, hg1, h⟩ := bind_some h
  refine WP.callV rfl rfl rfl rfl rfl rfl rfl (by kernel_rfl) (fun w1 hw1 => (ref02_form_w hg1  :)) ⟨⟩ ?_
  refine WP.sx tysOk rfl ⟨⟨⟩, ⟨⟩⟩ ?_
  refine WP.cond_n rfl rfl (fun hh1 => ?_) (fun hh1 => ?_)
  ·rw [if_neg (bneg hh1)] at h
   iterate 2 (refine WP.sx tysOk rfl ⟨⟨⟩, ⟨⟩⟩ ?_)
   cases h
   refine WP.retR tysOk rfl rfl ⟨_, _, rfl, ⟨_, _, rfl, rfl, rfl⟩, rfl⟩ (fun w1 hw1 => ⟨rfl, Ret.below_ hw1 (.cons .head .nil)⟩)
  rw [if_pos hh1] at h
  iterate 2 (refine WP.sx tysOk rfl ⟨⟨⟩, ⟨⟩⟩ ?_)
  obtain ⟨hj1, h⟩ := ck_some h
  refine WP.sidx tysOk rfl ⟨⟩ rfl rfl rfl rfl rfl rfl rfl hj1 ?_
  iterate 3 (refine WP.sx tysOk rfl ⟨⟨⟩, ⟨⟩⟩ ?_)
  refine WP.loop (α := Nat × Int × Int) (fun x => lp (ref02_Number_b1 s1) x.1 (x.2.1, x.2.2) = some r) (fun x => [(0, .string (s1)), (4, iv x.2.2), (5, .bool (decide ((bt s1 (0 : Int)) = 45))), (6, iv x.2.1)]) (fun x => [.fz (PH.of w)]) (fun x => x.1) rfl (big, 0, 0) h ?_ ?_ ?_
  ·repeat first|exact ⟨⟩|refine ⟨rfl,?_⟩
  ·exact (.cons .head .nil)
  rintro ⟨n8, i3, n7⟩ h
  dsimp only at h ⊢
  rcases n8 with _ | n8
  · exact (lp_no h).elim
  replace h := lp_succ h
  unfold ref02_Number_b1 at h
  try dsimp only at h
  iterate 4 (refine WP.sx tysOk rfl ⟨⟨⟩, ⟨⟩⟩ ?_)
  refine WP.cond_d rfl rfl (fun hh15 => ?_) (fun hh15 => ?_)
  ·rw [if_pos hh15] at h
   iterate 2 (refine WP.sx tysOk rfl ⟨⟨⟩, ⟨⟩⟩ ?_)
   obtain ⟨hj4, h⟩ := ck_some h
   refine WP.sidx tysOk rfl ⟨⟩ rfl rfl rfl rfl rfl rfl rfl hj4 ?_
   refine WP.sx tysOk rfl ⟨⟨⟩, ⟨⟩⟩ ?_
   refine WP.cond_d rfl rfl (fun hh16 => ?_) (fun hh16 => ?_)
   ·rw [if_pos hh16] at h
    iterate 3 (refine WP.sx tysOk rfl ⟨⟨⟩, ⟨⟩⟩ ?_)
    refine WP.stop rfl (n8, w64 (i3 + 1), n7) ⟨h, Nat.lt_succ_self _⟩ ?_ ?_
    ·repeat first|exact ⟨⟩|refine ⟨rfl,?_⟩
    exact (.cons .head .nil)
   rw [if_neg hh16] at h
   iterate 2 (refine WP.sx tysOk rfl ⟨⟨⟩, ⟨⟩⟩ ?_)
   refine WP.sidx tysOk rfl ⟨⟩ rfl rfl rfl rfl rfl rfl rfl hj4 ?_
   iterate 2 (refine WP.sx tysOk rfl ⟨⟨⟩, ⟨⟩⟩ ?_)
   obtain ⟨d4, hx9, h⟩ := lt_some h
   refine WP.sx tysOk rfl ⟨⟨⟩, ⟨⟩⟩ ?_
   refine WP.retell (s := 7) (.int .i64 d4) rfl (congrArg (Value.int .i64) hx9.symm) ?_
   refine WP.sx tysOk rfl ⟨⟨⟩, ⟨⟩⟩ ?_
   refine WP.cond_d rfl rfl (fun hh17 => ?_) (fun hh17 => ?_)
   ·rw [if_pos hh17] at h
    iterate 3 (refine WP.sx tysOk rfl ⟨⟨⟩, ⟨⟩⟩ ?_)
    refine WP.sx tysOk rfl ⟨⟨⟩, (by decide)⟩ ?_
    refine WP.sx tysOk rfl ⟨⟨⟩, ⟨⟩⟩ ?_
    refine WP.cond_d rfl rfl (fun hh18 => ?_) (fun hh18 => ?_)
    ·rw [if_pos hh18] at h
     iterate 2 (refine WP.sx tysOk rfl ⟨⟨⟩, ⟨⟩⟩ ?_)
     cases h
     refine WP.retR tysOk rfl rfl ⟨_, _, rfl, ⟨_, _, rfl, rfl, rfl⟩, rfl⟩ (fun w1 hw1 => ⟨rfl, Ret.below_ hw1 (.cons .head .nil)⟩)
    rw [if_neg hh18] at h
    iterate 4 (refine WP.sx tysOk rfl ⟨⟨⟩, ⟨⟩⟩ ?_)
    obtain ⟨n9, hx10, h⟩ := lt_some h
    refine WP.sx tysOk rfl ⟨⟨⟩, ⟨⟩⟩ ?_
    refine WP.retell (s := 4) (.int .i64 n9) rfl (congrArg (Value.int .i64) hx10.symm) ?_
    iterate 3 (refine WP.sx tysOk rfl ⟨⟨⟩, ⟨⟩⟩ ?_)
    refine WP.stop rfl (n8, w64 (i3 + 1), n9) ⟨h, Nat.lt_succ_self _⟩ ?_ ?_
    ·repeat first|exact ⟨⟩|refine ⟨rfl,?_⟩
    exact (.cons .head .nil)
   rw [if_neg hh17] at h
   iterate 3 (refine WP.sx tysOk rfl ⟨⟨⟩, ⟨⟩⟩ ?_)
   refine WP.sx tysOk rfl ⟨⟨⟩, (by decide)⟩ ?_
   refine WP.sx tysOk rfl ⟨⟨⟩, ⟨⟩⟩ ?_
   refine WP.cond_d rfl rfl (fun hh19 => ?_) (fun hh19 => ?_)
   ·rw [if_pos hh19] at h
    iterate 2 (refine WP.sx tysOk rfl ⟨⟨⟩, ⟨⟩⟩ ?_)
    cases h
    refine WP.retR tysOk rfl rfl ⟨_, _, rfl, ⟨_, _, rfl, rfl, rfl⟩, rfl⟩ (fun w1 hw1 => ⟨rfl, Ret.below_ hw1 (.cons .head .nil)⟩)
   rw [if_neg hh19] at h
   iterate 4 (refine WP.sx tysOk rfl ⟨⟨⟩, ⟨⟩⟩ ?_)
   obtain ⟨n10, hx11, h⟩ := lt_some h
   refine WP.sx tysOk rfl ⟨⟨⟩, ⟨⟩⟩ ?_
   refine WP.retell (s := 4) (.int .i64 n10) rfl (congrArg (Value.int .i64) hx11.symm) ?_
   iterate 3 (refine WP.sx tysOk rfl ⟨⟨⟩, ⟨⟩⟩ ?_)
   refine WP.stop rfl (n8, w64 (i3 + 1), n10) ⟨h, Nat.lt_succ_self _⟩ ?_ ?_
   ·repeat first|exact ⟨⟩|refine ⟨rfl,?_⟩
   exact (.cons .head .nil)
  rw [if_neg hh15] at h
  iterate 3 (refine WP.sx tysOk rfl ⟨⟨⟩, ⟨⟩⟩ ?_)
  cases h
  refine WP.retR tysOk rfl rfl ⟨_, _, rfl, ⟨_, _, rfl, rfl, rfl⟩, rfl⟩ (fun w1 hw1 => ⟨rfl, Ret.below_ hw1 (.cons .head .nil)⟩)

set_option maxRecDepth 20000 in
set_option maxHeartbeats 8000000 in
theorem word_Count_w {w : World} {s1 : ByteArray} {most1 : Int} {r : Int × Bool} (h : word_Count s1 most1 = some r) (pg : GlobE (PH.of w)) :
    Calls Tryd.prog 21 #[.string (s1), iv most1] w fun e w' => e = .returned (.tuple #[iv r.1, .bool (r.2)]) ∧ Below w.heap.size w w' := by
  unfold word_Count at h
  refine enter_ Tryd.func21 rfl Tryd.ntmps21 rfl ?_
  iterate 3 (refine WP.sx tysOk rfl ⟨⟨⟩, ⟨⟩⟩ ?_)
  obtain ⟨r1, hg1, h⟩ := bind_some h
  refine WP.callV rfl rfl rfl rfl rfl rfl rfl (by kernel_rfl) (fun w1 hw1 => (word_Number_w hg1 (pg.le ((Held.mem (List.Mem.head _)) _ _ hw1)) :)) ⟨⟩ ?_
  iterate 8 (refine WP.sx tysOk rfl ⟨⟨⟩, ⟨⟩⟩ ?_)
  by_cases hh1 : ¬ r1.2 = 0
  ·rw [if_pos hh1] at h
   refine WP.no rfl rfl (decide_eq_true hh1) rfl rfl ?_
   refine WP.no rfl rfl rfl rfl rfl ?_
   iterate 2 (refine WP.sx tysOk rfl ⟨⟨⟩, ⟨⟩⟩ ?_)
   iterate 3 (refine WP.no rfl rfl rfl rfl rfl ?_)
   refine WP.sx tysOk rfl ⟨⟨⟩, ⟨⟩⟩ ?_
   refine WP.condT rfl rfl ?_
   iterate 2 (refine WP.sx tysOk rfl ⟨⟨⟩, ⟨⟩⟩ ?_)
   cases h
   refine WP.retR tysOk rfl rfl ⟨_, _, rfl, ⟨_, _, rfl, rfl, rfl⟩, rfl⟩ (fun w1 hw1 => ⟨rfl, Ret.below_ hw1 (.cons .head .nil)⟩)
  rw [if_neg hh1] at h
  refine WP.yes rfl rfl (decide_eq_false hh1) ?_
  refine WP.sx tysOk rfl ⟨⟨⟩, ⟨⟩⟩ ?_
  refine WP.yes rfl rfl rfl ?_
  iterate 3 (refine WP.sx tysOk rfl ⟨⟨⟩, ⟨⟩⟩ ?_)
  by_cases hh2 : r1.1 < 0
  ·rw [if_pos hh2] at h
   refine WP.no rfl rfl (decide_eq_true hh2) rfl rfl ?_
   iterate 2 (refine WP.no rfl rfl rfl rfl rfl ?_)
   refine WP.sx tysOk rfl ⟨⟨⟩, ⟨⟩⟩ ?_
   refine WP.condT rfl rfl ?_
   iterate 2 (refine WP.sx tysOk rfl ⟨⟨⟩, ⟨⟩⟩ ?_)
   cases h
   refine WP.retR tysOk rfl rfl ⟨_, _, rfl, ⟨_, _, rfl, rfl, rfl⟩, rfl⟩ (fun w1 hw1 => ⟨rfl, Ret.below_ hw1 (.cons .head .nil)⟩)
  rw [if_neg hh2] at h
  refine WP.yes rfl rfl (decide_eq_false hh2) ?_
  iterate 2 (refine WP.sx tysOk rfl ⟨⟨⟩, ⟨⟩⟩ ?_; refine WP.yes rfl rfl rfl ?_)
  iterate 2 (refine WP.sx tysOk rfl ⟨⟨⟩, ⟨⟩⟩ ?_)
  refine WP.cond_d rfl rfl (fun hh3 => ?_) (fun hh3 => ?_)
  ·rw [if_pos hh3] at h
   iterate 2 (refine WP.sx tysOk rfl ⟨⟨⟩, ⟨⟩⟩ ?_)
   cases h
   refine WP.retR tysOk rfl rfl ⟨_, _, rfl, ⟨_, _, rfl, rfl, rfl⟩, rfl⟩ (fun w1 hw1 => ⟨rfl, Ret.below_ hw1 (.cons .head .nil)⟩)
  rw [if_neg hh3] at h
  iterate 3 (refine WP.sx tysOk rfl ⟨⟨⟩, ⟨⟩⟩ ?_)
  cases h
  refine WP.retR tysOk rfl rfl ⟨_, _, rfl, ⟨_, _, rfl, rfl, rfl⟩, rfl⟩ (fun w1 hw1 => ⟨rfl, Ret.below_ hw1 (.cons .head .nil)⟩)

set_option maxRecDepth 20000 in
set_option maxHeartbeats 8000000 in
theorem ref02_Count_w {w : World} {s1 : ByteArray} {most1 : Int} {r : Int × Bool} (h : ref02_Count s1 most1 = some r) :
    Calls Tryd.prog 29 #[.string (s1), iv most1] w fun e w' => e = .returned (.tuple #[iv r.1, .bool (r.2)]) ∧ Below w.heap.size w w' := by
  unfold ref02_Count at h
  refine enter_ Tryd.func29 rfl Tryd.ntmps29 rfl ?_
  iterate 3 (refine WP.sx tysOk rfl ⟨⟨⟩, ⟨⟩⟩ ?_)
  obtain ⟨r1, hg1, h⟩ := bind_some h
  refine WP.callV rfl rfl rfl rfl rfl rfl rfl (by kernel_rfl) (fun w1 hw1 => (ref02_Number_w hg1  :)) ⟨⟩ ?_
  iterate 8 (refine WP.sx tysOk rfl ⟨⟨⟩, ⟨⟩⟩ ?_)
  by_cases hh1 : ¬ r1.2 = 0
  ·rw [if_pos hh1] at h
   refine WP.no rfl rfl (decide_eq_true hh1) rfl rfl ?_
   refine WP.no rfl rfl rfl rfl rfl ?_
   iterate 2 (refine WP.sx tysOk rfl ⟨⟨⟩, ⟨⟩⟩ ?_)
   iterate 3 (refine WP.no rfl rfl rfl rfl rfl ?_)
   refine WP.sx tysOk rfl ⟨⟨⟩, ⟨⟩⟩ ?_
   refine WP.condT rfl rfl ?_
   iterate 2 (refine WP.sx tysOk rfl ⟨⟨⟩, ⟨⟩⟩ ?_)
   cases h
   refine WP.retR tysOk rfl rfl ⟨_, _, rfl, ⟨_, _, rfl, rfl, rfl⟩, rfl⟩ (fun w1 hw1 => ⟨rfl, Ret.below_ hw1 (.cons .head .nil)⟩)
  rw [if_neg hh1] at h
  refine WP.yes rfl rfl (decide_eq_false hh1) ?_
  refine WP.sx tysOk rfl ⟨⟨⟩, ⟨⟩⟩ ?_
  refine WP.yes rfl rfl rfl ?_
  iterate 3 (refine WP.sx tysOk rfl ⟨⟨⟩, ⟨⟩⟩ ?_)
  by_cases hh2 : r1.1 < 0
  ·rw [if_pos hh2] at h
   refine WP.no rfl rfl (decide_eq_true hh2) rfl rfl ?_
   iterate 2 (refine WP.no rfl rfl rfl rfl rfl ?_)
   refine WP.sx tysOk rfl ⟨⟨⟩, ⟨⟩⟩ ?_
   refine WP.condT rfl rfl ?_
   iterate 2 (refine WP.sx tysOk rfl ⟨⟨⟩, ⟨⟩⟩ ?_)
   cases h
   refine WP.retR tysOk rfl rfl ⟨_, _, rfl, ⟨_, _, rfl, rfl, rfl⟩, rfl⟩ (fun w1 hw1 => ⟨rfl, Ret.below_ hw1 (.cons .head .nil)⟩)
  rw [if_neg hh2] at h
  refine WP.yes rfl rfl (decide_eq_false hh2) ?_
  iterate 2 (refine WP.sx tysOk rfl ⟨⟨⟩, ⟨⟩⟩ ?_; refine WP.yes rfl rfl rfl ?_)
  iterate 2 (refine WP.sx tysOk rfl ⟨⟨⟩, ⟨⟩⟩ ?_)
  refine WP.cond_d rfl rfl (fun hh3 => ?_) (fun hh3 => ?_)
  ·rw [if_pos hh3] at h
   iterate 2 (refine WP.sx tysOk rfl ⟨⟨⟩, ⟨⟩⟩ ?_)
   cases h
   refine WP.retR tysOk rfl rfl ⟨_, _, rfl, ⟨_, _, rfl, rfl, rfl⟩, rfl⟩ (fun w1 hw1 => ⟨rfl, Ret.below_ hw1 (.cons .head .nil)⟩)
  rw [if_neg hh3] at h
  iterate 3 (refine WP.sx tysOk rfl ⟨⟨⟩, ⟨⟩⟩ ?_)
  cases h
  refine WP.retR tysOk rfl rfl ⟨_, _, rfl, ⟨_, _, rfl, rfl, rfl⟩, rfl⟩ (fun w1 hw1 => ⟨rfl, Ret.below_ hw1 (.cons .head .nil)⟩)

abbrev ref02_cut_S (r : (List ByteArray)) : Value → Heap → Prop := fun v L => ∃ (A1 : Option Addr) (n1 c1 : Nat), v = .slice A1 n1 c1 ∧ OwF A1 n1 r ∧ L = [Ow fS 9 A1 n1 c1 r]
set_option maxRecDepth 20000 in
set_option maxHeartbeats 8000000 in
theorem ref02_cut_w {w : World} {s1 : ByteArray} {sign1 : Int} {r : (List ByteArray)} (h : ref02_cut s1 sign1 = some r) :
    Calls Tryd.prog 41 #[.string (s1), .int .u8 (sign1)] w fun e w' => ∃ v L, e = .returned v ∧ ref02_cut_S r v L ∧ Ret w w' L := by
  unfold ref02_cut at h
  refine enter_ Tryd.func41 rfl Tryd.ntmps41 rfl ?_
  iterate 4 (refine WP.sx tysOk rfl ⟨⟨⟩, ⟨⟩⟩ ?_)
  refine WP.own_nil 9 fS.z ?_
  refine WP.loop (α := Nat × Int × Int × (List ByteArray) × (Option Addr) × Nat × Nat) (fun x => lp (ref02_cut_b1 s1 sign1) x.1 (x.2.1, x.2.2.1, x.2.2.2.1) = some r ∧ OwF x.2.2.2.2.1 x.2.2.2.2.2.1 x.2.2.2.1) (fun x => [(0, .string (s1)), (1, .int .u8 (sign1)), (5, .slice x.2.2.2.2.1 x.2.2.2.2.2.1 x.2.2.2.2.2.2), (6, iv x.2.1), (7, iv x.2.2.1)]) (fun x => [Ow fS 9 x.2.2.2.2.1 x.2.2.2.2.2.1 x.2.2.2.2.2.2 x.2.2.2.1, .fz (PH.of w)]) (fun x => x.1) rfl (big, 0, 0, ([] : List ByteArray), none, 0, 0) ⟨h, OwF.nil_⟩ ?_ ?_ ?_
  ·repeat first|exact ⟨⟩|refine ⟨rfl,?_⟩
  ·exact Pick.all
  rintro ⟨n1, fromv3, i3, xs10, A10, m2, c10⟩ ⟨h, hf18⟩
  dsimp only at h hf18 ⊢
  rcases n1 with _ | n1
  · exact (lp_no h).elim
  replace h := lp_succ h
  unfold ref02_cut_b1 at h
  try dsimp only at h
  iterate 4 (refine WP.sx tysOk rfl ⟨⟨⟩, ⟨⟩⟩ ?_)
  refine WP.cond_d rfl rfl (fun hh9 => ?_) (fun hh9 => ?_)
  ·rw [if_pos hh9] at h
   iterate 2 (refine WP.sx tysOk rfl ⟨⟨⟩, ⟨⟩⟩ ?_)
   obtain ⟨hj5, h⟩ := ck_some h
   refine WP.sidx tysOk rfl ⟨⟩ rfl rfl rfl rfl rfl rfl rfl hj5 ?_
   iterate 2 (refine WP.sx tysOk rfl ⟨⟨⟩, ⟨⟩⟩ ?_)
   refine WP.cond_d rfl rfl (fun hh10 => ?_) (fun hh10 => ?_)
   ·rw [if_pos hh10] at h
    iterate 4 (refine WP.sx tysOk rfl ⟨⟨⟩, ⟨⟩⟩ ?_)
    obtain ⟨hb9, h⟩ := ck_some h
    refine WP.sslc fromv3 i3 tysOk rfl ⟨⟩ rfl rfl rfl rfl rfl rfl ⟨_, rfl⟩ ⟨_, rfl⟩ hb9 ?_
    refine WP.bsO (f := fS) [(s1.extract fromv3.toNat i3.toNat)] tysOk rfl rfl rfl rfl rfl rfl rfl rfl rfl rfl rfl rfl rfl rfl ?_
    intro g9 hf19
    obtain ⟨hl9, h⟩ := ck_some h
    obtain ⟨xs11, hz9, h⟩ := lt_some h
    refine WP.appO (f := fS) (xs := xs10) (ys := [(s1.extract fromv3.toNat i3.toNat)]) tysOk rfl rfl rfl rfl rfl rfl rfl rfl rfl rfl rfl rfl (.tail .head) hf18 hf19.len (OwS.app .head hf19) hl9 hz9 ?_
    intro A11 c11 hf20
    iterate 7 (refine WP.sx tysOk rfl ⟨⟨⟩, ⟨⟩⟩ ?_)
    refine WP.stop rfl (n1, w64 (i3 + 1), w64 (i3 + 1), xs11, A11, xs11.length, c11) ⟨⟨h, hf20⟩, Nat.lt_succ_self _⟩ ?_ ?_
    ·repeat first|exact ⟨⟩|refine ⟨rfl,?_⟩
    exact (.cons .head (.cons (.tail .head) .nil))
   rw [if_neg hh10] at h
   iterate 3 (refine WP.sx tysOk rfl ⟨⟨⟩, ⟨⟩⟩ ?_)
   refine WP.stop rfl (n1, fromv3, w64 (i3 + 1), xs10, A10, m2, c10) ⟨⟨h, hf18⟩, Nat.lt_succ_self _⟩ ?_ ?_
   ·repeat first|exact ⟨⟩|refine ⟨rfl,?_⟩
   exact Pick.all
  rw [if_neg hh9] at h
  iterate 3 (refine WP.sx tysOk rfl ⟨⟨⟩, ⟨⟩⟩ ?_)
  obtain ⟨hb10, h⟩ := ck_some h
  refine WP.sslc fromv3 (s1.size : Int) tysOk rfl ⟨⟩ rfl rfl rfl rfl rfl rfl ⟨_, rfl⟩ rfl hb10 ?_
  refine WP.bsO (f := fS) [(s1.extract fromv3.toNat (s1.size : Int).toNat)] tysOk rfl rfl rfl rfl rfl rfl rfl rfl rfl rfl rfl rfl rfl rfl ?_
  intro g10 hf21
  obtain ⟨hl10, h⟩ := ck_some h
  obtain ⟨xs12, hz10, h⟩ := lt_some h
  refine WP.appO (f := fS) (xs := xs10) (ys := [(s1.extract fromv3.toNat (s1.size : Int).toNat)]) tysOk rfl rfl rfl rfl rfl rfl rfl rfl rfl rfl rfl rfl (.tail .head) hf18 hf21.len (OwS.app .head hf21) hl10 hz10 ?_
  intro A12 c12 hf22
  refine WP.sx tysOk rfl ⟨⟨⟩, ⟨⟩⟩ ?_
  replace h := Option.some.inj h
  subst h
  refine WP.retR tysOk rfl rfl ⟨_, _, rfl, rfl, rfl⟩ (fun w1 hw1 => ⟨_, _, rfl, ⟨A12, xs12.length, c12, rfl, hf22, rfl⟩, Ret.of_KH hw1 (.cons .head (.cons (.tail .head) .nil))⟩)

abbrev ref02_Lines_S (r : (List ByteArray)) : Value → Heap → Prop := fun v L => ∃ (A1 : Option Addr) (n1 c1 : Nat), v = .slice A1 n1 c1 ∧ OwF A1 n1 r ∧ L = [Ow fS 9 A1 n1 c1 r]
set_option maxRecDepth 20000 in
set_option maxHeartbeats 8000000 in
theorem ref02_Lines_w {w : World} {s1 : ByteArray} {r : (List ByteArray)} (h : ref02_Lines s1 = some r) :
    Calls Tryd.prog 30 #[.string (s1)] w fun e w' => ∃ v L, e = .returned v ∧ ref02_Lines_S r v L ∧ Ret w w' L := by
  unfold ref02_Lines at h
  refine enter_ Tryd.func30 rfl Tryd.ntmps30 rfl ?_
  iterate 2 (refine WP.sx tysOk rfl ⟨⟨⟩, ⟨⟩⟩ ?_)
  obtain ⟨r1, hg1, h⟩ := bind_some h
  refine WP.callS (ref02_cut_S r1) rfl rfl rfl rfl rfl rfl rfl (by kernel_rfl) (fun w1 hw1 => (ref02_cut_w hg1  :)) ?_
  rintro _ _ ⟨A1, n1, c1, rfl, hf1, rfl⟩
  iterate 3 (refine WP.sx tysOk rfl ⟨⟨⟩, ⟨⟩⟩ ?_)
  refine WP.lenO (xs := r1) tysOk rfl ⟨⟩ rfl rfl rfl rfl rfl rfl hf1 ?_
  refine WP.sx tysOk rfl ⟨⟨⟩, ⟨⟩⟩ ?_
  obtain ⟨hj1, h⟩ := ck_some h
  refine WP.ixO tysOk rfl ⟨⟩ rfl rfl rfl rfl rfl rfl rfl rfl hf1 hj1 ?_
  intro b1 hA1
  refine WP.lx tysOk rfl ⟨⟩ (OwS.at0 .head hA1 hj1 rfl) ?_
  refine WP.sx tysOk rfl ⟨⟨⟩, ⟨⟩⟩ ?_
  refine WP.cond rfl rfl (fun hh1 => ?_) (fun hh1 => ?_)
  ·rw [if_pos hh1] at h
   iterate 2 (refine WP.sx tysOk rfl ⟨⟨⟩, ⟨⟩⟩ ?_)
   refine WP.lenO (xs := r1) tysOk rfl ⟨⟩ rfl rfl rfl rfl rfl rfl hf1 ?_
   refine WP.sx tysOk rfl ⟨⟨⟩, ⟨⟩⟩ ?_
   obtain ⟨hb1, h⟩ := ck_some h
   obtain ⟨r2, hz1, h⟩ := lt_some h
   refine WP.slP (f := fS) (xs := r1) (zs := r2) (w64 ((r1.length : Int) - 1)) tysOk rfl ⟨⟩ rfl rfl rfl rfl rfl rfl rfl ⟨_, rfl⟩ .head hf1 hb1 hz1 (by decide) ?_
   intro hf2
   refine WP.sx tysOk rfl ⟨⟨⟩, ⟨⟩⟩ ?_
   replace h := Option.some.inj h
   subst h
   refine WP.retR tysOk rfl rfl ⟨_, _, rfl, rfl, rfl⟩ (fun w1 hw1 => ⟨_, _, rfl, ⟨A1, (w64 ((r1.length : Int) - 1)).toNat, c1, rfl, hf2, rfl⟩, Ret.of_KH hw1 (.cons .head (.cons .head .nil))⟩)
  rw [if_neg (bneg hh1)] at h
  iterate 2 (refine WP.sx tysOk rfl ⟨⟨⟩, ⟨⟩⟩ ?_)
  cases h
  refine WP.retR tysOk rfl rfl ⟨_, _, rfl, rfl, rfl⟩ (fun w1 hw1 => ⟨_, _, rfl, ⟨A1, n1, c1, rfl, hf1, rfl⟩, Ret.of_KH hw1 (.cons .head (.cons .head .nil))⟩)

abbrev ref02_Words_S (r : (List ByteArray)) : Value → Heap → Prop := fun v L => ∃ (A1 : Option Addr) (n1 c1 : Nat), v = .slice A1 n1 c1 ∧ OwF A1 n1 r ∧ L = [Ow fS 9 A1 n1 c1 r]
set_option maxRecDepth 20000 in
set_option maxHeartbeats 8000000 in
theorem ref02_Words_w {w : World} {s1 : ByteArray} {r : (List ByteArray)} (h : ref02_Words s1 = some r) :
    Calls Tryd.prog 31 #[.string (s1)] w fun e w' => ∃ v L, e = .returned v ∧ ref02_Words_S r v L ∧ Ret w w' L := by
  unfold ref02_Words at h
  refine enter_ Tryd.func31 rfl Tryd.ntmps31 rfl ?_
  iterate 2 (refine WP.sx tysOk rfl ⟨⟨⟩, ⟨⟩⟩ ?_)
  obtain ⟨r1, hg1, h⟩ := bind_some h
  refine WP.callS (ref02_cut_S r1) rfl rfl rfl rfl rfl rfl rfl (by kernel_rfl) (fun w1 hw1 => (ref02_cut_w hg1  :)) ?_
  rintro _ _ ⟨A1, n1, c1, rfl, hf1, rfl⟩
  refine WP.sx tysOk rfl ⟨⟨⟩, ⟨⟩⟩ ?_
  cases h
  refine WP.retR tysOk rfl rfl ⟨_, _, rfl, rfl, rfl⟩ (fun w1 hw1 => ⟨_, _, rfl, ⟨A1, n1, c1, rfl, hf1, rfl⟩, Ret.of_KH hw1 (.cons .head (.cons .head .nil))⟩)

set_option maxRecDepth 20000 in
set_option maxHeartbeats 8000000 in
theorem law02_asks_w {w : World} {d1 : ByteArray} {i1 : Int} {r : Bool} (h : law02_asks d1 i1 = some r) (pg : GlobE (PH.of w)) :
    Calls Tryd.prog 17 #[.string (d1), iv i1] w fun e w' => e = .returned (.bool (r)) ∧ Below w.heap.size w w' := by
  unfold law02_asks at h
  refine enter_ Tryd.func17 rfl Tryd.ntmps17 rfl ?_
  iterate 2 (refine WP.sx tysOk rfl ⟨⟨⟩, ⟨⟩⟩ ?_)
  obtain ⟨r1, hg1, h⟩ := bind_some h
  refine WP.callV rfl rfl rfl rfl rfl rfl rfl (by kernel_rfl) (fun w1 hw1 => (word_Number_w hg1 (pg.le ((Held.mem (List.Mem.head _)) _ _ hw1)) :)) ⟨⟩ ?_
  iterate 6 (refine WP.sx tysOk rfl ⟨⟨⟩, ⟨⟩⟩ ?_)
  obtain ⟨r2, hg2, h⟩ := bind_some h
  refine WP.callV rfl rfl rfl rfl rfl rfl rfl (by kernel_rfl) (fun w1 hw1 => (ref02_Number_w hg2  :)) ⟨⟩ ?_
  iterate 7 (refine WP.sx tysOk rfl ⟨⟨⟩, ⟨⟩⟩ ?_)
  obtain ⟨r3, hg3, h⟩ := bind_some h
  refine WP.callV rfl rfl rfl rfl rfl rfl rfl (by kernel_rfl) (fun w1 hw1 => (word_Count_w hg3 (pg.le ((Held.mem (List.Mem.head _)) _ _ hw1)) :)) ⟨⟩ ?_
  iterate 7 (refine WP.sx tysOk rfl ⟨⟨⟩, ⟨⟩⟩ ?_)
  obtain ⟨r4, hg4, h⟩ := bind_some h
  refine WP.callV rfl rfl rfl rfl rfl rfl rfl (by kernel_rfl) (fun w1 hw1 => (ref02_Count_w hg4  :)) ⟨⟩ ?_
  iterate 5 (refine WP.sx tysOk rfl ⟨⟨⟩, ⟨⟩⟩ ?_)
  refine WP.sx tysOk rfl ⟨⟨⟩, ⟨⟩⟩ ?_
  obtain ⟨r5, hg5, h⟩ := bind_some h
  refine WP.callS (word_Lines_S r5) rfl rfl rfl rfl rfl rfl rfl (by kernel_rfl) (fun w1 hw1 => (word_Lines_w hg5  :)) ?_
  rintro _ _ ⟨A1, n1, c1, rfl, hf1, rfl⟩
  refine WP.sx tysOk rfl ⟨⟨⟩, ⟨⟩⟩ ?_
  obtain ⟨r6, hg6, h⟩ := bind_some h
  refine WP.callS (ref02_Lines_S r6) rfl rfl rfl rfl rfl rfl rfl (by kernel_rfl) (fun w1 hw1 => (ref02_Lines_w hg6  :)) ?_
  rintro _ _ ⟨A2, n2, c2, rfl, hf2, rfl⟩
  obtain ⟨r7, hg7, h⟩ := bind_some h
  refine WP.callV rfl rfl rfl rfl rfl rfl rfl (by kernel_rfl) (fun w1 hw1 => (ref02_Same_w hg7 (hw1.ow (.tail .head) hf1) (hw1.ow .head hf2) :)) ⟨⟩ ?_
  refine WP.sx tysOk rfl ⟨⟨⟩, ⟨⟩⟩ ?_
  by_cases hh1 : r7 = true
  ·rw [if_pos hh1] at h
   refine WP.yes rfl rfl hh1 ?_
   refine WP.sx tysOk rfl ⟨⟨⟩, ⟨⟩⟩ ?_
   refine WP.yes rfl rfl rfl ?_
   obtain ⟨r8, hg8, h⟩ := bind_some h
   refine WP.callS (word_Words_S r8) rfl rfl rfl rfl rfl rfl rfl (by kernel_rfl) (fun w1 hw1 => (word_Words_w hg8 (pg.le ((Held.mem (List.Mem.tail _ (List.Mem.tail _ (List.Mem.head _)))) _ _ hw1)) :)) ?_
   rintro _ _ ⟨A3, n3, c3, rfl, hf3, rfl⟩
   refine WP.yes rfl rfl rfl ?_
   refine WP.sx tysOk rfl ⟨⟨⟩, ⟨⟩⟩ ?_
   refine WP.yes rfl rfl rfl ?_
   obtain ⟨r9, hg9, h⟩ := bind_some h
   refine WP.callS (ref02_Words_S r9) rfl rfl rfl rfl rfl rfl rfl (by kernel_rfl) (fun w1 hw1 => (ref02_Words_w hg9  :)) ?_
   rintro _ _ ⟨A4, n4, c4, rfl, hf4, rfl⟩
   refine WP.yes rfl rfl rfl ?_
   obtain ⟨r10, hg10, h⟩ := bind_some h
   refine WP.callV rfl rfl rfl rfl rfl rfl rfl (by kernel_rfl) (fun w1 hw1 => (ref02_Same_w hg10 (hw1.ow (.tail .head) hf3) (hw1.ow .head hf4) :)) ⟨⟩ ?_
   iterate 2 (refine WP.sx tysOk rfl ⟨⟨⟩, ⟨⟩⟩ ?_)
   by_cases hh2 : r10 = true
   ·rw [if_pos hh2] at h
    refine WP.yes rfl rfl hh2 ?_
    iterate 2 (refine WP.sx tysOk rfl ⟨⟨⟩, ⟨⟩⟩ ?_; refine WP.yes rfl rfl rfl ?_)
    iterate 3 (refine WP.sx tysOk rfl ⟨⟨⟩, ⟨⟩⟩ ?_)
    by_cases hh3 : r1.1 = r2.1
    ·rw [if_pos hh3] at h
     refine WP.yes rfl rfl (decide_eq_true hh3) ?_
     iterate 3 (refine WP.sx tysOk rfl ⟨⟨⟩, ⟨⟩⟩ ?_; refine WP.yes rfl rfl rfl ?_)
     iterate 3 (refine WP.sx tysOk rfl ⟨⟨⟩, ⟨⟩⟩ ?_)
     by_cases hh4 : (w64 (r1.2)) = r2.2
     ·rw [if_pos hh4] at h
      refine WP.yes rfl rfl (decide_eq_true hh4) ?_
      iterate 2 (refine WP.sx tysOk rfl ⟨⟨⟩, ⟨⟩⟩ ?_; refine WP.yes rfl rfl rfl ?_)
      iterate 3 (refine WP.sx tysOk rfl ⟨⟨⟩, ⟨⟩⟩ ?_)
      by_cases hh5 : r3.1 = r4.1
      ·rw [if_pos hh5] at h
       refine WP.yes rfl rfl (decide_eq_true hh5) ?_
       iterate 2 (refine WP.sx tysOk rfl ⟨⟨⟩, ⟨⟩⟩ ?_; refine WP.yes rfl rfl rfl ?_)
       iterate 3 (refine WP.sx tysOk rfl ⟨⟨⟩, ⟨⟩⟩ ?_)
       cases h
       refine WP.retR tysOk rfl rfl ⟨_, _, rfl, rfl, rfl⟩ (fun w1 hw1 => ⟨rfl, Ret.below_ hw1 (.cons (.tail (.tail (.tail (.tail .head)))) .nil)⟩)
      rw [if_neg hh5] at h
      refine WP.no rfl rfl (decide_eq_false hh5) rfl rfl ?_
      iterate 2 (refine WP.no rfl rfl rfl rfl rfl ?_)
      iterate 2 (refine WP.sx tysOk rfl ⟨⟨⟩, ⟨⟩⟩ ?_)
      cases h
      refine WP.retR tysOk rfl rfl ⟨_, _, rfl, rfl, rfl⟩ (fun w1 hw1 => ⟨rfl, Ret.below_ hw1 (.cons (.tail (.tail (.tail (.tail .head)))) .nil)⟩)
     rw [if_neg hh4] at h
     refine WP.no rfl rfl (decide_eq_false hh4) rfl rfl ?_
     iterate 2 (refine WP.no rfl rfl rfl rfl rfl ?_)
     iterate 2 (refine WP.sx tysOk rfl ⟨⟨⟩, ⟨⟩⟩ ?_)
     iterate 3 (refine WP.no rfl rfl rfl rfl rfl ?_)
     iterate 2 (refine WP.sx tysOk rfl ⟨⟨⟩, ⟨⟩⟩ ?_)
     cases h
     refine WP.retR tysOk rfl rfl ⟨_, _, rfl, rfl, rfl⟩ (fun w1 hw1 => ⟨rfl, Ret.below_ hw1 (.cons (.tail (.tail (.tail (.tail .head)))) .nil)⟩)
    rw [if_neg hh3] at h
    refine WP.no rfl rfl (decide_eq_false hh3) rfl rfl ?_
    iterate 3 (refine WP.no rfl rfl rfl rfl rfl ?_; refine WP.no rfl rfl rfl rfl rfl ?_; refine WP.no rfl rfl rfl rfl rfl ?_; (iterate 2 (refine WP.sx tysOk rfl ⟨⟨⟩, ⟨⟩⟩ ?_)))
    cases h
    refine WP.retR tysOk rfl rfl ⟨_, _, rfl, rfl, rfl⟩ (fun w1 hw1 => ⟨rfl, Ret.below_ hw1 (.cons (.tail (.tail (.tail (.tail .head)))) .nil)⟩)
   rw [if_neg hh2] at h
   refine WP.no rfl rfl (bfalse hh2) rfl rfl ?_
   iterate 2 (refine WP.no rfl rfl rfl rfl rfl ?_)
   iterate 2 (refine WP.sx tysOk rfl ⟨⟨⟩, ⟨⟩⟩ ?_)
   iterate 4 (refine WP.no rfl rfl rfl rfl rfl ?_)
   iterate 2 ((iterate 2 (refine WP.sx tysOk rfl ⟨⟨⟩, ⟨⟩⟩ ?_)); refine WP.no rfl rfl rfl rfl rfl ?_; refine WP.no rfl rfl rfl rfl rfl ?_; refine WP.no rfl rfl rfl rfl rfl ?_)
   iterate 2 (refine WP.sx tysOk rfl ⟨⟨⟩, ⟨⟩⟩ ?_)
   cases h
   refine WP.retR tysOk rfl rfl ⟨_, _, rfl, rfl, rfl⟩ (fun w1 hw1 => ⟨rfl, Ret.below_ hw1 (.cons (.tail (.tail (.tail (.tail .head)))) .nil)⟩)
  rw [if_neg hh1] at h
  refine WP.no rfl rfl (bfalse hh1) rfl rfl ?_
  iterate 4 (refine WP.no rfl rfl rfl rfl rfl ?_)
  iterate 2 ((iterate 2 (refine WP.sx tysOk rfl ⟨⟨⟩, ⟨⟩⟩ ?_)); refine WP.no rfl rfl rfl rfl rfl ?_; refine WP.no rfl rfl rfl rfl rfl ?_; refine WP.no rfl rfl rfl rfl rfl ?_)
  iterate 2 (refine WP.no rfl rfl rfl rfl rfl ?_; (iterate 2 (refine WP.sx tysOk rfl ⟨⟨⟩, ⟨⟩⟩ ?_)); refine WP.no rfl rfl rfl rfl rfl ?_; refine WP.no rfl rfl rfl rfl rfl ?_)
  refine WP.no rfl rfl rfl rfl rfl ?_
  iterate 2 (refine WP.sx tysOk rfl ⟨⟨⟩, ⟨⟩⟩ ?_)
  cases h
  refine WP.retR tysOk rfl rfl ⟨_, _, rfl, rfl, rfl⟩ (fun w1 hw1 => ⟨rfl, Ret.below_ hw1 (.cons (.tail (.tail .head)) .nil)⟩)

set_option maxRecDepth 20000 in
set_option maxHeartbeats 8000000 in
theorem law02_Near_w {w : World} {v0 : Value} {c1 : List Int} {r : ByteArray} (h : law02_Near c1 = some r) (p1 : SlF (fI .u8) (PH.of w) v0 c1) :
    Calls Tryd.prog 18 #[v0] w fun e w' => e = .returned (.string (r)) ∧ Below w.heap.size w w' := by
  obtain ⟨A1, c2, rfl, hs1⟩ := p1
  unfold law02_Near at h
  refine enter_ Tryd.func18 rfl Tryd.ntmps18 rfl ?_
  refine WP.sx tysOk rfl ⟨⟨⟩, ⟨⟩⟩ ?_
  refine WP.bsO (f := fS) [(ByteArray.mk #[48]), (ByteArray.mk #[49]), (ByteArray.mk #[57]), (ByteArray.mk #[45]), (ByteArray.mk #[49, 50]), (ByteArray.mk #[57, 50, 50, 51, 51, 55, 50, 48, 51, 54, 56, 53, 52, 55, 55, 53, 56, 48]), (ByteArray.mk #[55]), (ByteArray.mk #[56]), (ByteArray.mk #[43]), (ByteArray.mk #[32]), (ByteArray.mk #[10]), (ByteArray.mk #[97]), (ByteArray.mk #[48, 48]), (ByteArray.mk #[])] tysOk rfl rfl rfl rfl rfl rfl rfl rfl rfl rfl rfl rfl rfl rfl ?_
  intro g1 hf1
  iterate 3 (refine WP.sx tysOk rfl ⟨⟨⟩, ⟨⟩⟩ ?_)
  refine WP.loop (α := Nat × ByteArray × Int) (fun x => lp (law02_Near_b1 c1) x.1 (x.2.1, x.2.2) = some r) (fun x => [(0, .slice A1 c1.length c2), (3, .slice (some ⟨g1, 0, none⟩) 14 14), (4, .string (x.2.1)), (5, iv x.2.2)]) (fun x => [Ow fS 9 (some ⟨g1, 0, none⟩) 14 14 ([(ByteArray.mk #[48]), (ByteArray.mk #[49]), (ByteArray.mk #[57]), (ByteArray.mk #[45]), (ByteArray.mk #[49, 50]), (ByteArray.mk #[57, 50, 50, 51, 51, 55, 50, 48, 51, 54, 56, 53, 52, 55, 55, 53, 56, 48]), (ByteArray.mk #[55]), (ByteArray.mk #[56]), (ByteArray.mk #[43]), (ByteArray.mk #[32]), (ByteArray.mk #[10]), (ByteArray.mk #[97]), (ByteArray.mk #[48, 48]), (ByteArray.mk #[])]), .fz (PH.of w)]) (fun x => x.1) rfl (big, (ByteArray.mk #[]), 0) h ?_ ?_ ?_
  ·repeat first|exact ⟨⟩|refine ⟨rfl,?_⟩
  ·exact Pick.all
  rintro ⟨n1, s2, k2⟩ h
  dsimp only at h ⊢
  rcases n1 with _ | n1
  · exact (lp_no h).elim
  replace h := lp_succ h
  unfold law02_Near_b1 at h
  try dsimp only at h
  iterate 5 (refine WP.sx tysOk rfl ⟨⟨⟩, ⟨⟩⟩ ?_)
  by_cases hh5 : k2 < (c1.length : Int)
  ·rw [if_pos hh5] at h
   refine WP.yes rfl rfl (decide_eq_true hh5) ?_
   refine WP.sx tysOk rfl ⟨⟨⟩, ⟨⟩⟩ ?_
   refine WP.yes rfl rfl rfl ?_
   iterate 2 (refine WP.sx tysOk rfl ⟨⟨⟩, ⟨⟩⟩ ?_)
   refine WP.cond_d rfl rfl (fun hh6 => ?_) (fun hh6 => ?_)
   ·rw [if_pos hh6] at h
    iterate 4 (refine WP.sx tysOk rfl ⟨⟨⟩, ⟨⟩⟩ ?_)
    obtain ⟨hj5, h⟩ := ck_some h
    refine WP.ixA tysOk rfl ⟨⟩ rfl rfl rfl rfl rfl rfl rfl rfl hj5 (hs1.ex hj5) ?_
    intro b5 b5v hA5
    refine WP.lx tysOk rfl ⟨⟩ (hs1.at0 hA5 (Held.mem (List.Mem.tail _ (List.Mem.head _))) hj5 rfl) ?_
    iterate 2 (refine WP.sx tysOk rfl ⟨⟨⟩, ⟨⟩⟩ ?_)
    refine WP.lenO (xs := ([(ByteArray.mk #[48]), (ByteArray.mk #[49]), (ByteArray.mk #[57]), (ByteArray.mk #[45]), (ByteArray.mk #[49, 50]), (ByteArray.mk #[57, 50, 50, 51, 51, 55, 50, 48, 51, 54, 56, 53, 52, 55, 55, 53, 56, 48]), (ByteArray.mk #[55]), (ByteArray.mk #[56]), (ByteArray.mk #[43]), (ByteArray.mk #[32]), (ByteArray.mk #[10]), (ByteArray.mk #[97]), (ByteArray.mk #[48, 48]), (ByteArray.mk #[])])) tysOk rfl ⟨⟩ rfl rfl rfl rfl rfl rfl hf1 ?_
    obtain ⟨hz5, h⟩ := ck_some h
    refine WP.sx tysOk rfl ⟨⟨⟩, hz5⟩ ?_
    obtain ⟨hj6, h⟩ := ck_some h
    refine WP.ixO tysOk rfl ⟨⟩ rfl rfl rfl rfl rfl rfl rfl rfl hf1 hj6 ?_
    intro b6 hA6
    refine WP.lx tysOk rfl ⟨⟩ (OwS.at0 .head hA6 hj6 rfl) ?_
    obtain ⟨hz6, h⟩ := ck_some h
    refine WP.sx tysOk rfl ⟨⟨⟩, hz6⟩ ?_
    iterate 4 (refine WP.sx tysOk rfl ⟨⟨⟩, ⟨⟩⟩ ?_)
    refine WP.stop rfl (n1, (s2 ++ (gt ([(ByteArray.mk #[48]), (ByteArray.mk #[49]), (ByteArray.mk #[57]), (ByteArray.mk #[45]), (ByteArray.mk #[49, 50]), (ByteArray.mk #[57, 50, 50, 51, 51, 55, 50, 48, 51, 54, 56, 53, 52, 55, 55, 53, 56, 48]), (ByteArray.mk #[55]), (ByteArray.mk #[56]), (ByteArray.mk #[43]), (ByteArray.mk #[32]), (ByteArray.mk #[10]), (ByteArray.mk #[97]), (ByteArray.mk #[48, 48]), (ByteArray.mk #[])]) ((w64 ((gt c1 k2))).tmod (([(ByteArray.mk #[48]), (ByteArray.mk #[49]), (ByteArray.mk #[57]), (ByteArray.mk #[45]), (ByteArray.mk #[49, 50]), (ByteArray.mk #[57, 50, 50, 51, 51, 55, 50, 48, 51, 54, 56, 53, 52, 55, 55, 53, 56, 48]), (ByteArray.mk #[55]), (ByteArray.mk #[56]), (ByteArray.mk #[43]), (ByteArray.mk #[32]), (ByteArray.mk #[10]), (ByteArray.mk #[97]), (ByteArray.mk #[48, 48]), (ByteArray.mk #[])]).length : Int)))), w64 (k2 + 1)) ⟨h, Nat.lt_succ_self _⟩ ?_ ?_
    ·repeat first|exact ⟨⟩|refine ⟨rfl,?_⟩
    exact Pick.all
   rw [if_neg hh6] at h
   iterate 2 (refine WP.sx tysOk rfl ⟨⟨⟩, ⟨⟩⟩ ?_)
   cases h
   refine WP.retR tysOk rfl rfl ⟨_, _, rfl, rfl, rfl⟩ (fun w1 hw1 => ⟨rfl, Ret.below_ hw1 (.cons (.tail .head) .nil)⟩)
  rw [if_neg hh5] at h
  refine WP.no rfl rfl (decide_eq_false hh5) rfl rfl ?_
  refine WP.no rfl rfl rfl rfl rfl ?_
  refine WP.sx tysOk rfl ⟨⟨⟩, ⟨⟩⟩ ?_
  refine WP.condF rfl rfl ?_
  iterate 2 (refine WP.sx tysOk rfl ⟨⟨⟩, ⟨⟩⟩ ?_)
  cases h
  refine WP.retR tysOk rfl rfl ⟨_, _, rfl, rfl, rfl⟩ (fun w1 hw1 => ⟨rfl, Ret.below_ hw1 (.cons (.tail .head) .nil)⟩)

set_option maxRecDepth 20000 in
set_option maxHeartbeats 8000000 in
theorem ref02_Text_w {fu : Nat} : ∀ {w : World} {n1 : Int} {r : ByteArray} (h : ref02_Text fu n1 = some r),
    Calls Tryd.prog 19 #[iv n1] w fun e w' => e = .returned (.string (r)) ∧ Below w.heap.size w w' := by
  induction fu with
  | zero => intros w n1 r h; cases h
  | succ fu ih =>
  intros w n1 r h
  unfold ref02_Text at h
  refine enter_ Tryd.func19 rfl Tryd.ntmps19 rfl ?_
  iterate 3 (refine WP.sx tysOk rfl ⟨⟨⟩, ⟨⟩⟩ ?_)
  refine WP.cond_d rfl rfl (fun hh1 => ?_) (fun hh1 => ?_)
  ·rw [if_pos hh1] at h
   iterate 2 (refine WP.sx tysOk rfl ⟨⟨⟩, ⟨⟩⟩ ?_)
   refine WP.cond_d rfl rfl (fun hh2 => ?_) (fun hh2 => ?_)
   ·rw [if_pos hh2] at h
    iterate 5 (refine WP.sx tysOk rfl ⟨⟨⟩, ⟨⟩⟩ ?_)
    obtain ⟨hb1, h⟩ := ck_some h
    refine WP.sslc (w64 (0 - n1)) (w64 ((w64 (0 - n1)) + 1)) tysOk rfl ⟨⟩ rfl rfl rfl rfl rfl rfl ⟨_, rfl⟩ ⟨_, rfl⟩ hb1 ?_
    obtain ⟨hz1, h⟩ := ck_some h
    refine WP.sx tysOk rfl ⟨⟨⟩, hz1⟩ ?_
    refine WP.sx tysOk rfl ⟨⟨⟩, ⟨⟩⟩ ?_
    cases h
    refine WP.retR tysOk rfl rfl ⟨_, _, rfl, rfl, rfl⟩ (fun w1 hw1 => ⟨rfl, Ret.below_ hw1 (.cons .head .nil)⟩)
   rw [if_neg hh2] at h
   refine WP.sx tysOk rfl ⟨⟨⟩, ⟨⟩⟩ ?_
   refine WP.sx tysOk rfl ⟨⟨⟩, (by decide)⟩ ?_
   iterate 2 (refine WP.sx tysOk rfl ⟨⟨⟩, ⟨⟩⟩ ?_)
   refine WP.draw rfl (by kernel_rfl) (by kernel_rfl) ?_
   refine WP.sx tysOk rfl ⟨rfl, ⟨⟩⟩ ?_
   refine WP.sx tysOk rfl ⟨rfl, (by decide)⟩ ?_
   obtain ⟨r1, hg1, h⟩ := bind_some h
   refine WP.callV rfl rfl rfl rfl rfl rfl rfl (by kernel_rfl) (fun w1 hw1 => (ih hg1  :)) rfl ?_
   iterate 3 (refine WP.sx tysOk rfl ⟨rfl, ⟨⟩⟩ ?_)
   obtain ⟨hb2, h⟩ := ck_some h
   refine WP.sslc (w64 (0 - (n1.tmod 10))) (w64 ((w64 (0 - (n1.tmod 10))) + 1)) tysOk rfl rfl rfl rfl rfl rfl rfl rfl ⟨_, rfl⟩ ⟨_, rfl⟩ hb2 ?_
   obtain ⟨hz2, h⟩ := ck_some h
   refine WP.sx tysOk rfl ⟨rfl, hz2⟩ ?_
   refine WP.sx tysOk rfl ⟨rfl, ⟨⟩⟩ ?_
   refine WP.qend rfl ?_
   cases h
   refine WP.retR tysOk rfl rfl ⟨_, _, rfl, rfl, rfl⟩ (fun w1 hw1 => ⟨rfl, Ret.below_ hw1 (.cons .head .nil)⟩)
  rw [if_neg hh1] at h
  iterate 2 (refine WP.sx tysOk rfl ⟨⟨⟩, ⟨⟩⟩ ?_)
  refine WP.cond_d rfl rfl (fun hh3 => ?_) (fun hh3 => ?_)
  ·rw [if_pos hh3] at h
   iterate 3 (refine WP.sx tysOk rfl ⟨⟨⟩, ⟨⟩⟩ ?_)
   obtain ⟨hb3, h⟩ := ck_some h
   refine WP.sslc n1 (w64 (n1 + 1)) tysOk rfl ⟨⟩ rfl rfl rfl rfl rfl rfl ⟨_, rfl⟩ ⟨_, rfl⟩ hb3 ?_
   refine WP.sx tysOk rfl ⟨⟨⟩, ⟨⟩⟩ ?_
   cases h
   refine WP.retR tysOk rfl rfl ⟨_, _, rfl, rfl, rfl⟩ (fun w1 hw1 => ⟨rfl, Ret.below_ hw1 (.cons .head .nil)⟩)
  rw [if_neg hh3] at h
  refine WP.draw rfl (by kernel_rfl) (by kernel_rfl) ?_
  refine WP.sx tysOk rfl ⟨rfl, ⟨⟩⟩ ?_
  refine WP.sx tysOk rfl ⟨rfl, (by decide)⟩ ?_
  obtain ⟨r2, hg2, h⟩ := bind_some h
  refine WP.callV rfl rfl rfl rfl rfl rfl rfl (by kernel_rfl) (fun w1 hw1 => (ih hg2  :)) rfl ?_
  iterate 2 (refine WP.sx tysOk rfl ⟨rfl, ⟨⟩⟩ ?_; refine WP.sx tysOk rfl ⟨rfl, (by decide)⟩ ?_)
  refine WP.sx tysOk rfl ⟨rfl, ⟨⟩⟩ ?_
  obtain ⟨hb4, h⟩ := ck_some h
  refine WP.sslc (n1.tmod 10) (w64 ((n1.tmod 10) + 1)) tysOk rfl rfl rfl rfl rfl rfl rfl rfl ⟨_, rfl⟩ ⟨_, rfl⟩ hb4 ?_
  obtain ⟨hz3, h⟩ := ck_some h
  refine WP.sx tysOk rfl ⟨rfl, hz3⟩ ?_
  refine WP.sx tysOk rfl ⟨rfl, ⟨⟩⟩ ?_
  refine WP.qend rfl ?_
  cases h
  refine WP.retR tysOk rfl rfl ⟨_, _, rfl, rfl, rfl⟩ (fun w1 hw1 => ⟨rfl, Ret.below_ hw1 (.cons .head .nil)⟩)

set_option maxRecDepth 20000 in
set_option maxHeartbeats 8000000 in
theorem ref02_Join_w {w : World} {v0 : Value} {l1 : List ByteArray} {between1 : ByteArray} {r : ByteArray} (h : ref02_Join l1 between1 = some r) (p1 : SlF fS (PH.of w) v0 l1) :
    Calls Tryd.prog 20 #[v0, .string (between1)] w fun e w' => e = .returned (.string (r)) ∧ Below w.heap.size w w' := by
  obtain ⟨A1, c1, rfl, hs1⟩ := p1
  unfold ref02_Join at h
  refine enter_ Tryd.func20 rfl Tryd.ntmps20 rfl ?_
  iterate 3 (refine WP.sx tysOk rfl ⟨⟨⟩, ⟨⟩⟩ ?_)
  refine WP.loop (α := Nat × ByteArray × Int) (fun x => lp (ref02_Join_b1 l1 between1) x.1 (x.2.1, x.2.2) = some r) (fun x => [(0, .slice A1 l1.length c1), (1, .string (between1)), (5, .string (x.2.1)), (6, iv x.2.2)]) (fun x => [.fz (PH.of w)]) (fun x => x.1) rfl (big, (ByteArray.mk #[]), 0) h ?_ ?_ ?_
  ·repeat first|exact ⟨⟩|refine ⟨rfl,?_⟩
  ·exact (.cons .head .nil)
  rintro ⟨n1, s2, i2⟩ h
  dsimp only at h ⊢
  rcases n1 with _ | n1
  · exact (lp_no h).elim
  replace h := lp_succ h
  unfold ref02_Join_b1 at h
  try dsimp only at h
  iterate 4 (refine WP.sx tysOk rfl ⟨⟨⟩, ⟨⟩⟩ ?_)
  refine WP.cond_d rfl rfl (fun hh5 => ?_) (fun hh5 => ?_)
  ·rw [if_pos hh5] at h
   iterate 2 (refine WP.sx tysOk rfl ⟨⟨⟩, ⟨⟩⟩ ?_)
   refine WP.cond_d rfl rfl (fun hh6 => ?_) (fun hh6 => ?_)
   ·rw [if_pos hh6] at h
    iterate 2 (refine WP.sx tysOk rfl ⟨⟨⟩, ⟨⟩⟩ ?_)
    obtain ⟨hz7, h⟩ := ck_some h
    refine WP.sx tysOk rfl ⟨⟨⟩, hz7⟩ ?_
    iterate 4 (refine WP.sx tysOk rfl ⟨⟨⟩, ⟨⟩⟩ ?_)
    obtain ⟨hj5, h⟩ := ck_some h
    refine WP.ixA tysOk rfl ⟨⟩ rfl rfl rfl rfl rfl rfl rfl rfl hj5 (hs1.ex hj5) ?_
    intro b5 b5v hA5
    refine WP.lx tysOk rfl ⟨⟩ (hs1.at0 hA5 (Held.mem (List.Mem.head _)) hj5 rfl) ?_
    obtain ⟨hz8, h⟩ := ck_some h
    refine WP.sx tysOk rfl ⟨⟨⟩, hz8⟩ ?_
    iterate 4 (refine WP.sx tysOk rfl ⟨⟨⟩, ⟨⟩⟩ ?_)
    refine WP.stop rfl (n1, ((s2 ++ between1) ++ (gt l1 i2)), w64 (i2 + 1)) ⟨h, Nat.lt_succ_self _⟩ ?_ ?_
    ·repeat first|exact ⟨⟩|refine ⟨rfl,?_⟩
    exact (.cons .head .nil)
   rw [if_neg hh6] at h
   iterate 3 (refine WP.sx tysOk rfl ⟨⟨⟩, ⟨⟩⟩ ?_)
   obtain ⟨hj6, h⟩ := ck_some h
   refine WP.ixA tysOk rfl ⟨⟩ rfl rfl rfl rfl rfl rfl rfl rfl hj6 (hs1.ex hj6) ?_
   intro b6 b6v hA6
   refine WP.lx tysOk rfl ⟨⟩ (hs1.at0 hA6 (Held.mem (List.Mem.head _)) hj6 rfl) ?_
   obtain ⟨hz9, h⟩ := ck_some h
   refine WP.sx tysOk rfl ⟨⟨⟩, hz9⟩ ?_
   iterate 4 (refine WP.sx tysOk rfl ⟨⟨⟩, ⟨⟩⟩ ?_)
   refine WP.stop rfl (n1, (s2 ++ (gt l1 i2)), w64 (i2 + 1)) ⟨h, Nat.lt_succ_self _⟩ ?_ ?_
   ·repeat first|exact ⟨⟩|refine ⟨rfl,?_⟩
   exact (.cons .head .nil)
  rw [if_neg hh5] at h
  iterate 2 (refine WP.sx tysOk rfl ⟨⟨⟩, ⟨⟩⟩ ?_)
  cases h
  refine WP.retR tysOk rfl rfl ⟨_, _, rfl, rfl, rfl⟩ (fun w1 hw1 => ⟨rfl, Ret.below_ hw1 (.cons .head .nil)⟩)

set_option maxRecDepth 20000 in
set_option maxHeartbeats 8000000 in
theorem law02_WordAsks_w {w : World} {v0 : Value} {v1 : Value} {s1 : ByteArray} {between1 : ByteArray} {l1 : List ByteArray} {n1 : Int} {most1 : Int} {c2 : List Int} {r : Bool} (h : law02_WordAsks s1 between1 l1 n1 most1 c2 = some r) (p1 : SlF fS (PH.of w) v0 l1) (p2 : SlF (fI .u8) (PH.of w) v1 c2) (pg : GlobE (PH.of w)) :
    Calls Tryd.prog 7 #[.string (s1), .string (between1), v0, iv n1, iv most1, v1] w fun e w' => e = .returned (.bool (r)) ∧ Below w.heap.size w w' := by
  obtain ⟨A1, c1, rfl, hs1⟩ := p1
  obtain ⟨A2, c3, rfl, hs2⟩ := p2
  unfold law02_WordAsks at h
  refine enter_ Tryd.func7 rfl Tryd.ntmps7 rfl ?_
  iterate 8 (refine WP.sx tysOk rfl ⟨⟨⟩, ⟨⟩⟩ ?_)
  by_cases hh1 : 300 < (w64 ((s1.size : Int) + (between1.size : Int)))
  ·rw [if_pos hh1] at h
   refine WP.no rfl rfl (decide_eq_true hh1) rfl rfl ?_
   refine WP.no rfl rfl rfl rfl rfl ?_
   iterate 2 (refine WP.sx tysOk rfl ⟨⟨⟩, ⟨⟩⟩ ?_)
   iterate 2 (refine WP.no rfl rfl rfl rfl rfl ?_)
   refine WP.sx tysOk rfl ⟨⟨⟩, ⟨⟩⟩ ?_
   refine WP.condT rfl rfl ?_
   obtain ⟨r1, hg1, h⟩ := bind_some h
   refine WP.callV rfl rfl rfl rfl rfl rfl rfl (by kernel_rfl) (fun w1 hw1 => (law02_known_w hg1 (pg.le ((Held.mem (List.Mem.head _)) _ _ hw1)) :)) ⟨⟩ ?_
   refine WP.sx tysOk rfl ⟨⟨⟩, ⟨⟩⟩ ?_
   cases h
   refine WP.retR tysOk rfl rfl ⟨_, _, rfl, rfl, rfl⟩ (fun w1 hw1 => ⟨rfl, Ret.below_ hw1 (.cons .head .nil)⟩)
  rw [if_neg hh1] at h
  refine WP.yes rfl rfl (decide_eq_false hh1) ?_
  refine WP.sx tysOk rfl ⟨⟨⟩, ⟨⟩⟩ ?_
  refine WP.yes rfl rfl rfl ?_
  obtain ⟨r2, hg2, h⟩ := bind_some h
  refine WP.callV rfl rfl rfl rfl rfl rfl rfl (by kernel_rfl) (fun w1 hw1 => (law02_many_w hg2 (hs1.le' ((Held.mem (List.Mem.head _)) _ _ hw1)).of :)) ⟨⟩ ?_
  iterate 2 (refine WP.sx tysOk rfl ⟨⟨⟩, ⟨⟩⟩ ?_)
  by_cases hh2 : r2 = true
  ·rw [if_pos hh2] at h
   refine WP.no rfl rfl hh2 rfl rfl ?_
   refine WP.no rfl rfl rfl rfl rfl ?_
   refine WP.sx tysOk rfl ⟨⟨⟩, ⟨⟩⟩ ?_
   refine WP.condT rfl rfl ?_
   obtain ⟨r3, hg3, h⟩ := bind_some h
   refine WP.callV rfl rfl rfl rfl rfl rfl rfl (by kernel_rfl) (fun w1 hw1 => (law02_known_w hg3 (pg.le ((Held.mem (List.Mem.head _)) _ _ hw1)) :)) ⟨⟩ ?_
   refine WP.sx tysOk rfl ⟨⟨⟩, ⟨⟩⟩ ?_
   cases h
   refine WP.retR tysOk rfl rfl ⟨_, _, rfl, rfl, rfl⟩ (fun w1 hw1 => ⟨rfl, Ret.below_ hw1 (.cons .head .nil)⟩)
  rw [if_neg hh2] at h
  refine WP.yes rfl rfl (bfalse hh2) ?_
  obtain ⟨r4, hg4, h⟩ := bind_some h
  refine WP.callV rfl rfl rfl rfl rfl rfl rfl (by kernel_rfl) (fun w1 hw1 => (law02_known_w hg4 (pg.le ((Held.mem (List.Mem.head _)) _ _ hw1)) :)) ⟨⟩ ?_
  refine WP.yes rfl rfl rfl ?_
  iterate 2 (refine WP.sx tysOk rfl ⟨⟨⟩, ⟨⟩⟩ ?_)
  refine WP.cond_n rfl rfl (fun hh3 => ?_) (fun hh3 => ?_)
  ·rw [if_neg (bneg hh3)] at h
   obtain ⟨r5, hg5, h⟩ := bind_some h
   refine WP.callV rfl rfl rfl rfl rfl rfl rfl (by kernel_rfl) (fun w1 hw1 => (law02_known_w hg5 (pg.le ((Held.mem (List.Mem.head _)) _ _ hw1)) :)) ⟨⟩ ?_
   refine WP.sx tysOk rfl ⟨⟨⟩, ⟨⟩⟩ ?_
   cases h
   refine WP.retR tysOk rfl rfl ⟨_, _, rfl, rfl, rfl⟩ (fun w1 hw1 => ⟨rfl, Ret.below_ hw1 (.cons .head .nil)⟩)
  rw [if_pos hh3] at h
  iterate 2 (refine WP.sx tysOk rfl ⟨⟨⟩, ⟨⟩⟩ ?_)
  obtain ⟨r6, hg6, h⟩ := bind_some h
  refine WP.callV rfl rfl rfl rfl rfl rfl rfl (by kernel_rfl) (fun w1 hw1 => (law02_asks_w hg6 (pg.le ((Held.mem (List.Mem.head _)) _ _ hw1)) :)) ⟨⟩ ?_
  refine WP.sx tysOk rfl ⟨⟨⟩, ⟨⟩⟩ ?_
  by_cases hh4 : r6 = true
  ·rw [if_pos hh4] at h
   refine WP.yes rfl rfl hh4 ?_
   refine WP.sx tysOk rfl ⟨⟨⟩, ⟨⟩⟩ ?_
   refine WP.yes rfl rfl rfl ?_
   obtain ⟨r7, hg7, h⟩ := bind_some h
   refine WP.callV rfl rfl rfl rfl rfl rfl rfl (by kernel_rfl) (fun w1 hw1 => (law02_Near_w hg7 (hs2.le' ((Held.mem (List.Mem.head _)) _ _ hw1)).of :)) ⟨⟩ ?_
   refine WP.yes rfl rfl rfl ?_
   refine WP.sx tysOk rfl ⟨⟨⟩, ⟨⟩⟩ ?_
   refine WP.yes rfl rfl rfl ?_
   obtain ⟨r8, hg8, h⟩ := bind_some h
   refine WP.callV rfl rfl rfl rfl rfl rfl rfl (by kernel_rfl) (fun w1 hw1 => (law02_asks_w hg8 (pg.le ((Held.mem (List.Mem.head _)) _ _ hw1)) :)) ⟨⟩ ?_
   iterate 2 (refine WP.sx tysOk rfl ⟨⟨⟩, ⟨⟩⟩ ?_)
   by_cases hh5 : r8 = true
   ·rw [if_pos hh5] at h
    refine WP.yes rfl rfl hh5 ?_
    refine WP.sx tysOk rfl ⟨⟨⟩, ⟨⟩⟩ ?_
    refine WP.yes rfl rfl rfl ?_
    obtain ⟨r9, hg9, h⟩ := bind_some h
    refine WP.callV rfl rfl rfl rfl rfl rfl rfl (by kernel_rfl) (fun w1 hw1 => (word_Text_w hg9 (pg.le ((Held.mem (List.Mem.head _)) _ _ hw1)) :)) ⟨⟩ ?_
    refine WP.yes rfl rfl rfl ?_
    refine WP.sx tysOk rfl ⟨⟨⟩, ⟨⟩⟩ ?_
    refine WP.yes rfl rfl rfl ?_
    obtain ⟨r10, hg10, h⟩ := bind_some h
    refine WP.callV rfl rfl rfl rfl rfl rfl rfl (by kernel_rfl) (fun w1 hw1 => (law02_asks_w hg10 (pg.le ((Held.mem (List.Mem.head _)) _ _ hw1)) :)) ⟨⟩ ?_
    iterate 2 (refine WP.sx tysOk rfl ⟨⟨⟩, ⟨⟩⟩ ?_)
    by_cases hh6 : r10 = true
    ·rw [if_pos hh6] at h
     refine WP.yes rfl rfl hh6 ?_
     refine WP.sx tysOk rfl ⟨⟨⟩, ⟨⟩⟩ ?_
     refine WP.yes rfl rfl rfl ?_
     obtain ⟨r11, hg11, h⟩ := bind_some h
     refine WP.callV rfl rfl rfl rfl rfl rfl rfl (by kernel_rfl) (fun w1 hw1 => (word_Text_w hg11 (pg.le ((Held.mem (List.Mem.head _)) _ _ hw1)) :)) ⟨⟩ ?_
     refine WP.yes rfl rfl rfl ?_
     refine WP.sx tysOk rfl ⟨⟨⟩, ⟨⟩⟩ ?_
     refine WP.yes rfl rfl rfl ?_
     obtain ⟨r12, hg12, h⟩ := bind_some h
     refine WP.callV rfl rfl rfl rfl rfl rfl rfl (by kernel_rfl) (fun w1 hw1 => (ref02_Text_w hg12  :)) ⟨⟩ ?_
     refine WP.yes rfl rfl rfl ?_
     iterate 3 (refine WP.sx tysOk rfl ⟨⟨⟩, ⟨⟩⟩ ?_)
     by_cases hh7 : (r11.toList == r12.toList) = true
     ·rw [if_pos hh7] at h
      refine WP.yes rfl rfl hh7 ?_
      iterate 2 (refine WP.sx tysOk rfl ⟨⟨⟩, ⟨⟩⟩ ?_; refine WP.yes rfl rfl rfl ?_)
      obtain ⟨r13, hg13, h⟩ := bind_some h
      refine WP.callV rfl rfl rfl rfl rfl rfl rfl (by kernel_rfl) (fun w1 hw1 => (word_Join_w hg13 (hs1.le' ((Held.mem (List.Mem.head _)) _ _ hw1)).of :)) ⟨⟩ ?_
      iterate 2 (refine WP.yes rfl rfl rfl ?_; refine WP.sx tysOk rfl ⟨⟨⟩, ⟨⟩⟩ ?_)
      refine WP.yes rfl rfl rfl ?_
      obtain ⟨r14, hg14, h⟩ := bind_some h
      refine WP.callV rfl rfl rfl rfl rfl rfl rfl (by kernel_rfl) (fun w1 hw1 => (ref02_Join_w hg14 (hs1.le' ((Held.mem (List.Mem.head _)) _ _ hw1)).of :)) ⟨⟩ ?_
      refine WP.yes rfl rfl rfl ?_
      iterate 3 (refine WP.sx tysOk rfl ⟨⟨⟩, ⟨⟩⟩ ?_)
      cases h
      refine WP.retR tysOk rfl rfl ⟨_, _, rfl, rfl, rfl⟩ (fun w1 hw1 => ⟨rfl, Ret.below_ hw1 (.cons .head .nil)⟩)
     rw [if_neg hh7] at h
     refine WP.no rfl rfl (bfalse hh7) rfl rfl ?_
     iterate 6 (refine WP.no rfl rfl rfl rfl rfl ?_)
     iterate 2 (refine WP.sx tysOk rfl ⟨⟨⟩, ⟨⟩⟩ ?_)
     cases h
     refine WP.retR tysOk rfl rfl ⟨_, _, rfl, rfl, rfl⟩ (fun w1 hw1 => ⟨rfl, Ret.below_ hw1 (.cons .head .nil)⟩)
    rw [if_neg hh6] at h
    refine WP.no rfl rfl (bfalse hh6) rfl rfl ?_
    iterate 4 (refine WP.no rfl rfl rfl rfl rfl ?_)
    iterate 2 (refine WP.sx tysOk rfl ⟨⟨⟩, ⟨⟩⟩ ?_)
    iterate 7 (refine WP.no rfl rfl rfl rfl rfl ?_)
    iterate 2 (refine WP.sx tysOk rfl ⟨⟨⟩, ⟨⟩⟩ ?_)
    cases h
    refine WP.retR tysOk rfl rfl ⟨_, _, rfl, rfl, rfl⟩ (fun w1 hw1 => ⟨rfl, Ret.below_ hw1 (.cons .head .nil)⟩)
   rw [if_neg hh5] at h
   refine WP.no rfl rfl (bfalse hh5) rfl rfl ?_
   iterate 3 (refine WP.no rfl rfl rfl rfl rfl ?_)
   iterate 2 (refine WP.sx tysOk rfl ⟨⟨⟩, ⟨⟩⟩ ?_)
   iterate 5 (refine WP.no rfl rfl rfl rfl rfl ?_)
   iterate 2 (refine WP.sx tysOk rfl ⟨⟨⟩, ⟨⟩⟩ ?_)
   iterate 7 (refine WP.no rfl rfl rfl rfl rfl ?_)
   iterate 2 (refine WP.sx tysOk rfl ⟨⟨⟩, ⟨⟩⟩ ?_)
   cases h
   refine WP.retR tysOk rfl rfl ⟨_, _, rfl, rfl, rfl⟩ (fun w1 hw1 => ⟨rfl, Ret.below_ hw1 (.cons .head .nil)⟩)
  rw [if_neg hh4] at h
  refine WP.no rfl rfl (bfalse hh4) rfl rfl ?_
  iterate 3 (refine WP.no rfl rfl rfl rfl rfl ?_)
  iterate 2 (refine WP.sx tysOk rfl ⟨⟨⟩, ⟨⟩⟩ ?_)
  iterate 4 (refine WP.no rfl rfl rfl rfl rfl ?_)
  iterate 2 (refine WP.sx tysOk rfl ⟨⟨⟩, ⟨⟩⟩ ?_)
  iterate 5 (refine WP.no rfl rfl rfl rfl rfl ?_)
  iterate 2 (refine WP.sx tysOk rfl ⟨⟨⟩, ⟨⟩⟩ ?_)
  iterate 7 (refine WP.no rfl rfl rfl rfl rfl ?_)
  iterate 2 (refine WP.sx tysOk rfl ⟨⟨⟩, ⟨⟩⟩ ?_)
  cases h
  refine WP.retR tysOk rfl rfl ⟨_, _, rfl, rfl, rfl⟩ (fun w1 hw1 => ⟨rfl, Ret.below_ hw1 (.cons .head .nil)⟩)
end Go.Proofs.YthelgjfdkdaijaaDoor
