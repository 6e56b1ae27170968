/- The walks: the code computes that. -/
import Derived.Test.YtpnohbdfgmjdbaaGreatGW2
import Derived.Test.YtpnohbdfgmjdbaaGreatTys
import Derived.Test.YtpnohbdfgmjdbaaGreatEngG
import Derived.KernelRfl
namespace Go.Proofs.YtpnohbdfgmjdbaaGreat
open Go.RowKit Go.Qe
abbrev ref03_Kept_S (r : (List Int)) : Value → Heap → Prop := fun v L => ∃ (A1 : Option Addr) (n1 c1 : Nat), v = .slice A1 n1 c1 ∧ OwF A1 n1 r ∧ L = [Ow (fI .i64) 3 A1 n1 c1 r]
set_option maxRecDepth 20000 in
set_option maxHeartbeats 8000000 in
theorem ref03_Kept_w {w : World} {v0 : Value} {off1 : List Bool} {n1 : Int} {r : (List Int)} (h : ref03_Kept off1 n1 = some r) (p1 : SlF fB (PH.of w) v0 off1) :
    Calls Tryz.prog 79 #[v0, iv n1] w fun e w' => ∃ v L, e = .returned v ∧ ref03_Kept_S r v L ∧ Ret w w' L := by
  obtain ⟨A1, c1, rfl, hs1⟩ := p1
  unfold ref03_Kept at h
  refine enter_ Tryz.func79 rfl Tryz.ntmps79 rfl ?_
  iterate 3 (refine WP.sx tysOk rfl ⟨⟨⟩, ⟨⟩⟩ ?_)
  refine WP.own_nil 3 (fI .i64).z ?_
  refine WP.loop (α := Nat × Int × (List Int) × (Option Addr) × Nat × Nat) (fun x => lp (ref03_Kept_b1 off1 n1) x.1 (x.2.1, x.2.2.1) = some r ∧ OwF x.2.2.2.1 x.2.2.2.2.1 x.2.2.1) (fun x => [(0, .slice A1 off1.length c1), (1, iv n1), (5, .slice x.2.2.2.1 x.2.2.2.2.1 x.2.2.2.2.2), (6, iv x.2.1)]) (fun x => [Ow (fI .i64) 3 x.2.2.2.1 x.2.2.2.2.1 x.2.2.2.2.2 x.2.2.1, .fz (PH.of w)]) (fun x => x.1) rfl (big, 0, ([] : List Int), none, 0, 0) ⟨h, OwF.nil_⟩ ?_ ?_ ?_
  ·repeat first | exact ⟨⟩ | refine ⟨rfl, ?_⟩
  ·exact (.cons .head (.cons .head .nil))
  rintro ⟨n2, k3, xs6, A7, m2, c7⟩ ⟨h, hf10⟩
  dsimp only at h hf10 ⊢
  rcases n2 with _ | n2
  · exact (lp_no h).elim
  replace h := lp_succ h
  unfold ref03_Kept_b1 at h
  try dsimp only at h
  iterate 4 (refine WP.sx tysOk rfl ⟨⟨⟩, ⟨⟩⟩ ?_)
  by_cases hh13 : k3 < n1
  ·rw [if_pos hh13] at h
   refine WP.yes rfl rfl (decide_eq_true hh13) ?_
   refine WP.sx tysOk rfl ⟨⟨⟩, ⟨⟩⟩ ?_
   refine WP.yes rfl rfl rfl ?_
   iterate 2 (refine WP.sx tysOk rfl ⟨⟨⟩, ⟨⟩⟩ ?_)
   refine WP.cond_d rfl rfl (fun hh14 => ?_) (fun hh14 => ?_)
   ·rw [if_pos hh14] at h
    iterate 2 (refine WP.sx tysOk rfl ⟨⟨⟩, ⟨⟩⟩ ?_)
    obtain ⟨r5, hg5, h⟩ := bind_some h
    refine WP.callV rfl rfl rfl rfl rfl rfl rfl (by kernel_rfl) (fun w1 hw1 => (ref03_Off_w hg5 (hs1.le' ((Held.mem (List.Mem.tail _ (List.Mem.head _))) _ _ hw1)).of :)) ⟨⟩ ?_
    refine WP.sx tysOk rfl ⟨⟨⟩, ⟨⟩⟩ ?_
    refine WP.cond_n rfl rfl (fun hh15 => ?_) (fun hh15 => ?_)
    ·rw [if_neg (bneg hh15)] at h
     iterate 2 (refine WP.sx tysOk rfl ⟨⟨⟩, ⟨⟩⟩ ?_)
     refine WP.bsO (f := (fI .i64)) [k3] tysOk rfl rfl rfl rfl rfl rfl rfl rfl rfl rfl rfl rfl rfl rfl ?_
     intro g5 hf11
     obtain ⟨hl5, h⟩ := ck_some h
     obtain ⟨xs7, hz5, h⟩ := lt_some h
     refine WP.appO (f := (fI .i64)) (xs := xs6) (ys := [k3]) tysOk rfl rfl rfl rfl rfl rfl rfl rfl rfl rfl rfl rfl (.tail .head) hf10 hf11.len (OwS.app .head hf11) hl5 hz5 ?_
     intro A8 c8 hf12
     iterate 4 (refine WP.sx tysOk rfl ⟨⟨⟩, ⟨⟩⟩ ?_)
     refine WP.stop rfl (n2, w64 (k3 + 1), xs7, A8, xs7.length, c8) ⟨⟨h, hf12⟩, Nat.lt_succ_self _⟩ ?_ ?_
     ·repeat first | exact ⟨⟩ | refine ⟨rfl, ?_⟩
     exact (.cons .head (.cons (.tail .head) .nil))
    rw [if_pos hh15] at h
    iterate 3 (refine WP.sx tysOk rfl ⟨⟨⟩, ⟨⟩⟩ ?_)
    refine WP.stop rfl (n2, w64 (k3 + 1), xs6, A7, m2, c7) ⟨⟨h, hf10⟩, Nat.lt_succ_self _⟩ ?_ ?_
    ·repeat first | exact ⟨⟩ | refine ⟨rfl, ?_⟩
    exact (.cons .head (.cons .head .nil))
   rw [if_neg hh14] at h
   iterate 2 (refine WP.sx tysOk rfl ⟨⟨⟩, ⟨⟩⟩ ?_)
   cases h
   refine WP.retR tysOk rfl rfl ⟨_, _, rfl, rfl, rfl⟩ (fun w1 hw1 => ⟨_, _, rfl, ⟨A7, m2, c7, rfl, hf10, rfl⟩, Ret.of_KH hw1 (.cons .head (.cons .head .nil))⟩)
  rw [if_neg hh13] at h
  refine WP.no rfl rfl (decide_eq_false hh13) rfl rfl ?_
  refine WP.no rfl rfl rfl rfl rfl ?_
  refine WP.sx tysOk rfl ⟨⟨⟩, ⟨⟩⟩ ?_
  refine WP.condF rfl rfl ?_
  iterate 2 (refine WP.sx tysOk rfl ⟨⟨⟩, ⟨⟩⟩ ?_)
  cases h
  refine WP.retR tysOk rfl rfl ⟨_, _, rfl, rfl, rfl⟩ (fun w1 hw1 => ⟨_, _, rfl, ⟨A7, m2, c7, rfl, hf10, rfl⟩, Ret.of_KH hw1 (.cons .head (.cons .head .nil))⟩)

set_option maxRecDepth 20000 in
set_option maxHeartbeats 8000000 in
theorem ref03_Place_w {w : World} {v0 : Value} {l1 : List Int} {n1 : Int} {r : Int} (h : ref03_Place l1 n1 = some r) (p1 : SlF (fI .i64) (PH.of w) v0 l1) :
    Calls Tryz.prog 80 #[v0, iv n1] w fun e w' => e = .returned (iv r) ∧ Below w.heap.size w w' := by
  obtain ⟨A1, c1, rfl, hs1⟩ := p1
  unfold ref03_Place at h
  refine enter_ Tryz.func80 rfl Tryz.ntmps80 rfl ?_
  iterate 2 (refine WP.sx tysOk rfl ⟨⟨⟩, ⟨⟩⟩ ?_)
  refine WP.loop (α := Nat × Int) (fun x => lp (ref03_Place_b1 l1 n1) x.1 x.2 = some r) (fun x => [(0, .slice A1 l1.length c1), (1, iv n1), (5, iv x.2)]) (fun x => [.fz (PH.of w)]) (fun x => x.1) rfl (big, 0) h ?_ ?_ ?_
  ·repeat first | exact ⟨⟩ | refine ⟨rfl, ?_⟩
  ·exact (.cons .head .nil)
  rintro ⟨n2, k2⟩ h
  dsimp only at h ⊢
  rcases n2 with _ | n2
  · exact (lp_no h).elim
  replace h := lp_succ h
  unfold ref03_Place_b1 at h
  try dsimp only at h
  iterate 4 (refine WP.sx tysOk rfl ⟨⟨⟩, ⟨⟩⟩ ?_)
  refine WP.cond_d rfl rfl (fun hh5 => ?_) (fun hh5 => ?_)
  ·rw [if_pos hh5] at h
   iterate 2 (refine WP.sx tysOk rfl ⟨⟨⟩, ⟨⟩⟩ ?_)
   obtain ⟨hj3, h⟩ := ck_some h
   refine WP.ixA tysOk rfl ⟨⟩ rfl rfl rfl rfl rfl rfl rfl rfl hj3 (hs1.ex hj3) ?_
   intro b3 b3v hA3
   refine WP.lx tysOk rfl ⟨⟩ (hs1.at0 hA3 (Held.mem (List.Mem.head _)) hj3 rfl) ?_
   iterate 2 (refine WP.sx tysOk rfl ⟨⟨⟩, ⟨⟩⟩ ?_)
   refine WP.cond_d rfl rfl (fun hh6 => ?_) (fun hh6 => ?_)
   ·rw [if_pos hh6] at h
    iterate 2 (refine WP.sx tysOk rfl ⟨⟨⟩, ⟨⟩⟩ ?_)
    cases h
    refine WP.retR tysOk rfl rfl ⟨_, _, rfl, rfl, rfl⟩ (fun w1 hw1 => ⟨rfl, Ret.below_ hw1 (.cons .head .nil)⟩)
   rw [if_neg hh6] at h
   iterate 3 (refine WP.sx tysOk rfl ⟨⟨⟩, ⟨⟩⟩ ?_)
   refine WP.stop rfl (n2, w64 (k2 + 1)) ⟨h, Nat.lt_succ_self _⟩ ?_ ?_
   ·repeat first | exact ⟨⟩ | refine ⟨rfl, ?_⟩
   exact (.cons .head .nil)
  rw [if_neg hh5] at h
  refine WP.sx tysOk rfl ⟨⟨⟩, ⟨⟩⟩ ?_
  cases h
  refine WP.retR tysOk rfl rfl ⟨_, _, rfl, rfl, rfl⟩ (fun w1 hw1 => ⟨rfl, Ret.below_ hw1 (.cons .head .nil)⟩)

abbrev ref03_Without_S (r : Inst) : Value → Heap → Prop := fun v L => ∃ (A1 : Option Addr) (n1 c1 : Nat) (A2 : Option Addr) (n2 c2 : Nat), v = .agg #[.slice A1 n1 c1, .slice A2 n2 c2] ∧ OwF A1 n1 r.supply ∧ OwF A2 n2 r.arcs ∧ L = [Ow (fI .i64) 2 A1 n1 c1 r.supply, Ow fA 34 A2 n2 c2 r.arcs]
set_option maxRecDepth 20000 in
set_option maxHeartbeats 8000000 in
theorem ref03_Without_w {w : World} {v0 : Value} {v1 : Value} {v2 : Value} {d1 : Inst} {i1 : List Bool} {x1 : List Bool} {r : Inst} (h : ref03_Without d1 i1 x1 = some r) (p1 : InsZ (PH.of w) v0 d1) (p2 : SlF fB (PH.of w) v1 i1) (p3 : SlF fB (PH.of w) v2 x1) :
    Calls Tryz.prog 56 #[v0, v1, v2] w fun e w' => ∃ v L, e = .returned v ∧ ref03_Without_S r v L ∧ Ret w w' L := by
  obtain ⟨A1, c1, A2, c2, rfl, hs1, hs2⟩ := p1
  obtain ⟨A3, c3, rfl, hs3⟩ := p2
  obtain ⟨A4, c4, rfl, hs4⟩ := p3
  unfold ref03_Without at h
  refine enter_ Tryz.func56 rfl Tryz.ntmps56 rfl ?_
  refine WP.box rfl rfl rfl rfl rfl rfl ?_
  intro g1
  refine WP.al tysOk rfl rfl rfl rfl rfl rfl ?_
  intro g2
  refine WP.bld (cs := [.slice none 0 0, .slice none 0 0]) tysOk rfl ⟨⟩ rfl rfl rfl rfl rfl rfl rfl ?_
  refine WP.al tysOk rfl rfl rfl rfl rfl rfl ?_
  intro g3
  refine WP.sto' tysOk [.slice none 0 0, .slice none 0 0] rfl rfl rfl rfl rfl rfl rfl rfl rfl .head rfl rfl ?_
  iterate 2 (refine WP.sx tysOk rfl ⟨⟨⟩, ⟨⟩⟩ ?_)
  refine WP.lx tysOk rfl ⟨⟩ (CellAt.blk (.tail (.tail .head)) rfl) ?_
  refine WP.sx tysOk rfl ⟨⟨⟩, ⟨⟩⟩ ?_
  obtain ⟨r1, hg1, h⟩ := bind_some h
  refine WP.callS (ref03_Kept_S r1) rfl rfl rfl rfl rfl rfl rfl (by kernel_rfl) (fun w1 hw1 => (ref03_Kept_w hg1 (hs3.le' ((Held.mem (List.Mem.tail _ (List.Mem.tail _ (List.Mem.tail _ (List.Mem.head _))))) _ _ hw1)).of :)) ?_
  rintro _ _ ⟨A5, n1, c5, rfl, hf1, rfl⟩
  iterate 2 (refine WP.sx tysOk rfl ⟨⟨⟩, ⟨⟩⟩ ?_)
  refine WP.own_nil 2 (fI .i64).z ?_
  refine WP.loop (α := Nat × Int × (List Int) × (Option Addr) × Nat × Nat) (fun x => lp (ref03_Without_b1 d1 x1 r1) x.1 (x.2.1, x.2.2.1) = some r ∧ OwF x.2.2.2.1 x.2.2.2.2.1 x.2.2.1) (fun x => [(2, .slice A4 x1.length c4), (3, .pointer (some ⟨g1, 0, none⟩)), (6, .pointer (some ⟨g2, 0, none⟩)), (7, .pointer (some ⟨g3, 0, none⟩)), (8, .slice A5 n1 c5), (9, iv x.2.1)]) (fun x => [Ow (fI .i64) 2 x.2.2.2.1 x.2.2.2.2.1 x.2.2.2.2.2 x.2.2.1, Ow (fI .i64) 3 A5 n1 c5 r1, .blk g3 25 [.slice x.2.2.2.1 x.2.2.2.2.1 x.2.2.2.2.2, .slice none 0 0], .blk g2 25 [.slice none 0 0, .slice none 0 0], .blk g1 25 [.slice A1 d1.supply.length c1, .slice A2 d1.arcs.length c2], .fz (PH.of w)]) (fun x => x.1) rfl (big, 0, ([] : List Int), none, 0, 0) ⟨h, OwF.nil_⟩ ?_ ?_ ?_
  ·repeat first | exact ⟨⟩ | refine ⟨rfl, ?_⟩
  ·exact (.cons .head (.cons .head (.cons .head (.cons .head (.cons .head (.cons .head .nil))))))
  rintro ⟨n8, s12, xs23, A31, m8, c31⟩ ⟨h, hf42⟩
  dsimp only at h hf42 ⊢
  rcases n8 with _ | n8
  · exact (lp_no h).elim
  replace h := lp_succ h
  unfold ref03_Without_b1 at h
  try dsimp only at h
  iterate 2 (refine WP.sx tysOk rfl ⟨⟨⟩, ⟨⟩⟩ ?_)
  refine WP.lenO (xs := r1) tysOk rfl ⟨⟩ rfl rfl rfl rfl rfl rfl hf1 ?_
  refine WP.sx tysOk rfl ⟨⟨⟩, ⟨⟩⟩ ?_
  refine WP.cond_d rfl rfl (fun hh40 => ?_) (fun hh40 => ?_)
  ·rw [if_pos hh40] at h
   obtain ⟨hj31, h⟩ := ck_some h
   obtain ⟨hj32, h⟩ := ck_some h
   refine WP.drawL 11 [(10, [], litSpec 2 1)] rfl (by kernel_rfl) (by kernel_rfl) (by kernel_rfl) ?_
   refine WP.sx tysOk rfl ⟨⟨⟨rfl, rfl⟩, rfl⟩, ⟨⟩⟩ ?_
   refine WP.lx tysOk rfl ⟨⟨rfl, rfl⟩, rfl⟩ (CellAt.blk (.tail (.tail .head)) rfl) ?_
   refine WP.sx tysOk rfl ⟨⟨⟨rfl, rfl⟩, rfl⟩, ⟨⟩⟩ ?_
   refine WP.lx tysOk rfl ⟨⟨rfl, rfl⟩, rfl⟩ (CellAt.blk (.tail (.tail (.tail (.tail .head)))) rfl) ?_
   iterate 2 (refine WP.sx tysOk rfl ⟨⟨⟨rfl, rfl⟩, rfl⟩, ⟨⟩⟩ ?_)
   refine WP.ixO tysOk rfl ⟨⟨rfl, rfl⟩, rfl⟩ rfl rfl rfl rfl rfl rfl rfl rfl hf1 hj31 ?_
   intro b31 hA31
   refine WP.lx tysOk rfl ⟨⟨rfl, rfl⟩, rfl⟩ (OwS.at0 (.tail .head) hA31 hj31 rfl) ?_
   refine WP.ixA tysOk rfl ⟨⟨rfl, rfl⟩, rfl⟩ rfl rfl rfl rfl rfl rfl rfl rfl hj32 (hs1.ex hj32) ?_
   intro b32 b32v hA32
   refine WP.lx tysOk rfl ⟨⟨rfl, rfl⟩, rfl⟩ (hs1.at0 hA32 (Held.mem (List.Mem.tail _ (List.Mem.tail _ (List.Mem.tail _ (List.Mem.tail _ (List.Mem.tail _ (List.Mem.head _))))))) hj32 rfl) ?_
   refine WP.lbs tysOk rfl ⟨rfl, rfl⟩ rfl rfl rfl rfl rfl rfl rfl rfl rfl rfl rfl rfl ?_
   intro g31
   refine WP.lend rfl ⟨rfl, rfl⟩ ?_
   refine WP.repiece (p' := .blk g31 2 (cl (fI .i64) [(gt d1.supply (gt r1 s12))])) .head rfl ?_
   refine WP.shut0 (n := 1) (z := (fI .i64).z) .head (by decide) rfl ?_
   have hf43 : OwF (some ⟨g31, 0, none⟩) 1 [(gt d1.supply (gt r1 s12))] := ⟨rfl, fun _ => ⟨g31, rfl⟩⟩
   obtain ⟨hl16, h⟩ := ck_some h
   obtain ⟨xs24, hz16, h⟩ := lt_some h
   refine WP.appO (f := (fI .i64)) (xs := xs23) (ys := [(gt d1.supply (gt r1 s12))]) tysOk rfl rfl rfl rfl rfl rfl rfl rfl rfl rfl rfl rfl (.tail .head) hf42 hf43.len (OwS.app .head hf43) hl16 hz16 ?_
   intro A32 c32 hf44
   refine WP.sx tysOk rfl ⟨⟨⟩, ⟨⟩⟩ ?_
   refine WP.sto' tysOk [.slice A32 xs24.length c32, .slice none 0 0] rfl rfl rfl rfl rfl rfl rfl rfl rfl (.tail (.tail (.tail .head))) rfl rfl ?_
   iterate 3 (refine WP.sx tysOk rfl ⟨⟨⟩, ⟨⟩⟩ ?_)
   refine WP.stop rfl (n8, w64 (s12 + 1), xs24, A32, xs24.length, c32) ⟨⟨h, hf44⟩, Nat.lt_succ_self _⟩ ?_ ?_
   ·repeat first | exact ⟨⟩ | refine ⟨rfl, ?_⟩
   exact (.cons (.tail .head) (.cons (.tail (.tail .head)) (.cons .head (.cons (.tail .head) (.cons (.tail .head) (.cons (.tail .head) .nil))))))
  rw [if_neg hh40] at h
  iterate 2 (refine WP.sx tysOk rfl ⟨⟨⟩, ⟨⟩⟩ ?_)
  refine WP.lx tysOk rfl ⟨⟩ (CellAt.blk (.tail (.tail (.tail (.tail .head)))) rfl) ?_
  refine WP.sx tysOk rfl ⟨⟨⟩, ⟨⟩⟩ ?_
  obtain ⟨r29, hg29, h⟩ := bind_some h
  refine WP.callS (ref03_Kept_S r29) rfl rfl rfl rfl rfl rfl rfl (by kernel_rfl) (fun w1 hw1 => (ref03_Kept_w hg29 (hs4.le' ((Held.mem (List.Mem.tail _ (List.Mem.tail _ (List.Mem.tail _ (List.Mem.tail _ (List.Mem.tail _ (List.Mem.head _))))))) _ _ hw1)).of :)) ?_
  rintro _ _ ⟨A33, n9, c33, rfl, hf45, rfl⟩
  iterate 2 (refine WP.sx tysOk rfl ⟨⟨⟩, ⟨⟩⟩ ?_)
  refine WP.own_nil 34 fA.z ?_
  refine WP.loop (α := Nat × Int × (List Arc) × (Option Addr) × Nat × Nat) (fun x => lp (ref03_Without_b2 d1 r1 xs23 r29) x.1 (x.2.1, x.2.2.1) = some r ∧ OwF x.2.2.2.1 x.2.2.2.2.1 x.2.2.1) (fun x => [(3, .pointer (some ⟨g1, 0, none⟩)), (6, .pointer (some ⟨g2, 0, none⟩)), (7, .pointer (some ⟨g3, 0, none⟩)), (8, .slice A5 n1 c5), (10, .slice A33 n9 c33), (11, iv x.2.1)]) (fun x => [Ow fA 34 x.2.2.2.1 x.2.2.2.2.1 x.2.2.2.2.2 x.2.2.1, Ow (fI .i64) 3 A33 n9 c33 r29, Ow (fI .i64) 2 A31 m8 c31 xs23, Ow (fI .i64) 3 A5 n1 c5 r1, .blk g3 25 [.slice A31 m8 c31, .slice x.2.2.2.1 x.2.2.2.2.1 x.2.2.2.2.2], .blk g2 25 [.slice none 0 0, .slice none 0 0], .blk g1 25 [.slice A1 d1.supply.length c1, .slice A2 d1.arcs.length c2], .fz (PH.of w)]) (fun x => x.1) rfl (big, 0, ([] : List Arc), none, 0, 0) ⟨h, OwF.nil_⟩ ?_ ?_ ?_
  ·repeat first | exact ⟨⟩ | refine ⟨rfl, ?_⟩
  ·exact (.cons .head (.cons .head (.cons .head (.cons .head (.cons .head (.cons .head (.cons .head (.cons .head .nil))))))))
  rintro ⟨n10, s15, xs29, A38, m10, c38⟩ ⟨h, hf53⟩
  dsimp only at h hf53 ⊢
  rcases n10 with _ | n10
  · exact (lp_no h).elim
  replace h := lp_succ h
  unfold ref03_Without_b2 at h
  try dsimp only at h
  iterate 2 (refine WP.sx tysOk rfl ⟨⟨⟩, ⟨⟩⟩ ?_)
  refine WP.lenO (xs := r29) tysOk rfl ⟨⟩ rfl rfl rfl rfl rfl rfl hf45 ?_
  refine WP.sx tysOk rfl ⟨⟨⟩, ⟨⟩⟩ ?_
  refine WP.cond_d rfl rfl (fun hh50 => ?_) (fun hh50 => ?_)
  ·rw [if_pos hh50] at h
   obtain ⟨hj39, h⟩ := ck_some h
   obtain ⟨hj40, h⟩ := ck_some h
   refine WP.drawL 9 [(8, [], fun _ => blkSpec 34 [iv 0, iv 0, iv 0, iv 0, iv 0])] rfl (by kernel_rfl) (by kernel_rfl) (by kernel_rfl) ?_
   refine WP.sx tysOk rfl ⟨⟨⟨rfl, rfl⟩, rfl⟩, ⟨⟩⟩ ?_
   refine WP.lx tysOk rfl ⟨⟨rfl, rfl⟩, rfl⟩ (CellAt.blk (.tail (.tail (.tail (.tail (.tail (.tail .head)))))) rfl) ?_
   iterate 2 (refine WP.sx tysOk rfl ⟨⟨⟨rfl, rfl⟩, rfl⟩, ⟨⟩⟩ ?_)
   refine WP.ixO tysOk rfl ⟨⟨rfl, rfl⟩, rfl⟩ rfl rfl rfl rfl rfl rfl rfl rfl hf45 hj39 ?_
   intro b39 hA39
   refine WP.lx tysOk rfl ⟨⟨rfl, rfl⟩, rfl⟩ (OwS.at0 (.tail .head) hA39 hj39 rfl) ?_
   refine WP.ixA tysOk rfl ⟨⟨rfl, rfl⟩, rfl⟩ rfl rfl rfl rfl rfl rfl rfl rfl hj40 (hs2.ex hj40) ?_
   intro b40 b40v hA40
   refine WP.mx_ tysOk rfl ⟨⟨rfl, rfl⟩, rfl⟩ (hs2.seg hA40 (Held.mem (List.Mem.tail _ (List.Mem.tail _ (List.Mem.tail _ (List.Mem.tail _ (List.Mem.tail _ (List.Mem.tail _ (List.Mem.tail _ (List.Mem.head _))))))))) hj40) ?_
   refine WP.lal tysOk rfl ⟨rfl, rfl⟩ rfl rfl rfl rfl rfl rfl rfl ?_
   intro g38
   refine WP.lend rfl ⟨rfl, rfl⟩ ?_
   refine WP.sto' tysOk [iv ((gt d1.arcs (gt r29 s15)).src), iv ((gt d1.arcs (gt r29 s15)).dst), iv ((gt d1.arcs (gt r29 s15)).low), iv ((gt d1.arcs (gt r29 s15)).cap), iv ((gt d1.arcs (gt r29 s15)).cost)] rfl rfl rfl rfl rfl rfl rfl rfl rfl .head rfl rfl ?_
   iterate 2 (refine WP.sx tysOk rfl ⟨⟨⟩, ⟨⟩⟩ ?_)
   refine WP.lx tysOk rfl ⟨⟩ (CellAt.blk .head rfl) ?_
   obtain ⟨r36, hg36, h⟩ := bind_some h
   refine WP.callV rfl rfl rfl rfl rfl rfl rfl (by kernel_rfl) (fun w1 hw1 => (ref03_Place_w hg36 (hw1.ow (.tail (.tail (.tail (.tail .head)))) hf1) :)) ⟨⟩ ?_
   refine WP.sx tysOk rfl ⟨⟨⟩, ⟨⟩⟩ ?_
   refine WP.sto' tysOk [iv r36, iv ((gt d1.arcs (gt r29 s15)).dst), iv ((gt d1.arcs (gt r29 s15)).low), iv ((gt d1.arcs (gt r29 s15)).cap), iv ((gt d1.arcs (gt r29 s15)).cost)] rfl rfl rfl rfl rfl rfl rfl rfl rfl .head rfl rfl ?_
   iterate 2 (refine WP.sx tysOk rfl ⟨⟨⟩, ⟨⟩⟩ ?_)
   refine WP.lx tysOk rfl ⟨⟩ (CellAt.blk .head rfl) ?_
   obtain ⟨r37, hg37, h⟩ := bind_some h
   refine WP.callV rfl rfl rfl rfl rfl rfl rfl (by kernel_rfl) (fun w1 hw1 => (ref03_Place_w hg37 (hw1.ow (.tail (.tail (.tail (.tail .head)))) hf1) :)) ⟨⟩ ?_
   refine WP.sx tysOk rfl ⟨⟨⟩, ⟨⟩⟩ ?_
   refine WP.sto' tysOk [iv r36, iv r37, iv ((gt d1.arcs (gt r29 s15)).low), iv ((gt d1.arcs (gt r29 s15)).cap), iv ((gt d1.arcs (gt r29 s15)).cost)] rfl rfl rfl rfl rfl rfl rfl rfl rfl .head rfl rfl ?_
   refine WP.sx tysOk rfl ⟨⟨⟩, ⟨⟩⟩ ?_
   refine WP.lx tysOk rfl ⟨⟩ (CellAt.blk .head rfl) ?_
   iterate 2 (refine WP.sx tysOk rfl ⟨⟨⟩, ⟨⟩⟩ ?_)
   by_cases hh51 : 0 ≤ r36
   ·rw [if_pos hh51] at h
    refine WP.yes rfl rfl (decide_eq_true hh51) ?_
    refine WP.sx tysOk rfl ⟨⟨⟩, ⟨⟩⟩ ?_
    refine WP.yes rfl rfl rfl ?_
    refine WP.lx tysOk rfl ⟨⟩ (CellAt.blk .head rfl) ?_
    refine WP.yes rfl rfl rfl ?_
    iterate 2 (refine WP.sx tysOk rfl ⟨⟨⟩, ⟨⟩⟩ ?_)
    refine WP.cond_d rfl rfl (fun hh52 => ?_) (fun hh52 => ?_)
    ·rw [if_pos hh52] at h
     refine WP.sx tysOk rfl ⟨⟨⟩, ⟨⟩⟩ ?_
     refine WP.lx tysOk rfl ⟨⟩ (CellAt.blk (.tail (.tail (.tail (.tail (.tail .head))))) rfl) ?_
     refine WP.mx_ tysOk rfl ⟨⟩ (SegAt.blk' .head rfl) ?_
     refine WP.bsO (f := fA) [(Arc.mk r36 r37 ((gt d1.arcs (gt r29 s15)).low) ((gt d1.arcs (gt r29 s15)).cap) ((gt d1.arcs (gt r29 s15)).cost))] tysOk rfl rfl rfl rfl rfl rfl rfl rfl rfl rfl rfl rfl rfl rfl ?_
     intro g39 hf54
     obtain ⟨hl20, h⟩ := ck_some h
     obtain ⟨xs30, hz20, h⟩ := lt_some h
     refine WP.appO (f := fA) (xs := xs29) (ys := [(Arc.mk r36 r37 ((gt d1.arcs (gt r29 s15)).low) ((gt d1.arcs (gt r29 s15)).cap) ((gt d1.arcs (gt r29 s15)).cost))]) tysOk rfl rfl rfl rfl rfl rfl rfl rfl rfl rfl rfl rfl (.tail (.tail .head)) hf53 hf54.len (OwS.app .head hf54) hl20 hz20 ?_
     intro A39 c39 hf55
     refine WP.sx tysOk rfl ⟨⟨⟩, ⟨⟩⟩ ?_
     refine WP.sto' tysOk [.slice A31 m8 c31, .slice A39 xs30.length c39] rfl rfl rfl rfl rfl rfl rfl rfl rfl (.tail (.tail (.tail (.tail (.tail (.tail .head)))))) rfl rfl ?_
     iterate 3 (refine WP.sx tysOk rfl ⟨⟨⟩, ⟨⟩⟩ ?_)
     refine WP.stop rfl (n10, w64 (s15 + 1), xs30, A39, xs30.length, c39) ⟨⟨h, hf55⟩, Nat.lt_succ_self _⟩ ?_ ?_
     ·repeat first | exact ⟨⟩ | refine ⟨rfl, ?_⟩
     exact (.cons (.tail .head) (.cons (.tail (.tail (.tail .head))) (.cons (.tail (.tail (.tail .head))) (.cons (.tail (.tail (.tail .head))) (.cons .head (.cons (.tail (.tail .head)) (.cons (.tail (.tail .head)) (.cons (.tail (.tail .head)) .nil))))))))
    rw [if_neg hh52] at h
    iterate 3 (refine WP.sx tysOk rfl ⟨⟨⟩, ⟨⟩⟩ ?_)
    refine WP.stop rfl (n10, w64 (s15 + 1), xs29, A38, m10, c38) ⟨⟨h, hf53⟩, Nat.lt_succ_self _⟩ ?_ ?_
    ·repeat first | exact ⟨⟩ | refine ⟨rfl, ?_⟩
    exact (.cons (.tail .head) (.cons (.tail .head) (.cons (.tail .head) (.cons (.tail .head) (.cons (.tail .head) (.cons (.tail .head) (.cons (.tail .head) (.cons (.tail .head) .nil))))))))
   rw [if_neg hh51] at h
   refine WP.no rfl rfl (decide_eq_false hh51) rfl rfl ?_
   iterate 2 (refine WP.no rfl rfl rfl rfl rfl ?_)
   refine WP.sx tysOk rfl ⟨⟨⟩, ⟨⟩⟩ ?_
   refine WP.condF rfl rfl ?_
   iterate 3 (refine WP.sx tysOk rfl ⟨⟨⟩, ⟨⟩⟩ ?_)
   refine WP.stop rfl (n10, w64 (s15 + 1), xs29, A38, m10, c38) ⟨⟨h, hf53⟩, Nat.lt_succ_self _⟩ ?_ ?_
   ·repeat first | exact ⟨⟩ | refine ⟨rfl, ?_⟩
   exact (.cons (.tail .head) (.cons (.tail .head) (.cons (.tail .head) (.cons (.tail .head) (.cons (.tail .head) (.cons (.tail .head) (.cons (.tail .head) (.cons (.tail .head) .nil))))))))
  rw [if_neg hh50] at h
  refine WP.mx_ tysOk rfl ⟨⟩ (SegAt.blk' (.tail (.tail (.tail (.tail .head)))) rfl) ?_
  refine WP.sto' tysOk [.slice A31 m8 c31, .slice A38 m10 c38] rfl rfl rfl rfl rfl rfl rfl rfl rfl (.tail (.tail (.tail (.tail (.tail .head))))) rfl rfl ?_
  cases h
  refine WP.retR tysOk rfl rfl ⟨_, _, _, _, rfl, ⟨_, rfl, .inr ⟨rfl, _, rfl, rfl, (SegAt.blk' (z := 2) .head rfl).1⟩⟩, rfl, rfl⟩ (fun w1 hw1 => ⟨_, _, rfl, ⟨A31, m8, c31, A38, m10, c38, rfl, hf42, hf53, rfl⟩, Ret.of_KH hw1 (.cons (.tail (.tail (.tail .head))) (.cons (.tail .head) (.cons (.tail (.tail (.tail (.tail (.tail .head))))) .nil)))⟩)

set_option maxRecDepth 20000 in
set_option maxHeartbeats 8000000 in
theorem ref01_Of_w {w : World} {a1 : Int} {r : Wide} (h : ref01_Of a1 = some r) :
    Calls Tryz.prog 81 #[iv a1] w fun e w' => e = .returned (.agg #[iv r.hi, .int .u64 (r.lo)]) ∧ Below w.heap.size w w' := by
  unfold ref01_Of at h
  refine enter_ Tryz.func81 rfl Tryz.ntmps81 rfl ?_
  refine WP.al tysOk rfl rfl rfl rfl rfl rfl ?_
  intro g1
  iterate 2 (refine WP.sx tysOk rfl ⟨⟨⟩, ⟨⟩⟩ ?_)
  refine WP.bld (cs := [iv 0, .int .u64 (IntKind.wrap .u64 (a1))]) tysOk rfl ⟨⟩ rfl rfl rfl rfl rfl rfl rfl ?_
  refine WP.al tysOk rfl rfl rfl rfl rfl rfl ?_
  intro g2
  refine WP.sto' tysOk [iv 0, .int .u64 (IntKind.wrap .u64 (a1))] rfl rfl rfl rfl rfl rfl rfl rfl rfl .head rfl rfl ?_
  iterate 2 (refine WP.sx tysOk rfl ⟨⟨⟩, ⟨⟩⟩ ?_)
  refine WP.cond_d rfl rfl (fun hh1 => ?_) (fun hh1 => ?_)
  ·rw [if_pos hh1] at h
   refine WP.sx tysOk rfl ⟨⟨⟩, ⟨⟩⟩ ?_
   refine WP.sto' tysOk [iv (-1), .int .u64 (IntKind.wrap .u64 (a1))] rfl rfl rfl rfl rfl rfl rfl rfl rfl .head rfl rfl ?_
   refine WP.mx_ tysOk rfl ⟨⟩ (SegAt.blk' .head rfl) ?_
   refine WP.sto' tysOk [iv (-1), .int .u64 (IntKind.wrap .u64 (a1))] rfl rfl rfl rfl rfl rfl rfl rfl rfl (.tail .head) rfl rfl ?_
   cases h
   refine WP.retR tysOk rfl rfl ⟨_, _, _, _, rfl, ⟨_, rfl, .inr ⟨rfl, _, rfl, rfl, (SegAt.blk' (z := 2) .head rfl).1⟩⟩, rfl, rfl⟩ (fun w1 hw1 => ⟨rfl, Ret.below_ hw1 (.cons (.tail (.tail .head)) .nil)⟩)
  rw [if_neg hh1] at h
  refine WP.mx_ tysOk rfl ⟨⟩ (SegAt.blk' .head rfl) ?_
  refine WP.sto' tysOk [iv 0, .int .u64 (IntKind.wrap .u64 (a1))] rfl rfl rfl rfl rfl rfl rfl rfl rfl (.tail .head) rfl rfl ?_
  cases h
  refine WP.retR tysOk rfl rfl ⟨_, _, _, _, rfl, ⟨_, rfl, .inr ⟨rfl, _, rfl, rfl, (SegAt.blk' (z := 2) .head rfl).1⟩⟩, rfl, rfl⟩ (fun w1 hw1 => ⟨rfl, Ret.below_ hw1 (.cons (.tail (.tail .head)) .nil)⟩)

set_option maxRecDepth 20000 in
set_option maxHeartbeats 8000000 in
theorem ref01_Plus_w {w : World} {a1 : Wide} {b1 : Wide} {r : Wide} (h : ref01_Plus a1 b1 = some r) :
    Calls Tryz.prog 83 #[.agg #[iv a1.hi, .int .u64 (a1.lo)], .agg #[iv b1.hi, .int .u64 (b1.lo)]] w fun e w' => e = .returned (.agg #[iv r.hi, .int .u64 (r.lo)]) ∧ Below w.heap.size w w' := by
  unfold ref01_Plus at h
  refine enter_ Tryz.func83 rfl Tryz.ntmps83 rfl ?_
  refine WP.box rfl rfl rfl rfl rfl rfl ?_
  intro g1
  refine WP.box rfl rfl rfl rfl rfl rfl ?_
  intro g2
  refine WP.al tysOk rfl rfl rfl rfl rfl rfl ?_
  intro g3
  refine WP.sx tysOk rfl ⟨⟨⟩, ⟨⟩⟩ ?_
  refine WP.lx tysOk rfl ⟨⟩ (CellAt.blk (.tail (.tail .head)) rfl) ?_
  refine WP.sx tysOk rfl ⟨⟨⟩, ⟨⟩⟩ ?_
  refine WP.lx tysOk rfl ⟨⟩ (CellAt.blk (.tail .head) rfl) ?_
  iterate 2 (refine WP.sx tysOk rfl ⟨⟨⟩, ⟨⟩⟩ ?_)
  refine WP.lx tysOk rfl ⟨⟩ (CellAt.blk (.tail (.tail .head)) rfl) ?_
  refine WP.sx tysOk rfl ⟨⟨⟩, ⟨⟩⟩ ?_
  refine WP.lx tysOk rfl ⟨⟩ (CellAt.blk (.tail .head) rfl) ?_
  refine WP.sx tysOk rfl ⟨⟨⟩, ⟨⟩⟩ ?_
  refine WP.bld (cs := [iv (w64 (a1.hi + b1.hi)), .int .u64 (IntKind.wrap .u64 (a1.lo + b1.lo))]) tysOk rfl ⟨⟩ rfl rfl rfl rfl rfl rfl rfl ?_
  refine WP.al tysOk rfl rfl rfl rfl rfl rfl ?_
  intro g4
  refine WP.sto' tysOk [iv (w64 (a1.hi + b1.hi)), .int .u64 (IntKind.wrap .u64 (a1.lo + b1.lo))] rfl rfl rfl rfl rfl rfl rfl rfl rfl .head rfl rfl ?_
  refine WP.sx tysOk rfl ⟨⟨⟩, ⟨⟩⟩ ?_
  refine WP.lx tysOk rfl ⟨⟩ (CellAt.blk .head rfl) ?_
  refine WP.sx tysOk rfl ⟨⟨⟩, ⟨⟩⟩ ?_
  refine WP.lx tysOk rfl ⟨⟩ (CellAt.blk (.tail (.tail (.tail .head))) rfl) ?_
  refine WP.sx tysOk rfl ⟨⟨⟩, ⟨⟩⟩ ?_
  refine WP.cond_d rfl rfl (fun hh1 => ?_) (fun hh1 => ?_)
  ·rw [if_pos hh1] at h
   refine WP.sx tysOk rfl ⟨⟨⟩, ⟨⟩⟩ ?_
   refine WP.lx tysOk rfl ⟨⟩ (CellAt.blk .head rfl) ?_
   iterate 2 (refine WP.sx tysOk rfl ⟨⟨⟩, ⟨⟩⟩ ?_)
   refine WP.sto' tysOk [iv (w64 ((w64 (a1.hi + b1.hi)) + 1)), .int .u64 (IntKind.wrap .u64 (a1.lo + b1.lo))] rfl rfl rfl rfl rfl rfl rfl rfl rfl .head rfl rfl ?_
   refine WP.mx_ tysOk rfl ⟨⟩ (SegAt.blk' .head rfl) ?_
   refine WP.sto' tysOk [iv (w64 ((w64 (a1.hi + b1.hi)) + 1)), .int .u64 (IntKind.wrap .u64 (a1.lo + b1.lo))] rfl rfl rfl rfl rfl rfl rfl rfl rfl (.tail .head) rfl rfl ?_
   cases h
   refine WP.retR tysOk rfl rfl ⟨_, _, _, _, rfl, ⟨_, rfl, .inr ⟨rfl, _, rfl, rfl, (SegAt.blk' (z := 2) .head rfl).1⟩⟩, rfl, rfl⟩ (fun w1 hw1 => ⟨rfl, Ret.below_ hw1 (.cons (.tail (.tail (.tail (.tail .head)))) .nil)⟩)
  rw [if_neg hh1] at h
  refine WP.mx_ tysOk rfl ⟨⟩ (SegAt.blk' .head rfl) ?_
  refine WP.sto' tysOk [iv (w64 (a1.hi + b1.hi)), .int .u64 (IntKind.wrap .u64 (a1.lo + b1.lo))] rfl rfl rfl rfl rfl rfl rfl rfl rfl (.tail .head) rfl rfl ?_
  cases h
  refine WP.retR tysOk rfl rfl ⟨_, _, _, _, rfl, ⟨_, rfl, .inr ⟨rfl, _, rfl, rfl, (SegAt.blk' (z := 2) .head rfl).1⟩⟩, rfl, rfl⟩ (fun w1 hw1 => ⟨rfl, Ret.below_ hw1 (.cons (.tail (.tail (.tail (.tail .head)))) .nil)⟩)

set_option maxRecDepth 20000 in
set_option maxHeartbeats 8000000 in
theorem ref01_Less_w {w : World} {a1 : Wide} {r : Wide} (h : ref01_Less a1 = some r) :
    Calls Tryz.prog 93 #[.agg #[iv a1.hi, .int .u64 (a1.lo)]] w fun e w' => e = .returned (.agg #[iv r.hi, .int .u64 (r.lo)]) ∧ Below w.heap.size w w' := by
  unfold ref01_Less at h
  refine enter_ Tryz.func93 rfl Tryz.ntmps93 rfl ?_
  refine WP.box rfl rfl rfl rfl rfl rfl ?_
  intro g1
  refine WP.al tysOk rfl rfl rfl rfl rfl rfl ?_
  intro g2
  refine WP.sx tysOk rfl ⟨⟨⟩, ⟨⟩⟩ ?_
  refine WP.lx tysOk rfl ⟨⟩ (CellAt.blk (.tail .head) rfl) ?_
  refine WP.unx (-1) rfl ⟨⟩ rfl rfl rfl rfl rfl rfl ?_
  refine WP.sx tysOk rfl ⟨⟨⟩, ⟨⟩⟩ ?_
  refine WP.lx tysOk rfl ⟨⟩ (CellAt.blk (.tail .head) rfl) ?_
  refine WP.unx 18446744073709551615 rfl ⟨⟩ rfl rfl rfl rfl rfl rfl ?_
  refine WP.bld (cs := [iv (bits .xor .i64 (-1) a1.hi), .int .u64 (bits .xor .u64 18446744073709551615 a1.lo)]) tysOk rfl ⟨⟩ rfl rfl rfl rfl rfl rfl rfl ?_
  refine WP.bld (cs := [iv 0, .int .u64 (1)]) tysOk rfl ⟨⟩ rfl rfl rfl rfl rfl rfl rfl ?_
  obtain ⟨r1, hg1, h⟩ := bind_some h
  refine WP.callV rfl rfl rfl rfl rfl rfl rfl (by kernel_rfl) (fun w1 hw1 => (ref01_Plus_w hg1  :)) ⟨⟩ ?_
  refine WP.sto' tysOk [iv r1.hi, .int .u64 (r1.lo)] rfl rfl rfl rfl rfl rfl rfl rfl rfl .head rfl rfl ?_
  cases h
  refine WP.retR tysOk rfl rfl ⟨_, _, _, _, rfl, ⟨_, rfl, .inr ⟨rfl, _, rfl, rfl, (SegAt.blk' (z := 2) .head rfl).1⟩⟩, rfl, rfl⟩ (fun w1 hw1 => ⟨rfl, Ret.below_ hw1 (.cons (.tail (.tail .head)) .nil)⟩)

set_option maxRecDepth 20000 in
set_option maxHeartbeats 8000000 in
theorem ref01_Minus_w {w : World} {a1 : Wide} {b1 : Wide} {r : Wide} (h : ref01_Minus a1 b1 = some r) :
    Calls Tryz.prog 82 #[.agg #[iv a1.hi, .int .u64 (a1.lo)], .agg #[iv b1.hi, .int .u64 (b1.lo)]] w fun e w' => e = .returned (.agg #[iv r.hi, .int .u64 (r.lo)]) ∧ Below w.heap.size w w' := by
  unfold ref01_Minus at h
  refine enter_ Tryz.func82 rfl Tryz.ntmps82 rfl ?_
  refine WP.box rfl rfl rfl rfl rfl rfl ?_
  intro g1
  refine WP.box rfl rfl rfl rfl rfl rfl ?_
  intro g2
  refine WP.al tysOk rfl rfl rfl rfl rfl rfl ?_
  intro g3
  obtain ⟨r1, hg1, h⟩ := bind_some h
  obtain ⟨r2, hg2, h⟩ := bind_some h
  refine WP.drawL 4 [(2, [], fun _ => constSpec (.agg #[iv r1.hi, .int .u64 (r1.lo)])), (3, [], fun _ => constSpec (.agg #[iv r2.hi, .int .u64 (r2.lo)]))] rfl (by kernel_rfl) (by kernel_rfl) (by kernel_rfl) ?_
  refine WP.mx_ tysOk rfl ⟨⟨rfl, rfl⟩, rfl⟩ (SegAt.blk' (.tail (.tail .head)) rfl) ?_
  refine WP.mx_ tysOk rfl ⟨⟨rfl, rfl⟩, rfl⟩ (SegAt.blk' (.tail .head) rfl) ?_
  refine WP.callV rfl rfl rfl rfl rfl rfl rfl (by kernel_rfl) (fun w1 hw1 => (ref01_Less_w hg1  :)) ⟨⟨rfl, rfl⟩, rfl⟩ ?_
  refine WP.callV rfl rfl rfl rfl rfl rfl rfl (by kernel_rfl) (fun w1 hw1 => (ref01_Plus_w hg2  :)) ⟨⟨rfl, rfl⟩, rfl⟩ ?_
  refine WP.lend rfl ⟨rfl, rfl⟩ ?_
  refine WP.sto' tysOk [iv r2.hi, .int .u64 (r2.lo)] rfl rfl rfl rfl rfl rfl rfl rfl rfl .head rfl rfl ?_
  cases h
  refine WP.retR tysOk rfl rfl ⟨_, _, _, _, rfl, ⟨_, rfl, .inr ⟨rfl, _, rfl, rfl, (SegAt.blk' (z := 2) .head rfl).1⟩⟩, rfl, rfl⟩ (fun w1 hw1 => ⟨rfl, Ret.below_ hw1 (.cons (.tail (.tail (.tail .head))) .nil)⟩)

set_option maxRecDepth 20000 in
set_option maxHeartbeats 8000000 in
theorem ref01_Twice_w {w : World} {a1 : Wide} {r : Wide} (h : ref01_Twice a1 = some r) :
    Calls Tryz.prog 84 #[.agg #[iv a1.hi, .int .u64 (a1.lo)]] w fun e w' => e = .returned (.agg #[iv r.hi, .int .u64 (r.lo)]) ∧ Below w.heap.size w w' := by
  unfold ref01_Twice at h
  refine enter_ Tryz.func84 rfl Tryz.ntmps84 rfl ?_
  refine WP.box rfl rfl rfl rfl rfl rfl ?_
  intro g1
  refine WP.al tysOk rfl rfl rfl rfl rfl rfl ?_
  intro g2
  refine WP.mx_ tysOk rfl ⟨⟩ (SegAt.blk' (.tail .head) rfl) ?_
  refine WP.mx_ tysOk rfl ⟨⟩ (SegAt.blk' (.tail .head) rfl) ?_
  obtain ⟨r1, hg1, h⟩ := bind_some h
  refine WP.callV rfl rfl rfl rfl rfl rfl rfl (by kernel_rfl) (fun w1 hw1 => (ref01_Plus_w hg1  :)) ⟨⟩ ?_
  refine WP.sto' tysOk [iv r1.hi, .int .u64 (r1.lo)] rfl rfl rfl rfl rfl rfl rfl rfl rfl .head rfl rfl ?_
  cases h
  refine WP.retR tysOk rfl rfl ⟨_, _, _, _, rfl, ⟨_, rfl, .inr ⟨rfl, _, rfl, rfl, (SegAt.blk' (z := 2) .head rfl).1⟩⟩, rfl, rfl⟩ (fun w1 hw1 => ⟨rfl, Ret.below_ hw1 (.cons (.tail (.tail .head)) .nil)⟩)

set_option maxRecDepth 20000 in
set_option maxHeartbeats 8000000 in
theorem ref01_Times_w {w : World} {a1 : Int} {b1 : Int} {r : Wide} (h : ref01_Times a1 b1 = some r) :
    Calls Tryz.prog 57 #[iv a1, iv b1] w fun e w' => e = .returned (.agg #[iv r.hi, .int .u64 (r.lo)]) ∧ Below w.heap.size w w' := by
  unfold ref01_Times at h
  refine enter_ Tryz.func57 rfl Tryz.ntmps57 rfl ?_
  refine WP.al tysOk rfl rfl rfl rfl rfl rfl ?_
  intro g1
  refine WP.bld (cs := [iv 0, .int .u64 (0)]) tysOk rfl ⟨⟩ rfl rfl rfl rfl rfl rfl rfl ?_
  refine WP.al tysOk rfl rfl rfl rfl rfl rfl ?_
  intro g2
  refine WP.sto' tysOk [iv 0, .int .u64 (0)] rfl rfl rfl rfl rfl rfl rfl rfl rfl .head rfl rfl ?_
  refine WP.sx tysOk rfl ⟨⟨⟩, ⟨⟩⟩ ?_
  obtain ⟨r1, hg1, h⟩ := bind_some h
  refine WP.callV rfl rfl rfl rfl rfl rfl rfl (by kernel_rfl) (fun w1 hw1 => (ref01_Of_w hg1  :)) ⟨⟩ ?_
  refine WP.al tysOk rfl rfl rfl rfl rfl rfl ?_
  intro g3
  refine WP.sto' tysOk [iv r1.hi, .int .u64 (r1.lo)] rfl rfl rfl rfl rfl rfl rfl rfl rfl .head rfl rfl ?_
  refine WP.sx tysOk rfl ⟨⟨⟩, ⟨⟩⟩ ?_
  refine WP.loop (α := Nat × Int × Int × Int × Int × Int) (fun x => lp (ref01_Times_b1 b1) x.1 (x.2.1, x.2.2.1, x.2.2.2.1, x.2.2.2.2.1, x.2.2.2.2.2) = some r) (fun x => [(1, iv b1), (4, .pointer (some ⟨g1, 0, none⟩)), (5, .pointer (some ⟨g2, 0, none⟩)), (6, .pointer (some ⟨g3, 0, none⟩)), (7, iv x.2.1)]) (fun x => [.blk g3 46 [iv x.2.2.2.2.1, .int .u64 (x.2.2.2.2.2)], .blk g2 46 [iv x.2.2.1, .int .u64 (x.2.2.2.1)], .blk g1 46 [iv 0, .int .u64 (0)], .fz (PH.of w)]) (fun x => x.1) rfl (big, 0, 0, 0, r1.hi, r1.lo) h ?_ ?_ ?_
  ·repeat first | exact ⟨⟩ | refine ⟨rfl, ?_⟩
  ·exact (.cons .head (.cons .head (.cons .head (.cons .head .nil))))
  rintro ⟨n1, i2, s5, s6, s7, s8⟩ h
  dsimp only at h ⊢
  rcases n1 with _ | n1
  · exact (lp_no h).elim
  replace h := lp_succ h
  unfold ref01_Times_b1 at h
  try dsimp only at h
  iterate 2 (refine WP.sx tysOk rfl ⟨⟨⟩, ⟨⟩⟩ ?_)
  refine WP.cond_d rfl rfl (fun hh7 => ?_) (fun hh7 => ?_)
  ·rw [if_pos hh7] at h
   iterate 4 (refine WP.sx tysOk rfl ⟨⟨⟩, ⟨⟩⟩ ?_)
   obtain ⟨hz3, h⟩ := ck_some h
   refine WP.sx tysOk rfl ⟨⟨⟩, hz3⟩ ?_
   refine WP.sx tysOk rfl ⟨⟨⟩, (by decide)⟩ ?_
   refine WP.sx tysOk rfl ⟨⟨⟩, ⟨⟩⟩ ?_
   refine WP.cond_d rfl rfl (fun hh8 => ?_) (fun hh8 => ?_)
   ·rw [if_pos hh8] at h
    iterate 2 (refine WP.sx tysOk rfl ⟨⟨⟩, ⟨⟩⟩ ?_)
    refine WP.cond_d rfl rfl (fun hh9 => ?_) (fun hh9 => ?_)
    ·rw [if_pos hh9] at h
     refine WP.mx_ tysOk rfl ⟨⟩ (SegAt.blk' (.tail .head) rfl) ?_
     refine WP.mx_ tysOk rfl ⟨⟩ (SegAt.blk' .head rfl) ?_
     obtain ⟨r12, hg12, h⟩ := bind_some h
     refine WP.callV rfl rfl rfl rfl rfl rfl rfl (by kernel_rfl) (fun w1 hw1 => (ref01_Minus_w hg12  :)) ⟨⟩ ?_
     refine WP.sto' tysOk [iv r12.hi, .int .u64 (r12.lo)] rfl rfl rfl rfl rfl rfl rfl rfl rfl (.tail .head) rfl rfl ?_
     refine WP.mx_ tysOk rfl ⟨⟩ (SegAt.blk' (.tail .head) rfl) ?_
     obtain ⟨r13, hg13, h⟩ := bind_some h
     refine WP.callV rfl rfl rfl rfl rfl rfl rfl (by kernel_rfl) (fun w1 hw1 => (ref01_Twice_w hg13  :)) ⟨⟩ ?_
     refine WP.sto' tysOk [iv r13.hi, .int .u64 (r13.lo)] rfl rfl rfl rfl rfl rfl rfl rfl rfl (.tail .head) rfl rfl ?_
     iterate 3 (refine WP.sx tysOk rfl ⟨⟨⟩, ⟨⟩⟩ ?_)
     refine WP.stop rfl (n1, w64 (i2 + 1), r12.hi, r12.lo, r13.hi, r13.lo) ⟨h, Nat.lt_succ_self _⟩ ?_ ?_
     ·repeat first | exact ⟨⟩ | refine ⟨rfl, ?_⟩
     exact (.cons .head (.cons .head (.cons .head (.cons .head .nil))))
    rw [if_neg hh9] at h
    refine WP.mx_ tysOk rfl ⟨⟩ (SegAt.blk' (.tail .head) rfl) ?_
    refine WP.mx_ tysOk rfl ⟨⟩ (SegAt.blk' .head rfl) ?_
    obtain ⟨r14, hg14, h⟩ := bind_some h
    refine WP.callV rfl rfl rfl rfl rfl rfl rfl (by kernel_rfl) (fun w1 hw1 => (ref01_Plus_w hg14  :)) ⟨⟩ ?_
    refine WP.sto' tysOk [iv r14.hi, .int .u64 (r14.lo)] rfl rfl rfl rfl rfl rfl rfl rfl rfl (.tail .head) rfl rfl ?_
    refine WP.mx_ tysOk rfl ⟨⟩ (SegAt.blk' (.tail .head) rfl) ?_
    obtain ⟨r15, hg15, h⟩ := bind_some h
    refine WP.callV rfl rfl rfl rfl rfl rfl rfl (by kernel_rfl) (fun w1 hw1 => (ref01_Twice_w hg15  :)) ⟨⟩ ?_
    refine WP.sto' tysOk [iv r15.hi, .int .u64 (r15.lo)] rfl rfl rfl rfl rfl rfl rfl rfl rfl (.tail .head) rfl rfl ?_
    iterate 3 (refine WP.sx tysOk rfl ⟨⟨⟩, ⟨⟩⟩ ?_)
    refine WP.stop rfl (n1, w64 (i2 + 1), r14.hi, r14.lo, r15.hi, r15.lo) ⟨h, Nat.lt_succ_self _⟩ ?_ ?_
    ·repeat first | exact ⟨⟩ | refine ⟨rfl, ?_⟩
    exact (.cons .head (.cons .head (.cons .head (.cons .head .nil))))
   rw [if_neg hh8] at h
   refine WP.mx_ tysOk rfl ⟨⟩ (SegAt.blk' .head rfl) ?_
   obtain ⟨r16, hg16, h⟩ := bind_some h
   refine WP.callV rfl rfl rfl rfl rfl rfl rfl (by kernel_rfl) (fun w1 hw1 => (ref01_Twice_w hg16  :)) ⟨⟩ ?_
   refine WP.sto' tysOk [iv r16.hi, .int .u64 (r16.lo)] rfl rfl rfl rfl rfl rfl rfl rfl rfl .head rfl rfl ?_
   iterate 3 (refine WP.sx tysOk rfl ⟨⟨⟩, ⟨⟩⟩ ?_)
   refine WP.stop rfl (n1, w64 (i2 + 1), s5, s6, r16.hi, r16.lo) ⟨h, Nat.lt_succ_self _⟩ ?_ ?_
   ·repeat first | exact ⟨⟩ | refine ⟨rfl, ?_⟩
   exact (.cons .head (.cons .head (.cons .head (.cons .head .nil))))
  rw [if_neg hh7] at h
  refine WP.mx_ tysOk rfl ⟨⟩ (SegAt.blk' (.tail .head) rfl) ?_
  refine WP.sto' tysOk [iv s5, .int .u64 (s6)] rfl rfl rfl rfl rfl rfl rfl rfl rfl (.tail (.tail .head)) rfl rfl ?_
  cases h
  refine WP.retR tysOk rfl rfl ⟨_, _, _, _, rfl, ⟨_, rfl, .inr ⟨rfl, _, rfl, rfl, (SegAt.blk' (z := 2) .head rfl).1⟩⟩, rfl, rfl⟩ (fun w1 hw1 => ⟨rfl, Ret.below_ hw1 (.cons (.tail (.tail (.tail .head))) .nil)⟩)

abbrev ref15_Done_S (Z : PH) (r : Step × Int) : Value → Heap → Prop := fun v L => ∃ (Zn : PH) (A1 : Option Addr) (n1 c1 : Nat) (A2 : Option Addr) (n2 c2 : Nat) (A3 : Option Addr) (n3 c3 : Nat) (A4 : Option Addr) (n4 c4 : Nat), v = .tuple #[.agg #[.slice A1 n1 c1, .slice A2 n2 c2, iv r.1.rcd.pass, .slice A3 n3 c3, .slice A4 n4 c4, iv r.1.off.hi, .int .u64 (r.1.off.lo), .bool (r.1.did)], iv r.2] ∧ n1 = r.1.inst.supply.length ∧ n2 = r.1.inst.arcs.length ∧ n3 = r.1.rcd.was.supply.length ∧ n4 = r.1.rcd.was.arcs.length ∧ FzS (fI .i64) (Z.or Zn) A1 c1 r.1.inst.supply ∧ FzS fA (Z.or Zn) A2 c2 r.1.inst.arcs ∧ FzS (fI .i64) (Z.or Zn) A3 c3 r.1.rcd.was.supply ∧ FzS fA (Z.or Zn) A4 c4 r.1.rcd.was.arcs ∧ L = [.fz Zn]
set_option maxRecDepth 20000 in
set_option maxHeartbeats 8000000 in
theorem ref15_Done_w {w : World} {Z : PH} (hZ : Z.le (PH.of w)) {v0 : Value} {v1 : Value} {pass1 : Int} {was1 : Inst} {next1 : Inst} {off1 : Wide} {did1 : Bool} {r : Step × Int} (h : ref15_Done pass1 was1 next1 off1 did1 = some r) (p1 : InsZ Z v0 was1) (p2 : InsZ Z v1 next1) :
    Calls Tryz.prog 55 #[iv pass1, v0, v1, .agg #[iv off1.hi, .int .u64 (off1.lo)], .bool (did1)] w fun e w' => ∃ v L, e = .returned v ∧ ref15_Done_S Z r v L ∧ Ret w w' L := by
  obtain ⟨A1, c1, A2, c2, rfl, hs1, hs2⟩ := p1
  obtain ⟨A3, c3, A4, c4, rfl, hs3, hs4⟩ := p2
  unfold ref15_Done at h
  refine enter_ Tryz.func55 rfl Tryz.ntmps55 rfl ?_
  refine WP.box rfl rfl rfl rfl rfl rfl ?_
  intro g1
  refine WP.box rfl rfl rfl rfl rfl rfl ?_
  intro g2
  refine WP.box rfl rfl rfl rfl rfl rfl ?_
  intro g3
  refine WP.al tysOk rfl rfl rfl rfl rfl rfl ?_
  intro g4
  iterate 3 (refine WP.sx tysOk rfl ⟨⟨⟩, ⟨⟩⟩ ?_)
  refine WP.cond_n rfl rfl (fun hh1 => ?_) (fun hh1 => ?_)
  ·rw [if_neg (bneg hh1)] at h
   refine WP.mx_ tysOk rfl ⟨⟩ (SegAt.blk' (.tail (.tail (.tail .head))) rfl) ?_
   refine WP.bld (cs := [.slice A1 was1.supply.length c1, .slice A2 was1.arcs.length c2, iv 0, .slice none 0 0, .slice none 0 0, iv 0, .int .u64 (0), .bool (false)]) tysOk rfl ⟨⟩ rfl rfl rfl rfl rfl rfl rfl ?_
   refine WP.sto' tysOk [.slice A1 was1.supply.length c1, .slice A2 was1.arcs.length c2, iv 0, .slice none 0 0, .slice none 0 0, iv 0, .int .u64 (0), .bool (false)] rfl rfl rfl rfl rfl rfl rfl rfl rfl .head rfl rfl ?_
   refine WP.sx tysOk rfl ⟨⟨⟩, ⟨⟩⟩ ?_
   cases h
   refine WP.retR tysOk rfl rfl ⟨_, _, _, _, rfl, ⟨_, rfl, .inr ⟨rfl, _, rfl, rfl, (SegAt.blk' (z := 8) .head rfl).1⟩⟩, ⟨_, _, rfl, rfl, rfl⟩, rfl⟩ (fun w1 hw1 => ⟨_, _, rfl, ⟨PH.new _ w1, A1, was1.supply.length, c1, A2, was1.arcs.length, c2, none, 0, 0, none, 0, 0, rfl, rfl, rfl, rfl, rfl, hs1.le' (PH.le_or _ _), hs2.le' (PH.le_or _ _), FzS.nil_, FzS.nil_, rfl⟩, Ret.freeze hw1 (.cons (.tail (.tail (.tail (.tail .head)))) .nil)⟩)
  rw [if_pos hh1] at h
  refine WP.mx_ tysOk rfl ⟨⟩ (SegAt.blk' (.tail (.tail .head)) rfl) ?_
  obtain ⟨r1, hg1, h⟩ := bind_some h
  refine WP.callV rfl rfl rfl rfl rfl rfl rfl (by kernel_rfl) (fun w1 hw1 => (ref03_Right_w hg1 (InsZ.mk_ ((hs3.le' ((Held.sub (Held.mem (List.Mem.tail _ (List.Mem.tail _ (List.Mem.tail _ (List.Mem.tail _ (List.Mem.head _)))))) hZ) _ _ hw1)).of) ((hs4.le' ((Held.sub (Held.mem (List.Mem.tail _ (List.Mem.tail _ (List.Mem.tail _ (List.Mem.tail _ (List.Mem.head _)))))) hZ) _ _ hw1)).of)) :)) ⟨⟩ ?_
  refine WP.sx tysOk rfl ⟨⟨⟩, ⟨⟩⟩ ?_
  refine WP.cond_d rfl rfl (fun hh2 => ?_) (fun hh2 => ?_)
  ·rw [if_pos hh2] at h
   refine WP.bld (cs := [.slice none 0 0, .slice none 0 0, iv 0, .slice none 0 0, .slice none 0 0, iv 0, .int .u64 (0), .bool (false)]) tysOk rfl ⟨⟩ rfl rfl rfl rfl rfl rfl rfl ?_
   refine WP.sto' tysOk [.slice none 0 0, .slice none 0 0, iv 0, .slice none 0 0, .slice none 0 0, iv 0, .int .u64 (0), .bool (false)] rfl rfl rfl rfl rfl rfl rfl rfl rfl .head rfl rfl ?_
   refine WP.sx tysOk rfl ⟨⟨⟩, ⟨⟩⟩ ?_
   cases h
   refine WP.retR tysOk rfl rfl ⟨_, _, _, _, rfl, ⟨_, rfl, .inr ⟨rfl, _, rfl, rfl, (SegAt.blk' (z := 8) .head rfl).1⟩⟩, ⟨_, _, rfl, rfl, rfl⟩, rfl⟩ (fun w1 hw1 => ⟨_, _, rfl, ⟨PH.new _ w1, none, 0, 0, none, 0, 0, none, 0, 0, none, 0, 0, rfl, rfl, rfl, rfl, rfl, FzS.nil_, FzS.nil_, FzS.nil_, FzS.nil_, rfl⟩, Ret.freeze hw1 (.cons (.tail (.tail (.tail (.tail .head)))) .nil)⟩)
  rw [if_neg hh2] at h
  refine WP.mx_ tysOk rfl ⟨⟩ (SegAt.blk' (.tail (.tail .head)) rfl) ?_
  refine WP.sx tysOk rfl ⟨⟨⟩, ⟨⟩⟩ ?_
  refine WP.mx_ tysOk rfl ⟨⟩ (SegAt.blk' (.tail (.tail (.tail .head))) rfl) ?_
  refine WP.bld (cs := [iv pass1, .slice A1 was1.supply.length c1, .slice A2 was1.arcs.length c2]) tysOk rfl ⟨⟩ rfl rfl rfl rfl rfl rfl rfl ?_
  refine WP.mx_ tysOk rfl ⟨⟩ (SegAt.blk' (.tail .head) rfl) ?_
  refine WP.bld (cs := [.slice A3 next1.supply.length c3, .slice A4 next1.arcs.length c4, iv pass1, .slice A1 was1.supply.length c1, .slice A2 was1.arcs.length c2, iv off1.hi, .int .u64 (off1.lo), .bool (true)]) tysOk rfl ⟨⟩ rfl rfl rfl rfl rfl rfl rfl ?_
  refine WP.sto' tysOk [.slice A3 next1.supply.length c3, .slice A4 next1.arcs.length c4, iv pass1, .slice A1 was1.supply.length c1, .slice A2 was1.arcs.length c2, iv off1.hi, .int .u64 (off1.lo), .bool (true)] rfl rfl rfl rfl rfl rfl rfl rfl rfl .head rfl rfl ?_
  refine WP.sx tysOk rfl ⟨⟨⟩, ⟨⟩⟩ ?_
  cases h
  refine WP.retR tysOk rfl rfl ⟨_, _, _, _, rfl, ⟨_, rfl, .inr ⟨rfl, _, rfl, rfl, (SegAt.blk' (z := 8) .head rfl).1⟩⟩, ⟨_, _, rfl, rfl, rfl⟩, rfl⟩ (fun w1 hw1 => ⟨_, _, rfl, ⟨PH.new _ w1, A3, next1.supply.length, c3, A4, next1.arcs.length, c4, A1, was1.supply.length, c1, A2, was1.arcs.length, c2, rfl, rfl, rfl, rfl, rfl, hs3.le' (PH.le_or _ _), hs4.le' (PH.le_or _ _), hs1.le' (PH.le_or _ _), hs2.le' (PH.le_or _ _), rfl⟩, Ret.freeze hw1 (.cons (.tail (.tail (.tail (.tail .head)))) .nil)⟩)

abbrev ref18_without_S (Z : PH) (r : Step × Int) : Value → Heap → Prop := fun v L => ∃ (Zn : PH) (A1 : Option Addr) (n1 c1 : Nat) (A2 : Option Addr) (n2 c2 : Nat) (A3 : Option Addr) (n3 c3 : Nat) (A4 : Option Addr) (n4 c4 : Nat), v = .tuple #[.agg #[.slice A1 n1 c1, .slice A2 n2 c2, iv r.1.rcd.pass, .slice A3 n3 c3, .slice A4 n4 c4, iv r.1.off.hi, .int .u64 (r.1.off.lo), .bool (r.1.did)], iv r.2] ∧ n1 = r.1.inst.supply.length ∧ n2 = r.1.inst.arcs.length ∧ n3 = r.1.rcd.was.supply.length ∧ n4 = r.1.rcd.was.arcs.length ∧ FzS (fI .i64) (Z.or Zn) A1 c1 r.1.inst.supply ∧ FzS fA (Z.or Zn) A2 c2 r.1.inst.arcs ∧ FzS (fI .i64) (Z.or Zn) A3 c3 r.1.rcd.was.supply ∧ FzS fA (Z.or Zn) A4 c4 r.1.rcd.was.arcs ∧ L = [.fz Zn]
set_option maxRecDepth 20000 in
set_option maxHeartbeats 8000000 in
theorem ref18_without_w {w : World} {Z : PH} (hZ : Z.le (PH.of w)) {v0 : Value} {d1 : Int} {i1 : Inst} {x1 : Spot} {x2 : Int} {r : Step × Int} (h : ref18_without d1 i1 x1 x2 = some r) (p1 : InsZ Z v0 i1) :
    Calls Tryz.prog 31 #[iv d1, v0, .agg #[iv x1.node, iv x1.a, iv x1.b, iv x1.new.src, iv x1.new.dst, iv x1.new.low, iv x1.new.cap, iv x1.new.cost], iv x2] w fun e w' => ∃ v L, e = .returned v ∧ ref18_without_S Z r v L ∧ Ret w w' L := by
  obtain ⟨A1, c1, A2, c2, rfl, hs1, hs2⟩ := p1
  unfold ref18_without at h
  refine enter_ Tryz.func31 rfl Tryz.ntmps31 rfl ?_
  refine WP.box rfl rfl rfl rfl rfl rfl ?_
  intro g1
  refine WP.box rfl rfl rfl rfl rfl rfl ?_
  intro g2
  refine WP.al tysOk rfl rfl rfl rfl rfl rfl ?_
  intro g3
  iterate 2 (refine WP.sx tysOk rfl ⟨⟨⟩, ⟨⟩⟩ ?_)
  refine WP.lx tysOk rfl ⟨⟩ (CellAt.blk (.tail (.tail .head)) rfl) ?_
  refine WP.sx tysOk rfl ⟨⟨⟩, ⟨⟩⟩ ?_
  refine WP.lx tysOk rfl ⟨⟩ (CellAt.blk (.tail .head) rfl) ?_
  obtain ⟨hj1, h⟩ := ck_some h
  refine WP.ixA tysOk rfl ⟨⟩ rfl rfl rfl rfl rfl rfl rfl rfl hj1 (hs2.ex hj1) ?_
  intro b1 b1v hA1
  refine WP.mx_ tysOk rfl ⟨⟩ (hs2.seg hA1 (Held.sub (Held.mem (List.Mem.tail _ (List.Mem.tail _ (List.Mem.tail _ (List.Mem.head _))))) hZ) hj1) ?_
  refine WP.al tysOk rfl rfl rfl rfl rfl rfl ?_
  intro g4
  refine WP.sto' tysOk [iv ((gt i1.arcs x1.b).src), iv ((gt i1.arcs x1.b).dst), iv ((gt i1.arcs x1.b).low), iv ((gt i1.arcs x1.b).cap), iv ((gt i1.arcs x1.b).cost)] rfl rfl rfl rfl rfl rfl rfl rfl rfl .head rfl rfl ?_
  refine WP.mx_ tysOk rfl ⟨⟩ (SegAt.blk' (.tail (.tail (.tail .head))) rfl) ?_
  obtain ⟨r1, hg1, h⟩ := bind_some h
  refine WP.callS (ref03_Copy_S r1) rfl rfl rfl rfl rfl rfl rfl (by kernel_rfl) (fun w1 hw1 => (ref03_Copy_w hg1 (InsZ.mk_ ((hs1.le' ((Held.sub (Held.mem (List.Mem.tail _ (List.Mem.tail _ (List.Mem.tail _ (List.Mem.tail _ (List.Mem.head _)))))) hZ) _ _ hw1)).of) ((hs2.le' ((Held.sub (Held.mem (List.Mem.tail _ (List.Mem.tail _ (List.Mem.tail _ (List.Mem.tail _ (List.Mem.head _)))))) hZ) _ _ hw1)).of)) :)) ?_
  rintro _ _ ⟨A3, n1, c3, A4, n2, c4, rfl, hf1, hf2, rfl⟩
  refine WP.al tysOk rfl rfl rfl rfl rfl rfl ?_
  intro g5
  refine WP.sto' tysOk [.slice A3 n1 c3, .slice A4 n2 c4] rfl rfl rfl rfl rfl rfl rfl rfl rfl .head rfl rfl ?_
  obtain ⟨r2, hg2, h⟩ := bind_some h
  obtain ⟨hj2, h⟩ := ck_some h
  obtain ⟨hj3, h⟩ := ck_some h
  refine WP.drawL 16 [(5, [], fun _ => constSpec (iv r2))] rfl (by kernel_rfl) (by kernel_rfl) (by kernel_rfl) ?_
  refine WP.sx tysOk rfl ⟨⟨⟨rfl, rfl⟩, rfl⟩, ⟨⟩⟩ ?_
  refine WP.lx tysOk rfl ⟨⟨rfl, rfl⟩, rfl⟩ (CellAt.blk .head rfl) ?_
  refine WP.mx_ tysOk rfl ⟨⟨rfl, rfl⟩, rfl⟩ (SegAt.blk' (.tail (.tail (.tail .head))) rfl) ?_
  refine WP.sx tysOk rfl ⟨⟨⟨rfl, rfl⟩, rfl⟩, ⟨⟩⟩ ?_
  refine WP.lx tysOk rfl ⟨⟨rfl, rfl⟩, rfl⟩ (CellAt.blk (.tail (.tail (.tail (.tail (.tail .head))))) rfl) ?_
  refine WP.callV rfl rfl rfl rfl rfl rfl rfl (by kernel_rfl) (fun w1 hw1 => (ref18_Ends_w hg2  :)) ⟨⟨rfl, rfl⟩, rfl⟩ ?_
  refine WP.ixO tysOk rfl ⟨⟨rfl, rfl⟩, rfl⟩ rfl rfl rfl rfl rfl rfl rfl rfl hf1 hj2 ?_
  intro b2 hA2
  refine WP.lx tysOk rfl ⟨⟨rfl, rfl⟩, rfl⟩ (OwS.at0 (.tail .head) hA2 hj2 rfl) ?_
  refine WP.sx tysOk rfl ⟨⟨⟨rfl, rfl⟩, rfl⟩, ⟨⟩⟩ ?_
  refine WP.lx tysOk rfl ⟨⟨rfl, rfl⟩, rfl⟩ (CellAt.blk (.tail (.tail (.tail (.tail (.tail (.tail .head)))))) rfl) ?_
  refine WP.sx tysOk rfl ⟨⟨⟨rfl, rfl⟩, rfl⟩, ⟨⟩⟩ ?_
  refine WP.lx tysOk rfl ⟨⟨rfl, rfl⟩, rfl⟩ (CellAt.blk (.tail (.tail (.tail (.tail (.tail .head))))) rfl) ?_
  refine WP.ixA tysOk rfl ⟨⟨rfl, rfl⟩, rfl⟩ rfl rfl rfl rfl rfl rfl rfl rfl hj3 (hs1.ex hj3) ?_
  intro b3 b3v hA3
  refine WP.lx tysOk rfl ⟨⟨rfl, rfl⟩, rfl⟩ (hs1.at0 hA3 (Held.sub (Held.mem (List.Mem.tail _ (List.Mem.tail _ (List.Mem.tail _ (List.Mem.tail _ (List.Mem.tail _ (List.Mem.tail _ (List.Mem.tail _ (List.Mem.head _))))))))) hZ) hj3 rfl) ?_
  refine WP.sx tysOk rfl ⟨⟨⟨rfl, rfl⟩, rfl⟩, ⟨⟩⟩ ?_
  refine WP.ixO tysOk rfl ⟨⟨rfl, rfl⟩, rfl⟩ rfl rfl rfl rfl rfl rfl rfl rfl hf1 hj2 ?_
  intro b4 hA4
  refine WP.lend rfl ⟨rfl, rfl⟩ ?_
  obtain ⟨xs1, hx1, h⟩ := lt_some h
  refine WP.stoO (f := (fI .i64)) 0 (w64 ((gt r1.supply r2) + (gt i1.supply x1.node))) tysOk rfl rfl rfl rfl rfl rfl rfl rfl rfl (.tail .head) hA4 hf1 hj2 rfl rfl rfl hx1 ?_
  intro hf3
  refine WP.sx tysOk rfl ⟨⟨⟩, ⟨⟩⟩ ?_
  refine WP.lx tysOk rfl ⟨⟩ (CellAt.blk (.tail .head) rfl) ?_
  refine WP.sx tysOk rfl ⟨⟨⟩, ⟨⟩⟩ ?_
  refine WP.mx_ tysOk rfl ⟨⟩ (SegAt.blk' (.tail (.tail (.tail (.tail (.tail .head))))) rfl) ?_
  refine WP.bsO (f := fA) [x1.new] tysOk rfl rfl rfl rfl rfl rfl rfl rfl rfl rfl rfl rfl rfl rfl ?_
  intro g6 hf4
  obtain ⟨hl1, h⟩ := ck_some h
  obtain ⟨xs2, hz1, h⟩ := lt_some h
  refine WP.appO (f := fA) (xs := r1.arcs) (ys := [x1.new]) tysOk rfl rfl rfl rfl rfl rfl rfl rfl rfl rfl rfl rfl (.tail (.tail (.tail .head))) hf2 hf4.len (OwS.app .head hf4) hl1 hz1 ?_
  intro A5 c5 hf5
  refine WP.sx tysOk rfl ⟨⟨⟩, ⟨⟩⟩ ?_
  refine WP.sto' tysOk [.slice A3 n1 c3, .slice A5 xs2.length c5] rfl rfl rfl rfl rfl rfl rfl rfl rfl (.tail (.tail (.tail .head))) rfl rfl ?_
  refine WP.sx tysOk rfl ⟨⟨⟩, ⟨⟩⟩ ?_
  refine WP.lx tysOk rfl ⟨⟩ (CellAt.blk .head rfl) ?_
  refine WP.lenO (xs := xs1) tysOk rfl ⟨⟩ rfl rfl rfl rfl rfl rfl hf3 ?_
  obtain ⟨hm1, h⟩ := ck_some h
  refine WP.mkO (f := fB) false tysOk rfl rfl rfl rfl rfl rfl rfl rfl rfl rfl rfl rfl hm1 ?_
  intro g7 hf6
  iterate 3 (refine WP.sx tysOk rfl ⟨⟨⟩, ⟨⟩⟩ ?_)
  refine WP.lx tysOk rfl ⟨⟩ (CellAt.blk (.tail (.tail (.tail (.tail (.tail (.tail (.tail .head))))))) rfl) ?_
  obtain ⟨hj4, h⟩ := ck_some h
  refine WP.ixO tysOk rfl ⟨⟩ rfl rfl rfl rfl rfl rfl rfl rfl hf6 hj4 ?_
  intro b5 hA5
  obtain ⟨xs3, hx2, h⟩ := lt_some h
  refine WP.stoO (f := fB) 0 true tysOk rfl rfl rfl rfl rfl rfl rfl rfl rfl .head hA5 hf6 hj4 rfl rfl rfl hx2 ?_
  intro hf7
  obtain ⟨r_o3_4_1, hg_o3_4_1, h⟩ := bind_some h
  obtain ⟨r_o3_8_1, hg_o3_8_1, h⟩ := bind_some h
  obtain ⟨r_o3_9_1, hg_o3_9_1, h⟩ := bind_some h
  refine WP.join (α := (Option Addr) × Nat × Nat × (Option Addr) × Nat × Nat × PH × PH × PH × (Option Addr) × Nat × (Option Addr) × Nat × (Option Addr) × Nat × (Option Addr) × Nat × Nat) (fun x => OwF x.1 x.2.1 r_o3_4_1.supply ∧ OwF x.2.2.2.1 x.2.2.2.2.1 r_o3_4_1.arcs ∧ FzS (fI .i64) x.2.2.2.2.2.2.1 x.1 x.2.2.1 r_o3_4_1.supply ∧ FzS fA x.2.2.2.2.2.2.2.1 x.2.2.2.1 x.2.2.2.2.2.1 r_o3_4_1.arcs ∧ FzS (fI .i64) (PH.or (PH.or (PH.or Z x.2.2.2.2.2.2.1) x.2.2.2.2.2.2.2.1) x.2.2.2.2.2.2.2.2.1) x.2.2.2.2.2.2.2.2.2.1 x.2.2.2.2.2.2.2.2.2.2.1 r_o3_9_1.1.inst.supply ∧ FzS fA (PH.or (PH.or (PH.or Z x.2.2.2.2.2.2.1) x.2.2.2.2.2.2.2.1) x.2.2.2.2.2.2.2.2.1) x.2.2.2.2.2.2.2.2.2.2.2.1 x.2.2.2.2.2.2.2.2.2.2.2.2.1 r_o3_9_1.1.inst.arcs ∧ FzS (fI .i64) (PH.or (PH.or (PH.or Z x.2.2.2.2.2.2.1) x.2.2.2.2.2.2.2.1) x.2.2.2.2.2.2.2.2.1) x.2.2.2.2.2.2.2.2.2.2.2.2.2.1 x.2.2.2.2.2.2.2.2.2.2.2.2.2.2.1 r_o3_9_1.1.rcd.was.supply ∧ FzS fA (PH.or (PH.or (PH.or Z x.2.2.2.2.2.2.1) x.2.2.2.2.2.2.2.1) x.2.2.2.2.2.2.2.2.1) x.2.2.2.2.2.2.2.2.2.2.2.2.2.2.2.1 x.2.2.2.2.2.2.2.2.2.2.2.2.2.2.2.2.1 r_o3_9_1.1.rcd.was.arcs) (fun x => [(8, .pointer (some ⟨g3, 0, none⟩)), (13, .pointer (some ⟨x.2.2.2.2.2.2.2.2.2.2.2.2.2.2.2.2.2, 0, none⟩)), (14, iv r_o3_9_1.2)]) (fun x => [.blk x.2.2.2.2.2.2.2.2.2.2.2.2.2.2.2.2.2 48 [.slice x.2.2.2.2.2.2.2.2.2.1 r_o3_9_1.1.inst.supply.length x.2.2.2.2.2.2.2.2.2.2.1, .slice x.2.2.2.2.2.2.2.2.2.2.2.1 r_o3_9_1.1.inst.arcs.length x.2.2.2.2.2.2.2.2.2.2.2.2.1, iv r_o3_9_1.1.rcd.pass, .slice x.2.2.2.2.2.2.2.2.2.2.2.2.2.1 r_o3_9_1.1.rcd.was.supply.length x.2.2.2.2.2.2.2.2.2.2.2.2.2.2.1, .slice x.2.2.2.2.2.2.2.2.2.2.2.2.2.2.2.1 r_o3_9_1.1.rcd.was.arcs.length x.2.2.2.2.2.2.2.2.2.2.2.2.2.2.2.2.1, iv r_o3_9_1.1.off.hi, .int .u64 (r_o3_9_1.1.off.lo), .bool (r_o3_9_1.1.did)], .fz x.2.2.2.2.2.2.2.2.1, .fz x.2.2.2.2.2.2.2.1, .fz x.2.2.2.2.2.2.1, Ow fB 4 (some ⟨g7, 0, none⟩) ((xs1.length : Int).toNat) ((xs1.length : Int).toNat) xs3, .blk g5 25 [.slice A3 n1 c3, .slice A5 xs2.length c5], Ow fA 34 A5 xs2.length c5 xs2, Ow fA 34 (some ⟨g6, 0, none⟩) 1 1 ([x1.new]), Ow (fI .i64) 2 A3 n1 c3 xs1, .blk g4 34 [iv ((gt i1.arcs x1.b).src), iv ((gt i1.arcs x1.b).dst), iv ((gt i1.arcs x1.b).low), iv ((gt i1.arcs x1.b).cap), iv ((gt i1.arcs x1.b).cost)], .blk g3 48 [.slice none 0 0, .slice none 0 0, iv 0, .slice none 0 0, .slice none 0 0, iv 0, .int .u64 (0), .bool (false)], .blk g2 56 [iv x1.node, iv x1.a, iv x1.b, iv x1.new.src, iv x1.new.dst, iv x1.new.low, iv x1.new.cap, iv x1.new.cost], .blk g1 25 [.slice A1 i1.supply.length c1, .slice A2 i1.arcs.length c2], .fz (PH.of w)]) rfl ?_ ?_
  ·refine WP.drawA rfl (by kernel_rfl) ?_
   refine WP.cutF (α := (Option Addr) × Nat × Nat × (Option Addr) × Nat × Nat) (fun x => OwF x.1 x.2.1 r_o3_4_1.supply ∧ OwF x.2.2.2.1 x.2.2.2.2.1 r_o3_4_1.arcs) #[true, true, true, true, true, true, true, true, true, false, false, false, false, false, false, false] 7 (fun x => [(8, .pointer (some ⟨g3, 0, none⟩)), (55, iv d1), (56, .agg #[.slice A1 i1.supply.length c1, .slice A2 i1.arcs.length c2]), (59, .agg #[.slice x.1 x.2.1 x.2.2.1, .slice x.2.2.2.1 x.2.2.2.2.1 x.2.2.2.2.2]), (63, .agg #[iv r_o3_8_1.hi, .int .u64 (r_o3_8_1.lo)])]) (fun x => [Ow (fI .i64) 2 x.1 x.2.1 x.2.2.1 r_o3_4_1.supply, Ow fA 34 x.2.2.2.1 x.2.2.2.2.1 x.2.2.2.2.2 r_o3_4_1.arcs, Ow fB 4 (some ⟨g7, 0, none⟩) ((xs1.length : Int).toNat) ((xs1.length : Int).toNat) xs3, .blk g5 25 [.slice A3 n1 c3, .slice A5 xs2.length c5], Ow fA 34 A5 xs2.length c5 xs2, Ow fA 34 (some ⟨g6, 0, none⟩) 1 1 ([x1.new]), Ow (fI .i64) 2 A3 n1 c3 xs1, .blk g4 34 [iv ((gt i1.arcs x1.b).src), iv ((gt i1.arcs x1.b).dst), iv ((gt i1.arcs x1.b).low), iv ((gt i1.arcs x1.b).cap), iv ((gt i1.arcs x1.b).cost)], .blk g3 48 [.slice none 0 0, .slice none 0 0, iv 0, .slice none 0 0, .slice none 0 0, iv 0, .int .u64 (0), .bool (false)], .blk g2 56 [iv x1.node, iv x1.a, iv x1.b, iv x1.new.src, iv x1.new.dst, iv x1.new.low, iv x1.new.cap, iv x1.new.cost], .blk g1 25 [.slice A1 i1.supply.length c1, .slice A2 i1.arcs.length c2], .fz (PH.of w)]) rfl ?_ ?_
   ·rintro ⟨A_o3_4_1, n_o3_4_1, c_o3_4_1, A_o3_4_2, n_o3_4_2, c_o3_4_2⟩ ⟨hf_o3_4_1, hf_o3_4_2⟩
    dsimp only at hf_o3_4_1 hf_o3_4_2 ⊢
    refine WP.any2 9 13 rfl (by kernel_rfl) rfl rfl ?_ ?_
    ·refine WP.freezeO .head hf_o3_4_1 ?_
     intro Zp_o3_9_1 hz_o3_9_1
     refine WP.freezeO (.tail .head) hf_o3_4_2 ?_
     intro Zp_o3_9_2 hz_o3_9_2
     refine WP.callS (ref15_Done_S (PH.or (PH.or Z Zp_o3_9_1) Zp_o3_9_2) r_o3_9_1) rfl rfl rfl rfl rfl rfl rfl (by kernel_rfl) (fun w1 hw1 => (ref15_Done_w (Z := (PH.or (PH.or Z Zp_o3_9_1) Zp_o3_9_2)) ((Held.or (Held.or (Held.sub (Held.mem (List.Mem.tail _ (List.Mem.tail _ (List.Mem.tail _ (List.Mem.tail _ (List.Mem.tail _ (List.Mem.tail _ (List.Mem.tail _ (List.Mem.tail _ (List.Mem.tail _ (List.Mem.tail _ (List.Mem.tail _ (List.Mem.head _))))))))))))) hZ) (Held.mem (List.Mem.tail _ (List.Mem.head _)))) (Held.mem (List.Mem.head _))) _ _ hw1) hg_o3_9_1 (InsZ.mk_ ((hs1.le' (PH.le.trans (PH.le.trans PH.le.rfl_ (PH.le_or _ _)) (PH.le_or _ _))).of) ((hs2.le' (PH.le.trans (PH.le.trans PH.le.rfl_ (PH.le_or _ _)) (PH.le_or _ _))).of)) (InsZ.mk_ (SlF.of_n (hz_o3_9_1.le' (PH.le.trans (PH.ri_or ((Held.sub (Held.mem (List.Mem.tail _ (List.Mem.tail _ (List.Mem.tail _ (List.Mem.tail _ (List.Mem.tail _ (List.Mem.tail _ (List.Mem.tail _ (List.Mem.tail _ (List.Mem.tail _ (List.Mem.tail _ (List.Mem.tail _ (List.Mem.head _))))))))))))) hZ) _ _ hw1) ((Held.mem (List.Mem.tail _ (List.Mem.head _))) _ _ hw1)) (PH.le_or _ _))) hf_o3_4_1) (SlF.of_n (hz_o3_9_2.le' (PH.ri_or ((Held.or (Held.sub (Held.mem (List.Mem.tail _ (List.Mem.tail _ (List.Mem.tail _ (List.Mem.tail _ (List.Mem.tail _ (List.Mem.tail _ (List.Mem.tail _ (List.Mem.tail _ (List.Mem.tail _ (List.Mem.tail _ (List.Mem.tail _ (List.Mem.head _))))))))))))) hZ) (Held.mem (List.Mem.tail _ (List.Mem.head _)))) _ _ hw1) ((Held.mem (List.Mem.head _)) _ _ hw1))) hf_o3_4_2)) :)) ?_
     rintro _ _ ⟨Zn_o3_9_1, A_o3_9_1, _, c_o3_9_1, A_o3_9_2, _, c_o3_9_2, A_o3_9_3, _, c_o3_9_3, A_o3_9_4, _, c_o3_9_4, rfl, rfl, rfl, rfl, rfl, hs_o3_9_1, hs_o3_9_2, hs_o3_9_3, hs_o3_9_4, rfl⟩
     refine WP.anyP 10 tysOk putInv_body rfl rfl rfl (by kernel_rfl) (by kernel_rfl) rfl rfl rfl rfl rfl True.intro ?_
     refine WP.anyP 11 tysOk putInv_body rfl rfl rfl (by kernel_rfl) (by kernel_rfl) rfl rfl rfl rfl rfl True.intro ?_
     refine WP.anyP 12 tysOk putInv_body rfl rfl rfl (by kernel_rfl) (by kernel_rfl) rfl rfl rfl rfl rfl True.intro ?_
     refine WP.any1 13 rfl (by kernel_rfl) rfl ?_
     refine WP.al tysOk rfl rfl rfl rfl rfl rfl ?_
     intro g_o3_13_1
     refine WP.any1 14 rfl (by kernel_rfl) rfl ?_
     refine WP.sto' tysOk [.slice A_o3_9_1 r_o3_9_1.1.inst.supply.length c_o3_9_1, .slice A_o3_9_2 r_o3_9_1.1.inst.arcs.length c_o3_9_2, iv r_o3_9_1.1.rcd.pass, .slice A_o3_9_3 r_o3_9_1.1.rcd.was.supply.length c_o3_9_3, .slice A_o3_9_4 r_o3_9_1.1.rcd.was.arcs.length c_o3_9_4, iv r_o3_9_1.1.off.hi, .int .u64 (r_o3_9_1.1.off.lo), .bool (r_o3_9_1.1.did)] rfl rfl rfl rfl rfl rfl rfl rfl rfl .head rfl rfl ?_
     refine WP.anyP 15 tysOk putInv_body rfl rfl rfl (by kernel_rfl) (by kernel_rfl) rfl rfl rfl rfl rfl True.intro ?_
     refine WP.any0 rfl (by kernel_rfl) ?_
     refine WP.stop rfl (A_o3_4_1, n_o3_4_1, c_o3_4_1, A_o3_4_2, n_o3_4_2, c_o3_4_2, Zp_o3_9_1, Zp_o3_9_2, Zn_o3_9_1, A_o3_9_1, c_o3_9_1, A_o3_9_2, c_o3_9_2, A_o3_9_3, c_o3_9_3, A_o3_9_4, c_o3_9_4, g_o3_13_1) ⟨hf_o3_4_1, hf_o3_4_2, hz_o3_9_1, hz_o3_9_2, hs_o3_9_1, hs_o3_9_2, hs_o3_9_3, hs_o3_9_4⟩ ?_ ?_
     ·repeat first | exact ⟨⟩ | refine ⟨rfl, ?_⟩
     exact (.cons .head (.cons .head (.cons .head (.cons .head (.cons .head (.cons .head (.cons .head (.cons .head (.cons .head (.cons .head (.cons .head (.cons .head (.cons .head (.cons .head .nil))))))))))))))
    refine WP.al tysOk rfl rfl rfl rfl rfl rfl ?_
    intro g_o3_13_1
    refine WP.any1 9 rfl (by kernel_rfl) rfl ?_
    refine WP.freezeO (.tail .head) hf_o3_4_1 ?_
    intro Zp_o3_9_1 hz_o3_9_1
    refine WP.freezeO (.tail (.tail .head)) hf_o3_4_2 ?_
    intro Zp_o3_9_2 hz_o3_9_2
    refine WP.callS (ref15_Done_S (PH.or (PH.or Z Zp_o3_9_1) Zp_o3_9_2) r_o3_9_1) rfl rfl rfl rfl rfl rfl rfl (by kernel_rfl) (fun w1 hw1 => (ref15_Done_w (Z := (PH.or (PH.or Z Zp_o3_9_1) Zp_o3_9_2)) ((Held.or (Held.or (Held.sub (Held.mem (List.Mem.tail _ (List.Mem.tail _ (List.Mem.tail _ (List.Mem.tail _ (List.Mem.tail _ (List.Mem.tail _ (List.Mem.tail _ (List.Mem.tail _ (List.Mem.tail _ (List.Mem.tail _ (List.Mem.tail _ (List.Mem.tail _ (List.Mem.head _)))))))))))))) hZ) (Held.mem (List.Mem.tail _ (List.Mem.head _)))) (Held.mem (List.Mem.head _))) _ _ hw1) hg_o3_9_1 (InsZ.mk_ ((hs1.le' (PH.le.trans (PH.le.trans PH.le.rfl_ (PH.le_or _ _)) (PH.le_or _ _))).of) ((hs2.le' (PH.le.trans (PH.le.trans PH.le.rfl_ (PH.le_or _ _)) (PH.le_or _ _))).of)) (InsZ.mk_ (SlF.of_n (hz_o3_9_1.le' (PH.le.trans (PH.ri_or ((Held.sub (Held.mem (List.Mem.tail _ (List.Mem.tail _ (List.Mem.tail _ (List.Mem.tail _ (List.Mem.tail _ (List.Mem.tail _ (List.Mem.tail _ (List.Mem.tail _ (List.Mem.tail _ (List.Mem.tail _ (List.Mem.tail _ (List.Mem.tail _ (List.Mem.head _)))))))))))))) hZ) _ _ hw1) ((Held.mem (List.Mem.tail _ (List.Mem.head _))) _ _ hw1)) (PH.le_or _ _))) hf_o3_4_1) (SlF.of_n (hz_o3_9_2.le' (PH.ri_or ((Held.or (Held.sub (Held.mem (List.Mem.tail _ (List.Mem.tail _ (List.Mem.tail _ (List.Mem.tail _ (List.Mem.tail _ (List.Mem.tail _ (List.Mem.tail _ (List.Mem.tail _ (List.Mem.tail _ (List.Mem.tail _ (List.Mem.tail _ (List.Mem.tail _ (List.Mem.head _)))))))))))))) hZ) (Held.mem (List.Mem.tail _ (List.Mem.head _)))) _ _ hw1) ((Held.mem (List.Mem.head _)) _ _ hw1))) hf_o3_4_2)) :)) ?_
    rintro _ _ ⟨Zn_o3_9_1, A_o3_9_1, _, c_o3_9_1, A_o3_9_2, _, c_o3_9_2, A_o3_9_3, _, c_o3_9_3, A_o3_9_4, _, c_o3_9_4, rfl, rfl, rfl, rfl, rfl, hs_o3_9_1, hs_o3_9_2, hs_o3_9_3, hs_o3_9_4, rfl⟩
    refine WP.anyP 10 tysOk putInv_body rfl rfl rfl (by kernel_rfl) (by kernel_rfl) rfl rfl rfl rfl rfl True.intro ?_
    refine WP.anyP 11 tysOk putInv_body rfl rfl rfl (by kernel_rfl) (by kernel_rfl) rfl rfl rfl rfl rfl True.intro ?_
    refine WP.anyP 12 tysOk putInv_body rfl rfl rfl (by kernel_rfl) (by kernel_rfl) rfl rfl rfl rfl rfl True.intro ?_
    refine WP.any1 14 rfl (by kernel_rfl) rfl ?_
    refine WP.sto' tysOk [.slice A_o3_9_1 r_o3_9_1.1.inst.supply.length c_o3_9_1, .slice A_o3_9_2 r_o3_9_1.1.inst.arcs.length c_o3_9_2, iv r_o3_9_1.1.rcd.pass, .slice A_o3_9_3 r_o3_9_1.1.rcd.was.supply.length c_o3_9_3, .slice A_o3_9_4 r_o3_9_1.1.rcd.was.arcs.length c_o3_9_4, iv r_o3_9_1.1.off.hi, .int .u64 (r_o3_9_1.1.off.lo), .bool (r_o3_9_1.1.did)] rfl rfl rfl rfl rfl rfl rfl rfl rfl (.tail (.tail (.tail .head))) rfl rfl ?_
    refine WP.anyP 15 tysOk putInv_body rfl rfl rfl (by kernel_rfl) (by kernel_rfl) rfl rfl rfl rfl rfl True.intro ?_
    refine WP.any0 rfl (by kernel_rfl) ?_
    refine WP.stop rfl (A_o3_4_1, n_o3_4_1, c_o3_4_1, A_o3_4_2, n_o3_4_2, c_o3_4_2, Zp_o3_9_1, Zp_o3_9_2, Zn_o3_9_1, A_o3_9_1, c_o3_9_1, A_o3_9_2, c_o3_9_2, A_o3_9_3, c_o3_9_3, A_o3_9_4, c_o3_9_4, g_o3_13_1) ⟨hf_o3_4_1, hf_o3_4_2, hz_o3_9_1, hz_o3_9_2, hs_o3_9_1, hs_o3_9_2, hs_o3_9_3, hs_o3_9_4⟩ ?_ ?_
    ·repeat first | exact ⟨⟩ | refine ⟨rfl, ?_⟩
    exact (.cons .head (.cons .head (.cons .head (.cons .head (.cons .head (.cons .head (.cons .head (.cons .head (.cons .head (.cons .head (.cons .head (.cons .head (.cons .head (.cons .head .nil))))))))))))))
   intro mm1
   refine WP.cutF (α := (Option Addr) × Nat × Nat × (Option Addr) × Nat × Nat × Nat) (fun x => OwF x.1 x.2.1 r_o3_4_1.supply ∧ OwF x.2.2.2.1 x.2.2.2.2.1 r_o3_4_1.arcs) #[true, true, true, true, true, true, true, true, false, false, false, false, false, true, false, false] 7 (fun x => [(8, .pointer (some ⟨g3, 0, none⟩)), (13, .pointer (some ⟨x.2.2.2.2.2.2, 0, none⟩)), (55, iv d1), (56, .agg #[.slice A1 i1.supply.length c1, .slice A2 i1.arcs.length c2]), (59, .agg #[.slice x.1 x.2.1 x.2.2.1, .slice x.2.2.2.1 x.2.2.2.2.1 x.2.2.2.2.2.1]), (60, iv x2), (62, iv ((gt i1.arcs x1.b).cost))]) (fun x => [.blk x.2.2.2.2.2.2 48 [.slice none 0 0, .slice none 0 0, iv 0, .slice none 0 0, .slice none 0 0, iv 0, .int .u64 (0), .bool (false)], Ow (fI .i64) 2 x.1 x.2.1 x.2.2.1 r_o3_4_1.supply, Ow fA 34 x.2.2.2.1 x.2.2.2.2.1 x.2.2.2.2.2.1 r_o3_4_1.arcs, Ow fB 4 (some ⟨g7, 0, none⟩) ((xs1.length : Int).toNat) ((xs1.length : Int).toNat) xs3, .blk g5 25 [.slice A3 n1 c3, .slice A5 xs2.length c5], Ow fA 34 A5 xs2.length c5 xs2, Ow fA 34 (some ⟨g6, 0, none⟩) 1 1 ([x1.new]), Ow (fI .i64) 2 A3 n1 c3 xs1, .blk g4 34 [iv ((gt i1.arcs x1.b).src), iv ((gt i1.arcs x1.b).dst), iv ((gt i1.arcs x1.b).low), iv ((gt i1.arcs x1.b).cap), iv ((gt i1.arcs x1.b).cost)], .blk g3 48 [.slice none 0 0, .slice none 0 0, iv 0, .slice none 0 0, .slice none 0 0, iv 0, .int .u64 (0), .bool (false)], .blk g2 56 [iv x1.node, iv x1.a, iv x1.b, iv x1.new.src, iv x1.new.dst, iv x1.new.low, iv x1.new.cap, iv x1.new.cost], .blk g1 25 [.slice A1 i1.supply.length c1, .slice A2 i1.arcs.length c2], .fz (PH.of w)]) rfl ?_ ?_
   ·rintro ⟨A_o3_4_1, n_o3_4_1, c_o3_4_1, A_o3_4_2, n_o3_4_2, c_o3_4_2, g_o3_13_1⟩ ⟨hf_o3_4_1, hf_o3_4_2⟩
    dsimp only at hf_o3_4_1 hf_o3_4_2 ⊢
    refine WP.any1 8 rfl (by kernel_rfl) rfl ?_
    refine WP.callV rfl rfl rfl rfl rfl rfl rfl (by kernel_rfl) (fun w1 hw1 => (ref01_Times_w hg_o3_8_1  :)) ⟨⟩ ?_
    refine WP.any1 9 rfl (by kernel_rfl) rfl ?_
    refine WP.freezeO (.tail .head) hf_o3_4_1 ?_
    intro Zp_o3_9_1 hz_o3_9_1
    refine WP.freezeO (.tail (.tail .head)) hf_o3_4_2 ?_
    intro Zp_o3_9_2 hz_o3_9_2
    refine WP.callS (ref15_Done_S (PH.or (PH.or Z Zp_o3_9_1) Zp_o3_9_2) r_o3_9_1) rfl rfl rfl rfl rfl rfl rfl (by kernel_rfl) (fun w1 hw1 => (ref15_Done_w (Z := (PH.or (PH.or Z Zp_o3_9_1) Zp_o3_9_2)) ((Held.or (Held.or (Held.sub (Held.mem (List.Mem.tail _ (List.Mem.tail _ (List.Mem.tail _ (List.Mem.tail _ (List.Mem.tail _ (List.Mem.tail _ (List.Mem.tail _ (List.Mem.tail _ (List.Mem.tail _ (List.Mem.tail _ (List.Mem.tail _ (List.Mem.tail _ (List.Mem.head _)))))))))))))) hZ) (Held.mem (List.Mem.tail _ (List.Mem.head _)))) (Held.mem (List.Mem.head _))) _ _ hw1) hg_o3_9_1 (InsZ.mk_ ((hs1.le' (PH.le.trans (PH.le.trans PH.le.rfl_ (PH.le_or _ _)) (PH.le_or _ _))).of) ((hs2.le' (PH.le.trans (PH.le.trans PH.le.rfl_ (PH.le_or _ _)) (PH.le_or _ _))).of)) (InsZ.mk_ (SlF.of_n (hz_o3_9_1.le' (PH.le.trans (PH.ri_or ((Held.sub (Held.mem (List.Mem.tail _ (List.Mem.tail _ (List.Mem.tail _ (List.Mem.tail _ (List.Mem.tail _ (List.Mem.tail _ (List.Mem.tail _ (List.Mem.tail _ (List.Mem.tail _ (List.Mem.tail _ (List.Mem.tail _ (List.Mem.tail _ (List.Mem.head _)))))))))))))) hZ) _ _ hw1) ((Held.mem (List.Mem.tail _ (List.Mem.head _))) _ _ hw1)) (PH.le_or _ _))) hf_o3_4_1) (SlF.of_n (hz_o3_9_2.le' (PH.ri_or ((Held.or (Held.sub (Held.mem (List.Mem.tail _ (List.Mem.tail _ (List.Mem.tail _ (List.Mem.tail _ (List.Mem.tail _ (List.Mem.tail _ (List.Mem.tail _ (List.Mem.tail _ (List.Mem.tail _ (List.Mem.tail _ (List.Mem.tail _ (List.Mem.tail _ (List.Mem.head _)))))))))))))) hZ) (Held.mem (List.Mem.tail _ (List.Mem.head _)))) _ _ hw1) ((Held.mem (List.Mem.head _)) _ _ hw1))) hf_o3_4_2)) :)) ?_
    rintro _ _ ⟨Zn_o3_9_1, A_o3_9_1, _, c_o3_9_1, A_o3_9_2, _, c_o3_9_2, A_o3_9_3, _, c_o3_9_3, A_o3_9_4, _, c_o3_9_4, rfl, rfl, rfl, rfl, rfl, hs_o3_9_1, hs_o3_9_2, hs_o3_9_3, hs_o3_9_4, rfl⟩
    refine WP.anyP 10 tysOk putInv_body rfl rfl rfl (by kernel_rfl) (by kernel_rfl) rfl rfl rfl rfl rfl True.intro ?_
    refine WP.anyP 11 tysOk putInv_body rfl rfl rfl (by kernel_rfl) (by kernel_rfl) rfl rfl rfl rfl rfl True.intro ?_
    refine WP.anyP 12 tysOk putInv_body rfl rfl rfl (by kernel_rfl) (by kernel_rfl) rfl rfl rfl rfl rfl True.intro ?_
    refine WP.any1 14 rfl (by kernel_rfl) rfl ?_
    refine WP.sto' tysOk [.slice A_o3_9_1 r_o3_9_1.1.inst.supply.length c_o3_9_1, .slice A_o3_9_2 r_o3_9_1.1.inst.arcs.length c_o3_9_2, iv r_o3_9_1.1.rcd.pass, .slice A_o3_9_3 r_o3_9_1.1.rcd.was.supply.length c_o3_9_3, .slice A_o3_9_4 r_o3_9_1.1.rcd.was.arcs.length c_o3_9_4, iv r_o3_9_1.1.off.hi, .int .u64 (r_o3_9_1.1.off.lo), .bool (r_o3_9_1.1.did)] rfl rfl rfl rfl rfl rfl rfl rfl rfl (.tail (.tail (.tail .head))) rfl rfl ?_
    refine WP.anyP 15 tysOk putInv_body rfl rfl rfl (by kernel_rfl) (by kernel_rfl) rfl rfl rfl rfl rfl True.intro ?_
    refine WP.any0 rfl (by kernel_rfl) ?_
    refine WP.stop rfl (A_o3_4_1, n_o3_4_1, c_o3_4_1, A_o3_4_2, n_o3_4_2, c_o3_4_2, Zp_o3_9_1, Zp_o3_9_2, Zn_o3_9_1, A_o3_9_1, c_o3_9_1, A_o3_9_2, c_o3_9_2, A_o3_9_3, c_o3_9_3, A_o3_9_4, c_o3_9_4, g_o3_13_1) ⟨hf_o3_4_1, hf_o3_4_2, hz_o3_9_1, hz_o3_9_2, hs_o3_9_1, hs_o3_9_2, hs_o3_9_3, hs_o3_9_4⟩ ?_ ?_
    ·repeat first | exact ⟨⟩ | refine ⟨rfl, ?_⟩
    exact (.cons .head (.cons .head (.cons .head (.cons .head (.cons .head (.cons .head (.cons .head (.cons .head (.cons .head (.cons .head (.cons .head (.cons .head (.cons .head (.cons .head .nil))))))))))))))
   intro mm2
   refine WP.cutF (α := (Option Addr) × Nat × Nat × (Option Addr) × Nat × Nat) (fun x => OwF x.1 x.2.1 r_o3_4_1.supply ∧ OwF x.2.2.2.1 x.2.2.2.2.1 r_o3_4_1.arcs) #[true, true, true, true, true, true, true, true, false, false, false, false, false, false, false, false] 8 (fun x => [(8, .pointer (some ⟨g3, 0, none⟩)), (55, iv d1), (56, .agg #[.slice A1 i1.supply.length c1, .slice A2 i1.arcs.length c2]), (59, .agg #[.slice x.1 x.2.1 x.2.2.1, .slice x.2.2.2.1 x.2.2.2.2.1 x.2.2.2.2.2]), (60, iv x2), (62, iv ((gt i1.arcs x1.b).cost))]) (fun x => [Ow (fI .i64) 2 x.1 x.2.1 x.2.2.1 r_o3_4_1.supply, Ow fA 34 x.2.2.2.1 x.2.2.2.2.1 x.2.2.2.2.2 r_o3_4_1.arcs, Ow fB 4 (some ⟨g7, 0, none⟩) ((xs1.length : Int).toNat) ((xs1.length : Int).toNat) xs3, .blk g5 25 [.slice A3 n1 c3, .slice A5 xs2.length c5], Ow fA 34 A5 xs2.length c5 xs2, Ow fA 34 (some ⟨g6, 0, none⟩) 1 1 ([x1.new]), Ow (fI .i64) 2 A3 n1 c3 xs1, .blk g4 34 [iv ((gt i1.arcs x1.b).src), iv ((gt i1.arcs x1.b).dst), iv ((gt i1.arcs x1.b).low), iv ((gt i1.arcs x1.b).cap), iv ((gt i1.arcs x1.b).cost)], .blk g3 48 [.slice none 0 0, .slice none 0 0, iv 0, .slice none 0 0, .slice none 0 0, iv 0, .int .u64 (0), .bool (false)], .blk g2 56 [iv x1.node, iv x1.a, iv x1.b, iv x1.new.src, iv x1.new.dst, iv x1.new.low, iv x1.new.cap, iv x1.new.cost], .blk g1 25 [.slice A1 i1.supply.length c1, .slice A2 i1.arcs.length c2], .fz (PH.of w)]) rfl ?_ ?_
   ·rintro ⟨A_o3_4_1, n_o3_4_1, c_o3_4_1, A_o3_4_2, n_o3_4_2, c_o3_4_2⟩ ⟨hf_o3_4_1, hf_o3_4_2⟩
    dsimp only at hf_o3_4_1 hf_o3_4_2 ⊢
    refine WP.any2 8 13 rfl (by kernel_rfl) rfl rfl ?_ ?_
    ·refine WP.callV rfl rfl rfl rfl rfl rfl rfl (by kernel_rfl) (fun w1 hw1 => (ref01_Times_w hg_o3_8_1  :)) ⟨⟩ ?_
     refine WP.useF mm1 (A_o3_4_1, n_o3_4_1, c_o3_4_1, A_o3_4_2, n_o3_4_2, c_o3_4_2) ⟨hf_o3_4_1, hf_o3_4_2⟩ rfl (by kernel_rfl) ?_ ?_
     ·repeat first | exact ⟨⟩ | refine ⟨rfl, ?_⟩
     exact (.cons .head (.cons .head (.cons .head (.cons .head (.cons .head (.cons .head (.cons .head (.cons .head (.cons .head (.cons .head (.cons .head (.cons .head .nil))))))))))))
    refine WP.al tysOk rfl rfl rfl rfl rfl rfl ?_
    intro g_o3_13_1
    refine WP.useF mm2 (A_o3_4_1, n_o3_4_1, c_o3_4_1, A_o3_4_2, n_o3_4_2, c_o3_4_2, g_o3_13_1) ⟨hf_o3_4_1, hf_o3_4_2⟩ rfl (by kernel_rfl) ?_ ?_
    ·repeat first | exact ⟨⟩ | refine ⟨rfl, ?_⟩
    exact (.cons .head (.cons .head (.cons .head (.cons .head (.cons .head (.cons .head (.cons .head (.cons .head (.cons .head (.cons .head (.cons .head (.cons .head (.cons .head .nil)))))))))))))
   intro mm3
   refine WP.cutF (α := (Option Addr) × Nat × Nat × (Option Addr) × Nat × Nat × Nat) (fun x => OwF x.1 x.2.1 r_o3_4_1.supply ∧ OwF x.2.2.2.1 x.2.2.2.2.1 r_o3_4_1.arcs) #[true, false, true, true, true, true, true, true, false, false, false, false, false, true, false, false] 8 (fun x => [(5, .pointer (some ⟨g1, 0, none⟩)), (8, .pointer (some ⟨g3, 0, none⟩)), (13, .pointer (some ⟨x.2.2.2.2.2.2, 0, none⟩)), (55, iv d1), (59, .agg #[.slice x.1 x.2.1 x.2.2.1, .slice x.2.2.2.1 x.2.2.2.2.1 x.2.2.2.2.2.1]), (60, iv x2), (62, iv ((gt i1.arcs x1.b).cost))]) (fun x => [.blk x.2.2.2.2.2.2 48 [.slice none 0 0, .slice none 0 0, iv 0, .slice none 0 0, .slice none 0 0, iv 0, .int .u64 (0), .bool (false)], Ow (fI .i64) 2 x.1 x.2.1 x.2.2.1 r_o3_4_1.supply, Ow fA 34 x.2.2.2.1 x.2.2.2.2.1 x.2.2.2.2.2.1 r_o3_4_1.arcs, Ow fB 4 (some ⟨g7, 0, none⟩) ((xs1.length : Int).toNat) ((xs1.length : Int).toNat) xs3, .blk g5 25 [.slice A3 n1 c3, .slice A5 xs2.length c5], Ow fA 34 A5 xs2.length c5 xs2, Ow fA 34 (some ⟨g6, 0, none⟩) 1 1 ([x1.new]), Ow (fI .i64) 2 A3 n1 c3 xs1, .blk g4 34 [iv ((gt i1.arcs x1.b).src), iv ((gt i1.arcs x1.b).dst), iv ((gt i1.arcs x1.b).low), iv ((gt i1.arcs x1.b).cap), iv ((gt i1.arcs x1.b).cost)], .blk g3 48 [.slice none 0 0, .slice none 0 0, iv 0, .slice none 0 0, .slice none 0 0, iv 0, .int .u64 (0), .bool (false)], .blk g2 56 [iv x1.node, iv x1.a, iv x1.b, iv x1.new.src, iv x1.new.dst, iv x1.new.low, iv x1.new.cap, iv x1.new.cost], .blk g1 25 [.slice A1 i1.supply.length c1, .slice A2 i1.arcs.length c2], .fz (PH.of w)]) rfl ?_ ?_
   ·rintro ⟨A_o3_4_1, n_o3_4_1, c_o3_4_1, A_o3_4_2, n_o3_4_2, c_o3_4_2, g_o3_13_1⟩ ⟨hf_o3_4_1, hf_o3_4_2⟩
    dsimp only at hf_o3_4_1 hf_o3_4_2 ⊢
    refine WP.any2 1 8 rfl (by kernel_rfl) rfl rfl ?_ ?_
    ·refine WP.mx_ tysOk rfl ⟨⟩ (SegAt.blk' (.tail (.tail (.tail (.tail (.tail (.tail (.tail (.tail (.tail (.tail (.tail .head))))))))))) rfl) ?_
     refine WP.useF mm2 (A_o3_4_1, n_o3_4_1, c_o3_4_1, A_o3_4_2, n_o3_4_2, c_o3_4_2, g_o3_13_1) ⟨hf_o3_4_1, hf_o3_4_2⟩ rfl (by kernel_rfl) ?_ ?_
     ·repeat first | exact ⟨⟩ | refine ⟨rfl, ?_⟩
     exact (.cons .head (.cons .head (.cons .head (.cons .head (.cons .head (.cons .head (.cons .head (.cons .head (.cons .head (.cons .head (.cons .head (.cons .head (.cons .head .nil)))))))))))))
    refine WP.callV rfl rfl rfl rfl rfl rfl rfl (by kernel_rfl) (fun w1 hw1 => (ref01_Times_w hg_o3_8_1  :)) ⟨⟩ ?_
    refine WP.any1 1 rfl (by kernel_rfl) rfl ?_
    refine WP.mx_ tysOk rfl ⟨⟩ (SegAt.blk' (.tail (.tail (.tail (.tail (.tail (.tail (.tail (.tail (.tail (.tail (.tail .head))))))))))) rfl) ?_
    refine WP.any1 9 rfl (by kernel_rfl) rfl ?_
    refine WP.freezeO (.tail .head) hf_o3_4_1 ?_
    intro Zp_o3_9_1 hz_o3_9_1
    refine WP.freezeO (.tail (.tail .head)) hf_o3_4_2 ?_
    intro Zp_o3_9_2 hz_o3_9_2
    refine WP.callS (ref15_Done_S (PH.or (PH.or Z Zp_o3_9_1) Zp_o3_9_2) r_o3_9_1) rfl rfl rfl rfl rfl rfl rfl (by kernel_rfl) (fun w1 hw1 => (ref15_Done_w (Z := (PH.or (PH.or Z Zp_o3_9_1) Zp_o3_9_2)) ((Held.or (Held.or (Held.sub (Held.mem (List.Mem.tail _ (List.Mem.tail _ (List.Mem.tail _ (List.Mem.tail _ (List.Mem.tail _ (List.Mem.tail _ (List.Mem.tail _ (List.Mem.tail _ (List.Mem.tail _ (List.Mem.tail _ (List.Mem.tail _ (List.Mem.tail _ (List.Mem.head _)))))))))))))) hZ) (Held.mem (List.Mem.tail _ (List.Mem.head _)))) (Held.mem (List.Mem.head _))) _ _ hw1) hg_o3_9_1 (InsZ.mk_ ((hs1.le' (PH.le.trans (PH.le.trans PH.le.rfl_ (PH.le_or _ _)) (PH.le_or _ _))).of) ((hs2.le' (PH.le.trans (PH.le.trans PH.le.rfl_ (PH.le_or _ _)) (PH.le_or _ _))).of)) (InsZ.mk_ (SlF.of_n (hz_o3_9_1.le' (PH.le.trans (PH.ri_or ((Held.sub (Held.mem (List.Mem.tail _ (List.Mem.tail _ (List.Mem.tail _ (List.Mem.tail _ (List.Mem.tail _ (List.Mem.tail _ (List.Mem.tail _ (List.Mem.tail _ (List.Mem.tail _ (List.Mem.tail _ (List.Mem.tail _ (List.Mem.tail _ (List.Mem.head _)))))))))))))) hZ) _ _ hw1) ((Held.mem (List.Mem.tail _ (List.Mem.head _))) _ _ hw1)) (PH.le_or _ _))) hf_o3_4_1) (SlF.of_n (hz_o3_9_2.le' (PH.ri_or ((Held.or (Held.sub (Held.mem (List.Mem.tail _ (List.Mem.tail _ (List.Mem.tail _ (List.Mem.tail _ (List.Mem.tail _ (List.Mem.tail _ (List.Mem.tail _ (List.Mem.tail _ (List.Mem.tail _ (List.Mem.tail _ (List.Mem.tail _ (List.Mem.tail _ (List.Mem.head _)))))))))))))) hZ) (Held.mem (List.Mem.tail _ (List.Mem.head _)))) _ _ hw1) ((Held.mem (List.Mem.head _)) _ _ hw1))) hf_o3_4_2)) :)) ?_
    rintro _ _ ⟨Zn_o3_9_1, A_o3_9_1, _, c_o3_9_1, A_o3_9_2, _, c_o3_9_2, A_o3_9_3, _, c_o3_9_3, A_o3_9_4, _, c_o3_9_4, rfl, rfl, rfl, rfl, rfl, hs_o3_9_1, hs_o3_9_2, hs_o3_9_3, hs_o3_9_4, rfl⟩
    refine WP.anyP 10 tysOk putInv_body rfl rfl rfl (by kernel_rfl) (by kernel_rfl) rfl rfl rfl rfl rfl True.intro ?_
    refine WP.anyP 11 tysOk putInv_body rfl rfl rfl (by kernel_rfl) (by kernel_rfl) rfl rfl rfl rfl rfl True.intro ?_
    refine WP.anyP 12 tysOk putInv_body rfl rfl rfl (by kernel_rfl) (by kernel_rfl) rfl rfl rfl rfl rfl True.intro ?_
    refine WP.any1 14 rfl (by kernel_rfl) rfl ?_
    refine WP.sto' tysOk [.slice A_o3_9_1 r_o3_9_1.1.inst.supply.length c_o3_9_1, .slice A_o3_9_2 r_o3_9_1.1.inst.arcs.length c_o3_9_2, iv r_o3_9_1.1.rcd.pass, .slice A_o3_9_3 r_o3_9_1.1.rcd.was.supply.length c_o3_9_3, .slice A_o3_9_4 r_o3_9_1.1.rcd.was.arcs.length c_o3_9_4, iv r_o3_9_1.1.off.hi, .int .u64 (r_o3_9_1.1.off.lo), .bool (r_o3_9_1.1.did)] rfl rfl rfl rfl rfl rfl rfl rfl rfl (.tail (.tail (.tail .head))) rfl rfl ?_
    refine WP.anyP 15 tysOk putInv_body rfl rfl rfl (by kernel_rfl) (by kernel_rfl) rfl rfl rfl rfl rfl True.intro ?_
    refine WP.any0 rfl (by kernel_rfl) ?_
    refine WP.stop rfl (A_o3_4_1, n_o3_4_1, c_o3_4_1, A_o3_4_2, n_o3_4_2, c_o3_4_2, Zp_o3_9_1, Zp_o3_9_2, Zn_o3_9_1, A_o3_9_1, c_o3_9_1, A_o3_9_2, c_o3_9_2, A_o3_9_3, c_o3_9_3, A_o3_9_4, c_o3_9_4, g_o3_13_1) ⟨hf_o3_4_1, hf_o3_4_2, hz_o3_9_1, hz_o3_9_2, hs_o3_9_1, hs_o3_9_2, hs_o3_9_3, hs_o3_9_4⟩ ?_ ?_
    ·repeat first | exact ⟨⟩ | refine ⟨rfl, ?_⟩
    exact (.cons .head (.cons .head (.cons .head (.cons .head (.cons .head (.cons .head (.cons .head (.cons .head (.cons .head (.cons .head (.cons .head (.cons .head (.cons .head (.cons .head .nil))))))))))))))
   intro mm4
   refine WP.cutF (α := Unit) (fun x => True) #[true, true, true, true, false, true, true, true, false, false, false, false, false, false, false, false] 9 (fun x => [(8, .pointer (some ⟨g3, 0, none⟩)), (55, iv d1), (56, .agg #[.slice A1 i1.supply.length c1, .slice A2 i1.arcs.length c2]), (57, .agg #[.slice A3 n1 c3, .slice A5 xs2.length c5]), (58, .slice (some ⟨g7, 0, none⟩) ((xs1.length : Int).toNat) ((xs1.length : Int).toNat)), (60, iv x2), (62, iv ((gt i1.arcs x1.b).cost))]) (fun x => [Ow fB 4 (some ⟨g7, 0, none⟩) ((xs1.length : Int).toNat) ((xs1.length : Int).toNat) xs3, .blk g5 25 [.slice A3 n1 c3, .slice A5 xs2.length c5], Ow fA 34 A5 xs2.length c5 xs2, Ow fA 34 (some ⟨g6, 0, none⟩) 1 1 ([x1.new]), Ow (fI .i64) 2 A3 n1 c3 xs1, .blk g4 34 [iv ((gt i1.arcs x1.b).src), iv ((gt i1.arcs x1.b).dst), iv ((gt i1.arcs x1.b).low), iv ((gt i1.arcs x1.b).cap), iv ((gt i1.arcs x1.b).cost)], .blk g3 48 [.slice none 0 0, .slice none 0 0, iv 0, .slice none 0 0, .slice none 0 0, iv 0, .int .u64 (0), .bool (false)], .blk g2 56 [iv x1.node, iv x1.a, iv x1.b, iv x1.new.src, iv x1.new.dst, iv x1.new.low, iv x1.new.cap, iv x1.new.cost], .blk g1 25 [.slice A1 i1.supply.length c1, .slice A2 i1.arcs.length c2], .fz (PH.of w)]) rfl ?_ ?_
   ·rintro _ _
    refine WP.any2 4 13 rfl (by kernel_rfl) rfl rfl ?_ ?_
    ·refine WP.callS (ref03_Without_S r_o3_4_1) rfl rfl rfl rfl rfl rfl rfl (by kernel_rfl) (fun w1 hw1 => (ref03_Without_w hg_o3_4_1 (InsZ.mk_ (hw1.ow (.tail (.tail (.tail (.tail .head)))) hf3) (hw1.ow (.tail (.tail .head)) hf5)) (hw1.ow .head hf7) SlF.nil_ :)) ?_
     rintro _ _ ⟨A_o3_4_1, n_o3_4_1, c_o3_4_1, A_o3_4_2, n_o3_4_2, c_o3_4_2, rfl, hf_o3_4_1, hf_o3_4_2, rfl⟩
     refine WP.useF mm3 (A_o3_4_1, n_o3_4_1, c_o3_4_1, A_o3_4_2, n_o3_4_2, c_o3_4_2) ⟨hf_o3_4_1, hf_o3_4_2⟩ rfl (by kernel_rfl) ?_ ?_
     ·repeat first | exact ⟨⟩ | refine ⟨rfl, ?_⟩
     exact (.cons .head (.cons .head (.cons .head (.cons .head (.cons .head (.cons .head (.cons .head (.cons .head (.cons .head (.cons .head (.cons .head (.cons .head .nil))))))))))))
    refine WP.al tysOk rfl rfl rfl rfl rfl rfl ?_
    intro g_o3_13_1
    refine WP.any1 4 rfl (by kernel_rfl) rfl ?_
    refine WP.callS (ref03_Without_S r_o3_4_1) rfl rfl rfl rfl rfl rfl rfl (by kernel_rfl) (fun w1 hw1 => (ref03_Without_w hg_o3_4_1 (InsZ.mk_ (hw1.ow (.tail (.tail (.tail (.tail (.tail .head))))) hf3) (hw1.ow (.tail (.tail (.tail .head))) hf5)) (hw1.ow (.tail .head) hf7) SlF.nil_ :)) ?_
    rintro _ _ ⟨A_o3_4_1, n_o3_4_1, c_o3_4_1, A_o3_4_2, n_o3_4_2, c_o3_4_2, rfl, hf_o3_4_1, hf_o3_4_2, rfl⟩
    refine WP.useF mm2 (A_o3_4_1, n_o3_4_1, c_o3_4_1, A_o3_4_2, n_o3_4_2, c_o3_4_2, g_o3_13_1) ⟨hf_o3_4_1, hf_o3_4_2⟩ rfl (by kernel_rfl) ?_ ?_
    ·repeat first | exact ⟨⟩ | refine ⟨rfl, ?_⟩
    exact (.cons (.tail (.tail .head)) (.cons .head (.cons .head (.cons .head (.cons .head (.cons .head (.cons .head (.cons .head (.cons .head (.cons .head (.cons .head (.cons .head (.cons .head .nil)))))))))))))
   intro mm5
   refine WP.cutF (α := Nat) (fun x => True) #[true, true, true, true, false, true, true, false, false, false, false, false, false, true, false, false] 9 (fun x => [(8, .pointer (some ⟨g3, 0, none⟩)), (13, .pointer (some ⟨x, 0, none⟩)), (55, iv d1), (56, .agg #[.slice A1 i1.supply.length c1, .slice A2 i1.arcs.length c2]), (57, .agg #[.slice A3 n1 c3, .slice A5 xs2.length c5]), (58, .slice (some ⟨g7, 0, none⟩) ((xs1.length : Int).toNat) ((xs1.length : Int).toNat)), (60, iv x2), (61, .pointer (some ⟨g4, 4, none⟩))]) (fun x => [.blk x 48 [.slice none 0 0, .slice none 0 0, iv 0, .slice none 0 0, .slice none 0 0, iv 0, .int .u64 (0), .bool (false)], Ow fB 4 (some ⟨g7, 0, none⟩) ((xs1.length : Int).toNat) ((xs1.length : Int).toNat) xs3, .blk g5 25 [.slice A3 n1 c3, .slice A5 xs2.length c5], Ow fA 34 A5 xs2.length c5 xs2, Ow fA 34 (some ⟨g6, 0, none⟩) 1 1 ([x1.new]), Ow (fI .i64) 2 A3 n1 c3 xs1, .blk g4 34 [iv ((gt i1.arcs x1.b).src), iv ((gt i1.arcs x1.b).dst), iv ((gt i1.arcs x1.b).low), iv ((gt i1.arcs x1.b).cap), iv ((gt i1.arcs x1.b).cost)], .blk g3 48 [.slice none 0 0, .slice none 0 0, iv 0, .slice none 0 0, .slice none 0 0, iv 0, .int .u64 (0), .bool (false)], .blk g2 56 [iv x1.node, iv x1.a, iv x1.b, iv x1.new.src, iv x1.new.dst, iv x1.new.low, iv x1.new.cap, iv x1.new.cost], .blk g1 25 [.slice A1 i1.supply.length c1, .slice A2 i1.arcs.length c2], .fz (PH.of w)]) rfl ?_ ?_
   ·rintro g_o3_13_1 _
    refine WP.any2 4 7 rfl (by kernel_rfl) rfl rfl ?_ ?_
    ·refine WP.callS (ref03_Without_S r_o3_4_1) rfl rfl rfl rfl rfl rfl rfl (by kernel_rfl) (fun w1 hw1 => (ref03_Without_w hg_o3_4_1 (InsZ.mk_ (hw1.ow (.tail (.tail (.tail (.tail (.tail .head))))) hf3) (hw1.ow (.tail (.tail (.tail .head))) hf5)) (hw1.ow (.tail .head) hf7) SlF.nil_ :)) ?_
     rintro _ _ ⟨A_o3_4_1, n_o3_4_1, c_o3_4_1, A_o3_4_2, n_o3_4_2, c_o3_4_2, rfl, hf_o3_4_1, hf_o3_4_2, rfl⟩
     refine WP.any1 7 rfl (by kernel_rfl) rfl ?_
     refine WP.lx tysOk rfl ⟨⟩ (CellAt.blk (.tail (.tail (.tail (.tail (.tail (.tail (.tail (.tail .head)))))))) rfl) ?_
     refine WP.useF mm2 (A_o3_4_1, n_o3_4_1, c_o3_4_1, A_o3_4_2, n_o3_4_2, c_o3_4_2, g_o3_13_1) ⟨hf_o3_4_1, hf_o3_4_2⟩ rfl (by kernel_rfl) ?_ ?_
     ·repeat first | exact ⟨⟩ | refine ⟨rfl, ?_⟩
     exact (.cons (.tail (.tail .head)) (.cons .head (.cons .head (.cons .head (.cons .head (.cons .head (.cons .head (.cons .head (.cons .head (.cons .head (.cons .head (.cons .head (.cons .head .nil)))))))))))))
    refine WP.lx tysOk rfl ⟨⟩ (CellAt.blk (.tail (.tail (.tail (.tail (.tail (.tail .head)))))) rfl) ?_
    refine WP.any1 4 rfl (by kernel_rfl) rfl ?_
    refine WP.callS (ref03_Without_S r_o3_4_1) rfl rfl rfl rfl rfl rfl rfl (by kernel_rfl) (fun w1 hw1 => (ref03_Without_w hg_o3_4_1 (InsZ.mk_ (hw1.ow (.tail (.tail (.tail (.tail (.tail .head))))) hf3) (hw1.ow (.tail (.tail (.tail .head))) hf5)) (hw1.ow (.tail .head) hf7) SlF.nil_ :)) ?_
    rintro _ _ ⟨A_o3_4_1, n_o3_4_1, c_o3_4_1, A_o3_4_2, n_o3_4_2, c_o3_4_2, rfl, hf_o3_4_1, hf_o3_4_2, rfl⟩
    refine WP.useF mm2 (A_o3_4_1, n_o3_4_1, c_o3_4_1, A_o3_4_2, n_o3_4_2, c_o3_4_2, g_o3_13_1) ⟨hf_o3_4_1, hf_o3_4_2⟩ rfl (by kernel_rfl) ?_ ?_
    ·repeat first | exact ⟨⟩ | refine ⟨rfl, ?_⟩
    exact (.cons (.tail (.tail .head)) (.cons .head (.cons .head (.cons .head (.cons .head (.cons .head (.cons .head (.cons .head (.cons .head (.cons .head (.cons .head (.cons .head (.cons .head .nil)))))))))))))
   intro mm6
   refine WP.cutF (α := (Option Addr) × Nat × Nat × (Option Addr) × Nat × Nat) (fun x => OwF x.1 x.2.1 r_o3_4_1.supply ∧ OwF x.2.2.2.1 x.2.2.2.2.1 r_o3_4_1.arcs) #[true, false, true, true, true, true, true, true, false, false, false, false, false, false, false, false] 9 (fun x => [(5, .pointer (some ⟨g1, 0, none⟩)), (8, .pointer (some ⟨g3, 0, none⟩)), (55, iv d1), (59, .agg #[.slice x.1 x.2.1 x.2.2.1, .slice x.2.2.2.1 x.2.2.2.2.1 x.2.2.2.2.2]), (60, iv x2), (62, iv ((gt i1.arcs x1.b).cost))]) (fun x => [Ow (fI .i64) 2 x.1 x.2.1 x.2.2.1 r_o3_4_1.supply, Ow fA 34 x.2.2.2.1 x.2.2.2.2.1 x.2.2.2.2.2 r_o3_4_1.arcs, Ow fB 4 (some ⟨g7, 0, none⟩) ((xs1.length : Int).toNat) ((xs1.length : Int).toNat) xs3, .blk g5 25 [.slice A3 n1 c3, .slice A5 xs2.length c5], Ow fA 34 A5 xs2.length c5 xs2, Ow fA 34 (some ⟨g6, 0, none⟩) 1 1 ([x1.new]), Ow (fI .i64) 2 A3 n1 c3 xs1, .blk g4 34 [iv ((gt i1.arcs x1.b).src), iv ((gt i1.arcs x1.b).dst), iv ((gt i1.arcs x1.b).low), iv ((gt i1.arcs x1.b).cap), iv ((gt i1.arcs x1.b).cost)], .blk g3 48 [.slice none 0 0, .slice none 0 0, iv 0, .slice none 0 0, .slice none 0 0, iv 0, .int .u64 (0), .bool (false)], .blk g2 56 [iv x1.node, iv x1.a, iv x1.b, iv x1.new.src, iv x1.new.dst, iv x1.new.low, iv x1.new.cap, iv x1.new.cost], .blk g1 25 [.slice A1 i1.supply.length c1, .slice A2 i1.arcs.length c2], .fz (PH.of w)]) rfl ?_ ?_
   ·rintro ⟨A_o3_4_1, n_o3_4_1, c_o3_4_1, A_o3_4_2, n_o3_4_2, c_o3_4_2⟩ ⟨hf_o3_4_1, hf_o3_4_2⟩
    dsimp only at hf_o3_4_1 hf_o3_4_2 ⊢
    refine WP.any3 1 8 13 rfl (by kernel_rfl) rfl rfl rfl ?_ ?_ ?_
    ·refine WP.mx_ tysOk rfl ⟨⟩ (SegAt.blk' (.tail (.tail (.tail (.tail (.tail (.tail (.tail (.tail (.tail (.tail .head)))))))))) rfl) ?_
     refine WP.useF mm3 (A_o3_4_1, n_o3_4_1, c_o3_4_1, A_o3_4_2, n_o3_4_2, c_o3_4_2) ⟨hf_o3_4_1, hf_o3_4_2⟩ rfl (by kernel_rfl) ?_ ?_
     ·repeat first | exact ⟨⟩ | refine ⟨rfl, ?_⟩
     exact (.cons .head (.cons .head (.cons .head (.cons .head (.cons .head (.cons .head (.cons .head (.cons .head (.cons .head (.cons .head (.cons .head (.cons .head .nil))))))))))))
    ·refine WP.callV rfl rfl rfl rfl rfl rfl rfl (by kernel_rfl) (fun w1 hw1 => (ref01_Times_w hg_o3_8_1  :)) ⟨⟩ ?_
     refine WP.any2 1 13 rfl (by kernel_rfl) rfl rfl ?_ ?_
     ·refine WP.mx_ tysOk rfl ⟨⟩ (SegAt.blk' (.tail (.tail (.tail (.tail (.tail (.tail (.tail (.tail (.tail (.tail .head)))))))))) rfl) ?_
      refine WP.useF mm1 (A_o3_4_1, n_o3_4_1, c_o3_4_1, A_o3_4_2, n_o3_4_2, c_o3_4_2) ⟨hf_o3_4_1, hf_o3_4_2⟩ rfl (by kernel_rfl) ?_ ?_
      ·repeat first | exact ⟨⟩ | refine ⟨rfl, ?_⟩
      exact (.cons .head (.cons .head (.cons .head (.cons .head (.cons .head (.cons .head (.cons .head (.cons .head (.cons .head (.cons .head (.cons .head (.cons .head .nil))))))))))))
     refine WP.al tysOk rfl rfl rfl rfl rfl rfl ?_
     intro g_o3_13_1
     refine WP.any1 1 rfl (by kernel_rfl) rfl ?_
     refine WP.mx_ tysOk rfl ⟨⟩ (SegAt.blk' (.tail (.tail (.tail (.tail (.tail (.tail (.tail (.tail (.tail (.tail (.tail .head))))))))))) rfl) ?_
     refine WP.any1 9 rfl (by kernel_rfl) rfl ?_
     refine WP.freezeO (.tail .head) hf_o3_4_1 ?_
     intro Zp_o3_9_1 hz_o3_9_1
     refine WP.freezeO (.tail (.tail .head)) hf_o3_4_2 ?_
     intro Zp_o3_9_2 hz_o3_9_2
     refine WP.callS (ref15_Done_S (PH.or (PH.or Z Zp_o3_9_1) Zp_o3_9_2) r_o3_9_1) rfl rfl rfl rfl rfl rfl rfl (by kernel_rfl) (fun w1 hw1 => (ref15_Done_w (Z := (PH.or (PH.or Z Zp_o3_9_1) Zp_o3_9_2)) ((Held.or (Held.or (Held.sub (Held.mem (List.Mem.tail _ (List.Mem.tail _ (List.Mem.tail _ (List.Mem.tail _ (List.Mem.tail _ (List.Mem.tail _ (List.Mem.tail _ (List.Mem.tail _ (List.Mem.tail _ (List.Mem.tail _ (List.Mem.tail _ (List.Mem.tail _ (List.Mem.head _)))))))))))))) hZ) (Held.mem (List.Mem.tail _ (List.Mem.head _)))) (Held.mem (List.Mem.head _))) _ _ hw1) hg_o3_9_1 (InsZ.mk_ ((hs1.le' (PH.le.trans (PH.le.trans PH.le.rfl_ (PH.le_or _ _)) (PH.le_or _ _))).of) ((hs2.le' (PH.le.trans (PH.le.trans PH.le.rfl_ (PH.le_or _ _)) (PH.le_or _ _))).of)) (InsZ.mk_ (SlF.of_n (hz_o3_9_1.le' (PH.le.trans (PH.ri_or ((Held.sub (Held.mem (List.Mem.tail _ (List.Mem.tail _ (List.Mem.tail _ (List.Mem.tail _ (List.Mem.tail _ (List.Mem.tail _ (List.Mem.tail _ (List.Mem.tail _ (List.Mem.tail _ (List.Mem.tail _ (List.Mem.tail _ (List.Mem.tail _ (List.Mem.head _)))))))))))))) hZ) _ _ hw1) ((Held.mem (List.Mem.tail _ (List.Mem.head _))) _ _ hw1)) (PH.le_or _ _))) hf_o3_4_1) (SlF.of_n (hz_o3_9_2.le' (PH.ri_or ((Held.or (Held.sub (Held.mem (List.Mem.tail _ (List.Mem.tail _ (List.Mem.tail _ (List.Mem.tail _ (List.Mem.tail _ (List.Mem.tail _ (List.Mem.tail _ (List.Mem.tail _ (List.Mem.tail _ (List.Mem.tail _ (List.Mem.tail _ (List.Mem.tail _ (List.Mem.head _)))))))))))))) hZ) (Held.mem (List.Mem.tail _ (List.Mem.head _)))) _ _ hw1) ((Held.mem (List.Mem.head _)) _ _ hw1))) hf_o3_4_2)) :)) ?_
     rintro _ _ ⟨Zn_o3_9_1, A_o3_9_1, _, c_o3_9_1, A_o3_9_2, _, c_o3_9_2, A_o3_9_3, _, c_o3_9_3, A_o3_9_4, _, c_o3_9_4, rfl, rfl, rfl, rfl, rfl, hs_o3_9_1, hs_o3_9_2, hs_o3_9_3, hs_o3_9_4, rfl⟩
     refine WP.anyP 10 tysOk putInv_body rfl rfl rfl (by kernel_rfl) (by kernel_rfl) rfl rfl rfl rfl rfl True.intro ?_
     refine WP.anyP 11 tysOk putInv_body rfl rfl rfl (by kernel_rfl) (by kernel_rfl) rfl rfl rfl rfl rfl True.intro ?_
     refine WP.anyP 12 tysOk putInv_body rfl rfl rfl (by kernel_rfl) (by kernel_rfl) rfl rfl rfl rfl rfl True.intro ?_
     refine WP.any1 14 rfl (by kernel_rfl) rfl ?_
     refine WP.sto' tysOk [.slice A_o3_9_1 r_o3_9_1.1.inst.supply.length c_o3_9_1, .slice A_o3_9_2 r_o3_9_1.1.inst.arcs.length c_o3_9_2, iv r_o3_9_1.1.rcd.pass, .slice A_o3_9_3 r_o3_9_1.1.rcd.was.supply.length c_o3_9_3, .slice A_o3_9_4 r_o3_9_1.1.rcd.was.arcs.length c_o3_9_4, iv r_o3_9_1.1.off.hi, .int .u64 (r_o3_9_1.1.off.lo), .bool (r_o3_9_1.1.did)] rfl rfl rfl rfl rfl rfl rfl rfl rfl (.tail (.tail (.tail .head))) rfl rfl ?_
     refine WP.anyP 15 tysOk putInv_body rfl rfl rfl (by kernel_rfl) (by kernel_rfl) rfl rfl rfl rfl rfl True.intro ?_
     refine WP.any0 rfl (by kernel_rfl) ?_
     refine WP.stop rfl (A_o3_4_1, n_o3_4_1, c_o3_4_1, A_o3_4_2, n_o3_4_2, c_o3_4_2, Zp_o3_9_1, Zp_o3_9_2, Zn_o3_9_1, A_o3_9_1, c_o3_9_1, A_o3_9_2, c_o3_9_2, A_o3_9_3, c_o3_9_3, A_o3_9_4, c_o3_9_4, g_o3_13_1) ⟨hf_o3_4_1, hf_o3_4_2, hz_o3_9_1, hz_o3_9_2, hs_o3_9_1, hs_o3_9_2, hs_o3_9_3, hs_o3_9_4⟩ ?_ ?_
     ·repeat first | exact ⟨⟩ | refine ⟨rfl, ?_⟩
     exact (.cons .head (.cons .head (.cons .head (.cons .head (.cons .head (.cons .head (.cons .head (.cons .head (.cons .head (.cons .head (.cons .head (.cons .head (.cons .head (.cons .head .nil))))))))))))))
    refine WP.al tysOk rfl rfl rfl rfl rfl rfl ?_
    intro g_o3_13_1
    refine WP.useF mm4 (A_o3_4_1, n_o3_4_1, c_o3_4_1, A_o3_4_2, n_o3_4_2, c_o3_4_2, g_o3_13_1) ⟨hf_o3_4_1, hf_o3_4_2⟩ rfl (by kernel_rfl) ?_ ?_
    ·repeat first | exact ⟨⟩ | refine ⟨rfl, ?_⟩
    exact (.cons .head (.cons .head (.cons .head (.cons .head (.cons .head (.cons .head (.cons .head (.cons .head (.cons .head (.cons .head (.cons .head (.cons .head (.cons .head .nil)))))))))))))
   intro mm7
   refine WP.cutF (α := Nat) (fun x => True) #[true, false, true, true, false, true, true, true, false, false, false, false, false, true, false, false] 9 (fun x => [(5, .pointer (some ⟨g1, 0, none⟩)), (8, .pointer (some ⟨g3, 0, none⟩)), (13, .pointer (some ⟨x, 0, none⟩)), (55, iv d1), (57, .agg #[.slice A3 n1 c3, .slice A5 xs2.length c5]), (58, .slice (some ⟨g7, 0, none⟩) ((xs1.length : Int).toNat) ((xs1.length : Int).toNat)), (60, iv x2), (62, iv ((gt i1.arcs x1.b).cost))]) (fun x => [.blk x 48 [.slice none 0 0, .slice none 0 0, iv 0, .slice none 0 0, .slice none 0 0, iv 0, .int .u64 (0), .bool (false)], Ow fB 4 (some ⟨g7, 0, none⟩) ((xs1.length : Int).toNat) ((xs1.length : Int).toNat) xs3, .blk g5 25 [.slice A3 n1 c3, .slice A5 xs2.length c5], Ow fA 34 A5 xs2.length c5 xs2, Ow fA 34 (some ⟨g6, 0, none⟩) 1 1 ([x1.new]), Ow (fI .i64) 2 A3 n1 c3 xs1, .blk g4 34 [iv ((gt i1.arcs x1.b).src), iv ((gt i1.arcs x1.b).dst), iv ((gt i1.arcs x1.b).low), iv ((gt i1.arcs x1.b).cap), iv ((gt i1.arcs x1.b).cost)], .blk g3 48 [.slice none 0 0, .slice none 0 0, iv 0, .slice none 0 0, .slice none 0 0, iv 0, .int .u64 (0), .bool (false)], .blk g2 56 [iv x1.node, iv x1.a, iv x1.b, iv x1.new.src, iv x1.new.dst, iv x1.new.low, iv x1.new.cap, iv x1.new.cost], .blk g1 25 [.slice A1 i1.supply.length c1, .slice A2 i1.arcs.length c2], .fz (PH.of w)]) rfl ?_ ?_
   ·rintro g_o3_13_1 _
    refine WP.any2 1 4 rfl (by kernel_rfl) rfl rfl ?_ ?_
    ·refine WP.mx_ tysOk rfl ⟨⟩ (SegAt.blk' (.tail (.tail (.tail (.tail (.tail (.tail (.tail (.tail (.tail .head))))))))) rfl) ?_
     refine WP.any1 4 rfl (by kernel_rfl) rfl ?_
     refine WP.callS (ref03_Without_S r_o3_4_1) rfl rfl rfl rfl rfl rfl rfl (by kernel_rfl) (fun w1 hw1 => (ref03_Without_w hg_o3_4_1 (InsZ.mk_ (hw1.ow (.tail (.tail (.tail (.tail (.tail .head))))) hf3) (hw1.ow (.tail (.tail (.tail .head))) hf5)) (hw1.ow (.tail .head) hf7) SlF.nil_ :)) ?_
     rintro _ _ ⟨A_o3_4_1, n_o3_4_1, c_o3_4_1, A_o3_4_2, n_o3_4_2, c_o3_4_2, rfl, hf_o3_4_1, hf_o3_4_2, rfl⟩
     refine WP.useF mm2 (A_o3_4_1, n_o3_4_1, c_o3_4_1, A_o3_4_2, n_o3_4_2, c_o3_4_2, g_o3_13_1) ⟨hf_o3_4_1, hf_o3_4_2⟩ rfl (by kernel_rfl) ?_ ?_
     ·repeat first | exact ⟨⟩ | refine ⟨rfl, ?_⟩
     exact (.cons (.tail (.tail .head)) (.cons .head (.cons .head (.cons .head (.cons .head (.cons .head (.cons .head (.cons .head (.cons .head (.cons .head (.cons .head (.cons .head (.cons .head .nil)))))))))))))
    refine WP.callS (ref03_Without_S r_o3_4_1) rfl rfl rfl rfl rfl rfl rfl (by kernel_rfl) (fun w1 hw1 => (ref03_Without_w hg_o3_4_1 (InsZ.mk_ (hw1.ow (.tail (.tail (.tail (.tail (.tail .head))))) hf3) (hw1.ow (.tail (.tail (.tail .head))) hf5)) (hw1.ow (.tail .head) hf7) SlF.nil_ :)) ?_
    rintro _ _ ⟨A_o3_4_1, n_o3_4_1, c_o3_4_1, A_o3_4_2, n_o3_4_2, c_o3_4_2, rfl, hf_o3_4_1, hf_o3_4_2, rfl⟩
    refine WP.useF mm4 (A_o3_4_1, n_o3_4_1, c_o3_4_1, A_o3_4_2, n_o3_4_2, c_o3_4_2, g_o3_13_1) ⟨hf_o3_4_1, hf_o3_4_2⟩ rfl (by kernel_rfl) ?_ ?_
    ·repeat first | exact ⟨⟩ | refine ⟨rfl, ?_⟩
    exact (.cons (.tail (.tail .head)) (.cons .head (.cons .head (.cons .head (.cons .head (.cons .head (.cons .head (.cons .head (.cons .head (.cons .head (.cons .head (.cons .head (.cons .head .nil)))))))))))))
   intro mm8
   refine WP.cutF (α := Unit) (fun x => True) #[true, true, true, true, false, true, true, false, false, false, false, false, false, false, false, false] 10 (fun x => [(8, .pointer (some ⟨g3, 0, none⟩)), (55, iv d1), (56, .agg #[.slice A1 i1.supply.length c1, .slice A2 i1.arcs.length c2]), (57, .agg #[.slice A3 n1 c3, .slice A5 xs2.length c5]), (58, .slice (some ⟨g7, 0, none⟩) ((xs1.length : Int).toNat) ((xs1.length : Int).toNat)), (60, iv x2), (61, .pointer (some ⟨g4, 4, none⟩))]) (fun x => [Ow fB 4 (some ⟨g7, 0, none⟩) ((xs1.length : Int).toNat) ((xs1.length : Int).toNat) xs3, .blk g5 25 [.slice A3 n1 c3, .slice A5 xs2.length c5], Ow fA 34 A5 xs2.length c5 xs2, Ow fA 34 (some ⟨g6, 0, none⟩) 1 1 ([x1.new]), Ow (fI .i64) 2 A3 n1 c3 xs1, .blk g4 34 [iv ((gt i1.arcs x1.b).src), iv ((gt i1.arcs x1.b).dst), iv ((gt i1.arcs x1.b).low), iv ((gt i1.arcs x1.b).cap), iv ((gt i1.arcs x1.b).cost)], .blk g3 48 [.slice none 0 0, .slice none 0 0, iv 0, .slice none 0 0, .slice none 0 0, iv 0, .int .u64 (0), .bool (false)], .blk g2 56 [iv x1.node, iv x1.a, iv x1.b, iv x1.new.src, iv x1.new.dst, iv x1.new.low, iv x1.new.cap, iv x1.new.cost], .blk g1 25 [.slice A1 i1.supply.length c1, .slice A2 i1.arcs.length c2], .fz (PH.of w)]) rfl ?_ ?_
   ·rintro _ _
    refine WP.any3 4 7 13 rfl (by kernel_rfl) rfl rfl rfl ?_ ?_ ?_
    ·refine WP.callS (ref03_Without_S r_o3_4_1) rfl rfl rfl rfl rfl rfl rfl (by kernel_rfl) (fun w1 hw1 => (ref03_Without_w hg_o3_4_1 (InsZ.mk_ (hw1.ow (.tail (.tail (.tail (.tail .head)))) hf3) (hw1.ow (.tail (.tail .head)) hf5)) (hw1.ow .head hf7) SlF.nil_ :)) ?_
     rintro _ _ ⟨A_o3_4_1, n_o3_4_1, c_o3_4_1, A_o3_4_2, n_o3_4_2, c_o3_4_2, rfl, hf_o3_4_1, hf_o3_4_2, rfl⟩
     refine WP.any2 7 13 rfl (by kernel_rfl) rfl rfl ?_ ?_
     ·refine WP.lx tysOk rfl ⟨⟩ (CellAt.blk (.tail (.tail (.tail (.tail (.tail (.tail (.tail .head))))))) rfl) ?_
      refine WP.useF mm3 (A_o3_4_1, n_o3_4_1, c_o3_4_1, A_o3_4_2, n_o3_4_2, c_o3_4_2) ⟨hf_o3_4_1, hf_o3_4_2⟩ rfl (by kernel_rfl) ?_ ?_
      ·repeat first | exact ⟨⟩ | refine ⟨rfl, ?_⟩
      exact (.cons .head (.cons .head (.cons .head (.cons .head (.cons .head (.cons .head (.cons .head (.cons .head (.cons .head (.cons .head (.cons .head (.cons .head .nil))))))))))))
     refine WP.al tysOk rfl rfl rfl rfl rfl rfl ?_
     intro g_o3_13_1
     refine WP.any1 7 rfl (by kernel_rfl) rfl ?_
     refine WP.lx tysOk rfl ⟨⟩ (CellAt.blk (.tail (.tail (.tail (.tail (.tail (.tail (.tail (.tail .head)))))))) rfl) ?_
     refine WP.useF mm2 (A_o3_4_1, n_o3_4_1, c_o3_4_1, A_o3_4_2, n_o3_4_2, c_o3_4_2, g_o3_13_1) ⟨hf_o3_4_1, hf_o3_4_2⟩ rfl (by kernel_rfl) ?_ ?_
     ·repeat first | exact ⟨⟩ | refine ⟨rfl, ?_⟩
     exact (.cons .head (.cons .head (.cons .head (.cons .head (.cons .head (.cons .head (.cons .head (.cons .head (.cons .head (.cons .head (.cons .head (.cons .head (.cons .head .nil)))))))))))))
    ·refine WP.lx tysOk rfl ⟨⟩ (CellAt.blk (.tail (.tail (.tail (.tail (.tail .head))))) rfl) ?_
     refine WP.useF mm5 () True.intro rfl (by kernel_rfl) ?_ ?_
     ·repeat first | exact ⟨⟩ | refine ⟨rfl, ?_⟩
     exact (.cons .head (.cons .head (.cons .head (.cons .head (.cons .head (.cons .head (.cons .head (.cons .head (.cons .head (.cons .head .nil))))))))))
    refine WP.al tysOk rfl rfl rfl rfl rfl rfl ?_
    intro g_o3_13_1
    refine WP.useF mm6 g_o3_13_1 True.intro rfl (by kernel_rfl) ?_ ?_
    ·repeat first | exact ⟨⟩ | refine ⟨rfl, ?_⟩
    exact (.cons .head (.cons .head (.cons .head (.cons .head (.cons .head (.cons .head (.cons .head (.cons .head (.cons .head (.cons .head (.cons .head .nil)))))))))))
   intro mm9
   refine WP.cutF (α := Unit) (fun x => True) #[true, true, false, true, false, true, true, true, false, false, false, false, false, false, false, false] 10 (fun x => [(8, .pointer (some ⟨g3, 0, none⟩)), (11, .pointer (some ⟨g5, 0, none⟩)), (55, iv d1), (56, .agg #[.slice A1 i1.supply.length c1, .slice A2 i1.arcs.length c2]), (58, .slice (some ⟨g7, 0, none⟩) ((xs1.length : Int).toNat) ((xs1.length : Int).toNat)), (60, iv x2), (62, iv ((gt i1.arcs x1.b).cost))]) (fun x => [Ow fB 4 (some ⟨g7, 0, none⟩) ((xs1.length : Int).toNat) ((xs1.length : Int).toNat) xs3, .blk g5 25 [.slice A3 n1 c3, .slice A5 xs2.length c5], Ow fA 34 A5 xs2.length c5 xs2, Ow fA 34 (some ⟨g6, 0, none⟩) 1 1 ([x1.new]), Ow (fI .i64) 2 A3 n1 c3 xs1, .blk g4 34 [iv ((gt i1.arcs x1.b).src), iv ((gt i1.arcs x1.b).dst), iv ((gt i1.arcs x1.b).low), iv ((gt i1.arcs x1.b).cap), iv ((gt i1.arcs x1.b).cost)], .blk g3 48 [.slice none 0 0, .slice none 0 0, iv 0, .slice none 0 0, .slice none 0 0, iv 0, .int .u64 (0), .bool (false)], .blk g2 56 [iv x1.node, iv x1.a, iv x1.b, iv x1.new.src, iv x1.new.dst, iv x1.new.low, iv x1.new.cap, iv x1.new.cost], .blk g1 25 [.slice A1 i1.supply.length c1, .slice A2 i1.arcs.length c2], .fz (PH.of w)]) rfl ?_ ?_
   ·rintro _ _
    refine WP.any2 2 13 rfl (by kernel_rfl) rfl rfl ?_ ?_
    ·refine WP.mx_ tysOk rfl ⟨⟩ (SegAt.blk' (.tail .head) rfl) ?_
     refine WP.useF mm5 () True.intro rfl (by kernel_rfl) ?_ ?_
     ·repeat first | exact ⟨⟩ | refine ⟨rfl, ?_⟩
     exact (.cons .head (.cons .head (.cons .head (.cons .head (.cons .head (.cons .head (.cons .head (.cons .head (.cons .head (.cons .head .nil))))))))))
    refine WP.al tysOk rfl rfl rfl rfl rfl rfl ?_
    intro g_o3_13_1
    refine WP.any1 2 rfl (by kernel_rfl) rfl ?_
    refine WP.mx_ tysOk rfl ⟨⟩ (SegAt.blk' (.tail (.tail .head)) rfl) ?_
    refine WP.any1 4 rfl (by kernel_rfl) rfl ?_
    refine WP.callS (ref03_Without_S r_o3_4_1) rfl rfl rfl rfl rfl rfl rfl (by kernel_rfl) (fun w1 hw1 => (ref03_Without_w hg_o3_4_1 (InsZ.mk_ (hw1.ow (.tail (.tail (.tail (.tail (.tail .head))))) hf3) (hw1.ow (.tail (.tail (.tail .head))) hf5)) (hw1.ow (.tail .head) hf7) SlF.nil_ :)) ?_
    rintro _ _ ⟨A_o3_4_1, n_o3_4_1, c_o3_4_1, A_o3_4_2, n_o3_4_2, c_o3_4_2, rfl, hf_o3_4_1, hf_o3_4_2, rfl⟩
    refine WP.useF mm2 (A_o3_4_1, n_o3_4_1, c_o3_4_1, A_o3_4_2, n_o3_4_2, c_o3_4_2, g_o3_13_1) ⟨hf_o3_4_1, hf_o3_4_2⟩ rfl (by kernel_rfl) ?_ ?_
    ·repeat first | exact ⟨⟩ | refine ⟨rfl, ?_⟩
    exact (.cons (.tail (.tail .head)) (.cons .head (.cons .head (.cons .head (.cons .head (.cons .head (.cons .head (.cons .head (.cons .head (.cons .head (.cons .head (.cons .head (.cons .head .nil)))))))))))))
   intro mm10
   refine WP.cutF (α := Nat) (fun x => True) #[true, true, false, true, false, true, true, false, false, false, false, false, false, true, false, false] 10 (fun x => [(8, .pointer (some ⟨g3, 0, none⟩)), (11, .pointer (some ⟨g5, 0, none⟩)), (13, .pointer (some ⟨x, 0, none⟩)), (55, iv d1), (56, .agg #[.slice A1 i1.supply.length c1, .slice A2 i1.arcs.length c2]), (58, .slice (some ⟨g7, 0, none⟩) ((xs1.length : Int).toNat) ((xs1.length : Int).toNat)), (60, iv x2), (61, .pointer (some ⟨g4, 4, none⟩))]) (fun x => [.blk x 48 [.slice none 0 0, .slice none 0 0, iv 0, .slice none 0 0, .slice none 0 0, iv 0, .int .u64 (0), .bool (false)], Ow fB 4 (some ⟨g7, 0, none⟩) ((xs1.length : Int).toNat) ((xs1.length : Int).toNat) xs3, .blk g5 25 [.slice A3 n1 c3, .slice A5 xs2.length c5], Ow fA 34 A5 xs2.length c5 xs2, Ow fA 34 (some ⟨g6, 0, none⟩) 1 1 ([x1.new]), Ow (fI .i64) 2 A3 n1 c3 xs1, .blk g4 34 [iv ((gt i1.arcs x1.b).src), iv ((gt i1.arcs x1.b).dst), iv ((gt i1.arcs x1.b).low), iv ((gt i1.arcs x1.b).cap), iv ((gt i1.arcs x1.b).cost)], .blk g3 48 [.slice none 0 0, .slice none 0 0, iv 0, .slice none 0 0, .slice none 0 0, iv 0, .int .u64 (0), .bool (false)], .blk g2 56 [iv x1.node, iv x1.a, iv x1.b, iv x1.new.src, iv x1.new.dst, iv x1.new.low, iv x1.new.cap, iv x1.new.cost], .blk g1 25 [.slice A1 i1.supply.length c1, .slice A2 i1.arcs.length c2], .fz (PH.of w)]) rfl ?_ ?_
   ·rintro g_o3_13_1 _
    refine WP.any2 2 7 rfl (by kernel_rfl) rfl rfl ?_ ?_
    ·refine WP.mx_ tysOk rfl ⟨⟩ (SegAt.blk' (.tail (.tail .head)) rfl) ?_
     refine WP.useF mm6 g_o3_13_1 True.intro rfl (by kernel_rfl) ?_ ?_
     ·repeat first | exact ⟨⟩ | refine ⟨rfl, ?_⟩
     exact (.cons .head (.cons .head (.cons .head (.cons .head (.cons .head (.cons .head (.cons .head (.cons .head (.cons .head (.cons .head (.cons .head .nil)))))))))))
    refine WP.lx tysOk rfl ⟨⟩ (CellAt.blk (.tail (.tail (.tail (.tail (.tail (.tail .head)))))) rfl) ?_
    refine WP.any1 2 rfl (by kernel_rfl) rfl ?_
    refine WP.mx_ tysOk rfl ⟨⟩ (SegAt.blk' (.tail (.tail .head)) rfl) ?_
    refine WP.any1 4 rfl (by kernel_rfl) rfl ?_
    refine WP.callS (ref03_Without_S r_o3_4_1) rfl rfl rfl rfl rfl rfl rfl (by kernel_rfl) (fun w1 hw1 => (ref03_Without_w hg_o3_4_1 (InsZ.mk_ (hw1.ow (.tail (.tail (.tail (.tail (.tail .head))))) hf3) (hw1.ow (.tail (.tail (.tail .head))) hf5)) (hw1.ow (.tail .head) hf7) SlF.nil_ :)) ?_
    rintro _ _ ⟨A_o3_4_1, n_o3_4_1, c_o3_4_1, A_o3_4_2, n_o3_4_2, c_o3_4_2, rfl, hf_o3_4_1, hf_o3_4_2, rfl⟩
    refine WP.useF mm2 (A_o3_4_1, n_o3_4_1, c_o3_4_1, A_o3_4_2, n_o3_4_2, c_o3_4_2, g_o3_13_1) ⟨hf_o3_4_1, hf_o3_4_2⟩ rfl (by kernel_rfl) ?_ ?_
    ·repeat first | exact ⟨⟩ | refine ⟨rfl, ?_⟩
    exact (.cons (.tail (.tail .head)) (.cons .head (.cons .head (.cons .head (.cons .head (.cons .head (.cons .head (.cons .head (.cons .head (.cons .head (.cons .head (.cons .head (.cons .head .nil)))))))))))))
   intro mm11
   refine WP.cutF (α := Unit) (fun x => True) #[true, false, true, true, false, true, true, true, false, false, false, false, false, false, false, false] 10 (fun x => [(5, .pointer (some ⟨g1, 0, none⟩)), (8, .pointer (some ⟨g3, 0, none⟩)), (55, iv d1), (57, .agg #[.slice A3 n1 c3, .slice A5 xs2.length c5]), (58, .slice (some ⟨g7, 0, none⟩) ((xs1.length : Int).toNat) ((xs1.length : Int).toNat)), (60, iv x2), (62, iv ((gt i1.arcs x1.b).cost))]) (fun x => [Ow fB 4 (some ⟨g7, 0, none⟩) ((xs1.length : Int).toNat) ((xs1.length : Int).toNat) xs3, .blk g5 25 [.slice A3 n1 c3, .slice A5 xs2.length c5], Ow fA 34 A5 xs2.length c5 xs2, Ow fA 34 (some ⟨g6, 0, none⟩) 1 1 ([x1.new]), Ow (fI .i64) 2 A3 n1 c3 xs1, .blk g4 34 [iv ((gt i1.arcs x1.b).src), iv ((gt i1.arcs x1.b).dst), iv ((gt i1.arcs x1.b).low), iv ((gt i1.arcs x1.b).cap), iv ((gt i1.arcs x1.b).cost)], .blk g3 48 [.slice none 0 0, .slice none 0 0, iv 0, .slice none 0 0, .slice none 0 0, iv 0, .int .u64 (0), .bool (false)], .blk g2 56 [iv x1.node, iv x1.a, iv x1.b, iv x1.new.src, iv x1.new.dst, iv x1.new.low, iv x1.new.cap, iv x1.new.cost], .blk g1 25 [.slice A1 i1.supply.length c1, .slice A2 i1.arcs.length c2], .fz (PH.of w)]) rfl ?_ ?_
   ·rintro _ _
    refine WP.any3 1 4 13 rfl (by kernel_rfl) rfl rfl rfl ?_ ?_ ?_
    ·refine WP.mx_ tysOk rfl ⟨⟩ (SegAt.blk' (.tail (.tail (.tail (.tail (.tail (.tail (.tail (.tail .head)))))))) rfl) ?_
     refine WP.useF mm5 () True.intro rfl (by kernel_rfl) ?_ ?_
     ·repeat first | exact ⟨⟩ | refine ⟨rfl, ?_⟩
     exact (.cons .head (.cons .head (.cons .head (.cons .head (.cons .head (.cons .head (.cons .head (.cons .head (.cons .head (.cons .head .nil))))))))))
    ·refine WP.callS (ref03_Without_S r_o3_4_1) rfl rfl rfl rfl rfl rfl rfl (by kernel_rfl) (fun w1 hw1 => (ref03_Without_w hg_o3_4_1 (InsZ.mk_ (hw1.ow (.tail (.tail (.tail (.tail .head)))) hf3) (hw1.ow (.tail (.tail .head)) hf5)) (hw1.ow .head hf7) SlF.nil_ :)) ?_
     rintro _ _ ⟨A_o3_4_1, n_o3_4_1, c_o3_4_1, A_o3_4_2, n_o3_4_2, c_o3_4_2, rfl, hf_o3_4_1, hf_o3_4_2, rfl⟩
     refine WP.useF mm7 (A_o3_4_1, n_o3_4_1, c_o3_4_1, A_o3_4_2, n_o3_4_2, c_o3_4_2) ⟨hf_o3_4_1, hf_o3_4_2⟩ rfl (by kernel_rfl) ?_ ?_
     ·repeat first | exact ⟨⟩ | refine ⟨rfl, ?_⟩
     exact (.cons .head (.cons .head (.cons .head (.cons .head (.cons .head (.cons .head (.cons .head (.cons .head (.cons .head (.cons .head (.cons .head (.cons .head .nil))))))))))))
    refine WP.al tysOk rfl rfl rfl rfl rfl rfl ?_
    intro g_o3_13_1
    refine WP.useF mm8 g_o3_13_1 True.intro rfl (by kernel_rfl) ?_ ?_
    ·repeat first | exact ⟨⟩ | refine ⟨rfl, ?_⟩
    exact (.cons .head (.cons .head (.cons .head (.cons .head (.cons .head (.cons .head (.cons .head (.cons .head (.cons .head (.cons .head (.cons .head .nil)))))))))))
   intro mm12
   refine WP.cutF (α := Nat) (fun x => True) #[true, false, true, true, false, true, true, false, false, false, false, false, false, true, false, false] 10 (fun x => [(5, .pointer (some ⟨g1, 0, none⟩)), (8, .pointer (some ⟨g3, 0, none⟩)), (13, .pointer (some ⟨x, 0, none⟩)), (55, iv d1), (57, .agg #[.slice A3 n1 c3, .slice A5 xs2.length c5]), (58, .slice (some ⟨g7, 0, none⟩) ((xs1.length : Int).toNat) ((xs1.length : Int).toNat)), (60, iv x2), (61, .pointer (some ⟨g4, 4, none⟩))]) (fun x => [.blk x 48 [.slice none 0 0, .slice none 0 0, iv 0, .slice none 0 0, .slice none 0 0, iv 0, .int .u64 (0), .bool (false)], Ow fB 4 (some ⟨g7, 0, none⟩) ((xs1.length : Int).toNat) ((xs1.length : Int).toNat) xs3, .blk g5 25 [.slice A3 n1 c3, .slice A5 xs2.length c5], Ow fA 34 A5 xs2.length c5 xs2, Ow fA 34 (some ⟨g6, 0, none⟩) 1 1 ([x1.new]), Ow (fI .i64) 2 A3 n1 c3 xs1, .blk g4 34 [iv ((gt i1.arcs x1.b).src), iv ((gt i1.arcs x1.b).dst), iv ((gt i1.arcs x1.b).low), iv ((gt i1.arcs x1.b).cap), iv ((gt i1.arcs x1.b).cost)], .blk g3 48 [.slice none 0 0, .slice none 0 0, iv 0, .slice none 0 0, .slice none 0 0, iv 0, .int .u64 (0), .bool (false)], .blk g2 56 [iv x1.node, iv x1.a, iv x1.b, iv x1.new.src, iv x1.new.dst, iv x1.new.low, iv x1.new.cap, iv x1.new.cost], .blk g1 25 [.slice A1 i1.supply.length c1, .slice A2 i1.arcs.length c2], .fz (PH.of w)]) rfl ?_ ?_
   ·rintro g_o3_13_1 _
    refine WP.any3 1 4 7 rfl (by kernel_rfl) rfl rfl rfl ?_ ?_ ?_
    ·refine WP.mx_ tysOk rfl ⟨⟩ (SegAt.blk' (.tail (.tail (.tail (.tail (.tail (.tail (.tail (.tail (.tail .head))))))))) rfl) ?_
     refine WP.useF mm6 g_o3_13_1 True.intro rfl (by kernel_rfl) ?_ ?_
     ·repeat first | exact ⟨⟩ | refine ⟨rfl, ?_⟩
     exact (.cons .head (.cons .head (.cons .head (.cons .head (.cons .head (.cons .head (.cons .head (.cons .head (.cons .head (.cons .head (.cons .head .nil)))))))))))
    ·refine WP.callS (ref03_Without_S r_o3_4_1) rfl rfl rfl rfl rfl rfl rfl (by kernel_rfl) (fun w1 hw1 => (ref03_Without_w hg_o3_4_1 (InsZ.mk_ (hw1.ow (.tail (.tail (.tail (.tail (.tail .head))))) hf3) (hw1.ow (.tail (.tail (.tail .head))) hf5)) (hw1.ow (.tail .head) hf7) SlF.nil_ :)) ?_
     rintro _ _ ⟨A_o3_4_1, n_o3_4_1, c_o3_4_1, A_o3_4_2, n_o3_4_2, c_o3_4_2, rfl, hf_o3_4_1, hf_o3_4_2, rfl⟩
     refine WP.any2 1 7 rfl (by kernel_rfl) rfl rfl ?_ ?_
     ·refine WP.mx_ tysOk rfl ⟨⟩ (SegAt.blk' (.tail (.tail (.tail (.tail (.tail (.tail (.tail (.tail (.tail (.tail (.tail .head))))))))))) rfl) ?_
      refine WP.any1 7 rfl (by kernel_rfl) rfl ?_
      refine WP.lx tysOk rfl ⟨⟩ (CellAt.blk (.tail (.tail (.tail (.tail (.tail (.tail (.tail (.tail .head)))))))) rfl) ?_
      refine WP.useF mm2 (A_o3_4_1, n_o3_4_1, c_o3_4_1, A_o3_4_2, n_o3_4_2, c_o3_4_2, g_o3_13_1) ⟨hf_o3_4_1, hf_o3_4_2⟩ rfl (by kernel_rfl) ?_ ?_
      ·repeat first | exact ⟨⟩ | refine ⟨rfl, ?_⟩
      exact (.cons (.tail (.tail .head)) (.cons .head (.cons .head (.cons .head (.cons .head (.cons .head (.cons .head (.cons .head (.cons .head (.cons .head (.cons .head (.cons .head (.cons .head .nil)))))))))))))
     refine WP.lx tysOk rfl ⟨⟩ (CellAt.blk (.tail (.tail (.tail (.tail (.tail (.tail (.tail (.tail .head)))))))) rfl) ?_
     refine WP.useF mm4 (A_o3_4_1, n_o3_4_1, c_o3_4_1, A_o3_4_2, n_o3_4_2, c_o3_4_2, g_o3_13_1) ⟨hf_o3_4_1, hf_o3_4_2⟩ rfl (by kernel_rfl) ?_ ?_
     ·repeat first | exact ⟨⟩ | refine ⟨rfl, ?_⟩
     exact (.cons (.tail (.tail .head)) (.cons .head (.cons .head (.cons .head (.cons .head (.cons .head (.cons .head (.cons .head (.cons .head (.cons .head (.cons .head (.cons .head (.cons .head .nil)))))))))))))
    refine WP.lx tysOk rfl ⟨⟩ (CellAt.blk (.tail (.tail (.tail (.tail (.tail (.tail .head)))))) rfl) ?_
    refine WP.useF mm8 g_o3_13_1 True.intro rfl (by kernel_rfl) ?_ ?_
    ·repeat first | exact ⟨⟩ | refine ⟨rfl, ?_⟩
    exact (.cons .head (.cons .head (.cons .head (.cons .head (.cons .head (.cons .head (.cons .head (.cons .head (.cons .head (.cons .head (.cons .head .nil)))))))))))
   intro mm13
   refine WP.cutF (α := Nat) (fun x => True) #[true, false, false, true, false, true, true, true, false, false, false, false, false, true, false, false] 10 (fun x => [(5, .pointer (some ⟨g1, 0, none⟩)), (8, .pointer (some ⟨g3, 0, none⟩)), (11, .pointer (some ⟨g5, 0, none⟩)), (13, .pointer (some ⟨x, 0, none⟩)), (55, iv d1), (58, .slice (some ⟨g7, 0, none⟩) ((xs1.length : Int).toNat) ((xs1.length : Int).toNat)), (60, iv x2), (62, iv ((gt i1.arcs x1.b).cost))]) (fun x => [.blk x 48 [.slice none 0 0, .slice none 0 0, iv 0, .slice none 0 0, .slice none 0 0, iv 0, .int .u64 (0), .bool (false)], Ow fB 4 (some ⟨g7, 0, none⟩) ((xs1.length : Int).toNat) ((xs1.length : Int).toNat) xs3, .blk g5 25 [.slice A3 n1 c3, .slice A5 xs2.length c5], Ow fA 34 A5 xs2.length c5 xs2, Ow fA 34 (some ⟨g6, 0, none⟩) 1 1 ([x1.new]), Ow (fI .i64) 2 A3 n1 c3 xs1, .blk g4 34 [iv ((gt i1.arcs x1.b).src), iv ((gt i1.arcs x1.b).dst), iv ((gt i1.arcs x1.b).low), iv ((gt i1.arcs x1.b).cap), iv ((gt i1.arcs x1.b).cost)], .blk g3 48 [.slice none 0 0, .slice none 0 0, iv 0, .slice none 0 0, .slice none 0 0, iv 0, .int .u64 (0), .bool (false)], .blk g2 56 [iv x1.node, iv x1.a, iv x1.b, iv x1.new.src, iv x1.new.dst, iv x1.new.low, iv x1.new.cap, iv x1.new.cost], .blk g1 25 [.slice A1 i1.supply.length c1, .slice A2 i1.arcs.length c2], .fz (PH.of w)]) rfl ?_ ?_
   ·rintro g_o3_13_1 _
    refine WP.any2 1 2 rfl (by kernel_rfl) rfl rfl ?_ ?_
    ·refine WP.mx_ tysOk rfl ⟨⟩ (SegAt.blk' (.tail (.tail (.tail (.tail (.tail (.tail (.tail (.tail (.tail .head))))))))) rfl) ?_
     refine WP.any1 2 rfl (by kernel_rfl) rfl ?_
     refine WP.mx_ tysOk rfl ⟨⟩ (SegAt.blk' (.tail (.tail .head)) rfl) ?_
     refine WP.any1 4 rfl (by kernel_rfl) rfl ?_
     refine WP.callS (ref03_Without_S r_o3_4_1) rfl rfl rfl rfl rfl rfl rfl (by kernel_rfl) (fun w1 hw1 => (ref03_Without_w hg_o3_4_1 (InsZ.mk_ (hw1.ow (.tail (.tail (.tail (.tail (.tail .head))))) hf3) (hw1.ow (.tail (.tail (.tail .head))) hf5)) (hw1.ow (.tail .head) hf7) SlF.nil_ :)) ?_
     rintro _ _ ⟨A_o3_4_1, n_o3_4_1, c_o3_4_1, A_o3_4_2, n_o3_4_2, c_o3_4_2, rfl, hf_o3_4_1, hf_o3_4_2, rfl⟩
     refine WP.useF mm2 (A_o3_4_1, n_o3_4_1, c_o3_4_1, A_o3_4_2, n_o3_4_2, c_o3_4_2, g_o3_13_1) ⟨hf_o3_4_1, hf_o3_4_2⟩ rfl (by kernel_rfl) ?_ ?_
     ·repeat first | exact ⟨⟩ | refine ⟨rfl, ?_⟩
     exact (.cons (.tail (.tail .head)) (.cons .head (.cons .head (.cons .head (.cons .head (.cons .head (.cons .head (.cons .head (.cons .head (.cons .head (.cons .head (.cons .head (.cons .head .nil)))))))))))))
    refine WP.mx_ tysOk rfl ⟨⟩ (SegAt.blk' (.tail (.tail .head)) rfl) ?_
    refine WP.useF mm8 g_o3_13_1 True.intro rfl (by kernel_rfl) ?_ ?_
    ·repeat first | exact ⟨⟩ | refine ⟨rfl, ?_⟩
    exact (.cons .head (.cons .head (.cons .head (.cons .head (.cons .head (.cons .head (.cons .head (.cons .head (.cons .head (.cons .head (.cons .head .nil)))))))))))
   intro mm14
   refine WP.anyP 0 tysOk putInv_body rfl rfl rfl (by kernel_rfl) (by kernel_rfl) rfl rfl rfl rfl rfl True.intro ?_
   refine WP.anyP 3 tysOk putInv_body rfl rfl rfl (by kernel_rfl) (by kernel_rfl) rfl rfl rfl rfl rfl True.intro ?_
   refine WP.anyP 5 tysOk putInv_body rfl rfl rfl (by kernel_rfl) (by kernel_rfl) rfl rfl rfl rfl rfl True.intro ?_
   refine WP.anyP 6 tysOk putInv_body rfl rfl rfl (by kernel_rfl) (by kernel_rfl) rfl rfl rfl rfl rfl True.intro ?_
   refine WP.any4 1 2 7 13 rfl (by kernel_rfl) rfl rfl rfl rfl ?_ ?_ ?_ ?_
   ·refine WP.mx_ tysOk rfl ⟨⟩ (SegAt.blk' (.tail (.tail (.tail (.tail (.tail (.tail (.tail (.tail .head)))))))) rfl) ?_
    refine WP.any3 2 7 13 rfl (by kernel_rfl) rfl rfl rfl ?_ ?_ ?_
    ·refine WP.mx_ tysOk rfl ⟨⟩ (SegAt.blk' (.tail .head) rfl) ?_
     refine WP.useF mm9 () True.intro rfl (by kernel_rfl) ?_ ?_
     ·repeat first | exact ⟨⟩ | refine ⟨rfl, ?_⟩
     exact (.cons .head (.cons .head (.cons .head (.cons .head (.cons .head (.cons .head (.cons .head (.cons .head (.cons .head (.cons .head .nil))))))))))
    ·refine WP.lx tysOk rfl ⟨⟩ (CellAt.blk (.tail (.tail (.tail (.tail (.tail .head))))) rfl) ?_
     refine WP.useF mm10 () True.intro rfl (by kernel_rfl) ?_ ?_
     ·repeat first | exact ⟨⟩ | refine ⟨rfl, ?_⟩
     exact (.cons .head (.cons .head (.cons .head (.cons .head (.cons .head (.cons .head (.cons .head (.cons .head (.cons .head (.cons .head .nil))))))))))
    refine WP.al tysOk rfl rfl rfl rfl rfl rfl ?_
    intro g_o3_13_1
    refine WP.useF mm11 g_o3_13_1 True.intro rfl (by kernel_rfl) ?_ ?_
    ·repeat first | exact ⟨⟩ | refine ⟨rfl, ?_⟩
    exact (.cons .head (.cons .head (.cons .head (.cons .head (.cons .head (.cons .head (.cons .head (.cons .head (.cons .head (.cons .head (.cons .head .nil)))))))))))
   ·refine WP.mx_ tysOk rfl ⟨⟩ (SegAt.blk' (.tail .head) rfl) ?_
    refine WP.any4 1 4 7 13 rfl (by kernel_rfl) rfl rfl rfl rfl ?_ ?_ ?_ ?_
    ·refine WP.mx_ tysOk rfl ⟨⟩ (SegAt.blk' (.tail (.tail (.tail (.tail (.tail (.tail (.tail (.tail .head)))))))) rfl) ?_
     refine WP.useF mm9 () True.intro rfl (by kernel_rfl) ?_ ?_
     ·repeat first | exact ⟨⟩ | refine ⟨rfl, ?_⟩
     exact (.cons .head (.cons .head (.cons .head (.cons .head (.cons .head (.cons .head (.cons .head (.cons .head (.cons .head (.cons .head .nil))))))))))
    ·refine WP.callS (ref03_Without_S r_o3_4_1) rfl rfl rfl rfl rfl rfl rfl (by kernel_rfl) (fun w1 hw1 => (ref03_Without_w hg_o3_4_1 (InsZ.mk_ (hw1.ow (.tail (.tail (.tail (.tail .head)))) hf3) (hw1.ow (.tail (.tail .head)) hf5)) (hw1.ow .head hf7) SlF.nil_ :)) ?_
     rintro _ _ ⟨A_o3_4_1, n_o3_4_1, c_o3_4_1, A_o3_4_2, n_o3_4_2, c_o3_4_2, rfl, hf_o3_4_1, hf_o3_4_2, rfl⟩
     refine WP.any3 1 7 13 rfl (by kernel_rfl) rfl rfl rfl ?_ ?_ ?_
     ·refine WP.mx_ tysOk rfl ⟨⟩ (SegAt.blk' (.tail (.tail (.tail (.tail (.tail (.tail (.tail (.tail (.tail (.tail .head)))))))))) rfl) ?_
      refine WP.any2 7 13 rfl (by kernel_rfl) rfl rfl ?_ ?_
      ·refine WP.lx tysOk rfl ⟨⟩ (CellAt.blk (.tail (.tail (.tail (.tail (.tail (.tail (.tail .head))))))) rfl) ?_
       refine WP.useF mm3 (A_o3_4_1, n_o3_4_1, c_o3_4_1, A_o3_4_2, n_o3_4_2, c_o3_4_2) ⟨hf_o3_4_1, hf_o3_4_2⟩ rfl (by kernel_rfl) ?_ ?_
       ·repeat first | exact ⟨⟩ | refine ⟨rfl, ?_⟩
       exact (.cons .head (.cons .head (.cons .head (.cons .head (.cons .head (.cons .head (.cons .head (.cons .head (.cons .head (.cons .head (.cons .head (.cons .head .nil))))))))))))
      refine WP.al tysOk rfl rfl rfl rfl rfl rfl ?_
      intro g_o3_13_1
      refine WP.any1 7 rfl (by kernel_rfl) rfl ?_
      refine WP.lx tysOk rfl ⟨⟩ (CellAt.blk (.tail (.tail (.tail (.tail (.tail (.tail (.tail (.tail .head)))))))) rfl) ?_
      refine WP.useF mm2 (A_o3_4_1, n_o3_4_1, c_o3_4_1, A_o3_4_2, n_o3_4_2, c_o3_4_2, g_o3_13_1) ⟨hf_o3_4_1, hf_o3_4_2⟩ rfl (by kernel_rfl) ?_ ?_
      ·repeat first | exact ⟨⟩ | refine ⟨rfl, ?_⟩
      exact (.cons .head (.cons .head (.cons .head (.cons .head (.cons .head (.cons .head (.cons .head (.cons .head (.cons .head (.cons .head (.cons .head (.cons .head (.cons .head .nil)))))))))))))
     ·refine WP.lx tysOk rfl ⟨⟩ (CellAt.blk (.tail (.tail (.tail (.tail (.tail (.tail (.tail .head))))))) rfl) ?_
      refine WP.useF mm7 (A_o3_4_1, n_o3_4_1, c_o3_4_1, A_o3_4_2, n_o3_4_2, c_o3_4_2) ⟨hf_o3_4_1, hf_o3_4_2⟩ rfl (by kernel_rfl) ?_ ?_
      ·repeat first | exact ⟨⟩ | refine ⟨rfl, ?_⟩
      exact (.cons .head (.cons .head (.cons .head (.cons .head (.cons .head (.cons .head (.cons .head (.cons .head (.cons .head (.cons .head (.cons .head (.cons .head .nil))))))))))))
     refine WP.al tysOk rfl rfl rfl rfl rfl rfl ?_
     intro g_o3_13_1
     refine WP.any2 1 7 rfl (by kernel_rfl) rfl rfl ?_ ?_
     ·refine WP.mx_ tysOk rfl ⟨⟩ (SegAt.blk' (.tail (.tail (.tail (.tail (.tail (.tail (.tail (.tail (.tail (.tail (.tail .head))))))))))) rfl) ?_
      refine WP.any1 7 rfl (by kernel_rfl) rfl ?_
      refine WP.lx tysOk rfl ⟨⟩ (CellAt.blk (.tail (.tail (.tail (.tail (.tail (.tail (.tail (.tail .head)))))))) rfl) ?_
      refine WP.useF mm2 (A_o3_4_1, n_o3_4_1, c_o3_4_1, A_o3_4_2, n_o3_4_2, c_o3_4_2, g_o3_13_1) ⟨hf_o3_4_1, hf_o3_4_2⟩ rfl (by kernel_rfl) ?_ ?_
      ·repeat first | exact ⟨⟩ | refine ⟨rfl, ?_⟩
      exact (.cons .head (.cons .head (.cons .head (.cons .head (.cons .head (.cons .head (.cons .head (.cons .head (.cons .head (.cons .head (.cons .head (.cons .head (.cons .head .nil)))))))))))))
     refine WP.lx tysOk rfl ⟨⟩ (CellAt.blk (.tail (.tail (.tail (.tail (.tail (.tail (.tail (.tail .head)))))))) rfl) ?_
     refine WP.useF mm4 (A_o3_4_1, n_o3_4_1, c_o3_4_1, A_o3_4_2, n_o3_4_2, c_o3_4_2, g_o3_13_1) ⟨hf_o3_4_1, hf_o3_4_2⟩ rfl (by kernel_rfl) ?_ ?_
     ·repeat first | exact ⟨⟩ | refine ⟨rfl, ?_⟩
     exact (.cons .head (.cons .head (.cons .head (.cons .head (.cons .head (.cons .head (.cons .head (.cons .head (.cons .head (.cons .head (.cons .head (.cons .head (.cons .head .nil)))))))))))))
    ·refine WP.lx tysOk rfl ⟨⟩ (CellAt.blk (.tail (.tail (.tail (.tail (.tail .head))))) rfl) ?_
     refine WP.useF mm12 () True.intro rfl (by kernel_rfl) ?_ ?_
     ·repeat first | exact ⟨⟩ | refine ⟨rfl, ?_⟩
     exact (.cons .head (.cons .head (.cons .head (.cons .head (.cons .head (.cons .head (.cons .head (.cons .head (.cons .head (.cons .head .nil))))))))))
    refine WP.al tysOk rfl rfl rfl rfl rfl rfl ?_
    intro g_o3_13_1
    refine WP.useF mm13 g_o3_13_1 True.intro rfl (by kernel_rfl) ?_ ?_
    ·repeat first | exact ⟨⟩ | refine ⟨rfl, ?_⟩
    exact (.cons .head (.cons .head (.cons .head (.cons .head (.cons .head (.cons .head (.cons .head (.cons .head (.cons .head (.cons .head (.cons .head .nil)))))))))))
   ·refine WP.lx tysOk rfl ⟨⟩ (CellAt.blk (.tail (.tail (.tail (.tail (.tail .head))))) rfl) ?_
    refine WP.any3 1 2 13 rfl (by kernel_rfl) rfl rfl rfl ?_ ?_ ?_
    ·refine WP.mx_ tysOk rfl ⟨⟩ (SegAt.blk' (.tail (.tail (.tail (.tail (.tail (.tail (.tail (.tail .head)))))))) rfl) ?_
     refine WP.useF mm10 () True.intro rfl (by kernel_rfl) ?_ ?_
     ·repeat first | exact ⟨⟩ | refine ⟨rfl, ?_⟩
     exact (.cons .head (.cons .head (.cons .head (.cons .head (.cons .head (.cons .head (.cons .head (.cons .head (.cons .head (.cons .head .nil))))))))))
    ·refine WP.mx_ tysOk rfl ⟨⟩ (SegAt.blk' (.tail .head) rfl) ?_
     refine WP.useF mm12 () True.intro rfl (by kernel_rfl) ?_ ?_
     ·repeat first | exact ⟨⟩ | refine ⟨rfl, ?_⟩
     exact (.cons .head (.cons .head (.cons .head (.cons .head (.cons .head (.cons .head (.cons .head (.cons .head (.cons .head (.cons .head .nil))))))))))
    refine WP.al tysOk rfl rfl rfl rfl rfl rfl ?_
    intro g_o3_13_1
    refine WP.useF mm14 g_o3_13_1 True.intro rfl (by kernel_rfl) ?_ ?_
    ·repeat first | exact ⟨⟩ | refine ⟨rfl, ?_⟩
    exact (.cons .head (.cons .head (.cons .head (.cons .head (.cons .head (.cons .head (.cons .head (.cons .head (.cons .head (.cons .head (.cons .head .nil)))))))))))
   refine WP.al tysOk rfl rfl rfl rfl rfl rfl ?_
   intro g_o3_13_1
   refine WP.any3 1 2 7 rfl (by kernel_rfl) rfl rfl rfl ?_ ?_ ?_
   ·refine WP.mx_ tysOk rfl ⟨⟩ (SegAt.blk' (.tail (.tail (.tail (.tail (.tail (.tail (.tail (.tail (.tail .head))))))))) rfl) ?_
    refine WP.useF mm11 g_o3_13_1 True.intro rfl (by kernel_rfl) ?_ ?_
    ·repeat first | exact ⟨⟩ | refine ⟨rfl, ?_⟩
    exact (.cons .head (.cons .head (.cons .head (.cons .head (.cons .head (.cons .head (.cons .head (.cons .head (.cons .head (.cons .head (.cons .head .nil)))))))))))
   ·refine WP.mx_ tysOk rfl ⟨⟩ (SegAt.blk' (.tail (.tail .head)) rfl) ?_
    refine WP.useF mm13 g_o3_13_1 True.intro rfl (by kernel_rfl) ?_ ?_
    ·repeat first | exact ⟨⟩ | refine ⟨rfl, ?_⟩
    exact (.cons .head (.cons .head (.cons .head (.cons .head (.cons .head (.cons .head (.cons .head (.cons .head (.cons .head (.cons .head (.cons .head .nil)))))))))))
   refine WP.lx tysOk rfl ⟨⟩ (CellAt.blk (.tail (.tail (.tail (.tail (.tail (.tail .head)))))) rfl) ?_
   refine WP.useF mm14 g_o3_13_1 True.intro rfl (by kernel_rfl) ?_ ?_
   ·repeat first | exact ⟨⟩ | refine ⟨rfl, ?_⟩
   exact (.cons .head (.cons .head (.cons .head (.cons .head (.cons .head (.cons .head (.cons .head (.cons .head (.cons .head (.cons .head (.cons .head .nil)))))))))))
  rintro ⟨A_o3_4_1, n_o3_4_1, c_o3_4_1, A_o3_4_2, n_o3_4_2, c_o3_4_2, Zp_o3_9_1, Zp_o3_9_2, Zn_o3_9_1, A_o3_9_1, c_o3_9_1, A_o3_9_2, c_o3_9_2, A_o3_9_3, c_o3_9_3, A_o3_9_4, c_o3_9_4, g_o3_13_1⟩ ⟨hf_o3_4_1, hf_o3_4_2, hz_o3_9_1, hz_o3_9_2, hs_o3_9_1, hs_o3_9_2, hs_o3_9_3, hs_o3_9_4⟩
  dsimp only at hf_o3_4_1 hf_o3_4_2 hz_o3_9_1 hz_o3_9_2 hs_o3_9_1 hs_o3_9_2 hs_o3_9_3 hs_o3_9_4 ⊢
  refine WP.mx_ tysOk rfl ⟨⟩ (SegAt.blk' .head rfl) ?_
  refine WP.sx tysOk rfl ⟨⟨⟩, ⟨⟩⟩ ?_
  refine WP.sto' tysOk [.slice A_o3_9_1 r_o3_9_1.1.inst.supply.length c_o3_9_1, .slice A_o3_9_2 r_o3_9_1.1.inst.arcs.length c_o3_9_2, iv r_o3_9_1.1.rcd.pass, .slice A_o3_9_3 r_o3_9_1.1.rcd.was.supply.length c_o3_9_3, .slice A_o3_9_4 r_o3_9_1.1.rcd.was.arcs.length c_o3_9_4, iv r_o3_9_1.1.off.hi, .int .u64 (r_o3_9_1.1.off.lo), .bool (r_o3_9_1.1.did)] rfl rfl rfl rfl rfl rfl rfl rfl rfl (.tail (.tail (.tail (.tail (.tail (.tail (.tail (.tail (.tail (.tail .head)))))))))) rfl rfl ?_
  refine WP.sx tysOk rfl ⟨⟨⟩, ⟨⟩⟩ ?_
  cases h
  refine WP.retR tysOk rfl rfl ⟨_, _, _, _, rfl, ⟨_, rfl, .inr ⟨rfl, _, rfl, rfl, (SegAt.blk' (z := 8) .head rfl).1⟩⟩, ⟨_, _, rfl, rfl, rfl⟩, rfl⟩ (fun w1 hw1 => ⟨_, _, rfl, ⟨PH.new _ w1, A_o3_9_1, r_o3_9_1.1.inst.supply.length, c_o3_9_1, A_o3_9_2, r_o3_9_1.1.inst.arcs.length, c_o3_9_2, A_o3_9_3, r_o3_9_1.1.rcd.was.supply.length, c_o3_9_3, A_o3_9_4, r_o3_9_1.1.rcd.was.arcs.length, c_o3_9_4, rfl, rfl, rfl, rfl, rfl, hs_o3_9_1.le' (PH.or_le (PH.or_le (PH.or_le (PH.le_or _ _) ((hw1.fzNew (.cons (.tail (.tail (.tail (.tail .head)))) (.cons (.tail (.tail (.tail (.tail (.tail (.tail (.tail (.tail (.tail (.tail (.tail (.tail .head)))))))))))) .nil))).trans (PH.new_le_or hZ))) ((hw1.fzNew (.cons (.tail (.tail (.tail .head))) (.cons (.tail (.tail (.tail (.tail (.tail (.tail (.tail (.tail (.tail (.tail (.tail (.tail .head)))))))))))) .nil))).trans (PH.new_le_or hZ))) ((hw1.fzNew (.cons (.tail (.tail .head)) (.cons (.tail (.tail (.tail (.tail (.tail (.tail (.tail (.tail (.tail (.tail (.tail (.tail .head)))))))))))) .nil))).trans (PH.new_le_or hZ))), hs_o3_9_2.le' (PH.or_le (PH.or_le (PH.or_le (PH.le_or _ _) ((hw1.fzNew (.cons (.tail (.tail (.tail (.tail .head)))) (.cons (.tail (.tail (.tail (.tail (.tail (.tail (.tail (.tail (.tail (.tail (.tail (.tail .head)))))))))))) .nil))).trans (PH.new_le_or hZ))) ((hw1.fzNew (.cons (.tail (.tail (.tail .head))) (.cons (.tail (.tail (.tail (.tail (.tail (.tail (.tail (.tail (.tail (.tail (.tail (.tail .head)))))))))))) .nil))).trans (PH.new_le_or hZ))) ((hw1.fzNew (.cons (.tail (.tail .head)) (.cons (.tail (.tail (.tail (.tail (.tail (.tail (.tail (.tail (.tail (.tail (.tail (.tail .head)))))))))))) .nil))).trans (PH.new_le_or hZ))), hs_o3_9_3.le' (PH.or_le (PH.or_le (PH.or_le (PH.le_or _ _) ((hw1.fzNew (.cons (.tail (.tail (.tail (.tail .head)))) (.cons (.tail (.tail (.tail (.tail (.tail (.tail (.tail (.tail (.tail (.tail (.tail (.tail .head)))))))))))) .nil))).trans (PH.new_le_or hZ))) ((hw1.fzNew (.cons (.tail (.tail (.tail .head))) (.cons (.tail (.tail (.tail (.tail (.tail (.tail (.tail (.tail (.tail (.tail (.tail (.tail .head)))))))))))) .nil))).trans (PH.new_le_or hZ))) ((hw1.fzNew (.cons (.tail (.tail .head)) (.cons (.tail (.tail (.tail (.tail (.tail (.tail (.tail (.tail (.tail (.tail (.tail (.tail .head)))))))))))) .nil))).trans (PH.new_le_or hZ))), hs_o3_9_4.le' (PH.or_le (PH.or_le (PH.or_le (PH.le_or _ _) ((hw1.fzNew (.cons (.tail (.tail (.tail (.tail .head)))) (.cons (.tail (.tail (.tail (.tail (.tail (.tail (.tail (.tail (.tail (.tail (.tail (.tail .head)))))))))))) .nil))).trans (PH.new_le_or hZ))) ((hw1.fzNew (.cons (.tail (.tail (.tail .head))) (.cons (.tail (.tail (.tail (.tail (.tail (.tail (.tail (.tail (.tail (.tail (.tail (.tail .head)))))))))))) .nil))).trans (PH.new_le_or hZ))) ((hw1.fzNew (.cons (.tail (.tail .head)) (.cons (.tail (.tail (.tail (.tail (.tail (.tail (.tail (.tail (.tail (.tail (.tail (.tail .head)))))))))))) .nil))).trans (PH.new_le_or hZ))), rfl⟩, Ret.freeze hw1 (.cons (.tail (.tail (.tail (.tail (.tail (.tail (.tail (.tail (.tail (.tail (.tail (.tail (.tail .head))))))))))))) .nil)⟩)
end Go.Proofs.YtpnohbdfgmjdbaaGreat
