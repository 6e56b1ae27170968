/- The walks: the code computes that. -/
import Derived.Test.YtbnjeanldechnaaGreatDoorGW2
import Derived.Test.YtbnjeanldechnaaGreatDoorTys
import Derived.Test.YtbnjeanldechnaaGreatDoorEngG
import Derived.KernelRfl
namespace Go.Proofs.YtbnjeanldechnaaGreatDoor
open Go.RowKit Go.Qe
set_option maxRecDepth 20000 in
set_option maxHeartbeats 8000000 in
theorem slices_Equal_int64_w {w : World} {v0 : Value} {v1 : Value} {s11 : List Int} {s21 : List Int} {r : Bool} (h : slices_Equal_int64 s11 s21 = some r) (p1 : SlF (fI .i64) (PH.of w) v0 s11) (p2 : SlF (fI .i64) (PH.of w) v1 s21) :
    Calls Tryz.prog 46 #[v0, v1] w fun e w' => e = .returned (.bool (r)) ∧ Below w.heap.size w w' := by
  obtain ⟨A1, c1, rfl, hs1⟩ := p1
  obtain ⟨A2, c2, rfl, hs2⟩ := p2
  unfold slices_Equal_int64 at h
  refine enter_ Tryz.func46 rfl Tryz.ntmps46 rfl ?_
  iterate 6 (refine WP.sx tysOk rfl ⟨⟨⟩, ⟨⟩⟩ ?_)
  refine WP.cond_d rfl rfl (fun hh1 => ?_) (fun hh1 => ?_)
  ·rw [if_pos hh1] at h
   refine WP.sx tysOk rfl ⟨⟨⟩, ⟨⟩⟩ ?_
   cases h
   refine WP.retR tysOk rfl rfl ⟨_, _, rfl, rfl, rfl⟩ (fun w1 hw1 => ⟨rfl, Ret.below_ hw1 (.cons .head .nil)⟩)
  rw [if_neg hh1] at h
  iterate 3 (refine WP.sx tysOk rfl ⟨⟨⟩, ⟨⟩⟩ ?_)
  refine WP.loop (α := Nat × Int) (fun x => lp (slices_Equal_int64_b1 s11 s21) x.1 x.2 = some r) (fun x => [(0, .slice A1 s11.length c1), (1, .slice A2 s21.length c2), (12, iv (s11.length : Int)), (13, iv x.2)]) (fun x => [.fz (PH.of w)]) (fun x => x.1) rfl (big, 0) h ?_ ?_ ?_
  ·repeat first | exact ⟨⟩ | refine ⟨rfl, ?_⟩
  ·exact (.cons .head .nil)
  rintro ⟨n1, s2⟩ h
  dsimp only at h ⊢
  rcases n1 with _ | n1
  · exact (lp_no h).elim
  replace h := lp_succ h
  unfold slices_Equal_int64_b1 at h
  try dsimp only at h
  refine WP.sx tysOk rfl ⟨⟨⟩, ⟨⟩⟩ ?_
  refine WP.cond_d rfl rfl (fun hh6 => ?_) (fun hh6 => ?_)
  ·rw [if_pos hh6] at h
   iterate 2 (refine WP.sx tysOk rfl ⟨⟨⟩, ⟨⟩⟩ ?_)
   refine WP.draw rfl (by kernel_rfl) (by kernel_rfl) ?_
   iterate 2 (refine WP.sx tysOk rfl ⟨rfl, ⟨⟩⟩ ?_)
   obtain ⟨hj5, h⟩ := ck_some h
   refine WP.ixA tysOk rfl rfl rfl rfl rfl rfl rfl rfl rfl rfl hj5 (hs1.ex hj5) ?_
   intro b5 b5v hA5
   refine WP.lx tysOk rfl rfl (hs1.at0 hA5 (Held.mem (List.Mem.head _)) hj5 rfl) ?_
   iterate 2 (refine WP.sx tysOk rfl ⟨rfl, ⟨⟩⟩ ?_)
   obtain ⟨hj6, h⟩ := ck_some h
   refine WP.ixA tysOk rfl rfl rfl rfl rfl rfl rfl rfl rfl rfl hj6 (hs2.ex hj6) ?_
   intro b6 b6v hA6
   refine WP.lx tysOk rfl rfl (hs2.at0 hA6 (Held.mem (List.Mem.head _)) hj6 rfl) ?_
   refine WP.sx tysOk rfl ⟨rfl, ⟨⟩⟩ ?_
   refine WP.qend rfl ?_
   refine WP.cond_d rfl rfl (fun hh7 => ?_) (fun hh7 => ?_)
   ·rw [if_pos hh7] at h
    refine WP.sx tysOk rfl ⟨⟨⟩, ⟨⟩⟩ ?_
    cases h
    refine WP.retR tysOk rfl rfl ⟨_, _, rfl, rfl, rfl⟩ (fun w1 hw1 => ⟨rfl, Ret.below_ hw1 (.cons .head .nil)⟩)
   rw [if_neg hh7] at h
   iterate 2 (refine WP.sx tysOk rfl ⟨⟨⟩, ⟨⟩⟩ ?_)
   refine WP.stop rfl (n1, w64 (s2 + 1)) ⟨h, Nat.lt_succ_self _⟩ ?_ ?_
   ·repeat first | exact ⟨⟩ | refine ⟨rfl, ?_⟩
   exact (.cons .head .nil)
  rw [if_neg hh6] at h
  refine WP.sx tysOk rfl ⟨⟨⟩, ⟨⟩⟩ ?_
  cases h
  refine WP.retR tysOk rfl rfl ⟨_, _, rfl, rfl, rfl⟩ (fun w1 hw1 => ⟨rfl, Ret.below_ hw1 (.cons .head .nil)⟩)

set_option maxRecDepth 20000 in
set_option maxHeartbeats 8000000 in
theorem slices_Equal_api_Arc_w {w : World} {v0 : Value} {v1 : Value} {s11 : List Arc} {s21 : List Arc} {r : Bool} (h : slices_Equal_api_Arc s11 s21 = some r) (p1 : SlF fA (PH.of w) v0 s11) (p2 : SlF fA (PH.of w) v1 s21) :
    Calls Tryz.prog 47 #[v0, v1] w fun e w' => e = .returned (.bool (r)) ∧ Below w.heap.size w w' := by
  obtain ⟨A1, c1, rfl, hs1⟩ := p1
  obtain ⟨A2, c2, rfl, hs2⟩ := p2
  unfold slices_Equal_api_Arc at h
  refine enter_ Tryz.func47 rfl Tryz.ntmps47 rfl ?_
  iterate 6 (refine WP.sx tysOk rfl ⟨⟨⟩, ⟨⟩⟩ ?_)
  refine WP.cond_d rfl rfl (fun hh1 => ?_) (fun hh1 => ?_)
  ·rw [if_pos hh1] at h
   refine WP.sx tysOk rfl ⟨⟨⟩, ⟨⟩⟩ ?_
   cases h
   refine WP.retR tysOk rfl rfl ⟨_, _, rfl, rfl, rfl⟩ (fun w1 hw1 => ⟨rfl, Ret.below_ hw1 (.cons .head .nil)⟩)
  rw [if_neg hh1] at h
  iterate 3 (refine WP.sx tysOk rfl ⟨⟨⟩, ⟨⟩⟩ ?_)
  refine WP.loop (α := Nat × Int) (fun x => lp (slices_Equal_api_Arc_b1 s11 s21) x.1 x.2 = some r) (fun x => [(0, .slice A1 s11.length c1), (1, .slice A2 s21.length c2), (12, iv (s11.length : Int)), (13, iv x.2)]) (fun x => [.fz (PH.of w)]) (fun x => x.1) rfl (big, 0) h ?_ ?_ ?_
  ·repeat first | exact ⟨⟩ | refine ⟨rfl, ?_⟩
  ·exact (.cons .head .nil)
  rintro ⟨n1, s2⟩ h
  dsimp only at h ⊢
  rcases n1 with _ | n1
  · exact (lp_no h).elim
  replace h := lp_succ h
  unfold slices_Equal_api_Arc_b1 at h
  try dsimp only at h
  refine WP.sx tysOk rfl ⟨⟨⟩, ⟨⟩⟩ ?_
  refine WP.cond_d rfl rfl (fun hh6 => ?_) (fun hh6 => ?_)
  ·rw [if_pos hh6] at h
   iterate 2 (refine WP.sx tysOk rfl ⟨⟨⟩, ⟨⟩⟩ ?_)
   refine WP.draw rfl (by kernel_rfl) (by kernel_rfl) ?_
   iterate 2 (refine WP.sx tysOk rfl ⟨rfl, ⟨⟩⟩ ?_)
   obtain ⟨hj5, h⟩ := ck_some h
   refine WP.ixA tysOk rfl rfl rfl rfl rfl rfl rfl rfl rfl rfl hj5 (hs1.ex hj5) ?_
   intro b5 b5v hA5
   refine WP.mx_ tysOk rfl rfl (hs1.seg hA5 (Held.mem (List.Mem.head _)) hj5) ?_
   iterate 2 (refine WP.sx tysOk rfl ⟨rfl, ⟨⟩⟩ ?_)
   obtain ⟨hj6, h⟩ := ck_some h
   refine WP.ixA tysOk rfl rfl rfl rfl rfl rfl rfl rfl rfl rfl hj6 (hs2.ex hj6) ?_
   intro b6 b6v hA6
   refine WP.mx_ tysOk rfl rfl (hs2.seg hA6 (Held.mem (List.Mem.head _)) hj6) ?_
   refine WP.neS rfl rfl rfl rfl rfl rfl rfl rfl (by kernel_rfl) (eq31 (gt s11 s2) (gt s21 s2)) ?_
   refine WP.qend rfl ?_
   refine WP.cond_nd rfl rfl (fun hh7 => ?_) (fun hh7 => ?_)
   ·rw [if_neg hh7] at h
    refine WP.sx tysOk rfl ⟨⟨⟩, ⟨⟩⟩ ?_
    cases h
    refine WP.retR tysOk rfl rfl ⟨_, _, rfl, rfl, rfl⟩ (fun w1 hw1 => ⟨rfl, Ret.below_ hw1 (.cons .head .nil)⟩)
   rw [if_pos hh7] at h
   iterate 2 (refine WP.sx tysOk rfl ⟨⟨⟩, ⟨⟩⟩ ?_)
   refine WP.stop rfl (n1, w64 (s2 + 1)) ⟨h, Nat.lt_succ_self _⟩ ?_ ?_
   ·repeat first | exact ⟨⟩ | refine ⟨rfl, ?_⟩
   exact (.cons .head .nil)
  rw [if_neg hh6] at h
  refine WP.sx tysOk rfl ⟨⟨⟩, ⟨⟩⟩ ?_
  cases h
  refine WP.retR tysOk rfl rfl ⟨_, _, rfl, rfl, rfl⟩ (fun w1 hw1 => ⟨rfl, Ret.below_ hw1 (.cons .head .nil)⟩)

set_option maxRecDepth 20000 in
set_option maxHeartbeats 8000000 in
theorem inst_Same_w {w : World} {v0 : Value} {v1 : Value} {a1 : Inst} {b1 : Inst} {r : Bool} (h : inst_Same a1 b1 = some r) (p1 : InsZ (PH.of w) v0 a1) (p2 : InsZ (PH.of w) v1 b1) :
    Calls Tryz.prog 22 #[v0, v1] w fun e w' => e = .returned (.bool (r)) ∧ Below w.heap.size w w' := by
  obtain ⟨A1, c1, A2, c2, rfl, hs1, hs2⟩ := p1
  obtain ⟨A3, c3, A4, c4, rfl, hs3, hs4⟩ := p2
  unfold inst_Same at h
  refine enter_ Tryz.func22 rfl Tryz.ntmps22 rfl ?_
  refine WP.box rfl rfl rfl rfl rfl rfl ?_
  intro g1
  refine WP.box rfl rfl rfl rfl rfl rfl ?_
  intro g2
  iterate 2 (refine WP.sx tysOk rfl ⟨⟨⟩, ⟨⟩⟩ ?_)
  refine WP.lx tysOk rfl ⟨⟩ (CellAt.blk (.tail .head) rfl) ?_
  refine WP.sx tysOk rfl ⟨⟨⟩, ⟨⟩⟩ ?_
  refine WP.lx tysOk rfl ⟨⟩ (CellAt.blk .head rfl) ?_
  obtain ⟨r1, hg1, h⟩ := bind_some h
  refine WP.callV rfl rfl rfl rfl rfl rfl rfl (by kernel_rfl) (fun w1 hw1 => (slices_Equal_int64_w hg1 (hs1.le' ((Held.mem (List.Mem.tail _ (List.Mem.tail _ (List.Mem.head _)))) _ _ hw1)).of (hs3.le' ((Held.mem (List.Mem.tail _ (List.Mem.tail _ (List.Mem.head _)))) _ _ hw1)).of :)) ⟨⟩ ?_
  refine WP.sx tysOk rfl ⟨⟨⟩, ⟨⟩⟩ ?_
  by_cases hh1 : r1 = true
  ·rw [if_pos hh1] at h
   refine WP.yes rfl rfl hh1 ?_
   refine WP.sx tysOk rfl ⟨⟨⟩, ⟨⟩⟩ ?_
   refine WP.yes rfl rfl rfl ?_
   refine WP.lx tysOk rfl ⟨⟩ (CellAt.blk (.tail .head) rfl) ?_
   refine WP.yes rfl rfl rfl ?_
   refine WP.sx tysOk rfl ⟨⟨⟩, ⟨⟩⟩ ?_
   refine WP.yes rfl rfl rfl ?_
   refine WP.lx tysOk rfl ⟨⟩ (CellAt.blk .head rfl) ?_
   refine WP.yes rfl rfl rfl ?_
   obtain ⟨r2, hg2, h⟩ := bind_some h
   refine WP.callV rfl rfl rfl rfl rfl rfl rfl (by kernel_rfl) (fun w1 hw1 => (slices_Equal_api_Arc_w hg2 (hs2.le' ((Held.mem (List.Mem.tail _ (List.Mem.tail _ (List.Mem.head _)))) _ _ hw1)).of (hs4.le' ((Held.mem (List.Mem.tail _ (List.Mem.tail _ (List.Mem.head _)))) _ _ hw1)).of :)) ⟨⟩ ?_
   iterate 2 (refine WP.sx tysOk rfl ⟨⟨⟩, ⟨⟩⟩ ?_)
   cases h
   refine WP.retR tysOk rfl rfl ⟨_, _, rfl, rfl, rfl⟩ (fun w1 hw1 => ⟨rfl, Ret.below_ hw1 (.cons (.tail (.tail .head)) .nil)⟩)
  rw [if_neg hh1] at h
  refine WP.no rfl rfl (bfalse hh1) rfl rfl ?_
  iterate 4 (refine WP.no rfl rfl rfl rfl rfl ?_)
  iterate 2 (refine WP.sx tysOk rfl ⟨⟨⟩, ⟨⟩⟩ ?_)
  cases h
  refine WP.retR tysOk rfl rfl ⟨_, _, rfl, rfl, rfl⟩ (fun w1 hw1 => ⟨rfl, Ret.below_ hw1 (.cons (.tail (.tail .head)) .nil)⟩)

abbrev law09_Flow_S (r : (List Int)) : Value → Heap → Prop := fun v L => ∃ (A1 : Option Addr) (n1 c1 : Nat), v = .slice A1 n1 c1 ∧ OwF A1 n1 r ∧ L = [Ow (fI .i64) 2 A1 n1 c1 r]
set_option maxRecDepth 20000 in
set_option maxHeartbeats 8000000 in
theorem law09_Flow_w {w : World} {v0 : Value} {v1 : Value} {i1 : Inst} {d1 : List Int} {r : (List Int)} (h : law09_Flow i1 d1 = some r) (p1 : InsZ (PH.of w) v0 i1) (p2 : SlF (fI .u8) (PH.of w) v1 d1) :
    Calls Tryz.prog 20 #[v0, v1] w fun e w' => ∃ v L, e = .returned v ∧ law09_Flow_S r v L ∧ Ret w w' L := by
  obtain ⟨A1, c1, A2, c2, rfl, hs1, hs2⟩ := p1
  obtain ⟨A3, c3, rfl, hs3⟩ := p2
  unfold law09_Flow at h
  refine enter_ Tryz.func20 rfl Tryz.ntmps20 rfl ?_
  refine WP.box rfl rfl rfl rfl rfl rfl ?_
  intro g1
  iterate 3 (refine WP.sx tysOk rfl ⟨⟨⟩, ⟨⟩⟩ ?_)
  refine WP.own_nil 2 (fI .i64).z ?_
  refine WP.loop (α := Nat × Int × (List Int) × (Option Addr) × Nat × Nat) (fun x => lp (law09_Flow_b1 i1 d1) x.1 (x.2.1, x.2.2.1) = some r ∧ OwF x.2.2.2.1 x.2.2.2.2.1 x.2.2.1) (fun x => [(1, .slice A3 d1.length c3), (2, .pointer (some ⟨g1, 0, none⟩)), (5, .slice x.2.2.2.1 x.2.2.2.2.1 x.2.2.2.2.2), (6, iv x.2.1)]) (fun x => [Ow (fI .i64) 2 x.2.2.2.1 x.2.2.2.2.1 x.2.2.2.2.2 x.2.2.1, .blk g1 25 [.slice A1 i1.supply.length c1, .slice A2 i1.arcs.length c2], .fz (PH.of w)]) (fun x => x.1) rfl (big, 0, ([] : List Int), none, 0, 0) ⟨h, OwF.nil_⟩ ?_ ?_ ?_
  ·repeat first | exact ⟨⟩ | refine ⟨rfl, ?_⟩
  ·exact (.cons .head (.cons .head (.cons .head .nil)))
  rintro ⟨n1, k3, xs10, A13, m2, c13⟩ ⟨h, hf18⟩
  dsimp only at h hf18 ⊢
  rcases n1 with _ | n1
  · exact (lp_no h).elim
  replace h := lp_succ h
  unfold law09_Flow_b1 at h
  try dsimp only at h
  iterate 2 (refine WP.sx tysOk rfl ⟨⟨⟩, ⟨⟩⟩ ?_)
  refine WP.lx tysOk rfl ⟨⟩ (CellAt.blk (.tail .head) rfl) ?_
  iterate 2 (refine WP.sx tysOk rfl ⟨⟨⟩, ⟨⟩⟩ ?_)
  refine WP.cond_d rfl rfl (fun hh9 => ?_) (fun hh9 => ?_)
  ·rw [if_pos hh9] at h
   refine WP.sx tysOk rfl ⟨⟨⟩, ⟨⟩⟩ ?_
   refine WP.lx tysOk rfl ⟨⟩ (CellAt.blk (.tail .head) rfl) ?_
   refine WP.sx tysOk rfl ⟨⟨⟩, ⟨⟩⟩ ?_
   obtain ⟨hj9, h⟩ := ck_some h
   refine WP.ixA tysOk rfl ⟨⟩ rfl rfl rfl rfl rfl rfl rfl rfl hj9 (hs2.ex hj9) ?_
   intro b9 b9v hA9
   refine WP.mx_ tysOk rfl ⟨⟩ (hs2.seg hA9 (Held.mem (List.Mem.tail _ (List.Mem.tail _ (List.Mem.head _)))) hj9) ?_
   refine WP.al tysOk rfl rfl rfl rfl rfl rfl ?_
   intro g14
   refine WP.sto' tysOk [iv ((gt i1.arcs k3).src), iv ((gt i1.arcs k3).dst), iv ((gt i1.arcs k3).low), iv ((gt i1.arcs k3).cap), iv ((gt i1.arcs k3).cost)] rfl rfl rfl rfl rfl rfl rfl rfl rfl .head rfl rfl ?_
   refine WP.sx tysOk rfl ⟨⟨⟩, ⟨⟩⟩ ?_
   refine WP.lx tysOk rfl ⟨⟩ (CellAt.blk .head rfl) ?_
   iterate 6 (refine WP.sx tysOk rfl ⟨⟨⟩, ⟨⟩⟩ ?_)
   refine WP.cond_d rfl rfl (fun hh10 => ?_) (fun hh10 => ?_)
   ·rw [if_pos hh10] at h
    refine WP.draw rfl (by kernel_rfl) (by kernel_rfl) ?_
    refine WP.sx tysOk rfl ⟨rfl, ⟨⟩⟩ ?_
    refine WP.lx tysOk rfl rfl (CellAt.blk .head rfl) ?_
    iterate 3 (refine WP.sx tysOk rfl ⟨rfl, ⟨⟩⟩ ?_)
    obtain ⟨hj10, h⟩ := ck_some h
    refine WP.ixA tysOk rfl rfl rfl rfl rfl rfl rfl rfl rfl rfl hj10 (hs3.ex hj10) ?_
    intro b10 b10v hA10
    refine WP.lx tysOk rfl rfl (hs3.at0 hA10 (Held.mem (List.Mem.tail _ (List.Mem.tail _ (List.Mem.tail _ (List.Mem.head _))))) hj10 rfl) ?_
    refine WP.sx tysOk rfl ⟨rfl, (by decide)⟩ ?_
    iterate 3 (refine WP.sx tysOk rfl ⟨rfl, ⟨⟩⟩ ?_)
    refine WP.lx tysOk rfl rfl (CellAt.blk .head rfl) ?_
    refine WP.mn rfl rfl rfl rfl rfl rfl rfl rfl ?_
    refine WP.sx tysOk rfl ⟨rfl, ⟨⟩⟩ ?_
    refine WP.qend rfl ?_
    iterate 2 (refine WP.sx tysOk rfl ⟨⟨⟩, ⟨⟩⟩ ?_)
    refine WP.bsO (f := (fI .i64)) [if ((gt i1.arcs k3).cap) < (w64 (((gt i1.arcs k3).low) + (w64 ((gt d1 (w64 (k3 + 1))).tmod 4)))) then (gt i1.arcs k3).cap else w64 (((gt i1.arcs k3).low) + (w64 ((gt d1 (w64 (k3 + 1))).tmod 4)))] tysOk rfl rfl rfl rfl rfl rfl rfl rfl rfl rfl rfl rfl rfl rfl ?_
    intro g15 hf19
    obtain ⟨hl9, h⟩ := ck_some h
    obtain ⟨xs11, hz9, h⟩ := lt_some h
    refine WP.appO (f := (fI .i64)) (xs := xs10) (ys := [if ((gt i1.arcs k3).cap) < (w64 (((gt i1.arcs k3).low) + (w64 ((gt d1 (w64 (k3 + 1))).tmod 4)))) then (gt i1.arcs k3).cap else w64 (((gt i1.arcs k3).low) + (w64 ((gt d1 (w64 (k3 + 1))).tmod 4)))]) tysOk rfl rfl rfl rfl rfl rfl rfl rfl rfl rfl rfl rfl (.tail (.tail .head)) hf18 hf19.len (OwS.app .head hf19) hl9 hz9 ?_
    intro A14 c14 hf20
    iterate 4 (refine WP.sx tysOk rfl ⟨⟨⟩, ⟨⟩⟩ ?_)
    refine WP.stop rfl (n1, w64 (k3 + 1), xs11, A14, xs11.length, c14) ⟨⟨h, hf20⟩, Nat.lt_succ_self _⟩ ?_ ?_
    ·repeat first | exact ⟨⟩ | refine ⟨rfl, ?_⟩
    exact (.cons .head (.cons (.tail (.tail .head)) (.cons (.tail (.tail .head)) .nil)))
   rw [if_neg hh10] at h
   iterate 2 (refine WP.sx tysOk rfl ⟨⟨⟩, ⟨⟩⟩ ?_)
   refine WP.bsO (f := (fI .i64)) [(gt i1.arcs k3).low] tysOk rfl rfl rfl rfl rfl rfl rfl rfl rfl rfl rfl rfl rfl rfl ?_
   intro g16 hf21
   obtain ⟨hl10, h⟩ := ck_some h
   obtain ⟨xs12, hz10, h⟩ := lt_some h
   refine WP.appO (f := (fI .i64)) (xs := xs10) (ys := [(gt i1.arcs k3).low]) tysOk rfl rfl rfl rfl rfl rfl rfl rfl rfl rfl rfl rfl (.tail (.tail .head)) hf18 hf21.len (OwS.app .head hf21) hl10 hz10 ?_
   intro A15 c15 hf22
   iterate 4 (refine WP.sx tysOk rfl ⟨⟨⟩, ⟨⟩⟩ ?_)
   refine WP.stop rfl (n1, w64 (k3 + 1), xs12, A15, xs12.length, c15) ⟨⟨h, hf22⟩, Nat.lt_succ_self _⟩ ?_ ?_
   ·repeat first | exact ⟨⟩ | refine ⟨rfl, ?_⟩
   exact (.cons .head (.cons (.tail (.tail .head)) (.cons (.tail (.tail .head)) .nil)))
  rw [if_neg hh9] at h
  iterate 2 (refine WP.sx tysOk rfl ⟨⟨⟩, ⟨⟩⟩ ?_)
  cases h
  refine WP.retR tysOk rfl rfl ⟨_, _, rfl, rfl, rfl⟩ (fun w1 hw1 => ⟨_, _, rfl, ⟨A13, m2, c13, rfl, hf18, rfl⟩, Ret.of_KH hw1 (.cons .head (.cons (.tail .head) .nil))⟩)

set_option maxRecDepth 20000 in
set_option maxHeartbeats 8000000 in
theorem flow_fits_w {w : World} {a1 : Arc} {n1 : Int} {r : Bool} (h : flow_fits a1 n1 = some r) :
    Calls Tryz.prog 52 #[.agg #[iv a1.src, iv a1.dst, iv a1.low, iv a1.cap, iv a1.cost], iv n1] w fun e w' => e = .returned (.bool (r)) ∧ Below w.heap.size w w' := by
  unfold flow_fits at h
  refine enter_ Tryz.func52 rfl Tryz.ntmps52 rfl ?_
  refine WP.box rfl rfl rfl rfl rfl rfl ?_
  intro g1
  iterate 3 (refine WP.sx tysOk rfl ⟨⟨⟩, ⟨⟩⟩ ?_)
  refine WP.lx tysOk rfl ⟨⟩ (CellAt.blk .head rfl) ?_
  iterate 2 (refine WP.sx tysOk rfl ⟨⟨⟩, ⟨⟩⟩ ?_)
  by_cases hh1 : a1.low ≤ n1
  ·rw [if_pos hh1] at h
   refine WP.yes rfl rfl (decide_eq_true hh1) ?_
   refine WP.sx tysOk rfl ⟨⟨⟩, ⟨⟩⟩ ?_
   refine WP.yes rfl rfl rfl ?_
   refine WP.lx tysOk rfl ⟨⟩ (CellAt.blk .head rfl) ?_
   iterate 2 (refine WP.yes rfl rfl rfl ?_; refine WP.sx tysOk rfl ⟨⟨⟩, ⟨⟩⟩ ?_)
   by_cases hh2 : a1.cap = 4611686018427387904
   ·rw [if_pos hh2] at h
    refine WP.no rfl rfl (decide_eq_true hh2) rfl rfl ?_
    iterate 3 (refine WP.no rfl rfl rfl rfl rfl ?_)
    refine WP.yes rfl rfl rfl ?_
    iterate 3 (refine WP.sx tysOk rfl ⟨⟨⟩, ⟨⟩⟩ ?_)
    cases h
    refine WP.retR tysOk rfl rfl ⟨_, _, rfl, rfl, rfl⟩ (fun w1 hw1 => ⟨rfl, Ret.below_ hw1 (.cons (.tail .head) .nil)⟩)
   rw [if_neg hh2] at h
   refine WP.yes rfl rfl (decide_eq_false hh2) ?_
   iterate 2 (refine WP.sx tysOk rfl ⟨⟨⟩, ⟨⟩⟩ ?_; refine WP.yes rfl rfl rfl ?_)
   refine WP.lx tysOk rfl ⟨⟩ (CellAt.blk .head rfl) ?_
   refine WP.yes rfl rfl rfl ?_
   refine WP.sx tysOk rfl ⟨⟨⟩, ⟨⟩⟩ ?_
   refine WP.yes rfl rfl rfl ?_
   iterate 3 (refine WP.sx tysOk rfl ⟨⟨⟩, ⟨⟩⟩ ?_)
   cases h
   refine WP.retR tysOk rfl rfl ⟨_, _, rfl, rfl, rfl⟩ (fun w1 hw1 => ⟨rfl, Ret.below_ hw1 (.cons (.tail .head) .nil)⟩)
  rw [if_neg hh1] at h
  refine WP.no rfl rfl (decide_eq_false hh1) rfl rfl ?_
  iterate 3 (refine WP.no rfl rfl rfl rfl rfl ?_)
  iterate 4 (refine WP.noU rfl rfl rfl rfl ?_)
  refine WP.no rfl rfl rfl rfl rfl ?_
  iterate 2 (refine WP.sx tysOk rfl ⟨⟨⟩, ⟨⟩⟩ ?_)
  cases h
  refine WP.retR tysOk rfl rfl ⟨_, _, rfl, rfl, rfl⟩ (fun w1 hw1 => ⟨rfl, Ret.below_ hw1 (.cons (.tail .head) .nil)⟩)

set_option maxRecDepth 20000 in
set_option maxHeartbeats 8000000 in
theorem flow_at_w {w : World} {v0 : Value} {x1 : List Int} {a1 : Int} {r : Int} (h : flow_at x1 a1 = some r) (p1 : SlF (fI .i64) (PH.of w) v0 x1) :
    Calls Tryz.prog 49 #[v0, iv a1] w fun e w' => e = .returned (iv r) ∧ Below w.heap.size w w' := by
  obtain ⟨A1, c1, rfl, hs1⟩ := p1
  unfold flow_at at h
  refine enter_ Tryz.func49 rfl Tryz.ntmps49 rfl ?_
  iterate 4 (refine WP.sx tysOk rfl ⟨⟨⟩, ⟨⟩⟩ ?_)
  by_cases hh1 : a1 < 0
  ·rw [if_pos hh1] at h
   refine WP.no rfl rfl (decide_eq_true hh1) rfl rfl ?_
   iterate 3 (refine WP.no rfl rfl rfl rfl rfl ?_)
   refine WP.sx tysOk rfl ⟨⟨⟩, ⟨⟩⟩ ?_
   refine WP.condT rfl rfl ?_
   refine WP.sx tysOk rfl ⟨⟨⟩, ⟨⟩⟩ ?_
   cases h
   refine WP.retR tysOk rfl rfl ⟨_, _, rfl, rfl, rfl⟩ (fun w1 hw1 => ⟨rfl, Ret.below_ hw1 (.cons .head .nil)⟩)
  rw [if_neg hh1] at h
  refine WP.yes rfl rfl (decide_eq_false hh1) ?_
  iterate 3 (refine WP.sx tysOk rfl ⟨⟨⟩, ⟨⟩⟩ ?_; refine WP.yes rfl rfl rfl ?_)
  iterate 2 (refine WP.sx tysOk rfl ⟨⟨⟩, ⟨⟩⟩ ?_)
  refine WP.cond_d rfl rfl (fun hh2 => ?_) (fun hh2 => ?_)
  ·rw [if_pos hh2] at h
   refine WP.sx tysOk rfl ⟨⟨⟩, ⟨⟩⟩ ?_
   cases h
   refine WP.retR tysOk rfl rfl ⟨_, _, rfl, rfl, rfl⟩ (fun w1 hw1 => ⟨rfl, Ret.below_ hw1 (.cons .head .nil)⟩)
  rw [if_neg hh2] at h
  iterate 2 (refine WP.sx tysOk rfl ⟨⟨⟩, ⟨⟩⟩ ?_)
  obtain ⟨hj1, h⟩ := ck_some h
  refine WP.ixA tysOk rfl ⟨⟩ rfl rfl rfl rfl rfl rfl rfl rfl hj1 (hs1.ex hj1) ?_
  intro b1 b1v hA1
  refine WP.lx tysOk rfl ⟨⟩ (hs1.at0 hA1 (Held.mem (List.Mem.head _)) hj1 rfl) ?_
  refine WP.sx tysOk rfl ⟨⟨⟩, ⟨⟩⟩ ?_
  cases h
  refine WP.retR tysOk rfl rfl ⟨_, _, rfl, rfl, rfl⟩ (fun w1 hw1 => ⟨rfl, Ret.below_ hw1 (.cons .head .nil)⟩)

set_option maxRecDepth 20000 in
set_option maxHeartbeats 8000000 in
theorem num_Plus_w {w : World} {a1 : Wide} {b1 : Wide} {r : Wide} (h : num_Plus a1 b1 = some r) :
    Calls Tryz.prog 24 #[.agg #[iv a1.hi, .int .u64 (a1.lo)], .agg #[iv b1.hi, .int .u64 (b1.lo)]] w fun e w' => e = .returned (.agg #[iv r.hi, .int .u64 (r.lo)]) ∧ Below w.heap.size w w' := by
  unfold num_Plus at h
  refine enter_ Tryz.func24 rfl Tryz.ntmps24 rfl ?_
  refine WP.box rfl rfl rfl rfl rfl rfl ?_
  intro g1
  refine WP.box rfl rfl rfl rfl rfl rfl ?_
  intro g2
  refine WP.al tysOk rfl rfl rfl rfl rfl rfl ?_
  intro g3
  refine WP.sx tysOk rfl ⟨⟨⟩, ⟨⟩⟩ ?_
  refine WP.lx tysOk rfl ⟨⟩ (CellAt.blk (.tail (.tail .head)) rfl) ?_
  refine WP.sx tysOk rfl ⟨⟨⟩, ⟨⟩⟩ ?_
  refine WP.lx tysOk rfl ⟨⟩ (CellAt.blk (.tail .head) rfl) ?_
  refine WP.ext rfl ⟨⟩ rfl rfl rfl rfl rfl rfl (fun w => add64_w _ _ _ (by decide) w) ?_
  iterate 6 (refine WP.sx tysOk rfl ⟨⟨⟩, ⟨⟩⟩ ?_)
  refine WP.lx tysOk rfl ⟨⟩ (CellAt.blk (.tail (.tail .head)) rfl) ?_
  iterate 2 (refine WP.sx tysOk rfl ⟨⟨⟩, ⟨⟩⟩ ?_)
  refine WP.lx tysOk rfl ⟨⟩ (CellAt.blk (.tail .head) rfl) ?_
  iterate 2 (refine WP.sx tysOk rfl ⟨⟨⟩, ⟨⟩⟩ ?_)
  obtain ⟨hc1, h⟩ := ck_some h
  refine WP.ext rfl ⟨⟩ rfl rfl rfl rfl rfl rfl (fun w => add64_w _ _ _ hc1 w) ?_
  iterate 3 (refine WP.sx tysOk rfl ⟨⟨⟩, ⟨⟩⟩ ?_)
  obtain ⟨hi1, hx1, h⟩ := lt_some h
  refine WP.sx tysOk rfl ⟨⟨⟩, ⟨⟩⟩ ?_
  refine WP.retell (s := 7) (.int .u64 hi1) rfl (congrArg (Value.int .u64) hx1.symm) ?_
  obtain ⟨_1, hx2, h⟩ := lt_some h
  refine WP.sx tysOk rfl ⟨⟨⟩, ⟨⟩⟩ ?_
  refine WP.retell (s := 8) (.int .u64 _1) rfl (congrArg (Value.int .u64) hx2.symm) ?_
  iterate 3 (refine WP.sx tysOk rfl ⟨⟨⟩, ⟨⟩⟩ ?_)
  refine WP.bld (cs := [iv (w64 (hi1)), .int .u64 ((add64 a1.lo b1.lo 0).1)]) tysOk rfl ⟨⟩ rfl rfl rfl rfl rfl rfl rfl ?_
  refine WP.sto' tysOk [iv (w64 (hi1)), .int .u64 ((add64 a1.lo b1.lo 0).1)] rfl rfl rfl rfl rfl rfl rfl rfl rfl .head rfl rfl ?_
  cases h
  refine WP.retR tysOk rfl rfl ⟨_, _, _, _, rfl, ⟨_, rfl, .inr ⟨rfl, _, rfl, rfl, (SegAt.blk' (z := 2) .head rfl).1⟩⟩, rfl, rfl⟩ (fun w1 hw1 => ⟨rfl, Ret.below_ hw1 (.cons (.tail (.tail (.tail .head))) .nil)⟩)

abbrev flow_sums_add_S (A1 : Option Addr) (m1 c1 : Nat) (r : (List Wide)) : Value → Heap → Prop := fun v L => v = .tuple #[] ∧ OwF A1 m1 r ∧ L = [Ow fW 38 A1 m1 c1 r]
set_option maxRecDepth 20000 in
set_option maxHeartbeats 8000000 in
theorem flow_sums_add_w {w0 w : World} {F : Heap} {Z : PH} (hZ : Held F Z) {A1 : Option Addr} {m1 c1 : Nat} {s1 : List Wide} {n1 : Int} {w1 : Wide} {r : (List Wide)} (h : flow_sums_add s1 n1 w1 = some r) (hf1 : OwF A1 m1 s1) (hw : KH w0 (Ow fW 38 A1 m1 c1 s1 :: F) w) :
    Calls Tryz.prog 108 #[.slice A1 m1 c1, iv n1, .agg #[iv w1.hi, .int .u64 (w1.lo)]] w fun e w' => ∃ v L, e = .returned v ∧ flow_sums_add_S A1 m1 c1 r v L ∧ KH w0 (L ++ F) w' := by
  unfold flow_sums_add at h
  refine enterH Tryz.func108 rfl Tryz.ntmps108 rfl hw ?_
  refine WP.box rfl rfl rfl rfl rfl rfl ?_
  intro g1
  obtain ⟨hj1, h⟩ := ck_some h
  obtain ⟨r1, hg1, h⟩ := bind_some h
  refine WP.drawL 9 [(7, [], fun _ => constSpec (.agg #[iv r1.hi, .int .u64 (r1.lo)]))] rfl (by kernel_rfl) (by kernel_rfl) (by kernel_rfl) ?_
  iterate 4 (refine WP.sx tysOk rfl ⟨⟨⟨rfl, rfl⟩, rfl⟩, ⟨⟩⟩ ?_)
  refine WP.ixO tysOk rfl ⟨⟨rfl, rfl⟩, rfl⟩ rfl rfl rfl rfl rfl rfl rfl rfl hf1 hj1 ?_
  intro b1 hA1
  refine WP.mx_ tysOk rfl ⟨⟨rfl, rfl⟩, rfl⟩ (OwS.seg (.tail .head) hA1 hj1) ?_
  refine WP.mx_ tysOk rfl ⟨⟨rfl, rfl⟩, rfl⟩ (SegAt.blk' .head rfl) ?_
  refine WP.callV rfl rfl rfl rfl rfl rfl rfl (by kernel_rfl) (fun w1 hw1 => (num_Plus_w hg1  :)) ⟨⟨rfl, rfl⟩, rfl⟩ ?_
  refine WP.ixO tysOk rfl ⟨⟨rfl, rfl⟩, rfl⟩ rfl rfl rfl rfl rfl rfl rfl rfl hf1 hj1 ?_
  intro b2 hA2
  refine WP.lend rfl ⟨rfl, rfl⟩ ?_
  obtain ⟨s2, hx1, h⟩ := lt_some h
  refine WP.stoO (f := fW) 0 r1 tysOk rfl rfl rfl rfl rfl rfl rfl rfl rfl (.tail .head) hA2 hf1 hj1 rfl rfl rfl hx1 ?_
  intro hf2
  cases h
  refine WP.end0 rfl rfl (fun w1 hw1 => ⟨_, _, rfl, ⟨rfl, hf2, rfl⟩, hw1.pick (.cons .head (Pick.skip Pick.self))⟩)

set_option maxRecDepth 20000 in
set_option maxHeartbeats 8000000 in
theorem num_Minus_w {w : World} {a1 : Wide} {b1 : Wide} {r : Wide} (h : num_Minus a1 b1 = some r) :
    Calls Tryz.prog 18 #[.agg #[iv a1.hi, .int .u64 (a1.lo)], .agg #[iv b1.hi, .int .u64 (b1.lo)]] w fun e w' => e = .returned (.agg #[iv r.hi, .int .u64 (r.lo)]) ∧ Below w.heap.size w w' := by
  unfold num_Minus at h
  refine enter_ Tryz.func18 rfl Tryz.ntmps18 rfl ?_
  refine WP.box rfl rfl rfl rfl rfl rfl ?_
  intro g1
  refine WP.box rfl rfl rfl rfl rfl rfl ?_
  intro g2
  refine WP.al tysOk rfl rfl rfl rfl rfl rfl ?_
  intro g3
  refine WP.sx tysOk rfl ⟨⟨⟩, ⟨⟩⟩ ?_
  refine WP.lx tysOk rfl ⟨⟩ (CellAt.blk (.tail (.tail .head)) rfl) ?_
  refine WP.sx tysOk rfl ⟨⟨⟩, ⟨⟩⟩ ?_
  refine WP.lx tysOk rfl ⟨⟩ (CellAt.blk (.tail .head) rfl) ?_
  refine WP.ext rfl ⟨⟩ rfl rfl rfl rfl rfl rfl (fun w => sub64_w _ _ _ (by decide) w) ?_
  iterate 6 (refine WP.sx tysOk rfl ⟨⟨⟩, ⟨⟩⟩ ?_)
  refine WP.lx tysOk rfl ⟨⟩ (CellAt.blk (.tail (.tail .head)) rfl) ?_
  iterate 2 (refine WP.sx tysOk rfl ⟨⟨⟩, ⟨⟩⟩ ?_)
  refine WP.lx tysOk rfl ⟨⟩ (CellAt.blk (.tail .head) rfl) ?_
  iterate 2 (refine WP.sx tysOk rfl ⟨⟨⟩, ⟨⟩⟩ ?_)
  obtain ⟨hc1, h⟩ := ck_some h
  refine WP.ext rfl ⟨⟩ rfl rfl rfl rfl rfl rfl (fun w => sub64_w _ _ _ hc1 w) ?_
  iterate 3 (refine WP.sx tysOk rfl ⟨⟨⟩, ⟨⟩⟩ ?_)
  obtain ⟨hi1, hx1, h⟩ := lt_some h
  refine WP.sx tysOk rfl ⟨⟨⟩, ⟨⟩⟩ ?_
  refine WP.retell (s := 7) (.int .u64 hi1) rfl (congrArg (Value.int .u64) hx1.symm) ?_
  obtain ⟨_1, hx2, h⟩ := lt_some h
  refine WP.sx tysOk rfl ⟨⟨⟩, ⟨⟩⟩ ?_
  refine WP.retell (s := 8) (.int .u64 _1) rfl (congrArg (Value.int .u64) hx2.symm) ?_
  iterate 3 (refine WP.sx tysOk rfl ⟨⟨⟩, ⟨⟩⟩ ?_)
  refine WP.bld (cs := [iv (w64 (hi1)), .int .u64 ((sub64 a1.lo b1.lo 0).1)]) tysOk rfl ⟨⟩ rfl rfl rfl rfl rfl rfl rfl ?_
  refine WP.sto' tysOk [iv (w64 (hi1)), .int .u64 ((sub64 a1.lo b1.lo 0).1)] rfl rfl rfl rfl rfl rfl rfl rfl rfl .head rfl rfl ?_
  cases h
  refine WP.retR tysOk rfl rfl ⟨_, _, _, _, rfl, ⟨_, rfl, .inr ⟨rfl, _, rfl, rfl, (SegAt.blk' (z := 2) .head rfl).1⟩⟩, rfl, rfl⟩ (fun w1 hw1 => ⟨rfl, Ret.below_ hw1 (.cons (.tail (.tail (.tail .head))) .nil)⟩)

abbrev flow_book_put_S (A1 : Option Addr) (m1 c1 : Nat) (r : (List Wide)) : Value → Heap → Prop := fun v L => v = .tuple #[] ∧ OwF A1 m1 r ∧ L = [Ow fW 38 A1 m1 c1 r]
set_option maxRecDepth 20000 in
set_option maxHeartbeats 8000000 in
theorem flow_book_put_w {w0 w : World} {F : Heap} {Z : PH} (hZ : Held F Z) {A1 : Option Addr} {m1 c1 : Nat} {v0 : Value} {x1 : List Wide} {x2 : Inst} {a1 : Int} {n1 : Int} {r : (List Wide)} (h : flow_book_put x1 x2 a1 n1 = some r) (hf1 : OwF A1 m1 x1) (p1 : GraphZ Z v0 x2) (hw : KH w0 (Ow fW 38 A1 m1 c1 x1 :: F) w) :
    Calls Tryz.prog 82 #[.agg #[.slice A1 m1 c1, v0], iv a1, iv n1] w fun e w' => ∃ v L, e = .returned v ∧ flow_book_put_S A1 m1 c1 r v L ∧ KH w0 (L ++ F) w' := by
  obtain ⟨gg1, rfl⟩ := p1.ptr'
  unfold flow_book_put at h
  refine enterH Tryz.func82 rfl Tryz.ntmps82 rfl hw ?_
  refine WP.box rfl rfl rfl rfl rfl rfl ?_
  intro g1
  refine WP.sx tysOk rfl ⟨⟨⟩, ⟨⟩⟩ ?_
  refine WP.lx tysOk rfl ⟨⟩ (CellAt.blk .head rfl) ?_
  refine WP.sx tysOk rfl ⟨⟨⟩, ⟨⟩⟩ ?_
  obtain ⟨r1, hg1, h⟩ := bind_some h
  refine WP.callV rfl rfl rfl rfl rfl rfl rfl (by kernel_rfl) (fun w1 hw1 => (adj_Graph_Arc_w hg1 (p1.le ((Held.cons (Held.cons hZ)) _ _ hw1)) :)) ⟨⟩ ?_
  iterate 3 (refine WP.sx tysOk rfl ⟨⟨⟩, ⟨⟩⟩ ?_)
  refine WP.al tysOk rfl rfl rfl rfl rfl rfl ?_
  intro g2
  refine WP.sto' tysOk [iv r1.1.src, iv r1.1.dst, iv r1.1.low, iv r1.1.cap, iv r1.1.cost] rfl rfl rfl rfl rfl rfl rfl rfl rfl .head rfl rfl ?_
  iterate 2 (refine WP.sx tysOk rfl ⟨⟨⟩, ⟨⟩⟩ ?_)
  refine WP.cond rfl rfl (fun hh1 => ?_) (fun hh1 => ?_)
  ·rw [if_pos hh1] at h
   obtain ⟨r2, hg2, h⟩ := bind_some h
   refine WP.drawL 6 [(5, [], fun _ => constSpec (.agg #[iv r2.hi, .int .u64 (r2.lo)]))] rfl (by kernel_rfl) (by kernel_rfl) (by kernel_rfl) ?_
   refine WP.sx tysOk rfl ⟨⟨⟨rfl, rfl⟩, rfl⟩, ⟨⟩⟩ ?_
   refine WP.lx tysOk rfl ⟨⟨rfl, rfl⟩, rfl⟩ (CellAt.blk (.tail .head) rfl) ?_
   refine WP.sx tysOk rfl ⟨⟨⟨rfl, rfl⟩, rfl⟩, ⟨⟩⟩ ?_
   refine WP.lx tysOk rfl ⟨⟨rfl, rfl⟩, rfl⟩ (CellAt.blk .head rfl) ?_
   refine WP.sx tysOk rfl ⟨⟨⟨rfl, rfl⟩, rfl⟩, ⟨⟩⟩ ?_
   refine WP.callV rfl rfl rfl rfl rfl rfl rfl (by kernel_rfl) (fun w1 hw1 => (num_Of_w hg2  :)) ⟨⟨rfl, rfl⟩, rfl⟩ ?_
   refine WP.lend rfl ⟨rfl, rfl⟩ ?_
   obtain ⟨r3, hg3, h⟩ := bind_some h
   refine WP.callT (.blk g2 31 [iv r1.1.src, iv r1.1.dst, iv r1.1.low, iv r1.1.cap, iv r1.1.cost] :: .blk g1 127 [.slice A1 m1 c1, .pointer (some ⟨gg1, 0, none⟩)] :: F) (flow_sums_add_S A1 m1 c1 r3) rfl rfl rfl rfl rfl rfl rfl (by kernel_rfl) (fun w1 hw1 => (flow_sums_add_w (F := (.blk g2 31 [iv r1.1.src, iv r1.1.dst, iv r1.1.low, iv r1.1.cap, iv r1.1.cost] :: .blk g1 127 [.slice A1 m1 c1, .pointer (some ⟨gg1, 0, none⟩)] :: F)) Held.none_ hg3 hf1 (hw1.pick (.cons (.tail (.tail .head)) (.cons .head (.cons .head Pick.self)))) :)) ?_
   rintro _ _ ⟨rfl, hf2, rfl⟩
   obtain ⟨r4, hg4, h⟩ := bind_some h
   obtain ⟨r5, hg5, h⟩ := bind_some h
   refine WP.drawL 8 [(6, [], fun _ => constSpec (.agg #[iv r4.hi, .int .u64 (r4.lo)])), (7, [], fun _ => constSpec (.agg #[iv r5.hi, .int .u64 (r5.lo)]))] rfl (by kernel_rfl) (by kernel_rfl) (by kernel_rfl) ?_
   refine WP.sx tysOk rfl ⟨⟨⟨rfl, rfl⟩, rfl⟩, ⟨⟩⟩ ?_
   refine WP.lx tysOk rfl ⟨⟨rfl, rfl⟩, rfl⟩ (CellAt.blk (.tail (.tail .head)) rfl) ?_
   refine WP.sx tysOk rfl ⟨⟨⟨rfl, rfl⟩, rfl⟩, ⟨⟩⟩ ?_
   refine WP.lx tysOk rfl ⟨⟨rfl, rfl⟩, rfl⟩ (CellAt.blk (.tail .head) rfl) ?_
   refine WP.bld (cs := [iv 0, .int .u64 (0)]) tysOk rfl ⟨⟨rfl, rfl⟩, rfl⟩ rfl rfl rfl rfl rfl rfl rfl ?_
   refine WP.sx tysOk rfl ⟨⟨⟨rfl, rfl⟩, rfl⟩, ⟨⟩⟩ ?_
   refine WP.callV rfl rfl rfl rfl rfl rfl rfl (by kernel_rfl) (fun w1 hw1 => (num_Of_w hg4  :)) ⟨⟨rfl, rfl⟩, rfl⟩ ?_
   refine WP.callV rfl rfl rfl rfl rfl rfl rfl (by kernel_rfl) (fun w1 hw1 => (num_Minus_w hg5  :)) ⟨⟨rfl, rfl⟩, rfl⟩ ?_
   refine WP.lend rfl ⟨rfl, rfl⟩ ?_
   obtain ⟨r6, hg6, h⟩ := bind_some h
   refine WP.callT (.blk g2 31 [iv r1.1.src, iv r1.1.dst, iv r1.1.low, iv r1.1.cap, iv r1.1.cost] :: .blk g1 127 [.slice A1 m1 c1, .pointer (some ⟨gg1, 0, none⟩)] :: F) (flow_sums_add_S A1 m1 c1 r6) rfl rfl rfl rfl rfl rfl rfl (by kernel_rfl) (fun w1 hw1 => (flow_sums_add_w (F := (.blk g2 31 [iv r1.1.src, iv r1.1.dst, iv r1.1.low, iv r1.1.cap, iv r1.1.cost] :: .blk g1 127 [.slice A1 m1 c1, .pointer (some ⟨gg1, 0, none⟩)] :: F)) Held.none_ hg6 hf2 (hw1.pick (.cons .head (.cons .head (.cons .head Pick.self)))) :)) ?_
   rintro _ _ ⟨rfl, hf3, rfl⟩
   cases h
   refine WP.end0 rfl rfl (fun w1 hw1 => ⟨_, _, rfl, ⟨rfl, hf3, rfl⟩, hw1.pick (.cons .head (Pick.skip (Pick.skip Pick.self)))⟩)
  rw [if_neg (bneg hh1)] at h
  cases h
  refine WP.end0 rfl rfl (fun w1 hw1 => ⟨_, _, rfl, ⟨rfl, hf1, rfl⟩, hw1.pick (.cons (.tail (.tail .head)) (Pick.skip (Pick.skip Pick.self)))⟩)

abbrev flow_Net_S (r : (List Wide)) : Value → Heap → Prop := fun v L => ∃ (A1 : Option Addr) (n1 c1 : Nat), v = .slice A1 n1 c1 ∧ OwF A1 n1 r ∧ L = [Ow fW 38 A1 n1 c1 r]
set_option maxRecDepth 20000 in
set_option maxHeartbeats 8000000 in
theorem flow_Net_w {w : World} {v0 : Value} {v1 : Value} {i1 : Inst} {x1 : List Int} {r : (List Wide)} (h : flow_Net i1 x1 = some r) (p1 : InsZ (PH.of w) v0 i1) (p2 : SlF (fI .i64) (PH.of w) v1 x1) :
    Calls Tryz.prog 53 #[v0, v1] w fun e w' => ∃ v L, e = .returned v ∧ flow_Net_S r v L ∧ Ret w w' L := by
  obtain ⟨A1, c1, A2, c2, rfl, hs1, hs2⟩ := p1
  obtain ⟨A3, c3, rfl, hs3⟩ := p2
  unfold flow_Net at h
  refine enter_ Tryz.func53 rfl Tryz.ntmps53 rfl ?_
  refine WP.box rfl rfl rfl rfl rfl rfl ?_
  intro g1
  refine WP.sx tysOk rfl ⟨⟨⟩, ⟨⟩⟩ ?_
  obtain ⟨hm1, h⟩ := ck_some h
  obtain ⟨r1, hg1, h⟩ := bind_some h
  refine WP.drawL 8 [(3, [], fun _ => mkSpecZ 38 (i1.supply.length : Int).toNat [iv 0, .int .u64 (0)]), (5, [], fun _ => adj_New_S r1), (7, [], fun _ => blkSpec 127 [.slice none 0 0, .pointer none])] rfl (by kernel_rfl) (by kernel_rfl) (by kernel_rfl) ?_
  refine WP.sx tysOk rfl ⟨⟨⟨rfl, rfl⟩, rfl⟩, ⟨⟩⟩ ?_
  refine WP.lx tysOk rfl ⟨⟨rfl, rfl⟩, rfl⟩ (CellAt.blk .head rfl) ?_
  refine WP.sx tysOk rfl ⟨⟨⟨rfl, rfl⟩, rfl⟩, ⟨⟩⟩ ?_
  refine WP.lmZ [iv 0, .int .u64 (0)] tysOk rfl ⟨rfl, rfl⟩ rfl rfl rfl rfl rfl rfl rfl rfl rfl rfl rfl rfl hm1 ?_
  intro g2
  refine WP.mx_ tysOk rfl ⟨⟨rfl, rfl⟩, rfl⟩ (SegAt.blk' .head rfl) ?_
  refine WP.lcall rfl ⟨rfl, rfl⟩ rfl rfl rfl rfl rfl rfl rfl (by kernel_rfl) (fun w1 hw1 => (adj_New_w hg1 (InsZ.mk_ ((hs1.le' ((Held.mem (List.Mem.tail _ (List.Mem.head _))) _ _ hw1)).of) ((hs2.le' ((Held.mem (List.Mem.tail _ (List.Mem.head _))) _ _ hw1)).of)) :)) ?_
  rintro vg1 _ ⟨Zn1, hgr1, rfl⟩
  obtain ⟨gg1, rfl⟩ := hgr1.ptr'
  refine WP.bld (cs := [.slice (some ⟨g2, 0, none⟩) ((i1.supply.length : Int).toNat) ((i1.supply.length : Int).toNat), .pointer (some ⟨gg1, 0, none⟩)]) tysOk rfl ⟨⟨rfl, rfl⟩, rfl⟩ rfl rfl rfl rfl rfl rfl rfl ?_
  refine WP.lal tysOk rfl ⟨rfl, rfl⟩ rfl rfl rfl rfl rfl rfl rfl ?_
  intro g3
  refine WP.lend rfl ⟨rfl, rfl⟩ ?_
  refine WP.shutZ (f := fW) (Wide.mk 0 0) (.tail (.tail .head)) hm1 ?_
  intro hf1
  refine WP.sto' tysOk [.slice (some ⟨g2, 0, none⟩) ((i1.supply.length : Int).toNat) ((i1.supply.length : Int).toNat), .pointer (some ⟨gg1, 0, none⟩)] rfl rfl rfl rfl rfl rfl rfl rfl rfl (.tail .head) rfl rfl ?_
  refine WP.sx tysOk rfl ⟨⟨⟩, ⟨⟩⟩ ?_
  refine WP.lx tysOk rfl ⟨⟩ (CellAt.blk (.tail (.tail (.tail .head))) rfl) ?_
  iterate 2 (refine WP.sx tysOk rfl ⟨⟨⟩, ⟨⟩⟩ ?_)
  refine WP.loop (α := Nat × Int × (List Wide) × (Option Addr) × Nat × Nat) (fun x => lp (flow_Net_b1 i1 x1 r1) x.1 (x.2.1, x.2.2.1) = some r ∧ OwF x.2.2.2.1 x.2.2.2.2.1 x.2.2.1) (fun x => [(1, .slice A3 x1.length c3), (5, .pointer (some ⟨g3, 0, none⟩)), (16, iv (i1.arcs.length : Int)), (17, iv x.2.1)]) (fun x => [.blk g3 127 [.slice x.2.2.2.1 x.2.2.2.2.1 x.2.2.2.2.2, .pointer (some ⟨gg1, 0, none⟩)], Ow fW 38 x.2.2.2.1 x.2.2.2.2.1 x.2.2.2.2.2 x.2.2.1, .fz Zn1, .fz (PH.of w)]) (fun x => x.1) rfl (big, 0, (List.replicate (i1.supply.length : Int).toNat (Wide.mk 0 0)), (some ⟨g2, 0, none⟩), (i1.supply.length : Int).toNat, (i1.supply.length : Int).toNat) ⟨h, hf1⟩ ?_ ?_ ?_
  ·repeat first | exact ⟨⟩ | refine ⟨rfl, ?_⟩
  ·exact (.cons .head (.cons .head (.cons .head (.cons (.tail .head) .nil))))
  rintro ⟨n1, s3, xs2, A5, m2, c5⟩ ⟨h, hf6⟩
  dsimp only at h hf6 ⊢
  rcases n1 with _ | n1
  · exact (lp_no h).elim
  replace h := lp_succ h
  unfold flow_Net_b1 at h
  try dsimp only at h
  refine WP.sx tysOk rfl ⟨⟨⟩, ⟨⟩⟩ ?_
  refine WP.cond_d rfl rfl (fun hh4 => ?_) (fun hh4 => ?_)
  ·rw [if_pos hh4] at h
   iterate 2 (refine WP.sx tysOk rfl ⟨⟨⟩, ⟨⟩⟩ ?_)
   obtain ⟨r8, hg8, h⟩ := bind_some h
   refine WP.drawL 5 [(4, [], fun _ => constSpec (iv r8))] rfl (by kernel_rfl) (by kernel_rfl) (by kernel_rfl) ?_
   refine WP.mx_ tysOk rfl ⟨⟨rfl, rfl⟩, rfl⟩ (SegAt.blk' .head rfl) ?_
   iterate 3 (refine WP.sx tysOk rfl ⟨⟨⟨rfl, rfl⟩, rfl⟩, ⟨⟩⟩ ?_)
   refine WP.callV rfl rfl rfl rfl rfl rfl rfl (by kernel_rfl) (fun w1 hw1 => (flow_at_w hg8 (hs3.le' ((Held.mem (List.Mem.tail _ (List.Mem.tail _ (List.Mem.tail _ (List.Mem.head _))))) _ _ hw1)).of :)) ⟨⟨rfl, rfl⟩, rfl⟩ ?_
   refine WP.lend rfl ⟨rfl, rfl⟩ ?_
   obtain ⟨r9, hg9, h⟩ := bind_some h
   refine WP.callT [.blk g3 127 [.slice A5 m2 c5, .pointer (some ⟨gg1, 0, none⟩)], .fz Zn1, .fz (PH.of w)] (flow_book_put_S A5 m2 c5 r9) rfl rfl rfl rfl rfl rfl rfl (by kernel_rfl) (fun w1 hw1 => (flow_book_put_w (F := [.blk g3 127 [.slice A5 m2 c5, .pointer (some ⟨gg1, 0, none⟩)], .fz Zn1, .fz (PH.of w)]) (Held.mem (List.Mem.tail _ (List.Mem.head _))) hg9 hf6 hgr1 (hw1.pick (.cons (.tail .head) (.cons .head (.cons .head (.cons .head .nil))))) :)) ?_
   rintro _ _ ⟨rfl, hf7, rfl⟩
   iterate 2 (refine WP.sx tysOk rfl ⟨⟨⟩, ⟨⟩⟩ ?_)
   refine WP.stop rfl (n1, w64 (s3 + 1), r9, A5, m2, c5) ⟨⟨h, hf7⟩, Nat.lt_succ_self _⟩ ?_ ?_
   ·repeat first | exact ⟨⟩ | refine ⟨rfl, ?_⟩
   exact (.cons (.tail .head) (.cons .head (.cons .head (.cons .head .nil))))
  rw [if_neg hh4] at h
  refine WP.sx tysOk rfl ⟨⟨⟩, ⟨⟩⟩ ?_
  refine WP.lx tysOk rfl ⟨⟩ (CellAt.blk .head rfl) ?_
  refine WP.sx tysOk rfl ⟨⟨⟩, ⟨⟩⟩ ?_
  cases h
  refine WP.retR tysOk rfl rfl ⟨_, _, rfl, rfl, rfl⟩ (fun w1 hw1 => ⟨_, _, rfl, ⟨A5, m2, c5, rfl, hf6, rfl⟩, Ret.of_KH hw1 (.cons (.tail .head) (.cons (.tail (.tail .head)) .nil))⟩)

set_option maxRecDepth 20000 in
set_option maxHeartbeats 8000000 in
theorem flow_Fits_w {w : World} {v0 : Value} {v1 : Value} {i1 : Inst} {x1 : List Int} {r : Int} (h : flow_Fits i1 x1 = some r) (p1 : InsZ (PH.of w) v0 i1) (p2 : SlF (fI .i64) (PH.of w) v1 x1) :
    Calls Tryz.prog 25 #[v0, v1] w fun e w' => e = .returned (.int .u16 (r)) ∧ Below w.heap.size w w' := by
  obtain ⟨A1, c1, A2, c2, rfl, hs1, hs2⟩ := p1
  obtain ⟨A3, c3, rfl, hs3⟩ := p2
  unfold flow_Fits at h
  refine enter_ Tryz.func25 rfl Tryz.ntmps25 rfl ?_
  refine WP.box rfl rfl rfl rfl rfl rfl ?_
  intro g1
  refine WP.sx tysOk rfl ⟨⟨⟩, ⟨⟩⟩ ?_
  refine WP.mx_ tysOk rfl ⟨⟩ (SegAt.blk' .head rfl) ?_
  obtain ⟨r1, hg1, h⟩ := bind_some h
  refine WP.callV rfl rfl rfl rfl rfl rfl rfl (by kernel_rfl) (fun w1 hw1 => (inst_Right_w hg1 (InsZ.mk_ ((hs1.le' ((Held.mem (List.Mem.tail _ (List.Mem.head _))) _ _ hw1)).of) ((hs2.le' ((Held.mem (List.Mem.tail _ (List.Mem.head _))) _ _ hw1)).of)) :)) ⟨⟩ ?_
  iterate 3 (refine WP.sx tysOk rfl ⟨⟨⟩, ⟨⟩⟩ ?_)
  refine WP.cond_d rfl rfl (fun hh1 => ?_) (fun hh1 => ?_)
  ·rw [if_pos hh1] at h
   iterate 2 (refine WP.sx tysOk rfl ⟨⟨⟩, ⟨⟩⟩ ?_)
   cases h
   refine WP.retR tysOk rfl rfl ⟨_, _, rfl, rfl, rfl⟩ (fun w1 hw1 => ⟨rfl, Ret.below_ hw1 (.cons (.tail .head) .nil)⟩)
  rw [if_neg hh1] at h
  iterate 3 (refine WP.sx tysOk rfl ⟨⟨⟩, ⟨⟩⟩ ?_)
  refine WP.lx tysOk rfl ⟨⟩ (CellAt.blk .head rfl) ?_
  iterate 2 (refine WP.sx tysOk rfl ⟨⟨⟩, ⟨⟩⟩ ?_)
  refine WP.cond_d rfl rfl (fun hh2 => ?_) (fun hh2 => ?_)
  ·rw [if_pos hh2] at h
   refine WP.sx tysOk rfl ⟨⟨⟩, ⟨⟩⟩ ?_
   cases h
   refine WP.retR tysOk rfl rfl ⟨_, _, rfl, rfl, rfl⟩ (fun w1 hw1 => ⟨rfl, Ret.below_ hw1 (.cons (.tail .head) .nil)⟩)
  rw [if_neg hh2] at h
  iterate 3 (refine WP.sx tysOk rfl ⟨⟨⟩, ⟨⟩⟩ ?_)
  refine WP.loop (α := Nat × Int) (fun x => lp (flow_Fits_b1 i1 x1) x.1 x.2 = some r) (fun x => [(1, .slice A3 x1.length c3), (2, .pointer (some ⟨g1, 0, none⟩)), (21, .slice A3 x1.length c3), (22, iv (x1.length : Int)), (23, iv x.2)]) (fun x => [.blk g1 25 [.slice A1 i1.supply.length c1, .slice A2 i1.arcs.length c2], .fz (PH.of w)]) (fun x => x.1) rfl (big, 0) h ?_ ?_ ?_
  ·repeat first | exact ⟨⟩ | refine ⟨rfl, ?_⟩
  ·exact (.cons .head (.cons .head .nil))
  rintro ⟨n5, s6⟩ h
  dsimp only at h ⊢
  rcases n5 with _ | n5
  · exact (lp_no h).elim
  replace h := lp_succ h
  unfold flow_Fits_b1 at h
  try dsimp only at h
  refine WP.sx tysOk rfl ⟨⟨⟩, ⟨⟩⟩ ?_
  refine WP.cond_d rfl rfl (fun hh19 => ?_) (fun hh19 => ?_)
  ·rw [if_pos hh19] at h
   refine WP.sx tysOk rfl ⟨⟨⟩, ⟨⟩⟩ ?_
   obtain ⟨hj17, h⟩ := ck_some h
   refine WP.ixA tysOk rfl ⟨⟩ rfl rfl rfl rfl rfl rfl rfl rfl hj17 (hs3.ex hj17) ?_
   intro b17 b17v hA17
   refine WP.lx tysOk rfl ⟨⟩ (hs3.at0 hA17 (Held.mem (List.Mem.tail _ (List.Mem.head _))) hj17 rfl) ?_
   iterate 3 (refine WP.sx tysOk rfl ⟨⟨⟩, ⟨⟩⟩ ?_)
   refine WP.lx tysOk rfl ⟨⟩ (CellAt.blk .head rfl) ?_
   refine WP.sx tysOk rfl ⟨⟨⟩, ⟨⟩⟩ ?_
   obtain ⟨hj18, h⟩ := ck_some h
   refine WP.ixA tysOk rfl ⟨⟩ rfl rfl rfl rfl rfl rfl rfl rfl hj18 (hs2.ex hj18) ?_
   intro b18 b18v hA18
   refine WP.mx_ tysOk rfl ⟨⟩ (hs2.seg hA18 (Held.mem (List.Mem.tail _ (List.Mem.head _))) hj18) ?_
   refine WP.sx tysOk rfl ⟨⟨⟩, ⟨⟩⟩ ?_
   obtain ⟨r12, hg12, h⟩ := bind_some h
   refine WP.callV rfl rfl rfl rfl rfl rfl rfl (by kernel_rfl) (fun w1 hw1 => (flow_fits_w hg12  :)) ⟨⟩ ?_
   refine WP.sx tysOk rfl ⟨⟨⟩, ⟨⟩⟩ ?_
   refine WP.cond_n rfl rfl (fun hh20 => ?_) (fun hh20 => ?_)
   ·rw [if_neg (bneg hh20)] at h
    refine WP.sx tysOk rfl ⟨⟨⟩, ⟨⟩⟩ ?_
    cases h
    refine WP.retR tysOk rfl rfl ⟨_, _, rfl, rfl, rfl⟩ (fun w1 hw1 => ⟨rfl, Ret.below_ hw1 (.cons (.tail .head) .nil)⟩)
   rw [if_pos hh20] at h
   iterate 2 (refine WP.sx tysOk rfl ⟨⟨⟩, ⟨⟩⟩ ?_)
   refine WP.stop rfl (n5, w64 (s6 + 1)) ⟨h, Nat.lt_succ_self _⟩ ?_ ?_
   ·repeat first | exact ⟨⟩ | refine ⟨rfl, ?_⟩
   exact (.cons .head (.cons .head .nil))
  rw [if_neg hh19] at h
  refine WP.mx_ tysOk rfl ⟨⟩ (SegAt.blk' .head rfl) ?_
  refine WP.sx tysOk rfl ⟨⟨⟩, ⟨⟩⟩ ?_
  obtain ⟨r13, hg13, h⟩ := bind_some h
  refine WP.callS (flow_Net_S r13) rfl rfl rfl rfl rfl rfl rfl (by kernel_rfl) (fun w1 hw1 => (flow_Net_w hg13 (InsZ.mk_ ((hs1.le' ((Held.mem (List.Mem.tail _ (List.Mem.head _))) _ _ hw1)).of) ((hs2.le' ((Held.mem (List.Mem.tail _ (List.Mem.head _))) _ _ hw1)).of)) (hs3.le' ((Held.mem (List.Mem.tail _ (List.Mem.head _))) _ _ hw1)).of :)) ?_
  rintro _ _ ⟨A6, n6, c6, rfl, hf3, rfl⟩
  refine WP.lenO (xs := r13) tysOk rfl ⟨⟩ rfl rfl rfl rfl rfl rfl hf3 ?_
  refine WP.sx tysOk rfl ⟨⟨⟩, ⟨⟩⟩ ?_
  refine WP.loop (α := Nat × Int) (fun x => lp (flow_Fits_b2 i1 r13) x.1 x.2 = some r) (fun x => [(2, .pointer (some ⟨g1, 0, none⟩)), (39, .slice A6 n6 c6), (40, iv (r13.length : Int)), (41, iv x.2)]) (fun x => [Ow fW 38 A6 n6 c6 r13, .blk g1 25 [.slice A1 i1.supply.length c1, .slice A2 i1.arcs.length c2], .fz (PH.of w)]) (fun x => x.1) rfl (big, 0) h ?_ ?_ ?_
  ·repeat first | exact ⟨⟩ | refine ⟨rfl, ?_⟩
  ·exact (.cons .head (.cons .head (.cons .head .nil)))
  rintro ⟨n7, s8⟩ h
  dsimp only at h ⊢
  rcases n7 with _ | n7
  · exact (lp_no h).elim
  replace h := lp_succ h
  unfold flow_Fits_b2 at h
  try dsimp only at h
  refine WP.sx tysOk rfl ⟨⟨⟩, ⟨⟩⟩ ?_
  refine WP.cond_d rfl rfl (fun hh25 => ?_) (fun hh25 => ?_)
  ·rw [if_pos hh25] at h
   refine WP.sx tysOk rfl ⟨⟨⟩, ⟨⟩⟩ ?_
   obtain ⟨hj23, h⟩ := ck_some h
   refine WP.ixO tysOk rfl ⟨⟩ rfl rfl rfl rfl rfl rfl rfl rfl hf3 hj23 ?_
   intro b23 hA23
   refine WP.mx_ tysOk rfl ⟨⟩ (OwS.seg .head hA23 hj23) ?_
   refine WP.al tysOk rfl rfl rfl rfl rfl rfl ?_
   intro g10
   refine WP.sx tysOk rfl ⟨⟨⟩, ⟨⟩⟩ ?_
   refine WP.sto' tysOk [iv ((gt r13 s8).hi), .int .u64 ((gt r13 s8).lo)] rfl rfl rfl rfl rfl rfl rfl rfl rfl .head rfl rfl ?_
   refine WP.draw rfl (by kernel_rfl) (by kernel_rfl) ?_
   refine WP.mx_ tysOk rfl rfl (SegAt.blk' .head rfl) ?_
   refine WP.sx tysOk rfl ⟨rfl, ⟨⟩⟩ ?_
   refine WP.lx tysOk rfl rfl (CellAt.blk (.tail (.tail .head)) rfl) ?_
   refine WP.sx tysOk rfl ⟨rfl, ⟨⟩⟩ ?_
   obtain ⟨hj24, h⟩ := ck_some h
   refine WP.ixA tysOk rfl rfl rfl rfl rfl rfl rfl rfl rfl rfl hj24 (hs1.ex hj24) ?_
   intro b24 b24v hA24
   refine WP.lx tysOk rfl rfl (hs1.at0 hA24 (Held.mem (List.Mem.tail _ (List.Mem.tail _ (List.Mem.tail _ (List.Mem.head _))))) hj24 rfl) ?_
   obtain ⟨r16, hg16, h⟩ := bind_some h
   refine WP.callV rfl rfl rfl rfl rfl rfl rfl (by kernel_rfl) (fun w1 hw1 => (num_Of_w hg16  :)) rfl ?_
   refine WP.neS rfl rfl rfl rfl rfl rfl rfl rfl (by kernel_rfl) (eq38 (gt r13 s8) r16) ?_
   refine WP.qend rfl ?_
   refine WP.cond_nd rfl rfl (fun hh26 => ?_) (fun hh26 => ?_)
   ·rw [if_neg hh26] at h
    refine WP.sx tysOk rfl ⟨⟨⟩, ⟨⟩⟩ ?_
    cases h
    refine WP.retR tysOk rfl rfl ⟨_, _, rfl, rfl, rfl⟩ (fun w1 hw1 => ⟨rfl, Ret.below_ hw1 (.cons (.tail (.tail (.tail .head))) .nil)⟩)
   rw [if_pos hh26] at h
   iterate 2 (refine WP.sx tysOk rfl ⟨⟨⟩, ⟨⟩⟩ ?_)
   refine WP.stop rfl (n7, w64 (s8 + 1)) ⟨h, Nat.lt_succ_self _⟩ ?_ ?_
   ·repeat first | exact ⟨⟩ | refine ⟨rfl, ?_⟩
   exact (.cons (.tail .head) (.cons (.tail .head) (.cons (.tail .head) .nil)))
  rw [if_neg hh25] at h
  refine WP.sx tysOk rfl ⟨⟨⟩, ⟨⟩⟩ ?_
  cases h
  refine WP.retR tysOk rfl rfl ⟨_, _, rfl, rfl, rfl⟩ (fun w1 hw1 => ⟨rfl, Ret.below_ hw1 (.cons (.tail (.tail .head)) .nil)⟩)

set_option maxRecDepth 20000 in
set_option maxHeartbeats 8000000 in
theorem flow_Cost_w {w : World} {v0 : Value} {v1 : Value} {i1 : Inst} {x1 : List Int} {r : Wide} (h : flow_Cost i1 x1 = some r) (p1 : InsZ (PH.of w) v0 i1) (p2 : SlF (fI .i64) (PH.of w) v1 x1) :
    Calls Tryz.prog 23 #[v0, v1] w fun e w' => e = .returned (.agg #[iv r.hi, .int .u64 (r.lo)]) ∧ Below w.heap.size w w' := by
  obtain ⟨A1, c1, A2, c2, rfl, hs1, hs2⟩ := p1
  obtain ⟨A3, c3, rfl, hs3⟩ := p2
  unfold flow_Cost at h
  refine enter_ Tryz.func23 rfl Tryz.ntmps23 rfl ?_
  refine WP.box rfl rfl rfl rfl rfl rfl ?_
  intro g1
  refine WP.al tysOk rfl rfl rfl rfl rfl rfl ?_
  intro g2
  refine WP.al tysOk rfl rfl rfl rfl rfl rfl ?_
  intro g3
  refine WP.sx tysOk rfl ⟨⟨⟩, ⟨⟩⟩ ?_
  refine WP.lx tysOk rfl ⟨⟩ (CellAt.blk (.tail (.tail .head)) rfl) ?_
  iterate 2 (refine WP.sx tysOk rfl ⟨⟨⟩, ⟨⟩⟩ ?_)
  refine WP.loop (α := Nat × Int × Int × Int) (fun x => lp (flow_Cost_b1 i1 x1) x.1 (x.2.1, x.2.2.1, x.2.2.2) = some r) (fun x => [(1, .slice A3 x1.length c3), (4, .pointer (some ⟨g2, 0, none⟩)), (5, .pointer (some ⟨g3, 0, none⟩)), (9, .slice A2 i1.arcs.length c2), (10, iv (i1.arcs.length : Int)), (11, iv x.2.1)]) (fun x => [.blk g3 38 [iv x.2.2.1, .int .u64 (x.2.2.2)], .blk g2 38 [iv 0, .int .u64 (0)], .fz (PH.of w)]) (fun x => x.1) rfl (big, 0, 0, 0) h ?_ ?_ ?_
  ·repeat first | exact ⟨⟩ | refine ⟨rfl, ?_⟩
  ·exact (.cons .head (.cons .head (.cons (.tail .head) .nil)))
  rintro ⟨n1, s4, s5, s6⟩ h
  dsimp only at h ⊢
  rcases n1 with _ | n1
  · exact (lp_no h).elim
  replace h := lp_succ h
  unfold flow_Cost_b1 at h
  try dsimp only at h
  refine WP.sx tysOk rfl ⟨⟨⟩, ⟨⟩⟩ ?_
  refine WP.cond_d rfl rfl (fun hh3 => ?_) (fun hh3 => ?_)
  ·rw [if_pos hh3] at h
   refine WP.sx tysOk rfl ⟨⟨⟩, ⟨⟩⟩ ?_
   obtain ⟨hj3, h⟩ := ck_some h
   refine WP.ixA tysOk rfl ⟨⟩ rfl rfl rfl rfl rfl rfl rfl rfl hj3 (hs2.ex hj3) ?_
   intro b3 b3v hA3
   refine WP.mx_ tysOk rfl ⟨⟩ (hs2.seg hA3 (Held.mem (List.Mem.tail _ (List.Mem.tail _ (List.Mem.head _)))) hj3) ?_
   refine WP.al tysOk rfl rfl rfl rfl rfl rfl ?_
   intro g6
   refine WP.sx tysOk rfl ⟨⟨⟩, ⟨⟩⟩ ?_
   refine WP.sto' tysOk [iv ((gt i1.arcs s4).src), iv ((gt i1.arcs s4).dst), iv ((gt i1.arcs s4).low), iv ((gt i1.arcs s4).cap), iv ((gt i1.arcs s4).cost)] rfl rfl rfl rfl rfl rfl rfl rfl rfl .head rfl rfl ?_
   obtain ⟨r7, hg7, h⟩ := bind_some h
   obtain ⟨r8, hg8, h⟩ := bind_some h
   obtain ⟨r9, hg9, h⟩ := bind_some h
   refine WP.drawL 8 [(5, [], fun _ => constSpec (iv r7)), (6, [], fun _ => constSpec (.agg #[iv r8.hi, .int .u64 (r8.lo)])), (7, [], fun _ => constSpec (.agg #[iv r9.hi, .int .u64 (r9.lo)]))] rfl (by kernel_rfl) (by kernel_rfl) (by kernel_rfl) ?_
   refine WP.mx_ tysOk rfl ⟨⟨rfl, rfl⟩, rfl⟩ (SegAt.blk' (.tail .head) rfl) ?_
   refine WP.sx tysOk rfl ⟨⟨⟨rfl, rfl⟩, rfl⟩, ⟨⟩⟩ ?_
   refine WP.lx tysOk rfl ⟨⟨rfl, rfl⟩, rfl⟩ (CellAt.blk .head rfl) ?_
   iterate 2 (refine WP.sx tysOk rfl ⟨⟨⟨rfl, rfl⟩, rfl⟩, ⟨⟩⟩ ?_)
   refine WP.callV rfl rfl rfl rfl rfl rfl rfl (by kernel_rfl) (fun w1 hw1 => (flow_at_w hg7 (hs3.le' ((Held.mem (List.Mem.tail _ (List.Mem.tail _ (List.Mem.tail _ (List.Mem.head _))))) _ _ hw1)).of :)) ⟨⟨rfl, rfl⟩, rfl⟩ ?_
   refine WP.callV rfl rfl rfl rfl rfl rfl rfl (by kernel_rfl) (fun w1 hw1 => (num_Times_w hg8  :)) ⟨⟨rfl, rfl⟩, rfl⟩ ?_
   refine WP.callV rfl rfl rfl rfl rfl rfl rfl (by kernel_rfl) (fun w1 hw1 => (num_Plus_w hg9  :)) ⟨⟨rfl, rfl⟩, rfl⟩ ?_
   refine WP.lend rfl ⟨rfl, rfl⟩ ?_
   refine WP.sto' tysOk [iv r9.hi, .int .u64 (r9.lo)] rfl rfl rfl rfl rfl rfl rfl rfl rfl (.tail .head) rfl rfl ?_
   iterate 2 (refine WP.sx tysOk rfl ⟨⟨⟩, ⟨⟩⟩ ?_)
   refine WP.stop rfl (n1, w64 (s4 + 1), r9.hi, r9.lo) ⟨h, Nat.lt_succ_self _⟩ ?_ ?_
   ·repeat first | exact ⟨⟩ | refine ⟨rfl, ?_⟩
   exact (.cons .head (.cons (.tail .head) (.cons (.tail .head) .nil)))
  rw [if_neg hh3] at h
  refine WP.mx_ tysOk rfl ⟨⟩ (SegAt.blk' .head rfl) ?_
  refine WP.sto' tysOk [iv s5, .int .u64 (s6)] rfl rfl rfl rfl rfl rfl rfl rfl rfl (.tail .head) rfl rfl ?_
  cases h
  refine WP.retR tysOk rfl rfl ⟨_, _, _, _, rfl, ⟨_, rfl, .inr ⟨rfl, _, rfl, rfl, (SegAt.blk' (z := 2) .head rfl).1⟩⟩, rfl, rfl⟩ (fun w1 hw1 => ⟨rfl, Ret.below_ hw1 (.cons (.tail (.tail .head)) .nil)⟩)

set_option maxRecDepth 20000 in
set_option maxHeartbeats 8000000 in
theorem law17_LeafDead_w {w : World} {v0 : Value} {v1 : Value} {v2 : Value} {d1 : List Int} {i1 : List Int} {x1 : List Int} {r : Bool} (h : law17_LeafDead d1 i1 x1 = some r) (p1 : SlF (fI .u8) (PH.of w) v0 d1) (p2 : SlF (fI .u8) (PH.of w) v1 i1) (p3 : SlF (fI .u8) (PH.of w) v2 x1) (pg : GlobE (PH.of w)) :
    Calls Tryz.prog 7 #[v0, v1, v2] w fun e w' => e = .returned (.bool (r)) ∧ Below w.heap.size w w' := by
  obtain ⟨A1, c1, rfl, hs1⟩ := p1
  obtain ⟨A2, c2, rfl, hs2⟩ := p2
  obtain ⟨A3, c3, rfl, hs3⟩ := p3
  unfold law17_LeafDead at h
  refine enter_ Tryz.func7 rfl Tryz.ntmps7 rfl ?_
  iterate 3 (refine WP.sx tysOk rfl ⟨⟨⟩, ⟨⟩⟩ ?_)
  obtain ⟨r1, hg1, h⟩ := bind_some h
  refine WP.callS (law17_Still_S r1) rfl rfl rfl rfl rfl rfl rfl (by kernel_rfl) (fun w1 hw1 => (law17_Still_w hg1 (hs1.le' ((Held.mem (List.Mem.head _)) _ _ hw1)).of (hs2.le' ((Held.mem (List.Mem.head _)) _ _ hw1)).of :)) ?_
  rintro _ _ ⟨A4, n1, c4, A5, n2, c5, rfl, hf1, hf2, rfl⟩
  refine WP.al tysOk rfl rfl rfl rfl rfl rfl ?_
  intro g1
  refine WP.sto' tysOk [.slice A4 n1 c4, .slice A5 n2 c5] rfl rfl rfl rfl rfl rfl rfl rfl rfl .head rfl rfl ?_
  refine WP.mx_ tysOk rfl ⟨⟩ (SegAt.blk' .head rfl) ?_
  obtain ⟨r2, hg2, h⟩ := bind_some h
  refine WP.freezeO (.tail .head) hf1 ?_
  intro Zp1 hz1
  have hl1 := hf1.len
  subst hl1
  refine WP.freezeO (.tail (.tail .head)) hf2 ?_
  intro Zp2 hz2
  have hl2 := hf2.len
  subst hl2
  refine WP.callS (leaf_Dead_S (PH.or Zp1 Zp2) r2) rfl rfl rfl rfl rfl rfl rfl (by kernel_rfl) (fun w1 hw1 => (leaf_Dead_w (Z := (PH.or Zp1 Zp2)) ((Held.or (Held.mem (List.Mem.tail _ (List.Mem.head _))) (Held.mem (List.Mem.head _))) _ _ hw1) hg2 (InsZ.mk_ ((hz1.le' (PH.le.trans PH.le.rfl_ (PH.le_or _ _))).of) ((hz2.le' (PH.ri_or ((Held.mem (List.Mem.tail _ (List.Mem.head _))) _ _ hw1) ((Held.mem (List.Mem.head _)) _ _ hw1))).of)) (pg.le ((Held.mem (List.Mem.tail _ (List.Mem.tail _ (List.Mem.tail _ (List.Mem.head _))))) _ _ hw1)) :)) ?_
  rintro _ _ ⟨Zn1, A6, _, c6, A7, _, c7, A8, _, c8, A9, _, c9, rfl, rfl, rfl, rfl, rfl, hs4, hs5, hs6, hs7, rfl⟩
  iterate 3 (refine WP.sx tysOk rfl ⟨⟨⟩, ⟨⟩⟩ ?_)
  refine WP.al tysOk rfl rfl rfl rfl rfl rfl ?_
  intro g2
  refine WP.sto' tysOk [.slice A6 r2.1.inst.supply.length c6, .slice A7 r2.1.inst.arcs.length c7, iv r2.1.rcd.pass, .slice A8 r2.1.rcd.was.supply.length c8, .slice A9 r2.1.rcd.was.arcs.length c9, iv r2.1.off.hi, .int .u64 (r2.1.off.lo), .bool (r2.1.did)] rfl rfl rfl rfl rfl rfl rfl rfl rfl .head rfl rfl ?_
  iterate 4 (refine WP.sx tysOk rfl ⟨⟨⟩, ⟨⟩⟩ ?_)
  by_cases hh1 : ¬ r2.2 = 0
  ·rw [if_pos hh1] at h
   refine WP.no rfl rfl (decide_eq_true hh1) rfl rfl ?_
   iterate 2 (refine WP.no rfl rfl rfl rfl rfl ?_)
   refine WP.sx tysOk rfl ⟨⟨⟩, ⟨⟩⟩ ?_
   refine WP.condT rfl rfl ?_
   obtain ⟨r3, hg3, h⟩ := bind_some h
   refine WP.callV rfl rfl rfl rfl rfl rfl rfl (by kernel_rfl) (fun w1 hw1 => (law17_known_w hg3 (pg.le ((Held.mem (List.Mem.tail _ (List.Mem.tail _ (List.Mem.tail _ (List.Mem.tail _ (List.Mem.tail _ (List.Mem.head _))))))) _ _ hw1)) :)) ⟨⟩ ?_
   refine WP.sx tysOk rfl ⟨⟨⟩, ⟨⟩⟩ ?_
   by_cases hh2 : r3 = true
   ·rw [if_pos hh2] at h
    refine WP.yes rfl rfl hh2 ?_
    refine WP.sx tysOk rfl ⟨⟨⟩, ⟨⟩⟩ ?_
    refine WP.yes rfl rfl rfl ?_
    iterate 3 (refine WP.sx tysOk rfl ⟨⟨⟩, ⟨⟩⟩ ?_)
    by_cases hh3 : r2.2 = 0
    ·rw [if_pos hh3] at h
     refine WP.yes rfl rfl (decide_eq_true hh3) ?_
     refine WP.sx tysOk rfl ⟨⟨⟩, ⟨⟩⟩ ?_
     refine WP.yes rfl rfl rfl ?_
     refine WP.mx_ tysOk rfl ⟨⟩ (SegAt.blk' .head rfl) ?_
     refine WP.yes rfl rfl rfl ?_
     refine WP.mx_ tysOk rfl ⟨⟩ (SegAt.blk' (.tail (.tail (.tail (.tail .head)))) rfl) ?_
     refine WP.yes rfl rfl rfl ?_
     obtain ⟨r4, hg4, h⟩ := bind_some h
     refine WP.callV rfl rfl rfl rfl rfl rfl rfl (by kernel_rfl) (fun w1 hw1 => (inst_Same_w hg4 (InsZ.mk_ ((hs4.le' ((Held.or (Held.or (Held.mem (List.Mem.tail _ (List.Mem.tail _ (List.Mem.tail _ (List.Mem.head _))))) (Held.mem (List.Mem.tail _ (List.Mem.tail _ (List.Mem.head _))))) (Held.mem (List.Mem.tail _ (List.Mem.head _)))) _ _ hw1)).of) ((hs5.le' ((Held.or (Held.or (Held.mem (List.Mem.tail _ (List.Mem.tail _ (List.Mem.tail _ (List.Mem.head _))))) (Held.mem (List.Mem.tail _ (List.Mem.tail _ (List.Mem.head _))))) (Held.mem (List.Mem.tail _ (List.Mem.head _)))) _ _ hw1)).of)) (InsZ.mk_ ((hz1.le' ((Held.mem (List.Mem.tail _ (List.Mem.tail _ (List.Mem.tail _ (List.Mem.head _))))) _ _ hw1)).of) ((hz2.le' ((Held.mem (List.Mem.tail _ (List.Mem.tail _ (List.Mem.head _)))) _ _ hw1)).of)) :)) ⟨⟩ ?_
     iterate 2 (refine WP.sx tysOk rfl ⟨⟨⟩, ⟨⟩⟩ ?_)
     cases h
     refine WP.retR tysOk rfl rfl ⟨_, _, rfl, rfl, rfl⟩ (fun w1 hw1 => ⟨rfl, Ret.below_ hw1 (.cons (.tail (.tail (.tail (.tail (.tail .head))))) .nil)⟩)
    rw [if_neg hh3] at h
    refine WP.no rfl rfl (decide_eq_false hh3) rfl rfl ?_
    iterate 3 (refine WP.no rfl rfl rfl rfl rfl ?_)
    iterate 2 (refine WP.sx tysOk rfl ⟨⟨⟩, ⟨⟩⟩ ?_)
    cases h
    refine WP.retR tysOk rfl rfl ⟨_, _, rfl, rfl, rfl⟩ (fun w1 hw1 => ⟨rfl, Ret.below_ hw1 (.cons (.tail (.tail (.tail (.tail (.tail .head))))) .nil)⟩)
   rw [if_neg hh2] at h
   refine WP.no rfl rfl (bfalse hh2) rfl rfl ?_
   refine WP.no rfl rfl rfl rfl rfl ?_
   iterate 2 (refine WP.sx tysOk rfl ⟨⟨⟩, ⟨⟩⟩ ?_)
   iterate 4 (refine WP.no rfl rfl rfl rfl rfl ?_)
   iterate 2 (refine WP.sx tysOk rfl ⟨⟨⟩, ⟨⟩⟩ ?_)
   cases h
   refine WP.retR tysOk rfl rfl ⟨_, _, rfl, rfl, rfl⟩ (fun w1 hw1 => ⟨rfl, Ret.below_ hw1 (.cons (.tail (.tail (.tail (.tail (.tail .head))))) .nil)⟩)
  rw [if_neg hh1] at h
  refine WP.yes rfl rfl (decide_eq_false hh1) ?_
  refine WP.sx tysOk rfl ⟨⟨⟩, ⟨⟩⟩ ?_
  refine WP.yes rfl rfl rfl ?_
  refine WP.lx tysOk rfl ⟨⟩ (CellAt.blk .head rfl) ?_
  refine WP.yes rfl rfl rfl ?_
  iterate 2 (refine WP.sx tysOk rfl ⟨⟨⟩, ⟨⟩⟩ ?_)
  refine WP.cond_n rfl rfl (fun hh4 => ?_) (fun hh4 => ?_)
  ·rw [if_neg (bneg hh4)] at h
   obtain ⟨r5, hg5, h⟩ := bind_some h
   refine WP.callV rfl rfl rfl rfl rfl rfl rfl (by kernel_rfl) (fun w1 hw1 => (law17_known_w hg5 (pg.le ((Held.mem (List.Mem.tail _ (List.Mem.tail _ (List.Mem.tail _ (List.Mem.tail _ (List.Mem.tail _ (List.Mem.head _))))))) _ _ hw1)) :)) ⟨⟩ ?_
   refine WP.sx tysOk rfl ⟨⟨⟩, ⟨⟩⟩ ?_
   by_cases hh5 : r5 = true
   ·rw [if_pos hh5] at h
    refine WP.yes rfl rfl hh5 ?_
    refine WP.sx tysOk rfl ⟨⟨⟩, ⟨⟩⟩ ?_
    refine WP.yes rfl rfl rfl ?_
    iterate 3 (refine WP.sx tysOk rfl ⟨⟨⟩, ⟨⟩⟩ ?_)
    by_cases hh6 : r2.2 = 0
    ·rw [if_pos hh6] at h
     refine WP.yes rfl rfl (decide_eq_true hh6) ?_
     refine WP.sx tysOk rfl ⟨⟨⟩, ⟨⟩⟩ ?_
     refine WP.yes rfl rfl rfl ?_
     refine WP.mx_ tysOk rfl ⟨⟩ (SegAt.blk' .head rfl) ?_
     refine WP.yes rfl rfl rfl ?_
     refine WP.mx_ tysOk rfl ⟨⟩ (SegAt.blk' (.tail (.tail (.tail (.tail .head)))) rfl) ?_
     refine WP.yes rfl rfl rfl ?_
     obtain ⟨r6, hg6, h⟩ := bind_some h
     refine WP.callV rfl rfl rfl rfl rfl rfl rfl (by kernel_rfl) (fun w1 hw1 => (inst_Same_w hg6 (InsZ.mk_ ((hs4.le' ((Held.or (Held.or (Held.mem (List.Mem.tail _ (List.Mem.tail _ (List.Mem.tail _ (List.Mem.head _))))) (Held.mem (List.Mem.tail _ (List.Mem.tail _ (List.Mem.head _))))) (Held.mem (List.Mem.tail _ (List.Mem.head _)))) _ _ hw1)).of) ((hs5.le' ((Held.or (Held.or (Held.mem (List.Mem.tail _ (List.Mem.tail _ (List.Mem.tail _ (List.Mem.head _))))) (Held.mem (List.Mem.tail _ (List.Mem.tail _ (List.Mem.head _))))) (Held.mem (List.Mem.tail _ (List.Mem.head _)))) _ _ hw1)).of)) (InsZ.mk_ ((hz1.le' ((Held.mem (List.Mem.tail _ (List.Mem.tail _ (List.Mem.tail _ (List.Mem.head _))))) _ _ hw1)).of) ((hz2.le' ((Held.mem (List.Mem.tail _ (List.Mem.tail _ (List.Mem.head _)))) _ _ hw1)).of)) :)) ⟨⟩ ?_
     iterate 2 (refine WP.sx tysOk rfl ⟨⟨⟩, ⟨⟩⟩ ?_)
     cases h
     refine WP.retR tysOk rfl rfl ⟨_, _, rfl, rfl, rfl⟩ (fun w1 hw1 => ⟨rfl, Ret.below_ hw1 (.cons (.tail (.tail (.tail (.tail (.tail .head))))) .nil)⟩)
    rw [if_neg hh6] at h
    refine WP.no rfl rfl (decide_eq_false hh6) rfl rfl ?_
    iterate 3 (refine WP.no rfl rfl rfl rfl rfl ?_)
    iterate 2 (refine WP.sx tysOk rfl ⟨⟨⟩, ⟨⟩⟩ ?_)
    cases h
    refine WP.retR tysOk rfl rfl ⟨_, _, rfl, rfl, rfl⟩ (fun w1 hw1 => ⟨rfl, Ret.below_ hw1 (.cons (.tail (.tail (.tail (.tail (.tail .head))))) .nil)⟩)
   rw [if_neg hh5] at h
   refine WP.no rfl rfl (bfalse hh5) rfl rfl ?_
   refine WP.no rfl rfl rfl rfl rfl ?_
   iterate 2 (refine WP.sx tysOk rfl ⟨⟨⟩, ⟨⟩⟩ ?_)
   iterate 4 (refine WP.no rfl rfl rfl rfl rfl ?_)
   iterate 2 (refine WP.sx tysOk rfl ⟨⟨⟩, ⟨⟩⟩ ?_)
   cases h
   refine WP.retR tysOk rfl rfl ⟨_, _, rfl, rfl, rfl⟩ (fun w1 hw1 => ⟨rfl, Ret.below_ hw1 (.cons (.tail (.tail (.tail (.tail (.tail .head))))) .nil)⟩)
  rw [if_pos hh4] at h
  iterate 2 (refine WP.sx tysOk rfl ⟨⟨⟩, ⟨⟩⟩ ?_)
  refine WP.lx tysOk rfl ⟨⟩ (CellAt.blk (.tail (.tail (.tail (.tail .head)))) rfl) ?_
  iterate 3 (refine WP.sx tysOk rfl ⟨⟨⟩, ⟨⟩⟩ ?_)
  refine WP.loop (α := Nat × Int × Int) (fun x => lp (law17_LeafDead_b1 x1 r1 r2) x.1 (x.2.1, x.2.2) = some r) (fun x => [(2, .slice A3 x1.length c3), (7, .pointer (some ⟨g1, 0, none⟩)), (8, .pointer (some ⟨g2, 0, none⟩)), (10, iv x.2.1), (11, iv x.2.2)]) (fun x => [.blk g2 40 [.slice A6 r2.1.inst.supply.length c6, .slice A7 r2.1.inst.arcs.length c7, iv r2.1.rcd.pass, .slice A8 r2.1.rcd.was.supply.length c8, .slice A9 r2.1.rcd.was.arcs.length c9, iv r2.1.off.hi, .int .u64 (r2.1.off.lo), .bool (r2.1.did)], .fz Zn1, .fz Zp2, .fz Zp1, .blk g1 25 [.slice A4 r1.supply.length c4, .slice A5 r1.arcs.length c5], .fz (PH.of w)]) (fun x => x.1) rfl (big, -1, w64 ((r1.supply.length : Int) - 1)) h ?_ ?_ ?_
  ·repeat first | exact ⟨⟩ | refine ⟨rfl, ?_⟩
  ·exact (.cons .head (.cons .head (.cons .head (.cons .head (.cons .head (.cons .head .nil))))))
  rintro ⟨n7, s13, s14⟩ h
  dsimp only at h ⊢
  rcases n7 with _ | n7
  · exact (lp_no h).elim
  replace h := lp_succ h
  unfold law17_LeafDead_b1 at h
  try dsimp only at h
  iterate 2 (refine WP.sx tysOk rfl ⟨⟨⟩, ⟨⟩⟩ ?_)
  refine WP.cond_d rfl rfl (fun hh119 => ?_) (fun hh119 => ?_)
  ·rw [if_pos hh119] at h
   refine WP.mx_ tysOk rfl ⟨⟩ (SegAt.blk' (.tail (.tail (.tail (.tail .head)))) rfl) ?_
   refine WP.sx tysOk rfl ⟨⟨⟩, ⟨⟩⟩ ?_
   obtain ⟨r115, hg83, h⟩ := bind_some h
   refine WP.callV rfl rfl rfl rfl rfl rfl rfl (by kernel_rfl) (fun w1 hw1 => (leaf_Shut_w hg83 (InsZ.mk_ ((hz1.le' ((Held.mem (List.Mem.tail _ (List.Mem.tail _ (List.Mem.tail _ (List.Mem.head _))))) _ _ hw1)).of) ((hz2.le' ((Held.mem (List.Mem.tail _ (List.Mem.tail _ (List.Mem.head _)))) _ _ hw1)).of)) :)) ⟨⟩ ?_
   refine WP.cond rfl rfl (fun hh120 => ?_) (fun hh120 => ?_)
   ·rw [if_pos hh120] at h
    iterate 5 (refine WP.sx tysOk rfl ⟨⟨⟩, ⟨⟩⟩ ?_)
    refine WP.stop rfl (n7, s14, w64 (s14 - 1)) ⟨h, Nat.lt_succ_self _⟩ ?_ ?_
    ·repeat first | exact ⟨⟩ | refine ⟨rfl, ?_⟩
    exact (.cons .head (.cons .head (.cons .head (.cons .head (.cons .head (.cons .head .nil))))))
   rw [if_neg (bneg hh120)] at h
   iterate 3 (refine WP.sx tysOk rfl ⟨⟨⟩, ⟨⟩⟩ ?_)
   refine WP.stop rfl (n7, s13, w64 (s14 - 1)) ⟨h, Nat.lt_succ_self _⟩ ?_ ?_
   ·repeat first | exact ⟨⟩ | refine ⟨rfl, ?_⟩
   exact (.cons .head (.cons .head (.cons .head (.cons .head (.cons .head (.cons .head .nil))))))
  rw [if_neg hh119] at h
  refine WP.mx_ tysOk rfl ⟨⟩ (SegAt.blk' (.tail (.tail (.tail (.tail .head)))) rfl) ?_
  refine WP.sx tysOk rfl ⟨⟨⟩, ⟨⟩⟩ ?_
  obtain ⟨r116, hg84, h⟩ := bind_some h
  refine WP.callS (law09_Flow_S r116) rfl rfl rfl rfl rfl rfl rfl (by kernel_rfl) (fun w1 hw1 => (law09_Flow_w hg84 (InsZ.mk_ ((hz1.le' ((Held.mem (List.Mem.tail _ (List.Mem.tail _ (List.Mem.tail _ (List.Mem.head _))))) _ _ hw1)).of) ((hz2.le' ((Held.mem (List.Mem.tail _ (List.Mem.tail _ (List.Mem.head _)))) _ _ hw1)).of)) (hs3.le' ((Held.mem (List.Mem.tail _ (List.Mem.tail _ (List.Mem.tail _ (List.Mem.tail _ (List.Mem.tail _ (List.Mem.head _))))))) _ _ hw1)).of :)) ?_
  rintro _ _ ⟨A36, n8, c36, rfl, hf65, rfl⟩
  iterate 3 (refine WP.sx tysOk rfl ⟨⟨⟩, ⟨⟩⟩ ?_)
  refine WP.own_nil 2 (fI .i64).z ?_
  refine WP.loop (α := Nat × Int × (List Int) × (List Int) × (Option Addr) × Nat × Nat × (Option Addr) × Nat × Nat) (fun x => lp (law17_LeafDead_b2 r1 r2 s13) x.1 (x.2.1, x.2.2.1, x.2.2.2.1) = some r ∧ OwF x.2.2.2.2.1 x.2.2.2.2.2.1 x.2.2.1 ∧ OwF x.2.2.2.2.2.2.2.1 x.2.2.2.2.2.2.2.2.1 x.2.2.2.1) (fun x => [(7, .pointer (some ⟨g1, 0, none⟩)), (8, .pointer (some ⟨g2, 0, none⟩)), (10, iv s13), (12, .slice x.2.2.2.2.1 x.2.2.2.2.2.1 x.2.2.2.2.2.2.1), (13, .slice x.2.2.2.2.2.2.2.1 x.2.2.2.2.2.2.2.2.1 x.2.2.2.2.2.2.2.2.2), (14, iv x.2.1)]) (fun x => [Ow (fI .i64) 2 x.2.2.2.2.2.2.2.1 x.2.2.2.2.2.2.2.2.1 x.2.2.2.2.2.2.2.2.2 x.2.2.2.1, Ow (fI .i64) 2 x.2.2.2.2.1 x.2.2.2.2.2.1 x.2.2.2.2.2.2.1 x.2.2.1, .blk g2 40 [.slice A6 r2.1.inst.supply.length c6, .slice A7 r2.1.inst.arcs.length c7, iv r2.1.rcd.pass, .slice A8 r2.1.rcd.was.supply.length c8, .slice A9 r2.1.rcd.was.arcs.length c9, iv r2.1.off.hi, .int .u64 (r2.1.off.lo), .bool (r2.1.did)], .fz Zn1, .fz Zp2, .fz Zp1, .blk g1 25 [.slice A4 r1.supply.length c4, .slice A5 r1.arcs.length c5], .fz (PH.of w)]) (fun x => x.1) rfl (big, 0, r116, ([] : List Int), A36, n8, c36, none, 0, 0) ⟨h, hf65, OwF.nil_⟩ ?_ ?_ ?_
  ·repeat first | exact ⟨⟩ | refine ⟨rfl, ?_⟩
  ·exact (.cons .head (.cons .head (.cons .head (.cons .head (.cons .head (.cons .head (.cons .head (.cons .head .nil))))))))
  rintro ⟨n9, s19, r160, xs23, A46, m17, c46, A47, m18, c47⟩ ⟨h, hf90, hf91⟩
  dsimp only at h hf90 hf91 ⊢
  rcases n9 with _ | n9
  · exact (lp_no h).elim
  replace h := lp_succ h
  unfold law17_LeafDead_b2 at h
  try dsimp only at h
  iterate 2 (refine WP.sx tysOk rfl ⟨⟨⟩, ⟨⟩⟩ ?_)
  refine WP.lx tysOk rfl ⟨⟩ (CellAt.blk (.tail (.tail (.tail (.tail (.tail (.tail .head)))))) rfl) ?_
  iterate 2 (refine WP.sx tysOk rfl ⟨⟨⟩, ⟨⟩⟩ ?_)
  refine WP.cond_d rfl rfl (fun hh166 => ?_) (fun hh166 => ?_)
  ·rw [if_pos hh166] at h
   refine WP.sx tysOk rfl ⟨⟨⟩, ⟨⟩⟩ ?_
   refine WP.lx tysOk rfl ⟨⟩ (CellAt.blk (.tail (.tail (.tail (.tail (.tail (.tail .head)))))) rfl) ?_
   refine WP.sx tysOk rfl ⟨⟨⟩, ⟨⟩⟩ ?_
   obtain ⟨hj69, h⟩ := ck_some h
   refine WP.ixA tysOk rfl ⟨⟩ rfl rfl rfl rfl rfl rfl rfl rfl hj69 (hz2.ex hj69) ?_
   intro b86 b86v hA86
   refine WP.sx tysOk rfl ⟨⟨⟩, ⟨⟩⟩ ?_
   refine WP.lx tysOk rfl ⟨⟩ (hz2.at0 hA86 (Held.mem (List.Mem.tail _ (List.Mem.tail _ (List.Mem.tail _ (List.Mem.tail _ (List.Mem.head _)))))) hj69 rfl) ?_
   iterate 3 (refine WP.sx tysOk rfl ⟨⟨⟩, ⟨⟩⟩ ?_)
   by_cases hh167 : ((gt r1.arcs s19).src) = s13
   ·rw [if_pos hh167] at h
    refine WP.no rfl rfl (decide_eq_true hh167) rfl rfl ?_
    iterate 7 (refine WP.no rfl rfl rfl rfl rfl ?_)
    refine WP.sx tysOk rfl ⟨⟨⟩, ⟨⟩⟩ ?_
    refine WP.condT rfl rfl ?_
    iterate 2 (refine WP.sx tysOk rfl ⟨⟨⟩, ⟨⟩⟩ ?_)
    obtain ⟨hj70, h⟩ := ck_some h
    refine WP.ixO tysOk rfl ⟨⟩ rfl rfl rfl rfl rfl rfl rfl rfl hf90 hj70 ?_
    intro b87 hA87
    obtain ⟨r161, hx35, h⟩ := lt_some h
    refine WP.stoO (f := (fI .i64)) 0 0 tysOk rfl rfl rfl rfl rfl rfl rfl rfl rfl (.tail .head) hA87 hf90 hj70 rfl rfl rfl hx35 ?_
    intro hf92
    iterate 3 (refine WP.sx tysOk rfl ⟨⟨⟩, ⟨⟩⟩ ?_)
    refine WP.stop rfl (n9, w64 (s19 + 1), r161, xs23, A46, m17, c46, A47, m18, c47) ⟨⟨h, hf92, hf91⟩, Nat.lt_succ_self _⟩ ?_ ?_
    ·repeat first | exact ⟨⟩ | refine ⟨rfl, ?_⟩
    exact (.cons (.tail .head) (.cons .head (.cons .head (.cons .head (.cons .head (.cons .head (.cons .head (.cons .head .nil))))))))
   rw [if_neg hh167] at h
   refine WP.yes rfl rfl (decide_eq_false hh167) ?_
   refine WP.sx tysOk rfl ⟨⟨⟩, ⟨⟩⟩ ?_
   refine WP.yes rfl rfl rfl ?_
   refine WP.lx tysOk rfl ⟨⟩ (CellAt.blk (.tail (.tail (.tail (.tail (.tail (.tail .head)))))) rfl) ?_
   refine WP.yes rfl rfl rfl ?_
   refine WP.sx tysOk rfl ⟨⟨⟩, ⟨⟩⟩ ?_
   refine WP.yes rfl rfl rfl ?_
   refine WP.ixA tysOk rfl ⟨⟩ rfl rfl rfl rfl rfl rfl rfl rfl hj69 (hz2.ex hj69) ?_
   intro b88 b88v hA88
   refine WP.yes rfl rfl rfl ?_
   refine WP.sx tysOk rfl ⟨⟨⟩, ⟨⟩⟩ ?_
   refine WP.yes rfl rfl rfl ?_
   refine WP.lx tysOk rfl ⟨⟩ (hz2.at hA88 (Held.mem (List.Mem.tail _ (List.Mem.tail _ (List.Mem.tail _ (List.Mem.tail _ (List.Mem.head _)))))) hj69 1 rfl) ?_
   refine WP.yes rfl rfl rfl ?_
   refine WP.sx tysOk rfl ⟨⟨⟩, ⟨⟩⟩ ?_
   refine WP.yes rfl rfl rfl ?_
   iterate 2 (refine WP.sx tysOk rfl ⟨⟨⟩, ⟨⟩⟩ ?_)
   refine WP.cond_d rfl rfl (fun hh168 => ?_) (fun hh168 => ?_)
   ·rw [if_pos hh168] at h
    iterate 2 (refine WP.sx tysOk rfl ⟨⟨⟩, ⟨⟩⟩ ?_)
    obtain ⟨hj71, h⟩ := ck_some h
    refine WP.ixO tysOk rfl ⟨⟩ rfl rfl rfl rfl rfl rfl rfl rfl hf90 hj71 ?_
    intro b89 hA89
    obtain ⟨r162, hx36, h⟩ := lt_some h
    refine WP.stoO (f := (fI .i64)) 0 0 tysOk rfl rfl rfl rfl rfl rfl rfl rfl rfl (.tail .head) hA89 hf90 hj71 rfl rfl rfl hx36 ?_
    intro hf93
    iterate 3 (refine WP.sx tysOk rfl ⟨⟨⟩, ⟨⟩⟩ ?_)
    refine WP.stop rfl (n9, w64 (s19 + 1), r162, xs23, A46, m17, c46, A47, m18, c47) ⟨⟨h, hf93, hf91⟩, Nat.lt_succ_self _⟩ ?_ ?_
    ·repeat first | exact ⟨⟩ | refine ⟨rfl, ?_⟩
    exact (.cons (.tail .head) (.cons .head (.cons .head (.cons .head (.cons .head (.cons .head (.cons .head (.cons .head .nil))))))))
   rw [if_neg hh168] at h
   iterate 3 (refine WP.sx tysOk rfl ⟨⟨⟩, ⟨⟩⟩ ?_)
   obtain ⟨hj72, h⟩ := ck_some h
   refine WP.ixO tysOk rfl ⟨⟩ rfl rfl rfl rfl rfl rfl rfl rfl hf90 hj72 ?_
   intro b90 hA90
   refine WP.lx tysOk rfl ⟨⟩ (OwS.at0 (.tail .head) hA90 hj72 rfl) ?_
   refine WP.bsO (f := (fI .i64)) [(gt r160 s19)] tysOk rfl rfl rfl rfl rfl rfl rfl rfl rfl rfl rfl rfl rfl rfl ?_
   intro g20 hf94
   obtain ⟨hl20, h⟩ := ck_some h
   obtain ⟨xs24, hz20, h⟩ := lt_some h
   refine WP.appO (f := (fI .i64)) (xs := xs23) (ys := [(gt r160 s19)]) tysOk rfl rfl rfl rfl rfl rfl rfl rfl rfl rfl rfl rfl (.tail .head) hf91 hf94.len (OwS.app .head hf94) hl20 hz20 ?_
   intro A48 c48 hf95
   iterate 4 (refine WP.sx tysOk rfl ⟨⟨⟩, ⟨⟩⟩ ?_)
   refine WP.stop rfl (n9, w64 (s19 + 1), r160, xs24, A46, m17, c46, A48, xs24.length, c48) ⟨⟨h, hf90, hf95⟩, Nat.lt_succ_self _⟩ ?_ ?_
   ·repeat first | exact ⟨⟩ | refine ⟨rfl, ?_⟩
   exact (.cons .head (.cons (.tail .head) (.cons (.tail .head) (.cons (.tail .head) (.cons (.tail .head) (.cons (.tail .head) (.cons (.tail .head) (.cons (.tail .head) .nil))))))))
  rw [if_neg hh166] at h
  refine WP.draw rfl (by kernel_rfl) (by kernel_rfl) ?_
  obtain ⟨r163, hg115, h⟩ := bind_some h
  refine WP.callV rfl rfl rfl rfl rfl rfl rfl (by kernel_rfl) (fun w1 hw1 => (law17_known_w hg115 (pg.le ((Held.mem (List.Mem.tail _ (List.Mem.tail _ (List.Mem.tail _ (List.Mem.tail _ (List.Mem.tail _ (List.Mem.tail _ (List.Mem.tail _ (List.Mem.head _))))))))) _ _ hw1)) :)) rfl ?_
  refine WP.sx tysOk rfl ⟨rfl, ⟨⟩⟩ ?_
  by_cases hh169 : r163 = true
  ·rw [if_pos hh169] at h
   refine WP.yes rfl rfl hh169 ?_
   refine WP.sx tysOk rfl ⟨rfl, ⟨⟩⟩ ?_
   refine WP.yes rfl rfl rfl ?_
   iterate 3 (refine WP.sx tysOk rfl ⟨rfl, ⟨⟩⟩ ?_)
   by_cases hh170 : 0 ≤ s13
   ·rw [if_pos hh170] at h
    refine WP.yes rfl rfl (decide_eq_true hh170) ?_
    iterate 2 (refine WP.sx tysOk rfl ⟨rfl, ⟨⟩⟩ ?_; refine WP.yes rfl rfl rfl ?_)
    refine WP.lx tysOk rfl rfl (CellAt.blk (.tail (.tail .head)) rfl) ?_
    iterate 2 (refine WP.yes rfl rfl rfl ?_; refine WP.sx tysOk rfl ⟨rfl, ⟨⟩⟩ ?_)
    refine WP.yes rfl rfl rfl ?_
    refine WP.lx tysOk rfl rfl (CellAt.blk (.tail (.tail (.tail (.tail (.tail (.tail .head)))))) rfl) ?_
    iterate 2 (refine WP.yes rfl rfl rfl ?_; refine WP.sx tysOk rfl ⟨rfl, ⟨⟩⟩ ?_)
    refine WP.yes rfl rfl rfl ?_
    iterate 3 (refine WP.sx tysOk rfl ⟨rfl, ⟨⟩⟩ ?_)
    by_cases hh171 : (r2.1.inst.supply.length : Int) = (w64 ((r1.supply.length : Int) - 1))
    ·rw [if_pos hh171] at h
     refine WP.yes rfl rfl (decide_eq_true hh171) ?_
     refine WP.sx tysOk rfl ⟨rfl, ⟨⟩⟩ ?_
     refine WP.yes rfl rfl rfl ?_
     refine WP.lenO (xs := xs23) tysOk rfl rfl rfl rfl rfl rfl rfl rfl hf91 ?_
     iterate 2 (refine WP.yes rfl rfl rfl ?_; refine WP.sx tysOk rfl ⟨rfl, ⟨⟩⟩ ?_)
     refine WP.yes rfl rfl rfl ?_
     refine WP.lx tysOk rfl rfl (CellAt.blk (.tail (.tail .head)) rfl) ?_
     refine WP.yes rfl rfl rfl ?_
     refine WP.sx tysOk rfl ⟨rfl, ⟨⟩⟩ ?_
     refine WP.yes rfl rfl rfl ?_
     iterate 3 (refine WP.sx tysOk rfl ⟨rfl, ⟨⟩⟩ ?_)
     by_cases hh172 : (xs23.length : Int) = (r2.1.inst.arcs.length : Int)
     ·rw [if_pos hh172] at h
      refine WP.yes rfl rfl (decide_eq_true hh172) ?_
      refine WP.mx_ tysOk rfl rfl (SegAt.blk' (.tail (.tail (.tail (.tail (.tail (.tail .head)))))) rfl) ?_
      refine WP.yes rfl rfl rfl ?_
      refine WP.sx tysOk rfl ⟨rfl, ⟨⟩⟩ ?_
      refine WP.yes rfl rfl rfl ?_
      obtain ⟨r164, hg116, h⟩ := bind_some h
      refine WP.callV rfl rfl rfl rfl rfl rfl rfl (by kernel_rfl) (fun w1 hw1 => (flow_Fits_w hg116 (InsZ.mk_ ((hz1.le' ((Held.mem (List.Mem.tail _ (List.Mem.tail _ (List.Mem.tail _ (List.Mem.tail _ (List.Mem.tail _ (List.Mem.head _))))))) _ _ hw1)).of) ((hz2.le' ((Held.mem (List.Mem.tail _ (List.Mem.tail _ (List.Mem.tail _ (List.Mem.tail _ (List.Mem.head _)))))) _ _ hw1)).of)) (hw1.ow (.tail .head) hf90) :)) rfl ?_
      iterate 2 (refine WP.yes rfl rfl rfl ?_; refine WP.sx tysOk rfl ⟨rfl, ⟨⟩⟩ ?_)
      refine WP.yes rfl rfl rfl ?_
      refine WP.mx_ tysOk rfl rfl (SegAt.blk' (.tail (.tail .head)) rfl) ?_
      refine WP.yes rfl rfl rfl ?_
      refine WP.sx tysOk rfl ⟨rfl, ⟨⟩⟩ ?_
      refine WP.yes rfl rfl rfl ?_
      obtain ⟨r165, hg117, h⟩ := bind_some h
      refine WP.callV rfl rfl rfl rfl rfl rfl rfl (by kernel_rfl) (fun w1 hw1 => (flow_Fits_w hg117 (InsZ.mk_ ((hs4.le' ((Held.or (Held.or (Held.mem (List.Mem.tail _ (List.Mem.tail _ (List.Mem.tail _ (List.Mem.tail _ (List.Mem.tail _ (List.Mem.head _))))))) (Held.mem (List.Mem.tail _ (List.Mem.tail _ (List.Mem.tail _ (List.Mem.tail _ (List.Mem.head _))))))) (Held.mem (List.Mem.tail _ (List.Mem.tail _ (List.Mem.tail _ (List.Mem.head _)))))) _ _ hw1)).of) ((hs5.le' ((Held.or (Held.or (Held.mem (List.Mem.tail _ (List.Mem.tail _ (List.Mem.tail _ (List.Mem.tail _ (List.Mem.tail _ (List.Mem.head _))))))) (Held.mem (List.Mem.tail _ (List.Mem.tail _ (List.Mem.tail _ (List.Mem.tail _ (List.Mem.head _))))))) (Held.mem (List.Mem.tail _ (List.Mem.tail _ (List.Mem.tail _ (List.Mem.head _)))))) _ _ hw1)).of)) (hw1.ow .head hf91) :)) rfl ?_
      refine WP.yes rfl rfl rfl ?_
      refine WP.sx tysOk rfl ⟨rfl, ⟨⟩⟩ ?_
      refine WP.yes rfl rfl rfl ?_
      iterate 3 (refine WP.sx tysOk rfl ⟨rfl, ⟨⟩⟩ ?_)
      by_cases hh173 : ((decide (r164 = 0)) == (decide (r165 = 0))) = true
      ·rw [if_pos hh173] at h
       refine WP.yes rfl rfl hh173 ?_
       refine WP.mx_ tysOk rfl rfl (SegAt.blk' (.tail (.tail (.tail (.tail (.tail (.tail .head)))))) rfl) ?_
       refine WP.yes rfl rfl rfl ?_
       refine WP.sx tysOk rfl ⟨rfl, ⟨⟩⟩ ?_
       refine WP.yes rfl rfl rfl ?_
       obtain ⟨r166, hg118, h⟩ := bind_some h
       refine WP.callV rfl rfl rfl rfl rfl rfl rfl (by kernel_rfl) (fun w1 hw1 => (flow_Cost_w hg118 (InsZ.mk_ ((hz1.le' ((Held.mem (List.Mem.tail _ (List.Mem.tail _ (List.Mem.tail _ (List.Mem.tail _ (List.Mem.tail _ (List.Mem.head _))))))) _ _ hw1)).of) ((hz2.le' ((Held.mem (List.Mem.tail _ (List.Mem.tail _ (List.Mem.tail _ (List.Mem.tail _ (List.Mem.head _)))))) _ _ hw1)).of)) (hw1.ow (.tail .head) hf90) :)) rfl ?_
       refine WP.yes rfl rfl rfl ?_
       refine WP.sx tysOk rfl ⟨rfl, ⟨⟩⟩ ?_
       refine WP.yes rfl rfl rfl ?_
       refine WP.mx_ tysOk rfl rfl (SegAt.blk' (.tail (.tail .head)) rfl) ?_
       refine WP.yes rfl rfl rfl ?_
       refine WP.sx tysOk rfl ⟨rfl, ⟨⟩⟩ ?_
       refine WP.yes rfl rfl rfl ?_
       obtain ⟨r167, hg119, h⟩ := bind_some h
       refine WP.callV rfl rfl rfl rfl rfl rfl rfl (by kernel_rfl) (fun w1 hw1 => (flow_Cost_w hg119 (InsZ.mk_ ((hs4.le' ((Held.or (Held.or (Held.mem (List.Mem.tail _ (List.Mem.tail _ (List.Mem.tail _ (List.Mem.tail _ (List.Mem.tail _ (List.Mem.head _))))))) (Held.mem (List.Mem.tail _ (List.Mem.tail _ (List.Mem.tail _ (List.Mem.tail _ (List.Mem.head _))))))) (Held.mem (List.Mem.tail _ (List.Mem.tail _ (List.Mem.tail _ (List.Mem.head _)))))) _ _ hw1)).of) ((hs5.le' ((Held.or (Held.or (Held.mem (List.Mem.tail _ (List.Mem.tail _ (List.Mem.tail _ (List.Mem.tail _ (List.Mem.tail _ (List.Mem.head _))))))) (Held.mem (List.Mem.tail _ (List.Mem.tail _ (List.Mem.tail _ (List.Mem.tail _ (List.Mem.head _))))))) (Held.mem (List.Mem.tail _ (List.Mem.tail _ (List.Mem.tail _ (List.Mem.head _)))))) _ _ hw1)).of)) (hw1.ow .head hf91) :)) rfl ?_
       refine WP.yes rfl rfl rfl ?_
       refine WP.eqS rfl rfl rfl rfl rfl rfl rfl rfl (by kernel_rfl) (eq38 r166 r167) ?_
       iterate 2 (refine WP.sx tysOk rfl ⟨rfl, ⟨⟩⟩ ?_)
       by_cases hh174 : r166 = r167
       ·rw [if_pos hh174] at h
        refine WP.yes rfl rfl (decide_eq_true hh174) ?_
        refine WP.sx tysOk rfl ⟨rfl, ⟨⟩⟩ ?_
        refine WP.yes rfl rfl rfl ?_
        refine WP.mx_ tysOk rfl rfl (SegAt.blk' (.tail (.tail .head)) rfl) ?_
        refine WP.yes rfl rfl rfl ?_
        obtain ⟨r168, hg120, h⟩ := bind_some h
        refine WP.callV rfl rfl rfl rfl rfl rfl rfl (by kernel_rfl) (fun w1 hw1 => (num_Of_w hg120  :)) rfl ?_
        refine WP.yes rfl rfl rfl ?_
        refine WP.eqS rfl rfl rfl rfl rfl rfl rfl rfl (by kernel_rfl) (eq38 r2.1.off r168) ?_
        iterate 2 (refine WP.sx tysOk rfl ⟨rfl, ⟨⟩⟩ ?_)
        refine WP.qend rfl ?_
        cases h
        refine WP.retR tysOk rfl rfl ⟨_, _, rfl, rfl, rfl⟩ (fun w1 hw1 => ⟨rfl, Ret.below_ hw1 (.cons (.tail (.tail (.tail (.tail (.tail (.tail (.tail .head))))))) .nil)⟩)
       rw [if_neg hh174] at h
       refine WP.no rfl rfl (decide_eq_false hh174) rfl rfl ?_
       iterate 3 (refine WP.no rfl rfl rfl rfl rfl ?_)
       iterate 2 (refine WP.sx tysOk rfl ⟨rfl, ⟨⟩⟩ ?_)
       refine WP.qend rfl ?_
       cases h
       refine WP.retR tysOk rfl rfl ⟨_, _, rfl, rfl, rfl⟩ (fun w1 hw1 => ⟨rfl, Ret.below_ hw1 (.cons (.tail (.tail (.tail (.tail (.tail (.tail (.tail .head))))))) .nil)⟩)
      rw [if_neg hh173] at h
      refine WP.no rfl rfl (bfalse hh173) rfl rfl ?_
      iterate 7 (refine WP.no rfl rfl rfl rfl rfl ?_)
      iterate 2 (refine WP.sx tysOk rfl ⟨rfl, ⟨⟩⟩ ?_)
      iterate 4 (refine WP.no rfl rfl rfl rfl rfl ?_)
      iterate 2 (refine WP.sx tysOk rfl ⟨rfl, ⟨⟩⟩ ?_)
      refine WP.qend rfl ?_
      cases h
      refine WP.retR tysOk rfl rfl ⟨_, _, rfl, rfl, rfl⟩ (fun w1 hw1 => ⟨rfl, Ret.below_ hw1 (.cons (.tail (.tail (.tail (.tail (.tail (.tail (.tail .head))))))) .nil)⟩)
     rw [if_neg hh172] at h
     refine WP.no rfl rfl (decide_eq_false hh172) rfl rfl ?_
     iterate 9 (refine WP.no rfl rfl rfl rfl rfl ?_)
     iterate 2 (refine WP.sx tysOk rfl ⟨rfl, ⟨⟩⟩ ?_)
     iterate 8 (refine WP.no rfl rfl rfl rfl rfl ?_)
     iterate 2 (refine WP.sx tysOk rfl ⟨rfl, ⟨⟩⟩ ?_)
     iterate 4 (refine WP.no rfl rfl rfl rfl rfl ?_)
     iterate 2 (refine WP.sx tysOk rfl ⟨rfl, ⟨⟩⟩ ?_)
     refine WP.qend rfl ?_
     cases h
     refine WP.retR tysOk rfl rfl ⟨_, _, rfl, rfl, rfl⟩ (fun w1 hw1 => ⟨rfl, Ret.below_ hw1 (.cons (.tail (.tail (.tail (.tail (.tail (.tail (.tail .head))))))) .nil)⟩)
    rw [if_neg hh171] at h
    refine WP.no rfl rfl (decide_eq_false hh171) rfl rfl ?_
    iterate 6 (refine WP.no rfl rfl rfl rfl rfl ?_)
    iterate 2 (refine WP.sx tysOk rfl ⟨rfl, ⟨⟩⟩ ?_)
    iterate 10 (refine WP.no rfl rfl rfl rfl rfl ?_)
    iterate 2 (refine WP.sx tysOk rfl ⟨rfl, ⟨⟩⟩ ?_)
    iterate 8 (refine WP.no rfl rfl rfl rfl rfl ?_)
    iterate 2 (refine WP.sx tysOk rfl ⟨rfl, ⟨⟩⟩ ?_)
    iterate 4 (refine WP.no rfl rfl rfl rfl rfl ?_)
    iterate 2 (refine WP.sx tysOk rfl ⟨rfl, ⟨⟩⟩ ?_)
    refine WP.qend rfl ?_
    cases h
    refine WP.retR tysOk rfl rfl ⟨_, _, rfl, rfl, rfl⟩ (fun w1 hw1 => ⟨rfl, Ret.below_ hw1 (.cons (.tail (.tail (.tail (.tail (.tail (.tail (.tail .head))))))) .nil)⟩)
   rw [if_neg hh170] at h
   refine WP.no rfl rfl (decide_eq_false hh170) rfl rfl ?_
   iterate 8 (refine WP.no rfl rfl rfl rfl rfl ?_)
   iterate 2 (refine WP.sx tysOk rfl ⟨rfl, ⟨⟩⟩ ?_)
   iterate 7 (refine WP.no rfl rfl rfl rfl rfl ?_)
   iterate 2 (refine WP.sx tysOk rfl ⟨rfl, ⟨⟩⟩ ?_)
   iterate 10 (refine WP.no rfl rfl rfl rfl rfl ?_)
   iterate 2 (refine WP.sx tysOk rfl ⟨rfl, ⟨⟩⟩ ?_)
   iterate 8 (refine WP.no rfl rfl rfl rfl rfl ?_)
   iterate 2 (refine WP.sx tysOk rfl ⟨rfl, ⟨⟩⟩ ?_)
   iterate 4 (refine WP.no rfl rfl rfl rfl rfl ?_)
   iterate 2 (refine WP.sx tysOk rfl ⟨rfl, ⟨⟩⟩ ?_)
   refine WP.qend rfl ?_
   cases h
   refine WP.retR tysOk rfl rfl ⟨_, _, rfl, rfl, rfl⟩ (fun w1 hw1 => ⟨rfl, Ret.below_ hw1 (.cons (.tail (.tail (.tail (.tail (.tail (.tail (.tail .head))))))) .nil)⟩)
  rw [if_neg hh169] at h
  refine WP.no rfl rfl (bfalse hh169) rfl rfl ?_
  refine WP.no rfl rfl rfl rfl rfl ?_
  iterate 2 (refine WP.sx tysOk rfl ⟨rfl, ⟨⟩⟩ ?_)
  iterate 9 (refine WP.no rfl rfl rfl rfl rfl ?_)
  iterate 2 (refine WP.sx tysOk rfl ⟨rfl, ⟨⟩⟩ ?_)
  iterate 7 (refine WP.no rfl rfl rfl rfl rfl ?_)
  iterate 2 (refine WP.sx tysOk rfl ⟨rfl, ⟨⟩⟩ ?_)
  iterate 10 (refine WP.no rfl rfl rfl rfl rfl ?_)
  iterate 2 (refine WP.sx tysOk rfl ⟨rfl, ⟨⟩⟩ ?_)
  iterate 8 (refine WP.no rfl rfl rfl rfl rfl ?_)
  iterate 2 (refine WP.sx tysOk rfl ⟨rfl, ⟨⟩⟩ ?_)
  iterate 4 (refine WP.no rfl rfl rfl rfl rfl ?_)
  iterate 2 (refine WP.sx tysOk rfl ⟨rfl, ⟨⟩⟩ ?_)
  refine WP.qend rfl ?_
  cases h
  refine WP.retR tysOk rfl rfl ⟨_, _, rfl, rfl, rfl⟩ (fun w1 hw1 => ⟨rfl, Ret.below_ hw1 (.cons (.tail (.tail (.tail (.tail (.tail (.tail (.tail .head))))))) .nil)⟩)
end Go.Proofs.YtbnjeanldechnaaGreatDoor
