/- The walks: the code computes that. -/
import Derived.Test.YtbnjeanldechnaaGreatDoorGD
import Derived.Test.YtbnjeanldechnaaGreatDoorTys
import Derived.Test.YtbnjeanldechnaaGreatDoorEngG
import Derived.KernelRfl
namespace Go.Proofs.YtbnjeanldechnaaGreatDoor
open Go.RowKit Go.Qe
set_option maxHeartbeats 4000000 in
theorem eq31 (x y : Arc) (w : World) : (Op.equalIn 10000 31 (.agg #[iv x.src, iv x.dst, iv x.low, iv x.cap, iv x.cost]) (.agg #[iv y.src, iv y.dst, iv y.low, iv y.cap, iv y.cost])).run Tryz.prog w = .ok (decide (x = y)) w := by
  rw [run_equalIn_struct w 9999 31 _ _ (by kernel_rfl) (by kernel_rfl)]
  have e : decide (x = y) = ((x.src == y.src) && ((x.dst == y.dst) && ((x.low == y.low) && ((x.cap == y.cap) && ((x.cost == y.cost)))))) := by
    cases x; cases y; rw [Bool.eq_iff_iff]; simp
  rw [e]
  have i2 : ∀ (a b : Int) (w : World), (Op.equalIn 9999 2 (.int .i64 a) (.int .i64 b)).run Tryz.prog w = .ok (a == b) w := fun a b w => run_equalIn_int w 9998 2 .i64 .i64 a b Tryz.underlying2
  have g2 : ∀ w : World, (isAgg 2).run Tryz.prog w = .ok false w := fun w => isAgg_run Tryz.underlying2 w
  have i3 : ∀ (a b : Int) (w : World), (Op.equalIn 9999 3 (.int .i64 a) (.int .i64 b)).run Tryz.prog w = .ok (a == b) w := fun a b w => run_equalIn_int w 9998 3 .i64 .i64 a b Tryz.underlying3
  have g3 : ∀ w : World, (isAgg 3).run Tryz.prog w = .ok false w := fun w => isAgg_run Tryz.underlying3 w
  simp [Program.fieldsOf, Op.eqFields, part, Tryz.underlying31, g2, i2, g3, i3]
  (repeat' split) <;> simp_all
set_option maxHeartbeats 4000000 in
theorem eq38 (x y : Wide) (w : World) : (Op.equalIn 10000 38 (.agg #[iv x.hi, .int .u64 (x.lo)]) (.agg #[iv y.hi, .int .u64 (y.lo)])).run Tryz.prog w = .ok (decide (x = y)) w := by
  rw [run_equalIn_struct w 9999 38 _ _ (by kernel_rfl) (by kernel_rfl)]
  have e : decide (x = y) = ((x.hi == y.hi) && ((x.lo == y.lo))) := by
    cases x; cases y; rw [Bool.eq_iff_iff]; simp
  rw [e]
  have i2 : ∀ (a b : Int) (w : World), (Op.equalIn 9999 2 (.int .i64 a) (.int .i64 b)).run Tryz.prog w = .ok (a == b) w := fun a b w => run_equalIn_int w 9998 2 .i64 .i64 a b Tryz.underlying2
  have g2 : ∀ w : World, (isAgg 2).run Tryz.prog w = .ok false w := fun w => isAgg_run Tryz.underlying2 w
  have i36 : ∀ (a b : Int) (w : World), (Op.equalIn 9999 36 (.int .u64 a) (.int .u64 b)).run Tryz.prog w = .ok (a == b) w := fun a b w => run_equalIn_int w 9998 36 .u64 .u64 a b Tryz.underlying36
  have g36 : ∀ w : World, (isAgg 36).run Tryz.prog w = .ok false w := fun w => isAgg_run Tryz.underlying36 w
  simp [Program.fieldsOf, Op.eqFields, part, Tryz.underlying38, g2, i2, g36, i36]
  (repeat' split) <;> simp_all
abbrev law07_Thin_S (r : Inst) : Value → Heap → Prop := fun v L => ∃ (A1 : Option Addr) (n1 c1 : Nat) (A2 : Option Addr) (n2 c2 : Nat), v = .agg #[.slice A1 n1 c1, .slice A2 n2 c2] ∧ OwF A1 n1 r.supply ∧ OwF A2 n2 r.arcs ∧ L = [Ow (fI .i64) 2 A1 n1 c1 r.supply, Ow fA 31 A2 n2 c2 r.arcs]
set_option maxRecDepth 20000 in
set_option maxHeartbeats 8000000 in
theorem law07_Thin_w {w : World} {v0 : Value} {c1 : List Int} {r : Inst} (h : law07_Thin c1 = some r) (p1 : SlF (fI .u8) (PH.of w) v0 c1) :
    Calls Tryz.prog 30 #[v0] w fun e w' => ∃ v L, e = .returned v ∧ law07_Thin_S r v L ∧ Ret w w' L := by
  obtain ⟨A1, c2, rfl, hs1⟩ := p1
  unfold law07_Thin at h
  refine enter_ Tryz.func30 rfl Tryz.ntmps30 rfl ?_
  refine WP.al tysOk rfl rfl rfl rfl rfl rfl ?_
  intro g1
  iterate 4 (refine WP.sx tysOk rfl ⟨⟨⟩, ⟨⟩⟩ ?_)
  refine WP.cond_d rfl rfl (fun hh1 => ?_) (fun hh1 => ?_)
  ·rw [if_pos hh1] at h
   refine WP.sx tysOk rfl ⟨⟨⟩, ⟨⟩⟩ ?_
   obtain ⟨hj1, h⟩ := ck_some h
   refine WP.ixA tysOk rfl ⟨⟩ rfl rfl rfl rfl rfl rfl rfl rfl hj1 (hs1.ex hj1) ?_
   intro b1 b1v hA1
   refine WP.lx tysOk rfl ⟨⟩ (hs1.at0 hA1 (Held.mem (List.Mem.tail _ (List.Mem.head _))) hj1 rfl) ?_
   refine WP.sx tysOk rfl ⟨⟨⟩, (by decide)⟩ ?_
   iterate 2 (refine WP.sx tysOk rfl ⟨⟨⟩, ⟨⟩⟩ ?_)
   obtain ⟨n1, hx1, h⟩ := lt_some h
   refine WP.sx tysOk rfl ⟨⟨⟩, ⟨⟩⟩ ?_
   refine WP.retell (s := 3) (.int .i64 n1) rfl (congrArg (Value.int .i64) hx1.symm) ?_
   refine WP.sx tysOk rfl ⟨⟨⟩, ⟨⟩⟩ ?_
   obtain ⟨hm1, h⟩ := ck_some h
   refine WP.mkO (f := (fI .i64)) 0 tysOk rfl rfl rfl rfl rfl rfl rfl rfl rfl rfl rfl rfl hm1 ?_
   intro g2 hf1
   refine WP.bld (cs := [.slice (some ⟨g2, 0, none⟩) n1.toNat n1.toNat, sn]) tysOk rfl ⟨⟩ rfl rfl rfl rfl rfl rfl rfl ?_
   refine WP.al tysOk rfl rfl rfl rfl rfl rfl ?_
   intro g3
   refine WP.sto' tysOk [.slice (some ⟨g2, 0, none⟩) n1.toNat n1.toNat, sn] rfl rfl rfl rfl rfl rfl rfl rfl rfl .head rfl rfl ?_
   refine WP.sx tysOk rfl ⟨⟨⟩, ⟨⟩⟩ ?_
   refine WP.own_nil 31 fA.z ?_
   refine WP.loop (α := Nat × Int × (List Arc) × (Option Addr) × Nat × Nat) (fun x => lp (law07_Thin_b1 c1 n1) x.1 (x.2.1, x.2.2.1) = some r ∧ OwF x.2.2.2.1 x.2.2.2.2.1 x.2.2.1) (fun x => [(0, .slice A1 c1.length c2), (2, pt g1), (3, iv n1), (4, pt g3), (5, iv x.2.1)]) (fun x => [Ow fA 31 x.2.2.2.1 x.2.2.2.2.1 x.2.2.2.2.2 x.2.2.1, .blk g3 25 [.slice (some ⟨g2, 0, none⟩) n1.toNat n1.toNat, .slice x.2.2.2.1 x.2.2.2.2.1 x.2.2.2.2.2], Ow (fI .i64) 2 (some ⟨g2, 0, none⟩) n1.toNat n1.toNat (List.replicate n1.toNat 0), .blk g1 25 [sn, sn], .fz (PH.of w)]) (fun x => x.1) rfl (big, 1, ([] : List Arc), none, 0, 0) ⟨h, OwF.nil_⟩ ?_ ?_ ?_
   ·repeat first|exact ⟨⟩|refine ⟨rfl,?_⟩
   ·exact Pick.all
   rintro ⟨n2, k3, xs5, A6, m2, c7⟩ ⟨h, hf9⟩
   dsimp only at h hf9 ⊢
   rcases n2 with _ | n2
   · exact (lp_no h).elim
   replace h := lp_succ h
   unfold law07_Thin_b1 at h
   try dsimp only at h
   iterate 5 (refine WP.sx tysOk rfl ⟨⟨⟩, ⟨⟩⟩ ?_)
   by_cases hh8 : k3 < (c1.length : Int)
   ·rw [if_pos hh8] at h
    refine WP.yes rfl rfl (decide_eq_true hh8) ?_
    refine WP.sx tysOk rfl ⟨⟨⟩, ⟨⟩⟩ ?_
    refine WP.yes rfl rfl rfl ?_
    iterate 2 (refine WP.sx tysOk rfl ⟨⟨⟩, ⟨⟩⟩ ?_)
    refine WP.cond_d rfl rfl (fun hh9 => ?_) (fun hh9 => ?_)
    ·rw [if_pos hh9] at h
     iterate 2 (refine WP.sx tysOk rfl ⟨⟨⟩, ⟨⟩⟩ ?_)
     obtain ⟨hj5, h⟩ := ck_some h
     refine WP.ixA tysOk rfl ⟨⟩ rfl rfl rfl rfl rfl rfl rfl rfl hj5 (hs1.ex hj5) ?_
     intro b8 b8v hA8
     refine WP.lx tysOk rfl ⟨⟩ (hs1.at0 hA8 (Held.mem (List.Mem.tail _ (List.Mem.tail _ (List.Mem.tail _ (List.Mem.tail _ (List.Mem.head _)))))) hj5 rfl) ?_
     iterate 2 (refine WP.sx tysOk rfl ⟨⟨⟩, ⟨⟩⟩ ?_)
     obtain ⟨hz10, h⟩ := ck_some h
     refine WP.sx tysOk rfl ⟨⟨⟩, hz10⟩ ?_
     obtain ⟨fromv4, hx8, h⟩ := lt_some h
     refine WP.sx tysOk rfl ⟨⟨⟩, ⟨⟩⟩ ?_
     refine WP.retell (s := 6) (.int .i64 fromv4) rfl (congrArg (Value.int .i64) hx8.symm) ?_
     iterate 3 (refine WP.sx tysOk rfl ⟨⟨⟩, ⟨⟩⟩ ?_)
     refine WP.ixA tysOk rfl ⟨⟩ rfl rfl rfl rfl rfl rfl rfl rfl hj5 (hs1.ex hj5) ?_
     intro b9 b9v hA9
     refine WP.lx tysOk rfl ⟨⟩ (hs1.at0 hA9 (Held.mem (List.Mem.tail _ (List.Mem.tail _ (List.Mem.tail _ (List.Mem.tail _ (List.Mem.head _)))))) hj5 rfl) ?_
     iterate 2 (refine WP.sx tysOk rfl ⟨⟨⟩, (by decide)⟩ ?_)
     iterate 3 (refine WP.sx tysOk rfl ⟨⟨⟩, ⟨⟩⟩ ?_)
     obtain ⟨hz11, h⟩ := ck_some h
     refine WP.sx tysOk rfl ⟨⟨⟩, hz11⟩ ?_
     obtain ⟨tov4, hx9, h⟩ := lt_some h
     refine WP.sx tysOk rfl ⟨⟨⟩, ⟨⟩⟩ ?_
     refine WP.retell (s := 7) (.int .i64 tov4) rfl (congrArg (Value.int .i64) hx9.symm) ?_
     refine WP.sx tysOk rfl ⟨⟨⟩, ⟨⟩⟩ ?_
     refine WP.lx tysOk rfl ⟨⟩ (CellAt.blk (.tail .head) rfl) ?_
     iterate 3 (refine WP.sx tysOk rfl ⟨⟨⟩, ⟨⟩⟩ ?_)
     refine WP.bld (cs := [iv fromv4, iv tov4, iv 0, iv 3, iv k3]) tysOk rfl ⟨⟩ rfl rfl rfl rfl rfl rfl rfl ?_
     refine WP.bsO (f := fA) [(Arc.mk fromv4 tov4 0 3 k3)] tysOk rfl rfl rfl rfl rfl rfl rfl rfl rfl rfl rfl rfl rfl rfl ?_
     intro g7 hf10
     obtain ⟨hl4, h⟩ := ck_some h
     obtain ⟨xs6, hz12, h⟩ := lt_some h
     refine WP.appO (f := fA) (xs := xs5) (ys := [(Arc.mk fromv4 tov4 0 3 k3)]) tysOk rfl rfl rfl rfl rfl rfl rfl rfl rfl rfl rfl rfl (.tail .head) hf9 hf10.len (OwS.app .head hf10) hl4 hz12 ?_
     intro A7 c8 hf11
     refine WP.sx tysOk rfl ⟨⟨⟩, ⟨⟩⟩ ?_
     refine WP.sto' tysOk [.slice (some ⟨g2, 0, none⟩) n1.toNat n1.toNat, .slice A7 xs6.length c8] rfl rfl rfl rfl rfl rfl rfl rfl rfl (.tail (.tail .head)) rfl rfl ?_
     iterate 3 (refine WP.sx tysOk rfl ⟨⟨⟩, ⟨⟩⟩ ?_)
     refine WP.stop rfl (n2, w64 (k3 + 1), xs6, A7, xs6.length, c8) ⟨⟨h, hf11⟩, Nat.lt_succ_self _⟩ ?_ ?_
     ·repeat first|exact ⟨⟩|refine ⟨rfl,?_⟩
     exact (.cons (.tail .head) (.cons .head (.cons (.tail .head) (.cons (.tail .head) (.cons (.tail .head) .nil)))))
    rw [if_neg hh9] at h
    refine WP.mx_ tysOk rfl ⟨⟩ (SegAt.blk' (.tail .head) rfl) ?_
    refine WP.sto' tysOk [.slice (some ⟨g2, 0, none⟩) n1.toNat n1.toNat, .slice A6 m2 c7] rfl rfl rfl rfl rfl rfl rfl rfl rfl (.tail (.tail (.tail .head))) rfl rfl ?_
    cases h
    refine WP.retR tysOk rfl rfl ⟨_, _, _, _, rfl, ⟨_, rfl, .inr ⟨rfl, _, rfl, rfl, (SegAt.blk' (z := 2) .head rfl).1⟩⟩, rfl, rfl⟩ (fun w1 hw1 => ⟨_, _, rfl, ⟨(some ⟨g2, 0, none⟩), n1.toNat, n1.toNat, A6, m2, c7, rfl, hf1, hf9, rfl⟩, Ret.of_KH hw1 (.cons (.tail (.tail (.tail .head))) (.cons (.tail .head) (.cons (.tail (.tail .head)) .nil)))⟩)
   rw [if_neg hh8] at h
   refine WP.no rfl rfl (decide_eq_false hh8) rfl rfl ?_
   refine WP.no rfl rfl rfl rfl rfl ?_
   refine WP.sx tysOk rfl ⟨⟨⟩, ⟨⟩⟩ ?_
   refine WP.condF rfl rfl ?_
   refine WP.mx_ tysOk rfl ⟨⟩ (SegAt.blk' (.tail .head) rfl) ?_
   refine WP.sto' tysOk [.slice (some ⟨g2, 0, none⟩) n1.toNat n1.toNat, .slice A6 m2 c7] rfl rfl rfl rfl rfl rfl rfl rfl rfl (.tail (.tail (.tail .head))) rfl rfl ?_
   cases h
   refine WP.retR tysOk rfl rfl ⟨_, _, _, _, rfl, ⟨_, rfl, .inr ⟨rfl, _, rfl, rfl, (SegAt.blk' (z := 2) .head rfl).1⟩⟩, rfl, rfl⟩ (fun w1 hw1 => ⟨_, _, rfl, ⟨(some ⟨g2, 0, none⟩), n1.toNat, n1.toNat, A6, m2, c7, rfl, hf1, hf9, rfl⟩, Ret.of_KH hw1 (.cons (.tail (.tail (.tail .head))) (.cons (.tail .head) (.cons (.tail (.tail .head)) .nil)))⟩)
  rw [if_neg hh1] at h
  refine WP.sx tysOk rfl ⟨⟨⟩, ⟨⟩⟩ ?_
  obtain ⟨hm2, h⟩ := ck_some h
  refine WP.mkO (f := (fI .i64)) 0 tysOk rfl rfl rfl rfl rfl rfl rfl rfl rfl rfl rfl rfl hm2 ?_
  intro g8 hf12
  refine WP.bld (cs := [.slice (some ⟨g8, 0, none⟩) ((2 : Int).toNat) ((2 : Int).toNat), sn]) tysOk rfl ⟨⟩ rfl rfl rfl rfl rfl rfl rfl ?_
  refine WP.al tysOk rfl rfl rfl rfl rfl rfl ?_
  intro g9
  refine WP.sto' tysOk [.slice (some ⟨g8, 0, none⟩) ((2 : Int).toNat) ((2 : Int).toNat), sn] rfl rfl rfl rfl rfl rfl rfl rfl rfl .head rfl rfl ?_
  refine WP.sx tysOk rfl ⟨⟨⟩, ⟨⟩⟩ ?_
  refine WP.own_nil 31 fA.z ?_
  refine WP.loop (α := Nat × Int × (List Arc) × (Option Addr) × Nat × Nat) (fun x => lp (law07_Thin_b2 c1) x.1 (x.2.1, x.2.2.1) = some r ∧ OwF x.2.2.2.1 x.2.2.2.2.1 x.2.2.1) (fun x => [(0, .slice A1 c1.length c2), (2, pt g1), (3, iv 2), (4, pt g9), (5, iv x.2.1)]) (fun x => [Ow fA 31 x.2.2.2.1 x.2.2.2.2.1 x.2.2.2.2.2 x.2.2.1, .blk g9 25 [.slice (some ⟨g8, 0, none⟩) ((2 : Int).toNat) ((2 : Int).toNat), .slice x.2.2.2.1 x.2.2.2.2.1 x.2.2.2.2.2], Ow (fI .i64) 2 (some ⟨g8, 0, none⟩) ((2 : Int).toNat) ((2 : Int).toNat) (List.replicate (2 : Int).toNat 0), .blk g1 25 [sn, sn], .fz (PH.of w)]) (fun x => x.1) rfl (big, 1, ([] : List Arc), none, 0, 0) ⟨h, OwF.nil_⟩ ?_ ?_ ?_
  ·repeat first|exact ⟨⟩|refine ⟨rfl,?_⟩
  ·exact Pick.all
  rintro ⟨n3, k7, xs11, A12, m4, c13⟩ ⟨h, hf20⟩
  dsimp only at h hf20 ⊢
  rcases n3 with _ | n3
  · exact (lp_no h).elim
  replace h := lp_succ h
  unfold law07_Thin_b2 at h
  try dsimp only at h
  iterate 5 (refine WP.sx tysOk rfl ⟨⟨⟩, ⟨⟩⟩ ?_)
  by_cases hh16 : k7 < (c1.length : Int)
  ·rw [if_pos hh16] at h
   refine WP.yes rfl rfl (decide_eq_true hh16) ?_
   refine WP.sx tysOk rfl ⟨⟨⟩, ⟨⟩⟩ ?_
   refine WP.yes rfl rfl rfl ?_
   iterate 2 (refine WP.sx tysOk rfl ⟨⟨⟩, ⟨⟩⟩ ?_)
   refine WP.cond_d rfl rfl (fun hh17 => ?_) (fun hh17 => ?_)
   ·rw [if_pos hh17] at h
    iterate 2 (refine WP.sx tysOk rfl ⟨⟨⟩, ⟨⟩⟩ ?_)
    obtain ⟨hj9, h⟩ := ck_some h
    refine WP.ixA tysOk rfl ⟨⟩ rfl rfl rfl rfl rfl rfl rfl rfl hj9 (hs1.ex hj9) ?_
    intro b16 b16v hA16
    refine WP.lx tysOk rfl ⟨⟩ (hs1.at0 hA16 (Held.mem (List.Mem.tail _ (List.Mem.tail _ (List.Mem.tail _ (List.Mem.tail _ (List.Mem.head _)))))) hj9 rfl) ?_
    iterate 2 (refine WP.sx tysOk rfl ⟨⟨⟩, ⟨⟩⟩ ?_)
    refine WP.sx tysOk rfl ⟨⟨⟩, (by decide)⟩ ?_
    obtain ⟨fromv7, hx15, h⟩ := lt_some h
    refine WP.sx tysOk rfl ⟨⟨⟩, ⟨⟩⟩ ?_
    refine WP.retell (s := 6) (.int .i64 fromv7) rfl (congrArg (Value.int .i64) hx15.symm) ?_
    iterate 3 (refine WP.sx tysOk rfl ⟨⟨⟩, ⟨⟩⟩ ?_)
    refine WP.ixA tysOk rfl ⟨⟩ rfl rfl rfl rfl rfl rfl rfl rfl hj9 (hs1.ex hj9) ?_
    intro b17 b17v hA17
    refine WP.lx tysOk rfl ⟨⟩ (hs1.at0 hA17 (Held.mem (List.Mem.tail _ (List.Mem.tail _ (List.Mem.tail _ (List.Mem.tail _ (List.Mem.head _)))))) hj9 rfl) ?_
    iterate 2 (refine WP.sx tysOk rfl ⟨⟨⟩, (by decide)⟩ ?_)
    iterate 3 (refine WP.sx tysOk rfl ⟨⟨⟩, ⟨⟩⟩ ?_)
    refine WP.sx tysOk rfl ⟨⟨⟩, (by decide)⟩ ?_
    obtain ⟨tov8, hx16, h⟩ := lt_some h
    refine WP.sx tysOk rfl ⟨⟨⟩, ⟨⟩⟩ ?_
    refine WP.retell (s := 7) (.int .i64 tov8) rfl (congrArg (Value.int .i64) hx16.symm) ?_
    refine WP.sx tysOk rfl ⟨⟨⟩, ⟨⟩⟩ ?_
    refine WP.lx tysOk rfl ⟨⟩ (CellAt.blk (.tail .head) rfl) ?_
    iterate 3 (refine WP.sx tysOk rfl ⟨⟨⟩, ⟨⟩⟩ ?_)
    refine WP.bld (cs := [iv fromv7, iv tov8, iv 0, iv 3, iv k7]) tysOk rfl ⟨⟩ rfl rfl rfl rfl rfl rfl rfl ?_
    refine WP.bsO (f := fA) [(Arc.mk fromv7 tov8 0 3 k7)] tysOk rfl rfl rfl rfl rfl rfl rfl rfl rfl rfl rfl rfl rfl rfl ?_
    intro g13 hf21
    obtain ⟨hl8, h⟩ := ck_some h
    obtain ⟨xs12, hz16, h⟩ := lt_some h
    refine WP.appO (f := fA) (xs := xs11) (ys := [(Arc.mk fromv7 tov8 0 3 k7)]) tysOk rfl rfl rfl rfl rfl rfl rfl rfl rfl rfl rfl rfl (.tail .head) hf20 hf21.len (OwS.app .head hf21) hl8 hz16 ?_
    intro A13 c14 hf22
    refine WP.sx tysOk rfl ⟨⟨⟩, ⟨⟩⟩ ?_
    refine WP.sto' tysOk [.slice (some ⟨g8, 0, none⟩) ((2 : Int).toNat) ((2 : Int).toNat), .slice A13 xs12.length c14] rfl rfl rfl rfl rfl rfl rfl rfl rfl (.tail (.tail .head)) rfl rfl ?_
    iterate 3 (refine WP.sx tysOk rfl ⟨⟨⟩, ⟨⟩⟩ ?_)
    refine WP.stop rfl (n3, w64 (k7 + 1), xs12, A13, xs12.length, c14) ⟨⟨h, hf22⟩, Nat.lt_succ_self _⟩ ?_ ?_
    ·repeat first|exact ⟨⟩|refine ⟨rfl,?_⟩
    exact (.cons (.tail .head) (.cons .head (.cons (.tail .head) (.cons (.tail .head) (.cons (.tail .head) .nil)))))
   rw [if_neg hh17] at h
   refine WP.mx_ tysOk rfl ⟨⟩ (SegAt.blk' (.tail .head) rfl) ?_
   refine WP.sto' tysOk [.slice (some ⟨g8, 0, none⟩) ((2 : Int).toNat) ((2 : Int).toNat), .slice A12 m4 c13] rfl rfl rfl rfl rfl rfl rfl rfl rfl (.tail (.tail (.tail .head))) rfl rfl ?_
   cases h
   refine WP.retR tysOk rfl rfl ⟨_, _, _, _, rfl, ⟨_, rfl, .inr ⟨rfl, _, rfl, rfl, (SegAt.blk' (z := 2) .head rfl).1⟩⟩, rfl, rfl⟩ (fun w1 hw1 => ⟨_, _, rfl, ⟨(some ⟨g8, 0, none⟩), (2 : Int).toNat, (2 : Int).toNat, A12, m4, c13, rfl, hf12, hf20, rfl⟩, Ret.of_KH hw1 (.cons (.tail (.tail (.tail .head))) (.cons (.tail .head) (.cons (.tail (.tail .head)) .nil)))⟩)
  rw [if_neg hh16] at h
  refine WP.no rfl rfl (decide_eq_false hh16) rfl rfl ?_
  refine WP.no rfl rfl rfl rfl rfl ?_
  refine WP.sx tysOk rfl ⟨⟨⟩, ⟨⟩⟩ ?_
  refine WP.condF rfl rfl ?_
  refine WP.mx_ tysOk rfl ⟨⟩ (SegAt.blk' (.tail .head) rfl) ?_
  refine WP.sto' tysOk [.slice (some ⟨g8, 0, none⟩) ((2 : Int).toNat) ((2 : Int).toNat), .slice A12 m4 c13] rfl rfl rfl rfl rfl rfl rfl rfl rfl (.tail (.tail (.tail .head))) rfl rfl ?_
  cases h
  refine WP.retR tysOk rfl rfl ⟨_, _, _, _, rfl, ⟨_, rfl, .inr ⟨rfl, _, rfl, rfl, (SegAt.blk' (z := 2) .head rfl).1⟩⟩, rfl, rfl⟩ (fun w1 hw1 => ⟨_, _, rfl, ⟨(some ⟨g8, 0, none⟩), (2 : Int).toNat, (2 : Int).toNat, A12, m4, c13, rfl, hf12, hf20, rfl⟩, Ret.of_KH hw1 (.cons (.tail (.tail (.tail .head))) (.cons (.tail .head) (.cons (.tail (.tail .head)) .nil)))⟩)

abbrev law17_Tree_S (r : Inst) : Value → Heap → Prop := fun v L => ∃ (A1 : Option Addr) (n1 c1 : Nat) (A2 : Option Addr) (n2 c2 : Nat), v = .agg #[.slice A1 n1 c1, .slice A2 n2 c2] ∧ OwF A1 n1 r.supply ∧ OwF A2 n2 r.arcs ∧ L = [Ow (fI .i64) 2 A1 n1 c1 r.supply, Ow fA 31 A2 n2 c2 r.arcs]
set_option maxRecDepth 20000 in
set_option maxHeartbeats 8000000 in
theorem law17_Tree_w {w : World} {v0 : Value} {v1 : Value} {d1 : List Int} {i1 : List Int} {r : Inst} (h : law17_Tree d1 i1 = some r) (p1 : SlF (fI .u8) (PH.of w) v0 d1) (p2 : SlF (fI .u8) (PH.of w) v1 i1) :
    Calls Tryz.prog 10 #[v0, v1] w fun e w' => ∃ v L, e = .returned v ∧ law17_Tree_S r v L ∧ Ret w w' L := by
  obtain ⟨A1, c1, rfl, hs1⟩ := p1
  obtain ⟨A2, c2, rfl, hs2⟩ := p2
  unfold law17_Tree at h
  refine enter_ Tryz.func10 rfl Tryz.ntmps10 rfl ?_
  refine WP.al tysOk rfl rfl rfl rfl rfl rfl ?_
  intro g1
  refine WP.sx tysOk rfl ⟨⟨⟩, ⟨⟩⟩ ?_
  obtain ⟨r1, hg1, h⟩ := bind_some h
  refine WP.callS (law07_Thin_S r1) rfl rfl rfl rfl rfl rfl rfl (by kernel_rfl) (fun w1 hw1 => (law07_Thin_w hg1 (hs1.le' ((Held.mem (List.Mem.tail _ (List.Mem.head _))) _ _ hw1)).of :)) ?_
  rintro _ _ ⟨A3, n1, c3, A4, n2, c4, rfl, hf1, hf2, rfl⟩
  refine WP.al tysOk rfl rfl rfl rfl rfl rfl ?_
  intro g2
  refine WP.sto' tysOk [.slice A3 n1 c3, .slice A4 n2 c4] rfl rfl rfl rfl rfl rfl rfl rfl rfl .head rfl rfl ?_
  refine WP.sx tysOk rfl ⟨⟨⟩, ⟨⟩⟩ ?_
  refine WP.loop (α := Nat × Int × (List Int) × (List Arc) × (Option Addr) × Nat × Nat × (Option Addr) × Nat × Nat) (fun x => lp (law17_Tree_b1 i1) x.1 (x.2.1, x.2.2.1, x.2.2.2.1) = some r ∧ OwF x.2.2.2.2.1 x.2.2.2.2.2.1 x.2.2.1 ∧ OwF x.2.2.2.2.2.2.2.1 x.2.2.2.2.2.2.2.2.1 x.2.2.2.1) (fun x => [(1, .slice A2 i1.length c2), (4, pt g1), (5, pt g2), (6, iv x.2.1)]) (fun x => [.blk g2 25 [.slice x.2.2.2.2.1 x.2.2.2.2.2.1 x.2.2.2.2.2.2.1, .slice x.2.2.2.2.2.2.2.1 x.2.2.2.2.2.2.2.2.1 x.2.2.2.2.2.2.2.2.2], Ow (fI .i64) 2 x.2.2.2.2.1 x.2.2.2.2.2.1 x.2.2.2.2.2.2.1 x.2.2.1, Ow fA 31 x.2.2.2.2.2.2.2.1 x.2.2.2.2.2.2.2.2.1 x.2.2.2.2.2.2.2.2.2 x.2.2.2.1, .blk g1 25 [sn, sn], .fz (PH.of w)]) (fun x => x.1) rfl (big, 0, r1.supply, r1.arcs, A3, n1, c3, A4, n2, c4) ⟨h, hf1, hf2⟩ ?_ ?_ ?_
  ·repeat first|exact ⟨⟩|refine ⟨rfl,?_⟩
  ·exact Pick.all
  rintro ⟨n3, s3, xs27, xs28, A7, m3, c7, A8, m4, c8⟩ ⟨h, hf29, hf30⟩
  dsimp only at h hf29 hf30 ⊢
  rcases n3 with _ | n3
  · exact (lp_no h).elim
  replace h := lp_succ h
  unfold law17_Tree_b1 at h
  try dsimp only at h
  iterate 2 (refine WP.sx tysOk rfl ⟨⟨⟩, ⟨⟩⟩ ?_)
  refine WP.lx tysOk rfl ⟨⟩ (CellAt.blk .head rfl) ?_
  refine WP.lenO (xs := xs28) tysOk rfl ⟨⟩ rfl rfl rfl rfl rfl rfl hf30 ?_
  refine WP.sx tysOk rfl ⟨⟨⟩, ⟨⟩⟩ ?_
  refine WP.cond_d rfl rfl (fun hh10 => ?_) (fun hh10 => ?_)
  ·rw [if_pos hh10] at h
   iterate 5 (refine WP.sx tysOk rfl ⟨⟨⟩, ⟨⟩⟩ ?_)
   refine WP.cond_d rfl rfl (fun hh11 => ?_) (fun hh11 => ?_)
   ·rw [if_pos hh11] at h
    iterate 2 (refine WP.sx tysOk rfl ⟨⟨⟩, ⟨⟩⟩ ?_)
    obtain ⟨hj37, h⟩ := ck_some h
    refine WP.ixA tysOk rfl ⟨⟩ rfl rfl rfl rfl rfl rfl rfl rfl hj37 (hs2.ex hj37) ?_
    intro b70 b70v hA70
    refine WP.lx tysOk rfl ⟨⟩ (hs2.at0 hA70 (Held.mem (List.Mem.tail _ (List.Mem.tail _ (List.Mem.tail _ (List.Mem.tail _ (List.Mem.head _)))))) hj37 rfl) ?_
    refine WP.sx tysOk rfl ⟨⟨⟩, (by decide)⟩ ?_
    iterate 2 (refine WP.sx tysOk rfl ⟨⟨⟩, ⟨⟩⟩ ?_)
    obtain ⟨hj38, h⟩ := ck_some h
    refine WP.drawL 12 [] rfl (by kernel_rfl) (by kernel_rfl) (by kernel_rfl) ?_
    refine WP.sx tysOk rfl ⟨⟨⟨rfl, rfl⟩, rfl⟩, ⟨⟩⟩ ?_
    refine WP.lx tysOk rfl ⟨⟨rfl, rfl⟩, rfl⟩ (CellAt.blk .head rfl) ?_
    iterate 3 (refine WP.sx tysOk rfl ⟨⟨⟨rfl, rfl⟩, rfl⟩, ⟨⟩⟩ ?_)
    refine WP.ixA tysOk rfl ⟨⟨rfl, rfl⟩, rfl⟩ rfl rfl rfl rfl rfl rfl rfl rfl hj37 (hs2.ex hj37) ?_
    intro b71 b71v hA71
    refine WP.lx tysOk rfl ⟨⟨rfl, rfl⟩, rfl⟩ (hs2.at0 hA71 (Held.mem (List.Mem.tail _ (List.Mem.tail _ (List.Mem.tail _ (List.Mem.tail _ (List.Mem.head _)))))) hj37 rfl) ?_
    iterate 2 (refine WP.sx tysOk rfl ⟨⟨⟨rfl, rfl⟩, rfl⟩, (by decide)⟩ ?_)
    refine WP.sx tysOk rfl ⟨⟨⟨rfl, rfl⟩, rfl⟩, ⟨⟩⟩ ?_
    refine WP.ixO tysOk rfl ⟨⟨rfl, rfl⟩, rfl⟩ rfl rfl rfl rfl rfl rfl rfl rfl hf30 hj38 ?_
    intro b72 hA72
    refine WP.sx tysOk rfl ⟨⟨⟨rfl, rfl⟩, rfl⟩, ⟨⟩⟩ ?_
    refine WP.lend rfl ⟨rfl, rfl⟩ ?_
    obtain ⟨xs29, hx25, h⟩ := lt_some h
    refine WP.stoO (f := fA) 2 (Arc.mk ((gt xs28 s3).src) ((gt xs28 s3).dst) (w64 ((IntKind.wrap .u8 ((gt i1 s3).tdiv 4)).tmod 2)) ((gt xs28 s3).cap) ((gt xs28 s3).cost)) tysOk rfl rfl rfl rfl rfl rfl rfl rfl rfl (.tail (.tail .head)) hA72 hf30 hj38 rfl rfl rfl hx25 ?_
    intro hf31
    iterate 2 (refine WP.sx tysOk rfl ⟨⟨⟩, ⟨⟩⟩ ?_)
    refine WP.ixA tysOk rfl ⟨⟩ rfl rfl rfl rfl rfl rfl rfl rfl hj37 (hs2.ex hj37) ?_
    intro b73 b73v hA73
    refine WP.lx tysOk rfl ⟨⟩ (hs2.at0 hA73 (Held.mem (List.Mem.tail _ (List.Mem.tail _ (List.Mem.tail _ (List.Mem.tail _ (List.Mem.head _)))))) hj37 rfl) ?_
    refine WP.sx tysOk rfl ⟨⟨⟩, (by decide)⟩ ?_
    refine WP.sx tysOk rfl ⟨⟨⟩, ⟨⟩⟩ ?_
    refine WP.cond_d rfl rfl (fun hh12 => ?_) (fun hh12 => ?_)
    ·rw [if_pos hh12] at h
     refine WP.sx tysOk rfl ⟨⟨⟩, ⟨⟩⟩ ?_
     refine WP.lx tysOk rfl ⟨⟩ (CellAt.blk (.tail .head) rfl) ?_
     refine WP.sx tysOk rfl ⟨⟨⟩, ⟨⟩⟩ ?_
     obtain ⟨hj39, h⟩ := ck_some h
     refine WP.ixO tysOk rfl ⟨⟩ rfl rfl rfl rfl rfl rfl rfl rfl hf31 hj39 ?_
     intro b74 hA74
     refine WP.sx tysOk rfl ⟨⟨⟩, ⟨⟩⟩ ?_
     obtain ⟨xs30, hx26, h⟩ := lt_some h
     refine WP.stoO (f := fA) 3 (Arc.mk ((gt xs29 s3).src) ((gt xs29 s3).dst) ((gt xs29 s3).low) 4611686018427387904 ((gt xs29 s3).cost)) tysOk rfl rfl rfl rfl rfl rfl rfl rfl rfl .head hA74 hf31 hj39 rfl rfl rfl hx26 ?_
     intro hf32
     obtain ⟨hj40, h⟩ := ck_some h
     obtain ⟨hj41, h⟩ := ck_some h
     refine WP.drawL 13 [] rfl (by kernel_rfl) (by kernel_rfl) (by kernel_rfl) ?_
     refine WP.sx tysOk rfl ⟨⟨⟨rfl, rfl⟩, rfl⟩, ⟨⟩⟩ ?_
     refine WP.lx tysOk rfl ⟨⟨rfl, rfl⟩, rfl⟩ (CellAt.blk (.tail .head) rfl) ?_
     refine WP.sx tysOk rfl ⟨⟨⟨rfl, rfl⟩, rfl⟩, ⟨⟩⟩ ?_
     refine WP.lx tysOk rfl ⟨⟨rfl, rfl⟩, rfl⟩ (CellAt.blk (.tail .head) rfl) ?_
     refine WP.sx tysOk rfl ⟨⟨⟨rfl, rfl⟩, rfl⟩, ⟨⟩⟩ ?_
     refine WP.ixO tysOk rfl ⟨⟨rfl, rfl⟩, rfl⟩ rfl rfl rfl rfl rfl rfl rfl rfl hf32 hj40 ?_
     intro b75 hA75
     refine WP.sx tysOk rfl ⟨⟨⟨rfl, rfl⟩, rfl⟩, ⟨⟩⟩ ?_
     refine WP.lx tysOk rfl ⟨⟨rfl, rfl⟩, rfl⟩ (OwS.at0 .head hA75 hj40 rfl) ?_
     refine WP.ixO tysOk rfl ⟨⟨rfl, rfl⟩, rfl⟩ rfl rfl rfl rfl rfl rfl rfl rfl hf29 hj41 ?_
     intro b76 hA76
     refine WP.lx tysOk rfl ⟨⟨rfl, rfl⟩, rfl⟩ (OwS.at0 (.tail (.tail .head)) hA76 hj41 rfl) ?_
     iterate 2 (refine WP.sx tysOk rfl ⟨⟨⟨rfl, rfl⟩, rfl⟩, ⟨⟩⟩ ?_)
     refine WP.ixO tysOk rfl ⟨⟨rfl, rfl⟩, rfl⟩ rfl rfl rfl rfl rfl rfl rfl rfl hf29 hj41 ?_
     intro b77 hA77
     refine WP.lend rfl ⟨rfl, rfl⟩ ?_
     obtain ⟨xs31, hx27, h⟩ := lt_some h
     refine WP.stoO (f := (fI .i64)) 0 (w64 ((gt xs27 ((gt xs30 s3).src)) + (w64 ((gt i1 s3).tmod 4)))) tysOk rfl rfl rfl rfl rfl rfl rfl rfl rfl (.tail (.tail .head)) hA77 hf29 hj41 rfl rfl rfl hx27 ?_
     intro hf33
     obtain ⟨hj42, h⟩ := ck_some h
     refine WP.drawL 13 [] rfl (by kernel_rfl) (by kernel_rfl) (by kernel_rfl) ?_
     refine WP.sx tysOk rfl ⟨⟨⟨rfl, rfl⟩, rfl⟩, ⟨⟩⟩ ?_
     refine WP.lx tysOk rfl ⟨⟨rfl, rfl⟩, rfl⟩ (CellAt.blk (.tail (.tail .head)) rfl) ?_
     refine WP.sx tysOk rfl ⟨⟨⟨rfl, rfl⟩, rfl⟩, ⟨⟩⟩ ?_
     refine WP.lx tysOk rfl ⟨⟨rfl, rfl⟩, rfl⟩ (CellAt.blk (.tail (.tail .head)) rfl) ?_
     refine WP.sx tysOk rfl ⟨⟨⟨rfl, rfl⟩, rfl⟩, ⟨⟩⟩ ?_
     refine WP.ixO tysOk rfl ⟨⟨rfl, rfl⟩, rfl⟩ rfl rfl rfl rfl rfl rfl rfl rfl hf32 hj40 ?_
     intro b78 hA78
     refine WP.sx tysOk rfl ⟨⟨⟨rfl, rfl⟩, rfl⟩, ⟨⟩⟩ ?_
     refine WP.lx tysOk rfl ⟨⟨rfl, rfl⟩, rfl⟩ (OwS.at (.tail .head) hA78 hj40 1 rfl) ?_
     refine WP.ixO tysOk rfl ⟨⟨rfl, rfl⟩, rfl⟩ rfl rfl rfl rfl rfl rfl rfl rfl hf33 hj42 ?_
     intro b79 hA79
     refine WP.lx tysOk rfl ⟨⟨rfl, rfl⟩, rfl⟩ (OwS.at0 .head hA79 hj42 rfl) ?_
     iterate 2 (refine WP.sx tysOk rfl ⟨⟨⟨rfl, rfl⟩, rfl⟩, ⟨⟩⟩ ?_)
     refine WP.ixO tysOk rfl ⟨⟨rfl, rfl⟩, rfl⟩ rfl rfl rfl rfl rfl rfl rfl rfl hf33 hj42 ?_
     intro b80 hA80
     refine WP.lend rfl ⟨rfl, rfl⟩ ?_
     obtain ⟨xs32, hx28, h⟩ := lt_some h
     refine WP.stoO (f := (fI .i64)) 0 (w64 ((gt xs31 ((gt xs30 s3).dst)) - (w64 ((gt i1 s3).tmod 4)))) tysOk rfl rfl rfl rfl rfl rfl rfl rfl rfl .head hA80 hf33 hj42 rfl rfl rfl hx28 ?_
     intro hf34
     iterate 3 (refine WP.sx tysOk rfl ⟨⟨⟩, ⟨⟩⟩ ?_)
     refine WP.stop rfl (n3, w64 (s3 + 1), xs32, xs30, A7, m3, c7, A8, m4, c8) ⟨⟨h, hf34, hf32⟩, Nat.lt_succ_self _⟩ ?_ ?_
     ·repeat first|exact ⟨⟩|refine ⟨rfl,?_⟩
     exact (.cons (.tail (.tail .head)) (.cons .head (.cons .head (.cons .head (.cons .head .nil)))))
    rw [if_neg hh12] at h
    obtain ⟨hj43, h⟩ := ck_some h
    obtain ⟨hj44, h⟩ := ck_some h
    refine WP.drawL 13 [] rfl (by kernel_rfl) (by kernel_rfl) (by kernel_rfl) ?_
    refine WP.sx tysOk rfl ⟨⟨⟨rfl, rfl⟩, rfl⟩, ⟨⟩⟩ ?_
    refine WP.lx tysOk rfl ⟨⟨rfl, rfl⟩, rfl⟩ (CellAt.blk (.tail .head) rfl) ?_
    refine WP.sx tysOk rfl ⟨⟨⟨rfl, rfl⟩, rfl⟩, ⟨⟩⟩ ?_
    refine WP.lx tysOk rfl ⟨⟨rfl, rfl⟩, rfl⟩ (CellAt.blk (.tail .head) rfl) ?_
    refine WP.sx tysOk rfl ⟨⟨⟨rfl, rfl⟩, rfl⟩, ⟨⟩⟩ ?_
    refine WP.ixO tysOk rfl ⟨⟨rfl, rfl⟩, rfl⟩ rfl rfl rfl rfl rfl rfl rfl rfl hf31 hj43 ?_
    intro b81 hA81
    refine WP.sx tysOk rfl ⟨⟨⟨rfl, rfl⟩, rfl⟩, ⟨⟩⟩ ?_
    refine WP.lx tysOk rfl ⟨⟨rfl, rfl⟩, rfl⟩ (OwS.at0 .head hA81 hj43 rfl) ?_
    refine WP.ixO tysOk rfl ⟨⟨rfl, rfl⟩, rfl⟩ rfl rfl rfl rfl rfl rfl rfl rfl hf29 hj44 ?_
    intro b82 hA82
    refine WP.lx tysOk rfl ⟨⟨rfl, rfl⟩, rfl⟩ (OwS.at0 (.tail (.tail .head)) hA82 hj44 rfl) ?_
    iterate 2 (refine WP.sx tysOk rfl ⟨⟨⟨rfl, rfl⟩, rfl⟩, ⟨⟩⟩ ?_)
    refine WP.ixO tysOk rfl ⟨⟨rfl, rfl⟩, rfl⟩ rfl rfl rfl rfl rfl rfl rfl rfl hf29 hj44 ?_
    intro b83 hA83
    refine WP.lend rfl ⟨rfl, rfl⟩ ?_
    obtain ⟨xs33, hx29, h⟩ := lt_some h
    refine WP.stoO (f := (fI .i64)) 0 (w64 ((gt xs27 ((gt xs29 s3).src)) + (w64 ((gt i1 s3).tmod 4)))) tysOk rfl rfl rfl rfl rfl rfl rfl rfl rfl (.tail (.tail .head)) hA83 hf29 hj44 rfl rfl rfl hx29 ?_
    intro hf35
    obtain ⟨hj45, h⟩ := ck_some h
    refine WP.drawL 13 [] rfl (by kernel_rfl) (by kernel_rfl) (by kernel_rfl) ?_
    refine WP.sx tysOk rfl ⟨⟨⟨rfl, rfl⟩, rfl⟩, ⟨⟩⟩ ?_
    refine WP.lx tysOk rfl ⟨⟨rfl, rfl⟩, rfl⟩ (CellAt.blk (.tail (.tail .head)) rfl) ?_
    refine WP.sx tysOk rfl ⟨⟨⟨rfl, rfl⟩, rfl⟩, ⟨⟩⟩ ?_
    refine WP.lx tysOk rfl ⟨⟨rfl, rfl⟩, rfl⟩ (CellAt.blk (.tail (.tail .head)) rfl) ?_
    refine WP.sx tysOk rfl ⟨⟨⟨rfl, rfl⟩, rfl⟩, ⟨⟩⟩ ?_
    refine WP.ixO tysOk rfl ⟨⟨rfl, rfl⟩, rfl⟩ rfl rfl rfl rfl rfl rfl rfl rfl hf31 hj43 ?_
    intro b84 hA84
    refine WP.sx tysOk rfl ⟨⟨⟨rfl, rfl⟩, rfl⟩, ⟨⟩⟩ ?_
    refine WP.lx tysOk rfl ⟨⟨rfl, rfl⟩, rfl⟩ (OwS.at (.tail .head) hA84 hj43 1 rfl) ?_
    refine WP.ixO tysOk rfl ⟨⟨rfl, rfl⟩, rfl⟩ rfl rfl rfl rfl rfl rfl rfl rfl hf35 hj45 ?_
    intro b85 hA85
    refine WP.lx tysOk rfl ⟨⟨rfl, rfl⟩, rfl⟩ (OwS.at0 .head hA85 hj45 rfl) ?_
    iterate 2 (refine WP.sx tysOk rfl ⟨⟨⟨rfl, rfl⟩, rfl⟩, ⟨⟩⟩ ?_)
    refine WP.ixO tysOk rfl ⟨⟨rfl, rfl⟩, rfl⟩ rfl rfl rfl rfl rfl rfl rfl rfl hf35 hj45 ?_
    intro b86 hA86
    refine WP.lend rfl ⟨rfl, rfl⟩ ?_
    obtain ⟨xs34, hx30, h⟩ := lt_some h
    refine WP.stoO (f := (fI .i64)) 0 (w64 ((gt xs33 ((gt xs29 s3).dst)) - (w64 ((gt i1 s3).tmod 4)))) tysOk rfl rfl rfl rfl rfl rfl rfl rfl rfl .head hA86 hf35 hj45 rfl rfl rfl hx30 ?_
    intro hf36
    iterate 3 (refine WP.sx tysOk rfl ⟨⟨⟩, ⟨⟩⟩ ?_)
    refine WP.stop rfl (n3, w64 (s3 + 1), xs34, xs29, A7, m3, c7, A8, m4, c8) ⟨⟨h, hf36, hf31⟩, Nat.lt_succ_self _⟩ ?_ ?_
    ·repeat first|exact ⟨⟩|refine ⟨rfl,?_⟩
    exact (.cons (.tail (.tail .head)) (.cons .head (.cons .head (.cons .head (.cons .head .nil)))))
   rw [if_neg hh11] at h
   obtain ⟨hj46, h⟩ := ck_some h
   obtain ⟨hj47, h⟩ := ck_some h
   refine WP.drawL 13 [] rfl (by kernel_rfl) (by kernel_rfl) (by kernel_rfl) ?_
   refine WP.sx tysOk rfl ⟨⟨⟨rfl, rfl⟩, rfl⟩, ⟨⟩⟩ ?_
   refine WP.lx tysOk rfl ⟨⟨rfl, rfl⟩, rfl⟩ (CellAt.blk .head rfl) ?_
   refine WP.sx tysOk rfl ⟨⟨⟨rfl, rfl⟩, rfl⟩, ⟨⟩⟩ ?_
   refine WP.lx tysOk rfl ⟨⟨rfl, rfl⟩, rfl⟩ (CellAt.blk .head rfl) ?_
   refine WP.sx tysOk rfl ⟨⟨⟨rfl, rfl⟩, rfl⟩, ⟨⟩⟩ ?_
   refine WP.ixO tysOk rfl ⟨⟨rfl, rfl⟩, rfl⟩ rfl rfl rfl rfl rfl rfl rfl rfl hf30 hj46 ?_
   intro b87 hA87
   refine WP.sx tysOk rfl ⟨⟨⟨rfl, rfl⟩, rfl⟩, ⟨⟩⟩ ?_
   refine WP.lx tysOk rfl ⟨⟨rfl, rfl⟩, rfl⟩ (OwS.at0 (.tail (.tail .head)) hA87 hj46 rfl) ?_
   refine WP.ixO tysOk rfl ⟨⟨rfl, rfl⟩, rfl⟩ rfl rfl rfl rfl rfl rfl rfl rfl hf29 hj47 ?_
   intro b88 hA88
   refine WP.lx tysOk rfl ⟨⟨rfl, rfl⟩, rfl⟩ (OwS.at0 (.tail .head) hA88 hj47 rfl) ?_
   iterate 2 (refine WP.sx tysOk rfl ⟨⟨⟨rfl, rfl⟩, rfl⟩, ⟨⟩⟩ ?_)
   refine WP.ixO tysOk rfl ⟨⟨rfl, rfl⟩, rfl⟩ rfl rfl rfl rfl rfl rfl rfl rfl hf29 hj47 ?_
   intro b89 hA89
   refine WP.lend rfl ⟨rfl, rfl⟩ ?_
   obtain ⟨xs35, hx31, h⟩ := lt_some h
   refine WP.stoO (f := (fI .i64)) 0 (w64 ((gt xs27 ((gt xs28 s3).src)) + 0)) tysOk rfl rfl rfl rfl rfl rfl rfl rfl rfl (.tail .head) hA89 hf29 hj47 rfl rfl rfl hx31 ?_
   intro hf37
   obtain ⟨hj48, h⟩ := ck_some h
   refine WP.drawL 13 [] rfl (by kernel_rfl) (by kernel_rfl) (by kernel_rfl) ?_
   refine WP.sx tysOk rfl ⟨⟨⟨rfl, rfl⟩, rfl⟩, ⟨⟩⟩ ?_
   refine WP.lx tysOk rfl ⟨⟨rfl, rfl⟩, rfl⟩ (CellAt.blk (.tail .head) rfl) ?_
   refine WP.sx tysOk rfl ⟨⟨⟨rfl, rfl⟩, rfl⟩, ⟨⟩⟩ ?_
   refine WP.lx tysOk rfl ⟨⟨rfl, rfl⟩, rfl⟩ (CellAt.blk (.tail .head) rfl) ?_
   refine WP.sx tysOk rfl ⟨⟨⟨rfl, rfl⟩, rfl⟩, ⟨⟩⟩ ?_
   refine WP.ixO tysOk rfl ⟨⟨rfl, rfl⟩, rfl⟩ rfl rfl rfl rfl rfl rfl rfl rfl hf30 hj46 ?_
   intro b90 hA90
   refine WP.sx tysOk rfl ⟨⟨⟨rfl, rfl⟩, rfl⟩, ⟨⟩⟩ ?_
   refine WP.lx tysOk rfl ⟨⟨rfl, rfl⟩, rfl⟩ (OwS.at (.tail (.tail .head)) hA90 hj46 1 rfl) ?_
   refine WP.ixO tysOk rfl ⟨⟨rfl, rfl⟩, rfl⟩ rfl rfl rfl rfl rfl rfl rfl rfl hf37 hj48 ?_
   intro b91 hA91
   refine WP.lx tysOk rfl ⟨⟨rfl, rfl⟩, rfl⟩ (OwS.at0 .head hA91 hj48 rfl) ?_
   iterate 2 (refine WP.sx tysOk rfl ⟨⟨⟨rfl, rfl⟩, rfl⟩, ⟨⟩⟩ ?_)
   refine WP.ixO tysOk rfl ⟨⟨rfl, rfl⟩, rfl⟩ rfl rfl rfl rfl rfl rfl rfl rfl hf37 hj48 ?_
   intro b92 hA92
   refine WP.lend rfl ⟨rfl, rfl⟩ ?_
   obtain ⟨xs36, hx32, h⟩ := lt_some h
   refine WP.stoO (f := (fI .i64)) 0 (w64 ((gt xs35 ((gt xs28 s3).dst)) - 0)) tysOk rfl rfl rfl rfl rfl rfl rfl rfl rfl .head hA92 hf37 hj48 rfl rfl rfl hx32 ?_
   intro hf38
   iterate 3 (refine WP.sx tysOk rfl ⟨⟨⟩, ⟨⟩⟩ ?_)
   refine WP.stop rfl (n3, w64 (s3 + 1), xs36, xs28, A7, m3, c7, A8, m4, c8) ⟨⟨h, hf38, hf30⟩, Nat.lt_succ_self _⟩ ?_ ?_
   ·repeat first|exact ⟨⟩|refine ⟨rfl,?_⟩
   exact (.cons (.tail .head) (.cons .head (.cons .head (.cons .head (.cons .head .nil)))))
  rw [if_neg hh10] at h
  refine WP.mx_ tysOk rfl ⟨⟩ (SegAt.blk' .head rfl) ?_
  refine WP.sto' tysOk [.slice A7 m3 c7, .slice A8 m4 c8] rfl rfl rfl rfl rfl rfl rfl rfl rfl (.tail (.tail (.tail .head))) rfl rfl ?_
  cases h
  refine WP.retR tysOk rfl rfl ⟨_, _, _, _, rfl, ⟨_, rfl, .inr ⟨rfl, _, rfl, rfl, (SegAt.blk' (z := 2) .head rfl).1⟩⟩, rfl, rfl⟩ (fun w1 hw1 => ⟨_, _, rfl, ⟨A7, m3, c7, A8, m4, c8, rfl, hf29, hf30, rfl⟩, Ret.of_KH hw1 (.cons (.tail (.tail .head)) (.cons (.tail (.tail .head)) (.cons (.tail (.tail .head)) .nil)))⟩)

set_option maxRecDepth 20000 in
set_option maxHeartbeats 8000000 in
theorem inst_wrong_1_1_w {w : World} {gg1 : Nat} {n1 : Int} {x1 : Int} {r : Bool} (h : inst_wrong_1_1 n1 x1 = some r) (hb1 : Zc (PH.of w) gg1 0 = some (iv x1)) :
    Calls Tryz.prog 106 #[iv n1, .pointer (some ⟨gg1, 0, none⟩)] w fun e w' => e = .returned (.bool (r)) ∧ Below w.heap.size w w' := by
  unfold inst_wrong_1_1 at h
  refine enter_ Tryz.func106 rfl Tryz.ntmps106 rfl ?_
  iterate 4 (refine WP.sx tysOk rfl ⟨⟨⟩, ⟨⟩⟩ ?_)
  by_cases hh1 : 0 ≤ n1
  ·rw [if_pos hh1] at h
   refine WP.yes rfl rfl (decide_eq_true hh1) ?_
   refine WP.sx tysOk rfl ⟨⟨⟩, ⟨⟩⟩ ?_
   refine WP.yes rfl rfl rfl ?_
   refine WP.lx tysOk rfl ⟨⟩ (Held.cell (Held.mem (List.Mem.head _)) hb1) ?_
   refine WP.yes rfl rfl rfl ?_
   iterate 3 (refine WP.sx tysOk rfl ⟨⟨⟩, ⟨⟩⟩ ?_)
   cases h
   refine WP.retR tysOk rfl rfl ⟨_, _, rfl, rfl, rfl⟩ (fun w1 hw1 => ⟨rfl, Ret.below_ hw1 (.cons .head .nil)⟩)
  rw [if_neg hh1] at h
  refine WP.no rfl rfl (decide_eq_false hh1) rfl rfl ?_
  iterate 2 (refine WP.no rfl rfl rfl rfl rfl ?_)
  iterate 2 (refine WP.sx tysOk rfl ⟨⟨⟩, ⟨⟩⟩ ?_)
  cases h
  refine WP.retR tysOk rfl rfl ⟨_, _, rfl, rfl, rfl⟩ (fun w1 hw1 => ⟨rfl, Ret.below_ hw1 (.cons .head .nil)⟩)

set_option maxRecDepth 20000 in
set_option maxHeartbeats 8000000 in
theorem inst_within_w {w : World} {n1 : Int} {r : Bool} (h : inst_within n1 = some r) :
    Calls Tryz.prog 81 #[iv n1] w fun e w' => e = .returned (.bool (r)) ∧ Below w.heap.size w w' := by
  unfold inst_within at h
  refine enter_ Tryz.func81 rfl Tryz.ntmps81 rfl ?_
  iterate 4 (refine WP.sx tysOk rfl ⟨⟨⟩, ⟨⟩⟩ ?_)
  by_cases hh1 : (-4398046511104) ≤ n1
  ·rw [if_pos hh1] at h
   refine WP.yes rfl rfl (decide_eq_true hh1) ?_
   refine WP.sx tysOk rfl ⟨⟨⟩, ⟨⟩⟩ ?_
   refine WP.yes rfl rfl rfl ?_
   iterate 3 (refine WP.sx tysOk rfl ⟨⟨⟩, ⟨⟩⟩ ?_)
   cases h
   refine WP.retR tysOk rfl rfl ⟨_, _, rfl, rfl, rfl⟩ (fun w1 hw1 => ⟨rfl, Ret.below_ hw1 (.cons .head .nil)⟩)
  rw [if_neg hh1] at h
  refine WP.no rfl rfl (decide_eq_false hh1) rfl rfl ?_
  refine WP.no rfl rfl rfl rfl rfl ?_
  iterate 2 (refine WP.sx tysOk rfl ⟨⟨⟩, ⟨⟩⟩ ?_)
  cases h
  refine WP.retR tysOk rfl rfl ⟨_, _, rfl, rfl, rfl⟩ (fun w1 hw1 => ⟨rfl, Ret.below_ hw1 (.cons .head .nil)⟩)

set_option maxRecDepth 20000 in
set_option maxHeartbeats 8000000 in
theorem inst_wrong_w {w : World} {a1 : Arc} {nodes1 : Int} {r : Int} (h : inst_wrong a1 nodes1 = some r) :
    Calls Tryz.prog 80 #[.agg #[iv a1.src, iv a1.dst, iv a1.low, iv a1.cap, iv a1.cost], iv nodes1] w fun e w' => e = .returned (.int .u16 (r)) ∧ Below w.heap.size w w' := by
  unfold inst_wrong at h
  refine enter_ Tryz.func80 rfl Tryz.ntmps80 rfl ?_
  refine WP.box rfl rfl rfl rfl rfl rfl ?_
  intro g1
  refine WP.box rfl rfl rfl rfl rfl rfl ?_
  intro g2
  iterate 5 (refine WP.sx tysOk rfl ⟨⟨⟩, ⟨⟩⟩ ?_)
  refine WP.lx tysOk rfl ⟨⟩ (CellAt.blk (.tail .head) rfl) ?_
  obtain ⟨r1, hg1, h⟩ := bind_some h
  refine WP.callV rfl rfl rfl rfl rfl rfl rfl (by kernel_rfl) (fun w1 hw1 => (inst_wrong_1_1_w hg1 (KH.zcb hw1 .head rfl) :)) ⟨⟩ ?_
  iterate 2 (refine WP.sx tysOk rfl ⟨⟨⟩, ⟨⟩⟩ ?_)
  refine WP.cond_n rfl rfl (fun hh1 => ?_) (fun hh1 => ?_)
  ·rw [if_neg (bneg hh1)] at h
   refine WP.cond_n rfl rfl (fun _ => ?_) (fun hh' => absurd hh' (bneg hh1))
   refine WP.sx tysOk rfl ⟨⟨⟩, ⟨⟩⟩ ?_
   cases h
   refine WP.retR tysOk rfl rfl ⟨_, _, rfl, rfl, rfl⟩ (fun w1 hw1 => ⟨rfl, Ret.below_ hw1 (.cons (.tail (.tail .head)) .nil)⟩)
  rw [if_pos hh1] at h
  iterate 2 (refine WP.sx tysOk rfl ⟨⟨⟩, ⟨⟩⟩ ?_)
  refine WP.lx tysOk rfl ⟨⟩ (CellAt.blk (.tail .head) rfl) ?_
  obtain ⟨r2, hg2, h⟩ := bind_some h
  refine WP.callV rfl rfl rfl rfl rfl rfl rfl (by kernel_rfl) (fun w1 hw1 => (inst_wrong_1_1_w hg2 (KH.zcb hw1 .head rfl) :)) ⟨⟩ ?_
  iterate 2 (refine WP.sx tysOk rfl ⟨⟨⟩, ⟨⟩⟩ ?_)
  refine WP.cond_n rfl rfl (fun hh2 => ?_) (fun hh2 => ?_)
  ·rw [if_neg (bneg hh2)] at h
   refine WP.sx tysOk rfl ⟨⟨⟩, ⟨⟩⟩ ?_
   cases h
   refine WP.retR tysOk rfl rfl ⟨_, _, rfl, rfl, rfl⟩ (fun w1 hw1 => ⟨rfl, Ret.below_ hw1 (.cons (.tail (.tail .head)) .nil)⟩)
  rw [if_pos hh2] at h
  refine WP.sx tysOk rfl ⟨⟨⟩, ⟨⟩⟩ ?_
  refine WP.lx tysOk rfl ⟨⟩ (CellAt.blk (.tail .head) rfl) ?_
  iterate 2 (refine WP.sx tysOk rfl ⟨⟨⟩, ⟨⟩⟩ ?_)
  refine WP.cond_d rfl rfl (fun hh3 => ?_) (fun hh3 => ?_)
  ·rw [if_pos hh3] at h
   refine WP.cond_d rfl rfl (fun _ => ?_) (fun hh' => (absurd hh3 hh'))
   refine WP.sx tysOk rfl ⟨⟨⟩, ⟨⟩⟩ ?_
   cases h
   refine WP.retR tysOk rfl rfl ⟨_, _, rfl, rfl, rfl⟩ (fun w1 hw1 => ⟨rfl, Ret.below_ hw1 (.cons (.tail (.tail .head)) .nil)⟩)
  rw [if_neg hh3] at h
  refine WP.sx tysOk rfl ⟨⟨⟩, ⟨⟩⟩ ?_
  refine WP.lx tysOk rfl ⟨⟩ (CellAt.blk (.tail .head) rfl) ?_
  iterate 2 (refine WP.sx tysOk rfl ⟨⟨⟩, ⟨⟩⟩ ?_)
  refine WP.cond_d rfl rfl (fun hh4 => ?_) (fun hh4 => ?_)
  ·rw [if_pos hh4] at h
   refine WP.cond_d rfl rfl (fun _ => ?_) (fun hh' => (absurd hh4 hh'))
   refine WP.sx tysOk rfl ⟨⟨⟩, ⟨⟩⟩ ?_
   cases h
   refine WP.retR tysOk rfl rfl ⟨_, _, rfl, rfl, rfl⟩ (fun w1 hw1 => ⟨rfl, Ret.below_ hw1 (.cons (.tail (.tail .head)) .nil)⟩)
  rw [if_neg hh4] at h
  refine WP.sx tysOk rfl ⟨⟨⟩, ⟨⟩⟩ ?_
  refine WP.lx tysOk rfl ⟨⟩ (CellAt.blk (.tail .head) rfl) ?_
  iterate 2 (refine WP.sx tysOk rfl ⟨⟨⟩, ⟨⟩⟩ ?_)
  by_cases hh5 : ¬ a1.cap = 4611686018427387904
  ·rw [if_pos hh5] at h
   refine WP.yes rfl rfl (decide_eq_true hh5) ?_
   refine WP.sx tysOk rfl ⟨⟨⟩, ⟨⟩⟩ ?_
   refine WP.yes rfl rfl rfl ?_
   refine WP.lx tysOk rfl ⟨⟩ (CellAt.blk (.tail .head) rfl) ?_
   refine WP.yes rfl rfl rfl ?_
   refine WP.sx tysOk rfl ⟨⟨⟩, ⟨⟩⟩ ?_
   refine WP.yes rfl rfl rfl ?_
   refine WP.lx tysOk rfl ⟨⟩ (CellAt.blk (.tail .head) rfl) ?_
   iterate 2 (refine WP.yes rfl rfl rfl ?_; refine WP.sx tysOk rfl ⟨⟨⟩, ⟨⟩⟩ ?_)
   by_cases hh6 : a1.cap < a1.low
   ·rw [if_pos hh6] at h
    refine WP.no rfl rfl (decide_eq_true hh6) rfl rfl ?_
    iterate 2 (refine WP.no rfl rfl rfl rfl rfl ?_)
    refine WP.yes rfl rfl rfl ?_
    iterate 3 (refine WP.sx tysOk rfl ⟨⟨⟩, ⟨⟩⟩ ?_)
    refine WP.condT rfl rfl ?_
    refine WP.sx tysOk rfl ⟨⟨⟩, ⟨⟩⟩ ?_
    cases h
    refine WP.retR tysOk rfl rfl ⟨_, _, rfl, rfl, rfl⟩ (fun w1 hw1 => ⟨rfl, Ret.below_ hw1 (.cons (.tail (.tail .head)) .nil)⟩)
   rw [if_neg hh6] at h
   refine WP.yes rfl rfl (decide_eq_false hh6) ?_
   refine WP.sx tysOk rfl ⟨⟨⟩, ⟨⟩⟩ ?_
   refine WP.yes rfl rfl rfl ?_
   refine WP.lx tysOk rfl ⟨⟩ (CellAt.blk (.tail .head) rfl) ?_
   refine WP.yes rfl rfl rfl ?_
   refine WP.sx tysOk rfl ⟨⟨⟩, ⟨⟩⟩ ?_
   refine WP.yes rfl rfl rfl ?_
   iterate 3 (refine WP.sx tysOk rfl ⟨⟨⟩, ⟨⟩⟩ ?_)
   refine WP.cond_d rfl rfl (fun hh7 => ?_) (fun hh7 => ?_)
   ·rw [if_pos hh7] at h
    refine WP.sx tysOk rfl ⟨⟨⟩, ⟨⟩⟩ ?_
    cases h
    refine WP.retR tysOk rfl rfl ⟨_, _, rfl, rfl, rfl⟩ (fun w1 hw1 => ⟨rfl, Ret.below_ hw1 (.cons (.tail (.tail .head)) .nil)⟩)
   rw [if_neg hh7] at h
   refine WP.sx tysOk rfl ⟨⟨⟩, ⟨⟩⟩ ?_
   refine WP.lx tysOk rfl ⟨⟩ (CellAt.blk (.tail .head) rfl) ?_
   obtain ⟨r3, hg3, h⟩ := bind_some h
   refine WP.callV rfl rfl rfl rfl rfl rfl rfl (by kernel_rfl) (fun w1 hw1 => (inst_within_w hg3  :)) ⟨⟩ ?_
   iterate 2 (refine WP.sx tysOk rfl ⟨⟨⟩, ⟨⟩⟩ ?_)
   refine WP.cond_n rfl rfl (fun hh8 => ?_) (fun hh8 => ?_)
   ·rw [if_neg (bneg hh8)] at h
    refine WP.sx tysOk rfl ⟨⟨⟩, ⟨⟩⟩ ?_
    cases h
    refine WP.retR tysOk rfl rfl ⟨_, _, rfl, rfl, rfl⟩ (fun w1 hw1 => ⟨rfl, Ret.below_ hw1 (.cons (.tail (.tail .head)) .nil)⟩)
   rw [if_pos hh8] at h
   refine WP.sx tysOk rfl ⟨⟨⟩, ⟨⟩⟩ ?_
   cases h
   refine WP.retR tysOk rfl rfl ⟨_, _, rfl, rfl, rfl⟩ (fun w1 hw1 => ⟨rfl, Ret.below_ hw1 (.cons (.tail (.tail .head)) .nil)⟩)
  rw [if_neg hh5] at h
  refine WP.no rfl rfl (decide_eq_false hh5) rfl rfl ?_
  iterate 5 (refine WP.no rfl rfl rfl rfl rfl ?_)
  iterate 3 (refine WP.noU rfl rfl rfl rfl ?_)
  refine WP.no rfl rfl rfl rfl rfl ?_
  iterate 2 (refine WP.sx tysOk rfl ⟨⟨⟩, ⟨⟩⟩ ?_)
  refine WP.condF rfl rfl ?_
  refine WP.sx tysOk rfl ⟨⟨⟩, ⟨⟩⟩ ?_
  refine WP.lx tysOk rfl ⟨⟩ (CellAt.blk (.tail .head) rfl) ?_
  obtain ⟨r4, hg4, h⟩ := bind_some h
  refine WP.callV rfl rfl rfl rfl rfl rfl rfl (by kernel_rfl) (fun w1 hw1 => (inst_within_w hg4  :)) ⟨⟩ ?_
  iterate 2 (refine WP.sx tysOk rfl ⟨⟨⟩, ⟨⟩⟩ ?_)
  refine WP.cond_n rfl rfl (fun hh9 => ?_) (fun hh9 => ?_)
  ·rw [if_neg (bneg hh9)] at h
   refine WP.sx tysOk rfl ⟨⟨⟩, ⟨⟩⟩ ?_
   cases h
   refine WP.retR tysOk rfl rfl ⟨_, _, rfl, rfl, rfl⟩ (fun w1 hw1 => ⟨rfl, Ret.below_ hw1 (.cons (.tail (.tail .head)) .nil)⟩)
  rw [if_pos hh9] at h
  refine WP.sx tysOk rfl ⟨⟨⟩, ⟨⟩⟩ ?_
  cases h
  refine WP.retR tysOk rfl rfl ⟨_, _, rfl, rfl, rfl⟩ (fun w1 hw1 => ⟨rfl, Ret.below_ hw1 (.cons (.tail (.tail .head)) .nil)⟩)

set_option maxRecDepth 20000 in
set_option maxHeartbeats 8000000 in
theorem inst_Right_w {w : World} {v0 : Value} {i1 : Inst} {r : Int} (h : inst_Right i1 = some r) (p1 : InsZ (PH.of w) v0 i1) :
    Calls Tryz.prog 51 #[v0] w fun e w' => e = .returned (.int .u16 (r)) ∧ Below w.heap.size w w' := by
  obtain ⟨A1, c1, A2, c2, rfl, hs1, hs2⟩ := p1
  unfold inst_Right at h
  refine enter_ Tryz.func51 rfl Tryz.ntmps51 rfl ?_
  refine WP.box rfl rfl rfl rfl rfl rfl ?_
  intro g1
  iterate 2 (refine WP.sx tysOk rfl ⟨⟨⟩, ⟨⟩⟩ ?_)
  refine WP.lx tysOk rfl ⟨⟩ (CellAt.blk .head rfl) ?_
  iterate 3 (refine WP.sx tysOk rfl ⟨⟨⟩, ⟨⟩⟩ ?_)
  by_cases hh1 : 64 < (i1.supply.length : Int)
  ·rw [if_pos hh1] at h
   refine WP.no rfl rfl (decide_eq_true hh1) rfl rfl ?_
   iterate 3 (refine WP.no rfl rfl rfl rfl rfl ?_)
   refine WP.sx tysOk rfl ⟨⟨⟩, ⟨⟩⟩ ?_
   refine WP.condT rfl rfl ?_
   refine WP.sx tysOk rfl ⟨⟨⟩, ⟨⟩⟩ ?_
   cases h
   refine WP.retR tysOk rfl rfl ⟨_, _, rfl, rfl, rfl⟩ (fun w1 hw1 => ⟨rfl, Ret.below_ hw1 (.cons (.tail .head) .nil)⟩)
  rw [if_neg hh1] at h
  refine WP.yes rfl rfl (decide_eq_false hh1) ?_
  refine WP.sx tysOk rfl ⟨⟨⟩, ⟨⟩⟩ ?_
  refine WP.yes rfl rfl rfl ?_
  refine WP.lx tysOk rfl ⟨⟩ (CellAt.blk .head rfl) ?_
  refine WP.yes rfl rfl rfl ?_
  refine WP.sx tysOk rfl ⟨⟨⟩, ⟨⟩⟩ ?_
  refine WP.yes rfl rfl rfl ?_
  iterate 2 (refine WP.sx tysOk rfl ⟨⟨⟩, ⟨⟩⟩ ?_)
  refine WP.cond_d rfl rfl (fun hh2 => ?_) (fun hh2 => ?_)
  ·rw [if_pos hh2] at h
   refine WP.sx tysOk rfl ⟨⟨⟩, ⟨⟩⟩ ?_
   cases h
   refine WP.retR tysOk rfl rfl ⟨_, _, rfl, rfl, rfl⟩ (fun w1 hw1 => ⟨rfl, Ret.below_ hw1 (.cons (.tail .head) .nil)⟩)
  rw [if_neg hh2] at h
  refine WP.sx tysOk rfl ⟨⟨⟩, ⟨⟩⟩ ?_
  refine WP.lx tysOk rfl ⟨⟩ (CellAt.blk .head rfl) ?_
  iterate 2 (refine WP.sx tysOk rfl ⟨⟨⟩, ⟨⟩⟩ ?_)
  refine WP.loop (α := Nat × Int) (fun x => lp (inst_Right_b1 i1) x.1 x.2 = some r) (fun x => [(1, pt g1), (20, .slice A2 i1.arcs.length c2), (21, iv (i1.arcs.length : Int)), (22, iv x.2)]) (fun x => [.blk g1 25 [.slice A1 i1.supply.length c1, .slice A2 i1.arcs.length c2], .fz (PH.of w)]) (fun x => x.1) rfl (big, 0) h ?_ ?_ ?_
  ·repeat first|exact ⟨⟩|refine ⟨rfl,?_⟩
  ·exact Pick.all
  rintro ⟨n3, s6⟩ h
  dsimp only at h ⊢
  rcases n3 with _ | n3
  · exact (lp_no h).elim
  replace h := lp_succ h
  unfold inst_Right_b1 at h
  try dsimp only at h
  refine WP.sx tysOk rfl ⟨⟨⟩, ⟨⟩⟩ ?_
  refine WP.cond_d rfl rfl (fun hh25 => ?_) (fun hh25 => ?_)
  ·rw [if_pos hh25] at h
   obtain ⟨hj9, h⟩ := ck_some h
   refine WP.ixA tysOk rfl ⟨⟩ rfl rfl rfl rfl rfl rfl rfl rfl hj9 (hs2.ex hj9) ?_
   intro b9 b9v hA9
   refine WP.mx_ tysOk rfl ⟨⟩ (hs2.seg hA9 (Held.mem (List.Mem.tail _ (List.Mem.head _))) hj9) ?_
   refine WP.al tysOk rfl rfl rfl rfl rfl rfl ?_
   intro g4
   refine WP.sto' tysOk [iv ((gt i1.arcs s6).src), iv ((gt i1.arcs s6).dst), iv ((gt i1.arcs s6).low), iv ((gt i1.arcs s6).cap), iv ((gt i1.arcs s6).cost)] rfl rfl rfl rfl rfl rfl rfl rfl rfl .head rfl rfl ?_
   refine WP.mx_ tysOk rfl ⟨⟩ (SegAt.blk' .head rfl) ?_
   refine WP.sx tysOk rfl ⟨⟨⟩, ⟨⟩⟩ ?_
   refine WP.lx tysOk rfl ⟨⟩ (CellAt.blk (.tail .head) rfl) ?_
   refine WP.sx tysOk rfl ⟨⟨⟩, ⟨⟩⟩ ?_
   obtain ⟨r9, hg9, h⟩ := bind_some h
   refine WP.callV rfl rfl rfl rfl rfl rfl rfl (by kernel_rfl) (fun w1 hw1 => (inst_wrong_w hg9  :)) ⟨⟩ ?_
   iterate 3 (refine WP.sx tysOk rfl ⟨⟨⟩, ⟨⟩⟩ ?_)
   refine WP.cond_d rfl rfl (fun hh26 => ?_) (fun hh26 => ?_)
   ·rw [if_pos hh26] at h
    iterate 2 (refine WP.sx tysOk rfl ⟨⟨⟩, ⟨⟩⟩ ?_)
    cases h
    refine WP.retR tysOk rfl rfl ⟨_, _, rfl, rfl, rfl⟩ (fun w1 hw1 => ⟨rfl, Ret.below_ hw1 (.cons (.tail (.tail .head)) .nil)⟩)
   rw [if_neg hh26] at h
   iterate 2 (refine WP.sx tysOk rfl ⟨⟨⟩, ⟨⟩⟩ ?_)
   refine WP.stop rfl (n3, w64 (s6 + 1)) ⟨h, Nat.lt_succ_self _⟩ ?_ ?_
   ·repeat first|exact ⟨⟩|refine ⟨rfl,?_⟩
   exact (.cons (.tail .head) (.cons (.tail .head) .nil))
  rw [if_neg hh25] at h
  iterate 2 (refine WP.sx tysOk rfl ⟨⟨⟩, ⟨⟩⟩ ?_)
  refine WP.lx tysOk rfl ⟨⟩ (CellAt.blk .head rfl) ?_
  iterate 2 (refine WP.sx tysOk rfl ⟨⟨⟩, ⟨⟩⟩ ?_)
  refine WP.loop (α := Nat × Int × Int) (fun x => lp (inst_Right_b2 i1) x.1 (x.2.1, x.2.2) = some r) (fun x => [(6, iv x.2.1), (36, .slice A1 i1.supply.length c1), (37, iv (i1.supply.length : Int)), (38, iv x.2.2)]) (fun x => [.fz (PH.of w)]) (fun x => x.1) rfl (big, 0, 0) h ?_ ?_ ?_
  ·repeat first|exact ⟨⟩|refine ⟨rfl,?_⟩
  ·exact (.cons (.tail .head) .nil)
  rintro ⟨n4, sum14, s8⟩ h
  dsimp only at h ⊢
  rcases n4 with _ | n4
  · exact (lp_no h).elim
  replace h := lp_succ h
  unfold inst_Right_b2 at h
  try dsimp only at h
  refine WP.sx tysOk rfl ⟨⟨⟩, ⟨⟩⟩ ?_
  refine WP.cond_d rfl rfl (fun hh33 => ?_) (fun hh33 => ?_)
  ·rw [if_pos hh33] at h
   obtain ⟨hj12, h⟩ := ck_some h
   refine WP.ixA tysOk rfl ⟨⟩ rfl rfl rfl rfl rfl rfl rfl rfl hj12 (hs1.ex hj12) ?_
   intro b12 b12v hA12
   refine WP.lx tysOk rfl ⟨⟩ (hs1.at0 hA12 (Held.mem (List.Mem.head _)) hj12 rfl) ?_
   iterate 2 (refine WP.sx tysOk rfl ⟨⟨⟩, ⟨⟩⟩ ?_)
   obtain ⟨r12, hg12, h⟩ := bind_some h
   refine WP.callV rfl rfl rfl rfl rfl rfl rfl (by kernel_rfl) (fun w1 hw1 => (inst_within_w hg12  :)) ⟨⟩ ?_
   refine WP.sx tysOk rfl ⟨⟨⟩, ⟨⟩⟩ ?_
   refine WP.cond_n rfl rfl (fun hh34 => ?_) (fun hh34 => ?_)
   ·rw [if_neg (bneg hh34)] at h
    refine WP.sx tysOk rfl ⟨⟨⟩, ⟨⟩⟩ ?_
    cases h
    refine WP.retR tysOk rfl rfl ⟨_, _, rfl, rfl, rfl⟩ (fun w1 hw1 => ⟨rfl, Ret.below_ hw1 (.cons .head .nil)⟩)
   rw [if_pos hh34] at h
   iterate 3 (refine WP.sx tysOk rfl ⟨⟨⟩, ⟨⟩⟩ ?_)
   obtain ⟨sum15, hx9, h⟩ := lt_some h
   refine WP.sx tysOk rfl ⟨⟨⟩, ⟨⟩⟩ ?_
   refine WP.retell (s := 6) (.int .i64 sum15) rfl (congrArg (Value.int .i64) hx9.symm) ?_
   iterate 2 (refine WP.sx tysOk rfl ⟨⟨⟩, ⟨⟩⟩ ?_)
   refine WP.stop rfl (n4, sum15, w64 (s8 + 1)) ⟨h, Nat.lt_succ_self _⟩ ?_ ?_
   ·repeat first|exact ⟨⟩|refine ⟨rfl,?_⟩
   exact (.cons .head .nil)
  rw [if_neg hh33] at h
  iterate 2 (refine WP.sx tysOk rfl ⟨⟨⟩, ⟨⟩⟩ ?_)
  refine WP.cond_d rfl rfl (fun hh35 => ?_) (fun hh35 => ?_)
  ·rw [if_pos hh35] at h
   refine WP.sx tysOk rfl ⟨⟨⟩, ⟨⟩⟩ ?_
   cases h
   refine WP.retR tysOk rfl rfl ⟨_, _, rfl, rfl, rfl⟩ (fun w1 hw1 => ⟨rfl, Ret.below_ hw1 (.cons .head .nil)⟩)
  rw [if_neg hh35] at h
  refine WP.sx tysOk rfl ⟨⟨⟩, ⟨⟩⟩ ?_
  cases h
  refine WP.retR tysOk rfl rfl ⟨_, _, rfl, rfl, rfl⟩ (fun w1 hw1 => ⟨rfl, Ret.below_ hw1 (.cons .head .nil)⟩)

set_option maxRecDepth 20000 in
set_option maxHeartbeats 8000000 in
theorem leaf_tipOf_w {w : World} {v0 : Value} {v1 : Value} {g1 : Inst} {i1 : Inst} {n1 : Int} {r : Tip × Bool} (h : leaf_tipOf g1 i1 n1 = some r) (p1 : GraphZ (PH.of w) v0 g1) (p2 : InsZ (PH.of w) v1 i1) :
    Calls Tryz.prog 40 #[v0, v1, iv n1] w fun e w' => e = .returned (.tuple #[.agg #[iv r.1.a, iv r.1.n], .bool (r.2)]) ∧ Below w.heap.size w w' := by
  obtain ⟨gg1, rfl⟩ := p1.ptr'
  obtain ⟨A1, c1, A2, c2, rfl, hs1, hs2⟩ := p2
  unfold leaf_tipOf at h
  refine enter_ Tryz.func40 rfl Tryz.ntmps40 rfl ?_
  refine WP.box rfl rfl rfl rfl rfl rfl ?_
  intro g2
  refine WP.al tysOk rfl rfl rfl rfl rfl rfl ?_
  intro g3
  iterate 3 (refine WP.sx tysOk rfl ⟨⟨⟩, ⟨⟩⟩ ?_)
  obtain ⟨r1, hg1, h⟩ := bind_some h
  refine WP.callS (adj_Graph_At_S r1) rfl rfl rfl rfl rfl rfl rfl (by kernel_rfl) (fun w1 hw1 => (adj_Graph_At_w hg1 (p1.le ((Held.mem (List.Mem.tail _ (List.Mem.tail _ (List.Mem.head _)))) _ _ hw1)) :)) ?_
  rintro _ _ ⟨A3, n2, c3, rfl, hf1, rfl⟩
  iterate 2 (refine WP.sx tysOk rfl ⟨⟨⟩, ⟨⟩⟩ ?_)
  refine WP.lenO (xs := r1) tysOk rfl ⟨⟩ rfl rfl rfl rfl rfl rfl hf1 ?_
  iterate 2 (refine WP.sx tysOk rfl ⟨⟨⟩, ⟨⟩⟩ ?_)
  by_cases hh1 : ¬ (r1.length : Int) = 1
  ·rw [if_pos hh1] at h
   refine WP.no rfl rfl (decide_eq_true hh1) rfl rfl ?_
   iterate 3 (refine WP.no rfl rfl rfl rfl rfl ?_)
   refine WP.sx tysOk rfl ⟨⟨⟩, ⟨⟩⟩ ?_
   refine WP.condT rfl rfl ?_
   refine WP.bld (cs := [iv 0, iv 0]) tysOk rfl ⟨⟩ rfl rfl rfl rfl rfl rfl rfl ?_
   refine WP.sto' tysOk [iv 0, iv 0] rfl rfl rfl rfl rfl rfl rfl rfl rfl (.tail .head) rfl rfl ?_
   refine WP.sx tysOk rfl ⟨⟨⟩, ⟨⟩⟩ ?_
   cases h
   refine WP.retR tysOk rfl rfl ⟨_, _, _, _, rfl, ⟨_, rfl, .inr ⟨rfl, _, rfl, rfl, (SegAt.blk' (z := 2) .head rfl).1⟩⟩, ⟨_, _, rfl, rfl, rfl⟩, rfl⟩ (fun w1 hw1 => ⟨rfl, Ret.below_ hw1 (.cons (.tail (.tail (.tail .head))) .nil)⟩)
  rw [if_neg hh1] at h
  refine WP.yes rfl rfl (decide_eq_false hh1) ?_
  iterate 2 (refine WP.sx tysOk rfl ⟨⟨⟩, ⟨⟩⟩ ?_; refine WP.yes rfl rfl rfl ?_)
  obtain ⟨r2, hg2, h⟩ := bind_some h
  refine WP.callV rfl rfl rfl rfl rfl rfl rfl (by kernel_rfl) (fun w1 hw1 => (adj_Graph_Loops_w hg2 (p1.le ((Held.mem (List.Mem.tail _ (List.Mem.tail _ (List.Mem.tail _ (List.Mem.head _))))) _ _ hw1)) :)) ⟨⟩ ?_
  refine WP.yes rfl rfl rfl ?_
  iterate 2 (refine WP.sx tysOk rfl ⟨⟨⟩, ⟨⟩⟩ ?_)
  refine WP.cond_d rfl rfl (fun hh2 => ?_) (fun hh2 => ?_)
  ·rw [if_pos hh2] at h
   refine WP.bld (cs := [iv 0, iv 0]) tysOk rfl ⟨⟩ rfl rfl rfl rfl rfl rfl rfl ?_
   refine WP.sto' tysOk [iv 0, iv 0] rfl rfl rfl rfl rfl rfl rfl rfl rfl (.tail .head) rfl rfl ?_
   refine WP.sx tysOk rfl ⟨⟨⟩, ⟨⟩⟩ ?_
   cases h
   refine WP.retR tysOk rfl rfl ⟨_, _, _, _, rfl, ⟨_, rfl, .inr ⟨rfl, _, rfl, rfl, (SegAt.blk' (z := 2) .head rfl).1⟩⟩, ⟨_, _, rfl, rfl, rfl⟩, rfl⟩ (fun w1 hw1 => ⟨rfl, Ret.below_ hw1 (.cons (.tail (.tail (.tail .head))) .nil)⟩)
  rw [if_neg hh2] at h
  obtain ⟨hj1, h⟩ := ck_some h
  obtain ⟨hj2, h⟩ := ck_some h
  refine WP.drawL 8 [(7, [], fun _ => blkSpec 31 [iv 0, iv 0, iv 0, iv 0, iv 0])] rfl (by kernel_rfl) (by kernel_rfl) (by kernel_rfl) ?_
  refine WP.sx tysOk rfl ⟨⟨⟨rfl, rfl⟩, rfl⟩, ⟨⟩⟩ ?_
  refine WP.lx tysOk rfl ⟨⟨rfl, rfl⟩, rfl⟩ (CellAt.blk (.tail (.tail .head)) rfl) ?_
  refine WP.sx tysOk rfl ⟨⟨⟨rfl, rfl⟩, rfl⟩, ⟨⟩⟩ ?_
  refine WP.ixO tysOk rfl ⟨⟨rfl, rfl⟩, rfl⟩ rfl rfl rfl rfl rfl rfl rfl rfl hf1 hj1 ?_
  intro b1 hA1
  refine WP.lx tysOk rfl ⟨⟨rfl, rfl⟩, rfl⟩ (OwS.at0 .head hA1 hj1 rfl) ?_
  refine WP.ixA tysOk rfl ⟨⟨rfl, rfl⟩, rfl⟩ rfl rfl rfl rfl rfl rfl rfl rfl hj2 (hs2.ex hj2) ?_
  intro b2 b2v hA2
  refine WP.mx_ tysOk rfl ⟨⟨rfl, rfl⟩, rfl⟩ (hs2.seg hA2 (Held.mem (List.Mem.tail _ (List.Mem.tail _ (List.Mem.tail _ (List.Mem.head _))))) hj2) ?_
  refine WP.lal tysOk rfl ⟨rfl, rfl⟩ rfl rfl rfl rfl rfl rfl rfl ?_
  intro g4
  refine WP.lend rfl ⟨rfl, rfl⟩ ?_
  refine WP.sto' tysOk [iv ((gt i1.arcs (gt r1 0)).src), iv ((gt i1.arcs (gt r1 0)).dst), iv ((gt i1.arcs (gt r1 0)).low), iv ((gt i1.arcs (gt r1 0)).cap), iv ((gt i1.arcs (gt r1 0)).cost)] rfl rfl rfl rfl rfl rfl rfl rfl rfl .head rfl rfl ?_
  obtain ⟨hj3, h⟩ := ck_some h
  refine WP.drawL 10 [(9, [], fun _ => blkSpec 70 [iv 0, iv 0])] rfl (by kernel_rfl) (by kernel_rfl) (by kernel_rfl) ?_
  refine WP.sx tysOk rfl ⟨⟨⟨rfl, rfl⟩, rfl⟩, ⟨⟩⟩ ?_
  refine WP.ixO tysOk rfl ⟨⟨rfl, rfl⟩, rfl⟩ rfl rfl rfl rfl rfl rfl rfl rfl hf1 hj1 ?_
  intro b3 hA3
  refine WP.lx tysOk rfl ⟨⟨rfl, rfl⟩, rfl⟩ (OwS.at0 (.tail .head) hA3 hj1 rfl) ?_
  refine WP.sx tysOk rfl ⟨⟨⟨rfl, rfl⟩, rfl⟩, ⟨⟩⟩ ?_
  refine WP.lx tysOk rfl ⟨⟨rfl, rfl⟩, rfl⟩ (CellAt.blk (.tail (.tail (.tail .head))) rfl) ?_
  refine WP.sx tysOk rfl ⟨⟨⟨rfl, rfl⟩, rfl⟩, ⟨⟩⟩ ?_
  refine WP.ixA tysOk rfl ⟨⟨rfl, rfl⟩, rfl⟩ rfl rfl rfl rfl rfl rfl rfl rfl hj3 (hs1.ex hj3) ?_
  intro b4 b4v hA4
  refine WP.lx tysOk rfl ⟨⟨rfl, rfl⟩, rfl⟩ (hs1.at0 hA4 (Held.mem (List.Mem.tail _ (List.Mem.tail _ (List.Mem.tail _ (List.Mem.tail _ (List.Mem.head _)))))) hj3 rfl) ?_
  refine WP.bld (cs := [iv (gt r1 0), iv (gt i1.supply n1)]) tysOk rfl ⟨⟨rfl, rfl⟩, rfl⟩ rfl rfl rfl rfl rfl rfl rfl ?_
  refine WP.lal tysOk rfl ⟨rfl, rfl⟩ rfl rfl rfl rfl rfl rfl rfl ?_
  intro g5
  refine WP.lend rfl ⟨rfl, rfl⟩ ?_
  refine WP.sto' tysOk [iv (gt r1 0), iv (gt i1.supply n1)] rfl rfl rfl rfl rfl rfl rfl rfl rfl .head rfl rfl ?_
  refine WP.sx tysOk rfl ⟨⟨⟩, ⟨⟩⟩ ?_
  refine WP.lx tysOk rfl ⟨⟩ (CellAt.blk (.tail .head) rfl) ?_
  iterate 2 (refine WP.sx tysOk rfl ⟨⟨⟩, ⟨⟩⟩ ?_)
  refine WP.cond_d rfl rfl (fun hh3 => ?_) (fun hh3 => ?_)
  ·rw [if_pos hh3] at h
   refine WP.sx tysOk rfl ⟨⟨⟩, ⟨⟩⟩ ?_
   refine WP.lx tysOk rfl ⟨⟩ (CellAt.blk .head rfl) ?_
   iterate 2 (refine WP.sx tysOk rfl ⟨⟨⟩, ⟨⟩⟩ ?_)
   refine WP.sto' tysOk [iv (gt r1 0), iv (w64 (0 - (gt i1.supply n1)))] rfl rfl rfl rfl rfl rfl rfl rfl rfl .head rfl rfl ?_
   refine WP.sx tysOk rfl ⟨⟨⟩, ⟨⟩⟩ ?_
   refine WP.lx tysOk rfl ⟨⟩ (CellAt.blk .head rfl) ?_
   refine WP.sx tysOk rfl ⟨⟨⟩, ⟨⟩⟩ ?_
   refine WP.lx tysOk rfl ⟨⟩ (CellAt.blk (.tail .head) rfl) ?_
   iterate 2 (refine WP.sx tysOk rfl ⟨⟨⟩, ⟨⟩⟩ ?_)
   by_cases hh4 : (w64 (0 - (gt i1.supply n1))) < ((gt i1.arcs (gt r1 0)).low)
   ·rw [if_pos hh4] at h
    refine WP.no rfl rfl (decide_eq_true hh4) rfl rfl ?_
    iterate 4 (refine WP.no rfl rfl rfl rfl rfl ?_)
    refine WP.sx tysOk rfl ⟨⟨⟩, ⟨⟩⟩ ?_
    refine WP.condT rfl rfl ?_
    refine WP.bld (cs := [iv 0, iv 0]) tysOk rfl ⟨⟩ rfl rfl rfl rfl rfl rfl rfl ?_
    refine WP.sto' tysOk [iv 0, iv 0] rfl rfl rfl rfl rfl rfl rfl rfl rfl (.tail (.tail (.tail .head))) rfl rfl ?_
    refine WP.sx tysOk rfl ⟨⟨⟩, ⟨⟩⟩ ?_
    cases h
    refine WP.retR tysOk rfl rfl ⟨_, _, _, _, rfl, ⟨_, rfl, .inr ⟨rfl, _, rfl, rfl, (SegAt.blk' (z := 2) .head rfl).1⟩⟩, ⟨_, _, rfl, rfl, rfl⟩, rfl⟩ (fun w1 hw1 => ⟨rfl, Ret.below_ hw1 (.cons (.tail (.tail (.tail (.tail (.tail .head))))) .nil)⟩)
   rw [if_neg hh4] at h
   refine WP.yes rfl rfl (decide_eq_false hh4) ?_
   refine WP.sx tysOk rfl ⟨⟨⟩, ⟨⟩⟩ ?_
   refine WP.yes rfl rfl rfl ?_
   refine WP.lx tysOk rfl ⟨⟩ (CellAt.blk .head rfl) ?_
   refine WP.yes rfl rfl rfl ?_
   refine WP.sx tysOk rfl ⟨⟨⟩, ⟨⟩⟩ ?_
   refine WP.yes rfl rfl rfl ?_
   refine WP.lx tysOk rfl ⟨⟩ (CellAt.blk (.tail .head) rfl) ?_
   refine WP.yes rfl rfl rfl ?_
   iterate 2 (refine WP.sx tysOk rfl ⟨⟨⟩, ⟨⟩⟩ ?_)
   refine WP.cond_d rfl rfl (fun hh5 => ?_) (fun hh5 => ?_)
   ·rw [if_pos hh5] at h
    refine WP.bld (cs := [iv 0, iv 0]) tysOk rfl ⟨⟩ rfl rfl rfl rfl rfl rfl rfl ?_
    refine WP.sto' tysOk [iv 0, iv 0] rfl rfl rfl rfl rfl rfl rfl rfl rfl (.tail (.tail (.tail .head))) rfl rfl ?_
    refine WP.sx tysOk rfl ⟨⟨⟩, ⟨⟩⟩ ?_
    cases h
    refine WP.retR tysOk rfl rfl ⟨_, _, _, _, rfl, ⟨_, rfl, .inr ⟨rfl, _, rfl, rfl, (SegAt.blk' (z := 2) .head rfl).1⟩⟩, ⟨_, _, rfl, rfl, rfl⟩, rfl⟩ (fun w1 hw1 => ⟨rfl, Ret.below_ hw1 (.cons (.tail (.tail (.tail (.tail (.tail .head))))) .nil)⟩)
   rw [if_neg hh5] at h
   refine WP.mx_ tysOk rfl ⟨⟩ (SegAt.blk' .head rfl) ?_
   refine WP.sto' tysOk [iv (gt r1 0), iv (w64 (0 - (gt i1.supply n1)))] rfl rfl rfl rfl rfl rfl rfl rfl rfl (.tail (.tail (.tail .head))) rfl rfl ?_
   refine WP.sx tysOk rfl ⟨⟨⟩, ⟨⟩⟩ ?_
   cases h
   refine WP.retR tysOk rfl rfl ⟨_, _, _, _, rfl, ⟨_, rfl, .inr ⟨rfl, _, rfl, rfl, (SegAt.blk' (z := 2) .head rfl).1⟩⟩, ⟨_, _, rfl, rfl, rfl⟩, rfl⟩ (fun w1 hw1 => ⟨rfl, Ret.below_ hw1 (.cons (.tail (.tail (.tail (.tail (.tail .head))))) .nil)⟩)
  rw [if_neg hh3] at h
  refine WP.sx tysOk rfl ⟨⟨⟩, ⟨⟩⟩ ?_
  refine WP.lx tysOk rfl ⟨⟩ (CellAt.blk .head rfl) ?_
  refine WP.sx tysOk rfl ⟨⟨⟩, ⟨⟩⟩ ?_
  refine WP.lx tysOk rfl ⟨⟩ (CellAt.blk (.tail .head) rfl) ?_
  iterate 2 (refine WP.sx tysOk rfl ⟨⟨⟩, ⟨⟩⟩ ?_)
  by_cases hh6 : (gt i1.supply n1) < ((gt i1.arcs (gt r1 0)).low)
  ·rw [if_pos hh6] at h
   refine WP.no rfl rfl (decide_eq_true hh6) rfl rfl ?_
   iterate 4 (refine WP.no rfl rfl rfl rfl rfl ?_)
   refine WP.sx tysOk rfl ⟨⟨⟩, ⟨⟩⟩ ?_
   refine WP.condT rfl rfl ?_
   refine WP.bld (cs := [iv 0, iv 0]) tysOk rfl ⟨⟩ rfl rfl rfl rfl rfl rfl rfl ?_
   refine WP.sto' tysOk [iv 0, iv 0] rfl rfl rfl rfl rfl rfl rfl rfl rfl (.tail (.tail (.tail .head))) rfl rfl ?_
   refine WP.sx tysOk rfl ⟨⟨⟩, ⟨⟩⟩ ?_
   cases h
   refine WP.retR tysOk rfl rfl ⟨_, _, _, _, rfl, ⟨_, rfl, .inr ⟨rfl, _, rfl, rfl, (SegAt.blk' (z := 2) .head rfl).1⟩⟩, ⟨_, _, rfl, rfl, rfl⟩, rfl⟩ (fun w1 hw1 => ⟨rfl, Ret.below_ hw1 (.cons (.tail (.tail (.tail (.tail (.tail .head))))) .nil)⟩)
  rw [if_neg hh6] at h
  refine WP.yes rfl rfl (decide_eq_false hh6) ?_
  refine WP.sx tysOk rfl ⟨⟨⟩, ⟨⟩⟩ ?_
  refine WP.yes rfl rfl rfl ?_
  refine WP.lx tysOk rfl ⟨⟩ (CellAt.blk .head rfl) ?_
  refine WP.yes rfl rfl rfl ?_
  refine WP.sx tysOk rfl ⟨⟨⟩, ⟨⟩⟩ ?_
  refine WP.yes rfl rfl rfl ?_
  refine WP.lx tysOk rfl ⟨⟩ (CellAt.blk (.tail .head) rfl) ?_
  refine WP.yes rfl rfl rfl ?_
  iterate 2 (refine WP.sx tysOk rfl ⟨⟨⟩, ⟨⟩⟩ ?_)
  refine WP.cond_d rfl rfl (fun hh7 => ?_) (fun hh7 => ?_)
  ·rw [if_pos hh7] at h
   refine WP.bld (cs := [iv 0, iv 0]) tysOk rfl ⟨⟩ rfl rfl rfl rfl rfl rfl rfl ?_
   refine WP.sto' tysOk [iv 0, iv 0] rfl rfl rfl rfl rfl rfl rfl rfl rfl (.tail (.tail (.tail .head))) rfl rfl ?_
   refine WP.sx tysOk rfl ⟨⟨⟩, ⟨⟩⟩ ?_
   cases h
   refine WP.retR tysOk rfl rfl ⟨_, _, _, _, rfl, ⟨_, rfl, .inr ⟨rfl, _, rfl, rfl, (SegAt.blk' (z := 2) .head rfl).1⟩⟩, ⟨_, _, rfl, rfl, rfl⟩, rfl⟩ (fun w1 hw1 => ⟨rfl, Ret.below_ hw1 (.cons (.tail (.tail (.tail (.tail (.tail .head))))) .nil)⟩)
  rw [if_neg hh7] at h
  refine WP.mx_ tysOk rfl ⟨⟩ (SegAt.blk' .head rfl) ?_
  refine WP.sto' tysOk [iv (gt r1 0), iv (gt i1.supply n1)] rfl rfl rfl rfl rfl rfl rfl rfl rfl (.tail (.tail (.tail .head))) rfl rfl ?_
  refine WP.sx tysOk rfl ⟨⟨⟩, ⟨⟩⟩ ?_
  cases h
  refine WP.retR tysOk rfl rfl ⟨_, _, _, _, rfl, ⟨_, rfl, .inr ⟨rfl, _, rfl, rfl, (SegAt.blk' (z := 2) .head rfl).1⟩⟩, ⟨_, _, rfl, rfl, rfl⟩, rfl⟩ (fun w1 hw1 => ⟨rfl, Ret.below_ hw1 (.cons (.tail (.tail (.tail (.tail (.tail .head))))) .nil)⟩)

set_option maxRecDepth 20000 in
set_option maxHeartbeats 8000000 in
theorem leaf_leaf_1_1_w {w : World} {gg1 : Nat} {gg2 : Nat} {A1 : Option Addr} {c1 : Nat} {A2 : Option Addr} {c2 : Nat} {v0 : Value} {k1 : Int} {x1 : Inst} {x2 : Inst} {r : Tip × Bool} (h : leaf_leaf_1_1 k1 x1 x2 = some r) (p2 : GraphZ (PH.of w) v0 x1) (hb1 : Zc (PH.of w) gg1 0 = some (v0)) (hs1 : FzS (fI .i64) (PH.of w) A1 c1 x2.supply) (hs2 : FzS fA (PH.of w) A2 c2 x2.arcs) (hb2 : Zc (PH.of w) gg2 0 = some (.slice A1 x2.supply.length c1)) (hb3 : Zc (PH.of w) gg2 1 = some (.slice A2 x2.arcs.length c2)) :
    Calls Tryz.prog 69 #[iv k1, .pointer (some ⟨gg1, 0, none⟩), .pointer (some ⟨gg2, 0, none⟩)] w fun e w' => e = .returned (.tuple #[.agg #[iv r.1.a, iv r.1.n], .bool (r.2)]) ∧ Below w.heap.size w w' := by
  unfold leaf_leaf_1_1 at h
  refine enter_ Tryz.func69 rfl Tryz.ntmps69 rfl ?_
  refine WP.al tysOk rfl rfl rfl rfl rfl rfl ?_
  intro g1
  refine WP.sx tysOk rfl ⟨⟨⟩, ⟨⟩⟩ ?_
  refine WP.lx tysOk rfl ⟨⟩ (Held.cell (Held.mem (List.Mem.tail _ (List.Mem.head _))) hb1) ?_
  refine WP.mx_ tysOk rfl ⟨⟩ (SegAt.zcs (Held.mem (List.Mem.tail _ (List.Mem.head _))) (l := [.slice A1 x2.supply.length c1, .slice A2 x2.arcs.length c2]) ⟨hb2, hb3, True.intro⟩) ?_
  refine WP.sx tysOk rfl ⟨⟨⟩, ⟨⟩⟩ ?_
  obtain ⟨r1, hg1, h⟩ := bind_some h
  refine WP.callV rfl rfl rfl rfl rfl rfl rfl (by kernel_rfl) (fun w1 hw1 => (leaf_tipOf_w hg1 (p2.le ((Held.mem (List.Mem.tail _ (List.Mem.head _))) _ _ hw1)) (InsZ.mk_ ((hs1.le' ((Held.mem (List.Mem.tail _ (List.Mem.head _))) _ _ hw1)).of) ((hs2.le' ((Held.mem (List.Mem.tail _ (List.Mem.head _))) _ _ hw1)).of)) :)) ⟨⟩ ?_
  iterate 2 (refine WP.sx tysOk rfl ⟨⟨⟩, ⟨⟩⟩ ?_)
  refine WP.sto' tysOk [iv r1.1.a, iv r1.1.n] rfl rfl rfl rfl rfl rfl rfl rfl rfl .head rfl rfl ?_
  refine WP.sx tysOk rfl ⟨⟨⟩, ⟨⟩⟩ ?_
  cases h
  refine WP.retR tysOk rfl rfl ⟨_, _, _, _, rfl, ⟨_, rfl, .inr ⟨rfl, _, rfl, rfl, (SegAt.blk' (z := 2) .head rfl).1⟩⟩, ⟨_, _, rfl, rfl, rfl⟩, rfl⟩ (fun w1 hw1 => ⟨rfl, Ret.below_ hw1 (.cons (.tail .head) .nil)⟩)

set_option maxRecDepth 20000 in
set_option maxHeartbeats 8000000 in
theorem leaf_first_leaf_tip_1_w {w : World} {gg1 : Nat} {gg2 : Nat} {A1 : Option Addr} {c1 : Nat} {A2 : Option Addr} {c2 : Nat} {v0 : Value} {n1 : Int} {x1 : Inst} {x2 : Inst} {r : Int × Tip × Bool} (h : leaf_first_leaf_tip_1 n1 x1 x2 = some r) (p2 : GraphZ (PH.of w) v0 x1) (hb1 : Zc (PH.of w) gg1 0 = some (v0)) (hs1 : FzS (fI .i64) (PH.of w) A1 c1 x2.supply) (hs2 : FzS fA (PH.of w) A2 c2 x2.arcs) (hb2 : Zc (PH.of w) gg2 0 = some (.slice A1 x2.supply.length c1)) (hb3 : Zc (PH.of w) gg2 1 = some (.slice A2 x2.arcs.length c2)) :
    Calls Tryz.prog 68 #[iv n1, .func (.func 69) #[] #[.pointer (some ⟨gg1, 0, none⟩), .pointer (some ⟨gg2, 0, none⟩)]] w fun e w' => e = .returned (.tuple #[iv r.1, .agg #[iv r.2.1.a, iv r.2.1.n], .bool (r.2.2)]) ∧ Below w.heap.size w w' := by
  unfold leaf_first_leaf_tip_1 at h
  refine enter_ Tryz.func68 rfl Tryz.ntmps68 rfl ?_
  refine WP.sx tysOk rfl ⟨⟨⟩, ⟨⟩⟩ ?_
  refine WP.al tysOk rfl rfl rfl rfl rfl rfl ?_
  intro g1
  iterate 3 (refine WP.sx tysOk rfl ⟨⟨⟩, ⟨⟩⟩ ?_)
  refine WP.loop (α := Nat × Int) (fun x => lp (leaf_first_leaf_tip_1_b1 n1 x1 x2) x.1 x.2 = some r) (fun x => [(1, .func (.func 69) #[] #[pt gg1, pt gg2]), (5, pt g1), (11, iv n1), (12, iv x.2)]) (fun x => [.blk g1 70 [iv 0, iv 0], .fz (PH.of w)]) (fun x => x.1) rfl (big, 0) h ?_ ?_ ?_
  ·repeat first|exact ⟨⟩|refine ⟨rfl,?_⟩
  ·exact Pick.all
  rintro ⟨n2, s2⟩ h
  dsimp only at h ⊢
  rcases n2 with _ | n2
  · exact (lp_no h).elim
  replace h := lp_succ h
  unfold leaf_first_leaf_tip_1_b1 at h
  try dsimp only at h
  refine WP.sx tysOk rfl ⟨⟨⟩, ⟨⟩⟩ ?_
  refine WP.cond_d rfl rfl (fun hh5 => ?_) (fun hh5 => ?_)
  ·rw [if_pos hh5] at h
   iterate 4 (refine WP.sx tysOk rfl ⟨⟨⟩, ⟨⟩⟩ ?_)
   obtain ⟨r3, hg3, h⟩ := bind_some h
   refine WP.callV rfl rfl rfl rfl rfl rfl rfl (by kernel_rfl) (fun w1 hw1 => (leaf_leaf_1_1_w hg3 (p2.le ((Held.mem (List.Mem.tail _ (List.Mem.head _))) _ _ hw1)) (PH.le.cell ((Held.mem (List.Mem.tail _ (List.Mem.head _))) _ _ hw1) hb1) (hs1.le' ((Held.mem (List.Mem.tail _ (List.Mem.head _))) _ _ hw1)) (hs2.le' ((Held.mem (List.Mem.tail _ (List.Mem.head _))) _ _ hw1)) (PH.le.cell ((Held.mem (List.Mem.tail _ (List.Mem.head _))) _ _ hw1) hb2) (PH.le.cell ((Held.mem (List.Mem.tail _ (List.Mem.head _))) _ _ hw1) hb3) :)) ⟨⟩ ?_
   iterate 3 (refine WP.sx tysOk rfl ⟨⟨⟩, ⟨⟩⟩ ?_)
   refine WP.al tysOk rfl rfl rfl rfl rfl rfl ?_
   intro g6
   refine WP.sto' tysOk [iv r3.1.a, iv r3.1.n] rfl rfl rfl rfl rfl rfl rfl rfl rfl .head rfl rfl ?_
   iterate 2 (refine WP.sx tysOk rfl ⟨⟨⟩, ⟨⟩⟩ ?_)
   refine WP.cond rfl rfl (fun hh6 => ?_) (fun hh6 => ?_)
   ·rw [if_pos hh6] at h
    refine WP.drawL 3 [] rfl (by kernel_rfl) (by kernel_rfl) (by kernel_rfl) ?_
    refine WP.sx tysOk rfl ⟨⟨⟨rfl, rfl⟩, rfl⟩, ⟨⟩⟩ ?_
    refine WP.mx_ tysOk rfl ⟨⟨rfl, rfl⟩, rfl⟩ (SegAt.blk' .head rfl) ?_
    refine WP.sx tysOk rfl ⟨⟨⟨rfl, rfl⟩, rfl⟩, ⟨⟩⟩ ?_
    refine WP.lend rfl ⟨rfl, rfl⟩ ?_
    refine WP.sto' tysOk [iv r3.1.a, iv r3.1.n] rfl rfl rfl rfl rfl rfl rfl rfl rfl (.tail .head) rfl rfl ?_
    refine WP.sx tysOk rfl ⟨⟨⟩, ⟨⟩⟩ ?_
    cases h
    refine WP.retR tysOk rfl rfl ⟨_, _, rfl, ⟨_, _, _, _, rfl, ⟨_, rfl, .inr ⟨rfl, _, rfl, rfl, (SegAt.blk' (z := 2) .head rfl).1⟩⟩, ⟨_, _, rfl, rfl, rfl⟩, rfl⟩, rfl⟩ (fun w1 hw1 => ⟨rfl, Ret.below_ hw1 (.cons (.tail (.tail .head)) .nil)⟩)
   rw [if_neg (bneg hh6)] at h
   iterate 2 (refine WP.sx tysOk rfl ⟨⟨⟩, ⟨⟩⟩ ?_)
   refine WP.stop rfl (n2, w64 (s2 + 1)) ⟨h, Nat.lt_succ_self _⟩ ?_ ?_
   ·repeat first|exact ⟨⟩|refine ⟨rfl,?_⟩
   exact (.cons (.tail .head) (.cons (.tail .head) .nil))
  rw [if_neg hh5] at h
  refine WP.al tysOk rfl rfl rfl rfl rfl rfl ?_
  intro g7
  refine WP.drawL 2 [] rfl (by kernel_rfl) (by kernel_rfl) (by kernel_rfl) ?_
  refine WP.mx_ tysOk rfl ⟨⟨rfl, rfl⟩, rfl⟩ (SegAt.blk' .head rfl) ?_
  refine WP.sx tysOk rfl ⟨⟨⟨rfl, rfl⟩, rfl⟩, ⟨⟩⟩ ?_
  refine WP.lend rfl ⟨rfl, rfl⟩ ?_
  refine WP.sto' tysOk [iv 0, iv 0] rfl rfl rfl rfl rfl rfl rfl rfl rfl (.tail .head) rfl rfl ?_
  refine WP.sx tysOk rfl ⟨⟨⟩, ⟨⟩⟩ ?_
  cases h
  refine WP.retR tysOk rfl rfl ⟨_, _, rfl, ⟨_, _, _, _, rfl, ⟨_, rfl, .inr ⟨rfl, _, rfl, rfl, (SegAt.blk' (z := 2) .head rfl).1⟩⟩, ⟨_, _, rfl, rfl, rfl⟩, rfl⟩, rfl⟩ (fun w1 hw1 => ⟨rfl, Ret.below_ hw1 (.cons (.tail (.tail .head)) .nil)⟩)

abbrev inst_Copy_S (r : Inst) : Value → Heap → Prop := fun v L => ∃ (A1 : Option Addr) (n1 c1 : Nat) (A2 : Option Addr) (n2 c2 : Nat), v = .agg #[.slice A1 n1 c1, .slice A2 n2 c2] ∧ OwF A1 n1 r.supply ∧ OwF A2 n2 r.arcs ∧ L = [Ow (fI .i64) 2 A1 n1 c1 r.supply, Ow fA 31 A2 n2 c2 r.arcs]
set_option maxRecDepth 20000 in
set_option maxHeartbeats 8000000 in
theorem inst_Copy_w {w : World} {v0 : Value} {i1 : Inst} {r : Inst} (h : inst_Copy i1 = some r) (p1 : InsZ (PH.of w) v0 i1) :
    Calls Tryz.prog 70 #[v0] w fun e w' => ∃ v L, e = .returned v ∧ inst_Copy_S r v L ∧ Ret w w' L := by
  obtain ⟨A1, c1, A2, c2, rfl, hs1, hs2⟩ := p1
  unfold inst_Copy at h
  refine enter_ Tryz.func70 rfl Tryz.ntmps70 rfl ?_
  refine WP.box rfl rfl rfl rfl rfl rfl ?_
  intro g1
  refine WP.al tysOk rfl rfl rfl rfl rfl rfl ?_
  intro g2
  obtain ⟨r1, hg1, h⟩ := bind_some h
  obtain ⟨r2, hg2, h⟩ := bind_some h
  refine WP.drawL 7 [(2, [], fun _ => slices_Clone_int64_S r1), (5, [], fun _ => slices_Clone_api_Arc_S r2)] rfl (by kernel_rfl) (by kernel_rfl) (by kernel_rfl) ?_
  refine WP.sx tysOk rfl ⟨⟨⟨rfl, rfl⟩, rfl⟩, ⟨⟩⟩ ?_
  refine WP.lx tysOk rfl ⟨⟨rfl, rfl⟩, rfl⟩ (CellAt.blk (.tail .head) rfl) ?_
  refine WP.lcall rfl ⟨rfl, rfl⟩ rfl rfl rfl rfl rfl rfl rfl (by kernel_rfl) (fun w1 hw1 => (slices_Clone_int64_w hg1 (hs1.le' ((Held.mem (List.Mem.tail _ (List.Mem.tail _ (List.Mem.head _)))) _ _ hw1)).of :)) ?_
  rintro _ _ ⟨A3, n1, c3, rfl, hf1, rfl⟩
  refine WP.sx tysOk rfl ⟨⟨⟨rfl, rfl⟩, rfl⟩, ⟨⟩⟩ ?_
  refine WP.lx tysOk rfl ⟨⟨rfl, rfl⟩, rfl⟩ (CellAt.blk (.tail .head) rfl) ?_
  refine WP.lcall rfl ⟨rfl, rfl⟩ rfl rfl rfl rfl rfl rfl rfl (by kernel_rfl) (fun w1 hw1 => (slices_Clone_api_Arc_w hg2 (hs2.le' ((Held.mem (List.Mem.tail _ (List.Mem.tail _ (List.Mem.head _)))) _ _ hw1)).of :)) ?_
  rintro _ _ ⟨A4, n2, c4, rfl, hf2, rfl⟩
  refine WP.bld (cs := [.slice A3 n1 c3, .slice A4 n2 c4]) tysOk rfl ⟨⟨rfl, rfl⟩, rfl⟩ rfl rfl rfl rfl rfl rfl rfl ?_
  refine WP.lend rfl ⟨rfl, rfl⟩ ?_
  refine WP.sto' tysOk [.slice A3 n1 c3, .slice A4 n2 c4] rfl rfl rfl rfl rfl rfl rfl rfl rfl (.tail (.tail .head)) rfl rfl ?_
  cases h
  refine WP.retR tysOk rfl rfl ⟨_, _, _, _, rfl, ⟨_, rfl, .inr ⟨rfl, _, rfl, rfl, (SegAt.blk' (z := 2) .head rfl).1⟩⟩, rfl, rfl⟩ (fun w1 hw1 => ⟨_, _, rfl, ⟨A3, n1, c3, A4, n2, c4, rfl, hf1, hf2, rfl⟩, Ret.of_KH hw1 (.cons (.tail (.tail .head)) (.cons (.tail .head) (.cons (.tail (.tail .head)) .nil)))⟩)

set_option maxRecDepth 20000 in
set_option maxHeartbeats 8000000 in
theorem math_bits_Mul64_w {w : World} {x1 : Int} {y1 : Int} {r : Int × Int} (h : math_bits_Mul64 x1 y1 = some r) :
    Calls Tryz.prog 79 #[.int .u64 (x1), .int .u64 (y1)] w fun e w' => e = .returned (.tuple #[.int .u64 (r.1), .int .u64 (r.2)]) ∧ Below w.heap.size w w' := by
  unfold math_bits_Mul64 at h
  refine enter_ Tryz.func79 rfl Tryz.ntmps79 rfl ?_
  iterate 4 (refine WP.sx tysOk rfl ⟨⟨⟩, ⟨⟩⟩ ?_)
  obtain ⟨x01, hx1, h⟩ := lt_some h
  refine WP.sx tysOk rfl ⟨⟨⟩, ⟨⟩⟩ ?_
  refine WP.retell (s := 6) (.int .u64 x01) rfl (congrArg (Value.int .u64) hx1.symm) ?_
  refine WP.sx tysOk rfl ⟨⟨⟩, ⟨⟩⟩ ?_
  refine WP.sx tysOk rfl ⟨⟨⟩, (by decide)⟩ ?_
  obtain ⟨x11, hx2, h⟩ := lt_some h
  refine WP.sx tysOk rfl ⟨⟨⟩, ⟨⟩⟩ ?_
  refine WP.retell (s := 7) (.int .u64 x11) rfl (congrArg (Value.int .u64) hx2.symm) ?_
  iterate 2 (refine WP.sx tysOk rfl ⟨⟨⟩, ⟨⟩⟩ ?_)
  obtain ⟨y01, hx3, h⟩ := lt_some h
  refine WP.sx tysOk rfl ⟨⟨⟩, ⟨⟩⟩ ?_
  refine WP.retell (s := 8) (.int .u64 y01) rfl (congrArg (Value.int .u64) hx3.symm) ?_
  refine WP.sx tysOk rfl ⟨⟨⟩, ⟨⟩⟩ ?_
  refine WP.sx tysOk rfl ⟨⟨⟩, (by decide)⟩ ?_
  obtain ⟨y11, hx4, h⟩ := lt_some h
  refine WP.sx tysOk rfl ⟨⟨⟩, ⟨⟩⟩ ?_
  refine WP.retell (s := 9) (.int .u64 y11) rfl (congrArg (Value.int .u64) hx4.symm) ?_
  iterate 3 (refine WP.sx tysOk rfl ⟨⟨⟩, ⟨⟩⟩ ?_)
  obtain ⟨w01, hx5, h⟩ := lt_some h
  refine WP.sx tysOk rfl ⟨⟨⟩, ⟨⟩⟩ ?_
  refine WP.retell (s := 10) (.int .u64 w01) rfl (congrArg (Value.int .u64) hx5.symm) ?_
  iterate 4 (refine WP.sx tysOk rfl ⟨⟨⟩, ⟨⟩⟩ ?_)
  refine WP.sx tysOk rfl ⟨⟨⟩, (by decide)⟩ ?_
  refine WP.sx tysOk rfl ⟨⟨⟩, ⟨⟩⟩ ?_
  obtain ⟨t1, hx6, h⟩ := lt_some h
  refine WP.sx tysOk rfl ⟨⟨⟩, ⟨⟩⟩ ?_
  refine WP.retell (s := 11) (.int .u64 t1) rfl (congrArg (Value.int .u64) hx6.symm) ?_
  iterate 2 (refine WP.sx tysOk rfl ⟨⟨⟩, ⟨⟩⟩ ?_)
  obtain ⟨w11, hx7, h⟩ := lt_some h
  refine WP.sx tysOk rfl ⟨⟨⟩, ⟨⟩⟩ ?_
  refine WP.retell (s := 12) (.int .u64 w11) rfl (congrArg (Value.int .u64) hx7.symm) ?_
  refine WP.sx tysOk rfl ⟨⟨⟩, ⟨⟩⟩ ?_
  refine WP.sx tysOk rfl ⟨⟨⟩, (by decide)⟩ ?_
  obtain ⟨w21, hx8, h⟩ := lt_some h
  refine WP.sx tysOk rfl ⟨⟨⟩, ⟨⟩⟩ ?_
  refine WP.retell (s := 13) (.int .u64 w21) rfl (congrArg (Value.int .u64) hx8.symm) ?_
  iterate 5 (refine WP.sx tysOk rfl ⟨⟨⟩, ⟨⟩⟩ ?_)
  obtain ⟨w12, hx9, h⟩ := lt_some h
  refine WP.sx tysOk rfl ⟨⟨⟩, ⟨⟩⟩ ?_
  refine WP.retell (s := 12) (.int .u64 w12) rfl (congrArg (Value.int .u64) hx9.symm) ?_
  iterate 6 (refine WP.sx tysOk rfl ⟨⟨⟩, ⟨⟩⟩ ?_)
  refine WP.sx tysOk rfl ⟨⟨⟩, (by decide)⟩ ?_
  refine WP.sx tysOk rfl ⟨⟨⟩, ⟨⟩⟩ ?_
  obtain ⟨hi1, hx10, h⟩ := lt_some h
  refine WP.sx tysOk rfl ⟨⟨⟩, ⟨⟩⟩ ?_
  refine WP.retell (s := 4) (.int .u64 hi1) rfl (congrArg (Value.int .u64) hx10.symm) ?_
  iterate 3 (refine WP.sx tysOk rfl ⟨⟨⟩, ⟨⟩⟩ ?_)
  obtain ⟨lo1, hx11, h⟩ := lt_some h
  refine WP.sx tysOk rfl ⟨⟨⟩, ⟨⟩⟩ ?_
  refine WP.retell (s := 5) (.int .u64 lo1) rfl (congrArg (Value.int .u64) hx11.symm) ?_
  cases h
  refine WP.retR tysOk rfl rfl ⟨_, _, rfl, ⟨_, _, rfl, rfl, rfl⟩, rfl⟩ (fun w1 hw1 => ⟨rfl, Ret.below_ hw1 (.cons .head .nil)⟩)

set_option maxRecDepth 20000 in
set_option maxHeartbeats 8000000 in
theorem num_Times_w {w : World} {a1 : Int} {b1 : Int} {r : Wide} (h : num_Times a1 b1 = some r) :
    Calls Tryz.prog 48 #[iv a1, iv b1] w fun e w' => e = .returned (.agg #[iv r.hi, .int .u64 (r.lo)]) ∧ Below w.heap.size w w' := by
  unfold num_Times at h
  refine enter_ Tryz.func48 rfl Tryz.ntmps48 rfl ?_
  refine WP.al tysOk rfl rfl rfl rfl rfl rfl ?_
  intro g1
  iterate 4 (refine WP.sx tysOk rfl ⟨⟨⟩, ⟨⟩⟩ ?_)
  obtain ⟨r1, hg1, h⟩ := bind_some h
  refine WP.callV rfl rfl rfl rfl rfl rfl rfl (by kernel_rfl) (fun w1 hw1 => (math_bits_Mul64_w hg1  :)) ⟨⟩ ?_
  iterate 7 (refine WP.sx tysOk rfl ⟨⟨⟩, ⟨⟩⟩ ?_)
  refine WP.sx tysOk rfl ⟨⟨⟩, (by decide)⟩ ?_
  iterate 5 (refine WP.sx tysOk rfl ⟨⟨⟩, ⟨⟩⟩ ?_)
  obtain ⟨hi1, hx1, h⟩ := lt_some h
  refine WP.sx tysOk rfl ⟨⟨⟩, ⟨⟩⟩ ?_
  refine WP.retell (s := 5) (.int .u64 hi1) rfl (congrArg (Value.int .u64) hx1.symm) ?_
  iterate 2 (refine WP.sx tysOk rfl ⟨⟨⟩, ⟨⟩⟩ ?_)
  refine WP.sx tysOk rfl ⟨⟨⟩, (by decide)⟩ ?_
  iterate 5 (refine WP.sx tysOk rfl ⟨⟨⟩, ⟨⟩⟩ ?_)
  obtain ⟨hi2, hx2, h⟩ := lt_some h
  refine WP.sx tysOk rfl ⟨⟨⟩, ⟨⟩⟩ ?_
  refine WP.retell (s := 5) (.int .u64 hi2) rfl (congrArg (Value.int .u64) hx2.symm) ?_
  iterate 3 (refine WP.sx tysOk rfl ⟨⟨⟩, ⟨⟩⟩ ?_)
  refine WP.bld (cs := [iv (w64 (hi2)), .int .u64 (r1.2)]) tysOk rfl ⟨⟩ rfl rfl rfl rfl rfl rfl rfl ?_
  refine WP.sto' tysOk [iv (w64 (hi2)), .int .u64 (r1.2)] rfl rfl rfl rfl rfl rfl rfl rfl rfl .head rfl rfl ?_
  cases h
  refine WP.retR tysOk rfl rfl ⟨_, _, _, _, rfl, ⟨_, rfl, .inr ⟨rfl, _, rfl, rfl, (SegAt.blk' (z := 2) .head rfl).1⟩⟩, rfl, rfl⟩ (fun w1 hw1 => ⟨rfl, Ret.below_ hw1 (.cons (.tail .head) .nil)⟩)

abbrev inst_Kept_S (r : (List Int)) : Value → Heap → Prop := fun v L => ∃ (A1 : Option Addr) (n1 c1 : Nat), v = .slice A1 n1 c1 ∧ OwF A1 n1 r ∧ L = [Ow (fI .i64) 3 A1 n1 c1 r]
set_option maxRecDepth 20000 in
set_option maxHeartbeats 8000000 in
theorem inst_Kept_w {w : World} {v0 : Value} {off1 : List Bool} {n1 : Int} {r : (List Int)} (h : inst_Kept off1 n1 = some r) (p1 : SlF fB (PH.of w) v0 off1) :
    Calls Tryz.prog 117 #[v0, iv n1] w fun e w' => ∃ v L, e = .returned v ∧ inst_Kept_S r v L ∧ Ret w w' L := by
  obtain ⟨A1, c1, rfl, hs1⟩ := p1
  unfold inst_Kept at h
  refine enter_ Tryz.func117 rfl Tryz.ntmps117 rfl ?_
  iterate 3 (refine WP.sx tysOk rfl ⟨⟨⟩, ⟨⟩⟩ ?_)
  refine WP.mn rfl ⟨⟩ rfl rfl rfl rfl rfl rfl ?_
  refine WP.sx tysOk rfl ⟨⟨⟩, ⟨⟩⟩ ?_
  refine WP.own_nil 3 (fI .i64).z ?_
  refine WP.loop (α := Nat × Int × (List Int) × (Option Addr) × Nat × Nat) (fun x => lp (inst_Kept_b1 off1 n1) x.1 (x.2.1, x.2.2.1) = some r ∧ OwF x.2.2.2.1 x.2.2.2.2.1 x.2.2.1) (fun x => [(0, .slice A1 off1.length c1), (5, .slice x.2.2.2.1 x.2.2.2.2.1 x.2.2.2.2.2), (8, iv (if 1000 < n1 then 1000 else n1)), (9, iv x.2.1)]) (fun x => [Ow (fI .i64) 3 x.2.2.2.1 x.2.2.2.2.1 x.2.2.2.2.2 x.2.2.1, .fz (PH.of w)]) (fun x => x.1) rfl (big, 0, ([] : List Int), none, 0, 0) ⟨h, OwF.nil_⟩ ?_ ?_ ?_
  ·repeat first|exact ⟨⟩|refine ⟨rfl,?_⟩
  ·exact Pick.all
  rintro ⟨n2, s3, xs10, A11, m2, c11⟩ ⟨h, hf18⟩
  dsimp only at h hf18 ⊢
  rcases n2 with _ | n2
  · exact (lp_no h).elim
  replace h := lp_succ h
  unfold inst_Kept_b1 at h
  try dsimp only at h
  refine WP.sx tysOk rfl ⟨⟨⟩, ⟨⟩⟩ ?_
  refine WP.cond_d rfl rfl (fun hh13 => ?_) (fun hh13 => ?_)
  ·rw [if_pos hh13] at h
   iterate 7 (refine WP.sx tysOk rfl ⟨⟨⟩, ⟨⟩⟩ ?_)
   by_cases hh14 : (off1.length : Int) ≤ s3
   ·rw [if_pos hh14] at h
    refine WP.no rfl rfl (decide_eq_true hh14) rfl rfl ?_
    iterate 4 (refine WP.no rfl rfl rfl rfl rfl ?_)
    refine WP.sx tysOk rfl ⟨⟨⟩, ⟨⟩⟩ ?_
    refine WP.condT rfl rfl ?_
    iterate 2 (refine WP.sx tysOk rfl ⟨⟨⟩, ⟨⟩⟩ ?_)
    refine WP.bsO (f := (fI .i64)) [s3] tysOk rfl rfl rfl rfl rfl rfl rfl rfl rfl rfl rfl rfl rfl rfl ?_
    intro g9 hf19
    obtain ⟨hl9, h⟩ := ck_some h
    obtain ⟨xs11, hz9, h⟩ := lt_some h
    refine WP.appO (f := (fI .i64)) (xs := xs10) (ys := [s3]) tysOk rfl rfl rfl rfl rfl rfl rfl rfl rfl rfl rfl rfl (.tail .head) hf18 hf19.len (OwS.app .head hf19) hl9 hz9 ?_
    intro A12 c12 hf20
    iterate 3 (refine WP.sx tysOk rfl ⟨⟨⟩, ⟨⟩⟩ ?_)
    refine WP.stop rfl (n2, w64 (s3 + 1), xs11, A12, xs11.length, c12) ⟨⟨h, hf20⟩, Nat.lt_succ_self _⟩ ?_ ?_
    ·repeat first|exact ⟨⟩|refine ⟨rfl,?_⟩
    exact (.cons .head (.cons (.tail .head) .nil))
   rw [if_neg hh14] at h
   refine WP.yes rfl rfl (decide_eq_false hh14) ?_
   iterate 2 (refine WP.sx tysOk rfl ⟨⟨⟩, ⟨⟩⟩ ?_; refine WP.yes rfl rfl rfl ?_)
   obtain ⟨hj5, h⟩ := ck_some h
   refine WP.ixA tysOk rfl ⟨⟩ rfl rfl rfl rfl rfl rfl rfl rfl hj5 (hs1.ex hj5) ?_
   intro b5 b5v hA5
   refine WP.yes rfl rfl rfl ?_
   refine WP.lx tysOk rfl ⟨⟩ (hs1.at0 hA5 (Held.mem (List.Mem.tail _ (List.Mem.head _))) hj5 rfl) ?_
   refine WP.yes rfl rfl rfl ?_
   iterate 2 (refine WP.sx tysOk rfl ⟨⟨⟩, ⟨⟩⟩ ?_)
   refine WP.cond_n rfl rfl (fun hh15 => ?_) (fun hh15 => ?_)
   ·rw [if_neg (bneg hh15)] at h
    iterate 2 (refine WP.sx tysOk rfl ⟨⟨⟩, ⟨⟩⟩ ?_)
    refine WP.bsO (f := (fI .i64)) [s3] tysOk rfl rfl rfl rfl rfl rfl rfl rfl rfl rfl rfl rfl rfl rfl ?_
    intro g10 hf21
    obtain ⟨hl10, h⟩ := ck_some h
    obtain ⟨xs12, hz10, h⟩ := lt_some h
    refine WP.appO (f := (fI .i64)) (xs := xs10) (ys := [s3]) tysOk rfl rfl rfl rfl rfl rfl rfl rfl rfl rfl rfl rfl (.tail .head) hf18 hf21.len (OwS.app .head hf21) hl10 hz10 ?_
    intro A13 c13 hf22
    iterate 3 (refine WP.sx tysOk rfl ⟨⟨⟩, ⟨⟩⟩ ?_)
    refine WP.stop rfl (n2, w64 (s3 + 1), xs12, A13, xs12.length, c13) ⟨⟨h, hf22⟩, Nat.lt_succ_self _⟩ ?_ ?_
    ·repeat first|exact ⟨⟩|refine ⟨rfl,?_⟩
    exact (.cons .head (.cons (.tail .head) .nil))
   rw [if_pos hh15] at h
   iterate 2 (refine WP.sx tysOk rfl ⟨⟨⟩, ⟨⟩⟩ ?_)
   refine WP.stop rfl (n2, w64 (s3 + 1), xs10, A11, m2, c11) ⟨⟨h, hf18⟩, Nat.lt_succ_self _⟩ ?_ ?_
   ·repeat first|exact ⟨⟩|refine ⟨rfl,?_⟩
   exact Pick.all
  rw [if_neg hh13] at h
  iterate 2 (refine WP.sx tysOk rfl ⟨⟨⟩, ⟨⟩⟩ ?_)
  cases h
  refine WP.retR tysOk rfl rfl ⟨_, _, rfl, rfl, rfl⟩ (fun w1 hw1 => ⟨_, _, rfl, ⟨A11, m2, c11, rfl, hf18, rfl⟩, Ret.of_KH hw1 (.cons .head (.cons .head .nil))⟩)

abbrev inst_pick_int64_S (r : (List Int)) : Value → Heap → Prop := fun v L => ∃ (A1 : Option Addr) (n1 c1 : Nat), v = .slice A1 n1 c1 ∧ OwF A1 n1 r ∧ L = [Ow (fI .i64) 2 A1 n1 c1 r]
set_option maxRecDepth 20000 in
set_option maxHeartbeats 8000000 in
theorem inst_pick_int64_w {w : World} {v0 : Value} {v1 : Value} {l1 : List Int} {atv1 : List Int} {r : (List Int)} (h : inst_pick_int64 l1 atv1 = some r) (p1 : SlF (fI .i64) (PH.of w) v0 l1) (p2 : SlF (fI .i64) (PH.of w) v1 atv1) :
    Calls Tryz.prog 118 #[v0, v1] w fun e w' => ∃ v L, e = .returned v ∧ inst_pick_int64_S r v L ∧ Ret w w' L := by
  obtain ⟨A1, c1, rfl, hs1⟩ := p1
  obtain ⟨A2, c2, rfl, hs2⟩ := p2
  unfold inst_pick_int64 at h
  refine enter_ Tryz.func118 rfl Tryz.ntmps118 rfl ?_
  iterate 5 (refine WP.sx tysOk rfl ⟨⟨⟩, ⟨⟩⟩ ?_)
  refine WP.own_nil 2 (fI .i64).z ?_
  refine WP.loop (α := Nat × Int × (List Int) × (Option Addr) × Nat × Nat) (fun x => lp (inst_pick_int64_b1 l1 atv1) x.1 (x.2.1, x.2.2.1) = some r ∧ OwF x.2.2.2.1 x.2.2.2.2.1 x.2.2.1) (fun x => [(0, .slice A1 l1.length c1), (5, .slice x.2.2.2.1 x.2.2.2.2.1 x.2.2.2.2.2), (8, .slice A2 atv1.length c2), (9, iv (atv1.length : Int)), (10, iv x.2.1)]) (fun x => [Ow (fI .i64) 2 x.2.2.2.1 x.2.2.2.2.1 x.2.2.2.2.2 x.2.2.1, .fz (PH.of w)]) (fun x => x.1) rfl (big, 0, ([] : List Int), none, 0, 0) ⟨h, OwF.nil_⟩ ?_ ?_ ?_
  ·repeat first|exact ⟨⟩|refine ⟨rfl,?_⟩
  ·exact Pick.all
  rintro ⟨n1, s3, xs6, A8, m2, c8⟩ ⟨h, hf10⟩
  dsimp only at h hf10 ⊢
  rcases n1 with _ | n1
  · exact (lp_no h).elim
  replace h := lp_succ h
  unfold inst_pick_int64_b1 at h
  try dsimp only at h
  refine WP.sx tysOk rfl ⟨⟨⟩, ⟨⟩⟩ ?_
  refine WP.cond_d rfl rfl (fun hh5 => ?_) (fun hh5 => ?_)
  ·rw [if_pos hh5] at h
   obtain ⟨hj9, h⟩ := ck_some h
   refine WP.ixA tysOk rfl ⟨⟩ rfl rfl rfl rfl rfl rfl rfl rfl hj9 (hs2.ex hj9) ?_
   intro b9 b9v hA9
   refine WP.lx tysOk rfl ⟨⟩ (hs2.at0 hA9 (Held.mem (List.Mem.tail _ (List.Mem.head _))) hj9 rfl) ?_
   iterate 4 (refine WP.sx tysOk rfl ⟨⟨⟩, ⟨⟩⟩ ?_)
   obtain ⟨hj10, h⟩ := ck_some h
   refine WP.ixA tysOk rfl ⟨⟩ rfl rfl rfl rfl rfl rfl rfl rfl hj10 (hs1.ex hj10) ?_
   intro b10 b10v hA10
   refine WP.lx tysOk rfl ⟨⟩ (hs1.at0 hA10 (Held.mem (List.Mem.tail _ (List.Mem.head _))) hj10 rfl) ?_
   refine WP.bsO (f := (fI .i64)) [(gt l1 (gt atv1 s3))] tysOk rfl rfl rfl rfl rfl rfl rfl rfl rfl rfl rfl rfl rfl rfl ?_
   intro g5 hf11
   obtain ⟨hl5, h⟩ := ck_some h
   obtain ⟨xs7, hz5, h⟩ := lt_some h
   refine WP.appO (f := (fI .i64)) (xs := xs6) (ys := [(gt l1 (gt atv1 s3))]) tysOk rfl rfl rfl rfl rfl rfl rfl rfl rfl rfl rfl rfl (.tail .head) hf10 hf11.len (OwS.app .head hf11) hl5 hz5 ?_
   intro A9 c9 hf12
   iterate 3 (refine WP.sx tysOk rfl ⟨⟨⟩, ⟨⟩⟩ ?_)
   refine WP.stop rfl (n1, w64 (s3 + 1), xs7, A9, xs7.length, c9) ⟨⟨h, hf12⟩, Nat.lt_succ_self _⟩ ?_ ?_
   ·repeat first|exact ⟨⟩|refine ⟨rfl,?_⟩
   exact (.cons .head (.cons (.tail .head) .nil))
  rw [if_neg hh5] at h
  iterate 2 (refine WP.sx tysOk rfl ⟨⟨⟩, ⟨⟩⟩ ?_)
  cases h
  refine WP.retR tysOk rfl rfl ⟨_, _, rfl, rfl, rfl⟩ (fun w1 hw1 => ⟨_, _, rfl, ⟨A8, m2, c8, rfl, hf10, rfl⟩, Ret.of_KH hw1 (.cons .head (.cons .head .nil))⟩)

abbrev inst_pick_api_Arc_S (r : (List Arc)) : Value → Heap → Prop := fun v L => ∃ (A1 : Option Addr) (n1 c1 : Nat), v = .slice A1 n1 c1 ∧ OwF A1 n1 r ∧ L = [Ow fA 31 A1 n1 c1 r]
set_option maxRecDepth 20000 in
set_option maxHeartbeats 8000000 in
theorem inst_pick_api_Arc_w {w : World} {v0 : Value} {v1 : Value} {l1 : List Arc} {atv1 : List Int} {r : (List Arc)} (h : inst_pick_api_Arc l1 atv1 = some r) (p1 : SlF fA (PH.of w) v0 l1) (p2 : SlF (fI .i64) (PH.of w) v1 atv1) :
    Calls Tryz.prog 119 #[v0, v1] w fun e w' => ∃ v L, e = .returned v ∧ inst_pick_api_Arc_S r v L ∧ Ret w w' L := by
  obtain ⟨A1, c1, rfl, hs1⟩ := p1
  obtain ⟨A2, c2, rfl, hs2⟩ := p2
  unfold inst_pick_api_Arc at h
  refine enter_ Tryz.func119 rfl Tryz.ntmps119 rfl ?_
  iterate 5 (refine WP.sx tysOk rfl ⟨⟨⟩, ⟨⟩⟩ ?_)
  refine WP.own_nil 31 fA.z ?_
  refine WP.loop (α := Nat × Int × (List Arc) × (Option Addr) × Nat × Nat) (fun x => lp (inst_pick_api_Arc_b1 l1 atv1) x.1 (x.2.1, x.2.2.1) = some r ∧ OwF x.2.2.2.1 x.2.2.2.2.1 x.2.2.1) (fun x => [(0, .slice A1 l1.length c1), (5, .slice x.2.2.2.1 x.2.2.2.2.1 x.2.2.2.2.2), (8, .slice A2 atv1.length c2), (9, iv (atv1.length : Int)), (10, iv x.2.1)]) (fun x => [Ow fA 31 x.2.2.2.1 x.2.2.2.2.1 x.2.2.2.2.2 x.2.2.1, .fz (PH.of w)]) (fun x => x.1) rfl (big, 0, ([] : List Arc), none, 0, 0) ⟨h, OwF.nil_⟩ ?_ ?_ ?_
  ·repeat first|exact ⟨⟩|refine ⟨rfl,?_⟩
  ·exact Pick.all
  rintro ⟨n1, s3, xs6, A8, m2, c8⟩ ⟨h, hf10⟩
  dsimp only at h hf10 ⊢
  rcases n1 with _ | n1
  · exact (lp_no h).elim
  replace h := lp_succ h
  unfold inst_pick_api_Arc_b1 at h
  try dsimp only at h
  refine WP.sx tysOk rfl ⟨⟨⟩, ⟨⟩⟩ ?_
  refine WP.cond_d rfl rfl (fun hh5 => ?_) (fun hh5 => ?_)
  ·rw [if_pos hh5] at h
   obtain ⟨hj9, h⟩ := ck_some h
   refine WP.ixA tysOk rfl ⟨⟩ rfl rfl rfl rfl rfl rfl rfl rfl hj9 (hs2.ex hj9) ?_
   intro b9 b9v hA9
   refine WP.lx tysOk rfl ⟨⟩ (hs2.at0 hA9 (Held.mem (List.Mem.tail _ (List.Mem.head _))) hj9 rfl) ?_
   iterate 4 (refine WP.sx tysOk rfl ⟨⟨⟩, ⟨⟩⟩ ?_)
   obtain ⟨hj10, h⟩ := ck_some h
   refine WP.ixA tysOk rfl ⟨⟩ rfl rfl rfl rfl rfl rfl rfl rfl hj10 (hs1.ex hj10) ?_
   intro b10 b10v hA10
   refine WP.mx_ tysOk rfl ⟨⟩ (hs1.seg hA10 (Held.mem (List.Mem.tail _ (List.Mem.head _))) hj10) ?_
   refine WP.bsO (f := fA) [(gt l1 (gt atv1 s3))] tysOk rfl rfl rfl rfl rfl rfl rfl rfl rfl rfl rfl rfl rfl rfl ?_
   intro g5 hf11
   obtain ⟨hl5, h⟩ := ck_some h
   obtain ⟨xs7, hz5, h⟩ := lt_some h
   refine WP.appO (f := fA) (xs := xs6) (ys := [(gt l1 (gt atv1 s3))]) tysOk rfl rfl rfl rfl rfl rfl rfl rfl rfl rfl rfl rfl (.tail .head) hf10 hf11.len (OwS.app .head hf11) hl5 hz5 ?_
   intro A9 c9 hf12
   iterate 3 (refine WP.sx tysOk rfl ⟨⟨⟩, ⟨⟩⟩ ?_)
   refine WP.stop rfl (n1, w64 (s3 + 1), xs7, A9, xs7.length, c9) ⟨⟨h, hf12⟩, Nat.lt_succ_self _⟩ ?_ ?_
   ·repeat first|exact ⟨⟩|refine ⟨rfl,?_⟩
   exact (.cons .head (.cons (.tail .head) .nil))
  rw [if_neg hh5] at h
  iterate 2 (refine WP.sx tysOk rfl ⟨⟨⟩, ⟨⟩⟩ ?_)
  cases h
  refine WP.retR tysOk rfl rfl ⟨_, _, rfl, rfl, rfl⟩ (fun w1 hw1 => ⟨_, _, rfl, ⟨A8, m2, c8, rfl, hf10, rfl⟩, Ret.of_KH hw1 (.cons .head (.cons .head .nil))⟩)

set_option maxRecDepth 20000 in
set_option maxHeartbeats 8000000 in
theorem slices_Index_int_w {w : World} {v0 : Value} {s1 : List Int} {v1 : Int} {r : Int} (h : slices_Index_int s1 v1 = some r) (p1 : SlF (fI .i64) (PH.of w) v0 s1) :
    Calls Tryz.prog 120 #[v0, iv v1] w fun e w' => e = .returned (iv r) ∧ Below w.heap.size w w' := by
  obtain ⟨A1, c1, rfl, hs1⟩ := p1
  unfold slices_Index_int at h
  refine enter_ Tryz.func120 rfl Tryz.ntmps120 rfl ?_
  iterate 4 (refine WP.sx tysOk rfl ⟨⟨⟩, ⟨⟩⟩ ?_)
  refine WP.loop (α := Nat × Int) (fun x => lp (slices_Index_int_b1 s1 v1) x.1 x.2 = some r) (fun x => [(0, .slice A1 s1.length c1), (1, iv v1), (7, iv (s1.length : Int)), (8, iv x.2)]) (fun x => [.fz (PH.of w)]) (fun x => x.1) rfl (big, 0) h ?_ ?_ ?_
  ·repeat first|exact ⟨⟩|refine ⟨rfl,?_⟩
  ·exact (.cons .head .nil)
  rintro ⟨n1, s3⟩ h
  dsimp only at h ⊢
  rcases n1 with _ | n1
  · exact (lp_no h).elim
  replace h := lp_succ h
  unfold slices_Index_int_b1 at h
  try dsimp only at h
  refine WP.sx tysOk rfl ⟨⟨⟩, ⟨⟩⟩ ?_
  refine WP.cond_d rfl rfl (fun hh5 => ?_) (fun hh5 => ?_)
  ·rw [if_pos hh5] at h
   iterate 5 (refine WP.sx tysOk rfl ⟨⟨⟩, ⟨⟩⟩ ?_)
   obtain ⟨hj3, h⟩ := ck_some h
   refine WP.ixA tysOk rfl ⟨⟩ rfl rfl rfl rfl rfl rfl rfl rfl hj3 (hs1.ex hj3) ?_
   intro b3 b3v hA3
   refine WP.lx tysOk rfl ⟨⟩ (hs1.at0 hA3 (Held.mem (List.Mem.head _)) hj3 rfl) ?_
   refine WP.sx tysOk rfl ⟨⟨⟩, ⟨⟩⟩ ?_
   refine WP.cond_d rfl rfl (fun hh6 => ?_) (fun hh6 => ?_)
   ·rw [if_pos hh6] at h
    iterate 2 (refine WP.sx tysOk rfl ⟨⟨⟩, ⟨⟩⟩ ?_)
    cases h
    refine WP.retR tysOk rfl rfl ⟨_, _, rfl, rfl, rfl⟩ (fun w1 hw1 => ⟨rfl, Ret.below_ hw1 (.cons .head .nil)⟩)
   rw [if_neg hh6] at h
   iterate 2 (refine WP.sx tysOk rfl ⟨⟨⟩, ⟨⟩⟩ ?_)
   refine WP.stop rfl (n1, w64 (s3 + 1)) ⟨h, Nat.lt_succ_self _⟩ ?_ ?_
   ·repeat first|exact ⟨⟩|refine ⟨rfl,?_⟩
   exact (.cons .head .nil)
  rw [if_neg hh5] at h
  refine WP.sx tysOk rfl ⟨⟨⟩, ⟨⟩⟩ ?_
  cases h
  refine WP.retR tysOk rfl rfl ⟨_, _, rfl, rfl, rfl⟩ (fun w1 hw1 => ⟨rfl, Ret.below_ hw1 (.cons .head .nil)⟩)

abbrev inst_Without_S (r : Inst) : Value → Heap → Prop := fun v L => ∃ (A1 : Option Addr) (n1 c1 : Nat) (A2 : Option Addr) (n2 c2 : Nat), v = .agg #[.slice A1 n1 c1, .slice A2 n2 c2] ∧ OwF A1 n1 r.supply ∧ OwF A2 n2 r.arcs ∧ L = [Ow (fI .i64) 2 A1 n1 c1 r.supply, Ow fA 31 A2 n2 c2 r.arcs]
set_option maxRecDepth 20000 in
set_option maxHeartbeats 8000000 in
theorem inst_Without_w {w : World} {v0 : Value} {v1 : Value} {v2 : Value} {i1 : Inst} {nodes1 : List Bool} {arcs1 : List Bool} {r : Inst} (h : inst_Without i1 nodes1 arcs1 = some r) (p1 : InsZ (PH.of w) v0 i1) (p2 : SlF fB (PH.of w) v1 nodes1) (p3 : SlF fB (PH.of w) v2 arcs1) :
    Calls Tryz.prog 100 #[v0, v1, v2] w fun e w' => ∃ v L, e = .returned v ∧ inst_Without_S r v L ∧ Ret w w' L := by
  obtain ⟨A1, c1, A2, c2, rfl, hs1, hs2⟩ := p1
  obtain ⟨A3, c3, rfl, hs3⟩ := p2
  obtain ⟨A4, c4, rfl, hs4⟩ := p3
  unfold inst_Without at h
  refine enter_ Tryz.func100 rfl Tryz.ntmps100 rfl ?_
  refine WP.box rfl rfl rfl rfl rfl rfl ?_
  intro g1
  refine WP.al tysOk rfl rfl rfl rfl rfl rfl ?_
  intro g2
  iterate 2 (refine WP.sx tysOk rfl ⟨⟨⟩, ⟨⟩⟩ ?_)
  refine WP.lx tysOk rfl ⟨⟩ (CellAt.blk (.tail .head) rfl) ?_
  refine WP.sx tysOk rfl ⟨⟨⟩, ⟨⟩⟩ ?_
  obtain ⟨r1, hg1, h⟩ := bind_some h
  refine WP.callS (inst_Kept_S r1) rfl rfl rfl rfl rfl rfl rfl (by kernel_rfl) (fun w1 hw1 => (inst_Kept_w hg1 (hs3.le' ((Held.mem (List.Mem.tail _ (List.Mem.tail _ (List.Mem.head _)))) _ _ hw1)).of :)) ?_
  rintro _ _ ⟨A5, n1, c5, rfl, hf1, rfl⟩
  iterate 2 (refine WP.sx tysOk rfl ⟨⟨⟩, ⟨⟩⟩ ?_)
  refine WP.lx tysOk rfl ⟨⟩ (CellAt.blk (.tail (.tail .head)) rfl) ?_
  refine WP.sx tysOk rfl ⟨⟨⟩, ⟨⟩⟩ ?_
  obtain ⟨r2, hg2, h⟩ := bind_some h
  refine WP.callS (inst_pick_int64_S r2) rfl rfl rfl rfl rfl rfl rfl (by kernel_rfl) (fun w1 hw1 => (inst_pick_int64_w hg2 (hs1.le' ((Held.mem (List.Mem.tail _ (List.Mem.tail _ (List.Mem.tail _ (List.Mem.head _))))) _ _ hw1)).of (hw1.ow .head hf1) :)) ?_
  rintro _ _ ⟨A6, n2, c6, rfl, hf2, rfl⟩
  refine WP.bld (cs := [.slice A6 n2 c6, sn]) tysOk rfl ⟨⟩ rfl rfl rfl rfl rfl rfl rfl ?_
  refine WP.al tysOk rfl rfl rfl rfl rfl rfl ?_
  intro g3
  refine WP.sto' tysOk [.slice A6 n2 c6, sn] rfl rfl rfl rfl rfl rfl rfl rfl rfl .head rfl rfl ?_
  obtain ⟨r3, hg3, h⟩ := bind_some h
  obtain ⟨r4, hg4, h⟩ := bind_some h
  refine WP.drawL 10 [(6, [], fun _ => inst_Kept_S r3), (7, [6], fun _ => inst_pick_api_Arc_S r4)] rfl (by kernel_rfl) (by kernel_rfl) (by kernel_rfl) ?_
  refine WP.sx tysOk rfl ⟨⟨⟨rfl, rfl⟩, rfl⟩, ⟨⟩⟩ ?_
  refine WP.lx tysOk rfl ⟨⟨rfl, rfl⟩, rfl⟩ (CellAt.blk (.tail (.tail (.tail (.tail .head)))) rfl) ?_
  iterate 2 (refine WP.sx tysOk rfl ⟨⟨⟨rfl, rfl⟩, rfl⟩, ⟨⟩⟩ ?_)
  refine WP.lx tysOk rfl ⟨⟨rfl, rfl⟩, rfl⟩ (CellAt.blk (.tail (.tail (.tail (.tail .head)))) rfl) ?_
  refine WP.sx tysOk rfl ⟨⟨⟨rfl, rfl⟩, rfl⟩, ⟨⟩⟩ ?_
  refine WP.lcall rfl ⟨rfl, rfl⟩ rfl rfl rfl rfl rfl rfl rfl (by kernel_rfl) (fun w1 hw1 => (inst_Kept_w hg3 (hs4.le' ((Held.mem (List.Mem.tail _ (List.Mem.tail _ (List.Mem.tail _ (List.Mem.tail _ (List.Mem.tail _ (List.Mem.head _))))))) _ _ hw1)).of :)) ?_
  rintro _ _ ⟨A7, n3, c7, rfl, hf3, rfl⟩
  refine WP.lcall rfl ⟨rfl, rfl⟩ rfl rfl rfl rfl rfl rfl rfl (by kernel_rfl) (fun w1 hw1 => (inst_pick_api_Arc_w hg4 (hs2.le' ((Held.mem (List.Mem.tail _ (List.Mem.tail _ (List.Mem.tail _ (List.Mem.tail _ (List.Mem.tail _ (List.Mem.tail _ (List.Mem.head _)))))))) _ _ hw1)).of (hw1.ow .head hf3) :)) ?_
  rintro _ _ ⟨A8, n4, c8, rfl, hf4, rfl⟩
  refine WP.lenO (xs := r4) tysOk rfl ⟨⟨rfl, rfl⟩, rfl⟩ rfl rfl rfl rfl rfl rfl hf4 ?_
  refine WP.sx tysOk rfl ⟨⟨⟨rfl, rfl⟩, rfl⟩, ⟨⟩⟩ ?_
  refine WP.lend rfl ⟨rfl, rfl⟩ ?_
  refine WP.own_nil 31 fA.z ?_
  refine WP.loop (α := Nat × Int × (List Arc) × (Option Addr) × Nat × Nat) (fun x => lp (inst_Without_b1 r1 r2 r4) x.1 (x.2.1, x.2.2.1) = some r ∧ OwF x.2.2.2.1 x.2.2.2.2.1 x.2.2.1) (fun x => [(6, pt g2), (7, .slice A5 n1 c5), (8, pt g3), (28, .slice A8 n4 c8), (29, iv (r4.length : Int)), (30, iv x.2.1)]) (fun x => [Ow fA 31 x.2.2.2.1 x.2.2.2.2.1 x.2.2.2.2.2 x.2.2.1, Ow fA 31 A8 n4 c8 r4, .blk g3 25 [.slice A6 n2 c6, .slice x.2.2.2.1 x.2.2.2.2.1 x.2.2.2.2.2], Ow (fI .i64) 2 A6 n2 c6 r2, Ow (fI .i64) 3 A5 n1 c5 r1, .blk g2 25 [sn, sn], .fz (PH.of w)]) (fun x => x.1) rfl (big, 0, ([] : List Arc), none, 0, 0) ⟨h, OwF.nil_⟩ ?_ ?_ ?_
  ·repeat first|exact ⟨⟩|refine ⟨rfl,?_⟩
  ·exact (.cons .head (.cons .head (.cons (.tail .head) (.cons (.tail .head) (.cons (.tail .head) (.cons (.tail .head) (.cons (.tail (.tail .head)) .nil)))))))
  rintro ⟨n5, s3, xs5, A13, m2, c13⟩ ⟨h, hf12⟩
  dsimp only at h hf12 ⊢
  rcases n5 with _ | n5
  · exact (lp_no h).elim
  replace h := lp_succ h
  unfold inst_Without_b1 at h
  try dsimp only at h
  refine WP.sx tysOk rfl ⟨⟨⟩, ⟨⟩⟩ ?_
  refine WP.cond_d rfl rfl (fun hh10 => ?_) (fun hh10 => ?_)
  ·rw [if_pos hh10] at h
   obtain ⟨hj4, h⟩ := ck_some h
   refine WP.ixO tysOk rfl ⟨⟩ rfl rfl rfl rfl rfl rfl rfl rfl hf4 hj4 ?_
   intro b4 hA4
   refine WP.mx_ tysOk rfl ⟨⟩ (OwS.seg (.tail .head) hA4 hj4) ?_
   refine WP.al tysOk rfl rfl rfl rfl rfl rfl ?_
   intro g10
   refine WP.sto' tysOk [iv ((gt r4 s3).src), iv ((gt r4 s3).dst), iv ((gt r4 s3).low), iv ((gt r4 s3).cap), iv ((gt r4 s3).cost)] rfl rfl rfl rfl rfl rfl rfl rfl rfl .head rfl rfl ?_
   obtain ⟨r11, hg11, h⟩ := bind_some h
   obtain ⟨r12, hg12, h⟩ := bind_some h
   refine WP.drawL 9 [(3, [], fun _ => constSpec (iv r11)), (7, [], fun _ => constSpec (iv r12))] rfl (by kernel_rfl) (by kernel_rfl) (by kernel_rfl) ?_
   iterate 2 (refine WP.sx tysOk rfl ⟨⟨⟨rfl, rfl⟩, rfl⟩, ⟨⟩⟩ ?_)
   refine WP.lx tysOk rfl ⟨⟨rfl, rfl⟩, rfl⟩ (CellAt.blk .head rfl) ?_
   refine WP.callV rfl rfl rfl rfl rfl rfl rfl (by kernel_rfl) (fun w1 hw1 => (slices_Index_int_w hg11 (hw1.ow (.tail (.tail (.tail (.tail (.tail .head))))) hf1) :)) ⟨⟨rfl, rfl⟩, rfl⟩ ?_
   iterate 2 (refine WP.sx tysOk rfl ⟨⟨⟨rfl, rfl⟩, rfl⟩, ⟨⟩⟩ ?_)
   refine WP.lx tysOk rfl ⟨⟨rfl, rfl⟩, rfl⟩ (CellAt.blk .head rfl) ?_
   refine WP.callV rfl rfl rfl rfl rfl rfl rfl (by kernel_rfl) (fun w1 hw1 => (slices_Index_int_w hg12 (hw1.ow (.tail (.tail (.tail (.tail (.tail .head))))) hf1) :)) ⟨⟨rfl, rfl⟩, rfl⟩ ?_
   refine WP.sx tysOk rfl ⟨⟨⟨rfl, rfl⟩, rfl⟩, ⟨⟩⟩ ?_
   refine WP.lend rfl ⟨rfl, rfl⟩ ?_
   refine WP.sto' tysOk [iv r11, iv ((gt r4 s3).dst), iv ((gt r4 s3).low), iv ((gt r4 s3).cap), iv ((gt r4 s3).cost)] rfl rfl rfl rfl rfl rfl rfl rfl rfl .head rfl rfl ?_
   refine WP.sx tysOk rfl ⟨⟨⟩, ⟨⟩⟩ ?_
   refine WP.sto' tysOk [iv r11, iv r12, iv ((gt r4 s3).low), iv ((gt r4 s3).cap), iv ((gt r4 s3).cost)] rfl rfl rfl rfl rfl rfl rfl rfl rfl .head rfl rfl ?_
   refine WP.sx tysOk rfl ⟨⟨⟩, ⟨⟩⟩ ?_
   refine WP.lx tysOk rfl ⟨⟩ (CellAt.blk .head rfl) ?_
   iterate 2 (refine WP.sx tysOk rfl ⟨⟨⟩, ⟨⟩⟩ ?_)
   by_cases hh11 : 0 ≤ r11
   ·rw [if_pos hh11] at h
    refine WP.yes rfl rfl (decide_eq_true hh11) ?_
    refine WP.sx tysOk rfl ⟨⟨⟩, ⟨⟩⟩ ?_
    refine WP.yes rfl rfl rfl ?_
    refine WP.lx tysOk rfl ⟨⟩ (CellAt.blk .head rfl) ?_
    refine WP.yes rfl rfl rfl ?_
    iterate 2 (refine WP.sx tysOk rfl ⟨⟨⟩, ⟨⟩⟩ ?_)
    refine WP.cond_d rfl rfl (fun hh12 => ?_) (fun hh12 => ?_)
    ·rw [if_pos hh12] at h
     refine WP.sx tysOk rfl ⟨⟨⟩, ⟨⟩⟩ ?_
     refine WP.lx tysOk rfl ⟨⟩ (CellAt.blk (.tail (.tail (.tail .head))) rfl) ?_
     refine WP.mx_ tysOk rfl ⟨⟩ (SegAt.blk' .head rfl) ?_
     refine WP.bsO (f := fA) [(Arc.mk r11 r12 ((gt r4 s3).low) ((gt r4 s3).cap) ((gt r4 s3).cost))] tysOk rfl rfl rfl rfl rfl rfl rfl rfl rfl rfl rfl rfl rfl rfl ?_
     intro g11 hf13
     obtain ⟨hl4, h⟩ := ck_some h
     obtain ⟨xs6, hz4, h⟩ := lt_some h
     refine WP.appO (f := fA) (xs := xs5) (ys := [(Arc.mk r11 r12 ((gt r4 s3).low) ((gt r4 s3).cap) ((gt r4 s3).cost))]) tysOk rfl rfl rfl rfl rfl rfl rfl rfl rfl rfl rfl rfl (.tail (.tail .head)) hf12 hf13.len (OwS.app .head hf13) hl4 hz4 ?_
     intro A14 c14 hf14
     refine WP.sx tysOk rfl ⟨⟨⟩, ⟨⟩⟩ ?_
     refine WP.sto' tysOk [.slice A6 n2 c6, .slice A14 xs6.length c14] rfl rfl rfl rfl rfl rfl rfl rfl rfl (.tail (.tail (.tail (.tail .head)))) rfl rfl ?_
     iterate 2 (refine WP.sx tysOk rfl ⟨⟨⟩, ⟨⟩⟩ ?_)
     refine WP.stop rfl (n5, w64 (s3 + 1), xs6, A14, xs6.length, c14) ⟨⟨h, hf14⟩, Nat.lt_succ_self _⟩ ?_ ?_
     ·repeat first|exact ⟨⟩|refine ⟨rfl,?_⟩
     exact (.cons (.tail .head) (.cons (.tail (.tail (.tail .head))) (.cons .head (.cons (.tail (.tail .head)) (.cons (.tail (.tail .head)) (.cons (.tail (.tail .head)) (.cons (.tail (.tail .head)) .nil)))))))
    rw [if_neg hh12] at h
    iterate 2 (refine WP.sx tysOk rfl ⟨⟨⟩, ⟨⟩⟩ ?_)
    refine WP.stop rfl (n5, w64 (s3 + 1), xs5, A13, m2, c13) ⟨⟨h, hf12⟩, Nat.lt_succ_self _⟩ ?_ ?_
    ·repeat first|exact ⟨⟩|refine ⟨rfl,?_⟩
    exact (.cons (.tail .head) (.cons (.tail .head) (.cons (.tail .head) (.cons (.tail .head) (.cons (.tail .head) (.cons (.tail .head) (.cons (.tail .head) .nil)))))))
   rw [if_neg hh11] at h
   refine WP.no rfl rfl (decide_eq_false hh11) rfl rfl ?_
   iterate 2 (refine WP.no rfl rfl rfl rfl rfl ?_)
   refine WP.sx tysOk rfl ⟨⟨⟩, ⟨⟩⟩ ?_
   refine WP.condF rfl rfl ?_
   iterate 2 (refine WP.sx tysOk rfl ⟨⟨⟩, ⟨⟩⟩ ?_)
   refine WP.stop rfl (n5, w64 (s3 + 1), xs5, A13, m2, c13) ⟨⟨h, hf12⟩, Nat.lt_succ_self _⟩ ?_ ?_
   ·repeat first|exact ⟨⟩|refine ⟨rfl,?_⟩
   exact (.cons (.tail .head) (.cons (.tail .head) (.cons (.tail .head) (.cons (.tail .head) (.cons (.tail .head) (.cons (.tail .head) (.cons (.tail .head) .nil)))))))
  rw [if_neg hh10] at h
  refine WP.mx_ tysOk rfl ⟨⟩ (SegAt.blk' (.tail (.tail .head)) rfl) ?_
  refine WP.sto' tysOk [.slice A6 n2 c6, .slice A13 m2 c13] rfl rfl rfl rfl rfl rfl rfl rfl rfl (.tail (.tail (.tail (.tail (.tail .head))))) rfl rfl ?_
  cases h
  refine WP.retR tysOk rfl rfl ⟨_, _, _, _, rfl, ⟨_, rfl, .inr ⟨rfl, _, rfl, rfl, (SegAt.blk' (z := 2) .head rfl).1⟩⟩, rfl, rfl⟩ (fun w1 hw1 => ⟨_, _, rfl, ⟨A6, n2, c6, A13, m2, c13, rfl, hf2, hf12, rfl⟩, Ret.of_KH hw1 (.cons (.tail (.tail (.tail (.tail .head)))) (.cons (.tail .head) (.cons (.tail (.tail (.tail (.tail .head)))) .nil)))⟩)

abbrev leaf_without_S (Z : PH) (r : Step × (Option Int)) : Value → Heap → Prop := fun v L => ∃ (Zn : PH) (A1 : Option Addr) (n1 c1 : Nat) (A2 : Option Addr) (n2 c2 : Nat) (A3 : Option Addr) (n3 c3 : Nat) (A4 : Option Addr) (n4 c4 : Nat), v = .tuple #[.agg #[.slice A1 n1 c1, .slice A2 n2 c2, iv r.1.rcd.pass, .slice A3 n3 c3, .slice A4 n4 c4, iv r.1.off.hi, .int .u64 (r.1.off.lo), .bool (r.1.did)], errV r.2] ∧ n1 = r.1.inst.supply.length ∧ n2 = r.1.inst.arcs.length ∧ n3 = r.1.rcd.was.supply.length ∧ n4 = r.1.rcd.was.arcs.length ∧ FzS (fI .i64) (Z.or Zn) A1 c1 r.1.inst.supply ∧ FzS fA (Z.or Zn) A2 c2 r.1.inst.arcs ∧ FzS (fI .i64) (Z.or Zn) A3 c3 r.1.rcd.was.supply ∧ FzS fA (Z.or Zn) A4 c4 r.1.rcd.was.arcs ∧ L = [.fz Zn]
set_option maxRecDepth 20000 in
set_option maxHeartbeats 8000000 in
theorem leaf_without_w {w : World} {Z : PH} (hZ : Z.le (PH.of w)) {v0 : Value} {v1 : Value} {pass1 : Int} {was1 : Inst} {i1 : Inst} {n1 : Int} {off1 : Wide} {r : Step × (Option Int)} (h : leaf_without pass1 was1 i1 n1 off1 = some r) (p1 : InsZ Z v0 was1) (p2 : InsZ Z v1 i1) :
    Calls Tryz.prog 71 #[iv pass1, v0, v1, iv n1, .agg #[iv off1.hi, .int .u64 (off1.lo)]] w fun e w' => ∃ v L, e = .returned v ∧ leaf_without_S Z r v L ∧ Ret w w' L := by
  obtain ⟨A1, c1, A2, c2, rfl, hs1, hs2⟩ := p1
  obtain ⟨A3, c3, A4, c4, rfl, hs3, hs4⟩ := p2
  unfold leaf_without at h
  refine enter_ Tryz.func71 rfl Tryz.ntmps71 rfl ?_
  refine WP.box rfl rfl rfl rfl rfl rfl ?_
  intro g1
  refine WP.box rfl rfl rfl rfl rfl rfl ?_
  intro g2
  refine WP.box rfl rfl rfl rfl rfl rfl ?_
  intro g3
  refine WP.al tysOk rfl rfl rfl rfl rfl rfl ?_
  intro g4
  iterate 2 (refine WP.sx tysOk rfl ⟨⟨⟩, ⟨⟩⟩ ?_)
  refine WP.lx tysOk rfl ⟨⟩ (CellAt.blk (.tail (.tail .head)) rfl) ?_
  refine WP.sx tysOk rfl ⟨⟨⟩, ⟨⟩⟩ ?_
  obtain ⟨hm1, h⟩ := ck_some h
  refine WP.mkO (f := fB) false tysOk rfl rfl rfl rfl rfl rfl rfl rfl rfl rfl rfl rfl hm1 ?_
  intro g5 hf1
  iterate 3 (refine WP.sx tysOk rfl ⟨⟨⟩, ⟨⟩⟩ ?_)
  obtain ⟨hj1, h⟩ := ck_some h
  refine WP.ixO tysOk rfl ⟨⟩ rfl rfl rfl rfl rfl rfl rfl rfl hf1 hj1 ?_
  intro b1 hA1
  obtain ⟨xs1, hx1, h⟩ := lt_some h
  refine WP.stoO (f := fB) 0 true tysOk rfl rfl rfl rfl rfl rfl rfl rfl rfl .head hA1 hf1 hj1 rfl rfl rfl hx1 ?_
  intro hf2
  refine WP.mx_ tysOk rfl ⟨⟩ (SegAt.blk' (.tail (.tail (.tail .head))) rfl) ?_
  refine WP.sx tysOk rfl ⟨⟨⟩, ⟨⟩⟩ ?_
  obtain ⟨r1, hg1, h⟩ := bind_some h
  refine WP.callS (inst_Without_S r1) rfl rfl rfl rfl rfl rfl rfl (by kernel_rfl) (fun w1 hw1 => (inst_Without_w hg1 (InsZ.mk_ ((hs3.le' ((Held.sub (Held.mem (List.Mem.tail _ (List.Mem.tail _ (List.Mem.tail _ (List.Mem.tail _ (List.Mem.tail _ (List.Mem.head _))))))) hZ) _ _ hw1)).of) ((hs4.le' ((Held.sub (Held.mem (List.Mem.tail _ (List.Mem.tail _ (List.Mem.tail _ (List.Mem.tail _ (List.Mem.tail _ (List.Mem.head _))))))) hZ) _ _ hw1)).of)) (hw1.ow .head hf2) SlF.nil_ :)) ?_
  rintro _ _ ⟨A5, n2, c5, A6, n3, c6, rfl, hf3, hf4, rfl⟩
  refine WP.al tysOk rfl rfl rfl rfl rfl rfl ?_
  intro g6
  refine WP.sto' tysOk [.slice A5 n2 c5, .slice A6 n3 c6] rfl rfl rfl rfl rfl rfl rfl rfl rfl .head rfl rfl ?_
  refine WP.mx_ tysOk rfl ⟨⟩ (SegAt.blk' .head rfl) ?_
  obtain ⟨r2, hg2, h⟩ := bind_some h
  refine WP.callV rfl rfl rfl rfl rfl rfl rfl (by kernel_rfl) (fun w1 hw1 => (inst_Right_w hg2 (InsZ.mk_ (hw1.ow (.tail .head) hf3) (hw1.ow (.tail (.tail .head)) hf4)) :)) ⟨⟩ ?_
  refine WP.sx tysOk rfl ⟨⟨⟩, ⟨⟩⟩ ?_
  refine WP.cond_d rfl rfl (fun hh1 => ?_) (fun hh1 => ?_)
  ·rw [if_pos hh1] at h
   refine WP.bld (cs := [sn, sn, iv 0, sn, sn, iv 0, .int .u64 (0), .bool (false)]) tysOk rfl ⟨⟩ rfl rfl rfl rfl rfl rfl rfl ?_
   refine WP.bld (cs := [.int .u16 (40)]) tysOk rfl ⟨⟩ rfl rfl rfl rfl rfl rfl rfl ?_
   refine WP.mki rfl ⟨⟩ rfl rfl rfl rfl rfl (fun _ => by kernel_rfl) ?_
   refine WP.sto' tysOk [sn, sn, iv 0, sn, sn, iv 0, .int .u64 (0), .bool (false)] rfl rfl rfl rfl rfl rfl rfl rfl rfl (.tail (.tail (.tail (.tail .head)))) rfl rfl ?_
   refine WP.sx tysOk rfl ⟨⟨⟩, ⟨⟩⟩ ?_
   cases h
   refine WP.retR tysOk rfl rfl ⟨_, _, _, _, rfl, ⟨_, rfl, .inr ⟨rfl, _, rfl, rfl, (SegAt.blk' (z := 8) .head rfl).1⟩⟩, ⟨_, _, rfl, rfl, rfl⟩, rfl⟩ (fun w1 hw1 => ⟨_, _, rfl, ⟨PH.new _ w1, none, 0, 0, none, 0, 0, none, 0, 0, none, 0, 0, rfl, rfl, rfl, rfl, rfl, FzS.nil_, FzS.nil_, FzS.nil_, FzS.nil_, rfl⟩, Ret.freeze hw1 (.cons (.tail (.tail (.tail (.tail (.tail (.tail (.tail (.tail .head)))))))) .nil)⟩)
  rw [if_neg hh1] at h
  refine WP.mx_ tysOk rfl ⟨⟩ (SegAt.blk' .head rfl) ?_
  refine WP.sx tysOk rfl ⟨⟨⟩, ⟨⟩⟩ ?_
  refine WP.mx_ tysOk rfl ⟨⟩ (SegAt.blk' (.tail (.tail (.tail (.tail (.tail (.tail (.tail .head))))))) rfl) ?_
  refine WP.bld (cs := [iv pass1, .slice A1 was1.supply.length c1, .slice A2 was1.arcs.length c2]) tysOk rfl ⟨⟩ rfl rfl rfl rfl rfl rfl rfl ?_
  refine WP.mx_ tysOk rfl ⟨⟩ (SegAt.blk' (.tail (.tail (.tail (.tail (.tail .head))))) rfl) ?_
  refine WP.bld (cs := [.slice A5 n2 c5, .slice A6 n3 c6, iv pass1, .slice A1 was1.supply.length c1, .slice A2 was1.arcs.length c2, iv off1.hi, .int .u64 (off1.lo), .bool (true)]) tysOk rfl ⟨⟩ rfl rfl rfl rfl rfl rfl rfl ?_
  refine WP.sto' tysOk [.slice A5 n2 c5, .slice A6 n3 c6, iv pass1, .slice A1 was1.supply.length c1, .slice A2 was1.arcs.length c2, iv off1.hi, .int .u64 (off1.lo), .bool (true)] rfl rfl rfl rfl rfl rfl rfl rfl rfl (.tail (.tail (.tail (.tail .head)))) rfl rfl ?_
  refine WP.sx tysOk rfl ⟨⟨⟩, ⟨⟩⟩ ?_
  cases h
  refine WP.retR tysOk rfl rfl ⟨_, _, _, _, rfl, ⟨_, rfl, .inr ⟨rfl, _, rfl, rfl, (SegAt.blk' (z := 8) .head rfl).1⟩⟩, ⟨_, _, rfl, rfl, rfl⟩, rfl⟩ (fun w1 hw1 => ⟨_, _, rfl, ⟨PH.new _ w1, A5, n2, c5, A6, n3, c6, A1, was1.supply.length, c1, A2, was1.arcs.length, c2, rfl, hf3.len.symm, hf4.len.symm, rfl, rfl, hw1.owFz (.cons (.tail (.tail .head)) (.cons (.tail (.tail (.tail (.tail (.tail (.tail (.tail .head))))))) .nil)) hZ hf3, hw1.owFz (.cons (.tail (.tail (.tail .head))) (.cons (.tail (.tail (.tail (.tail (.tail (.tail (.tail .head))))))) .nil)) hZ hf4, hs1.le' (PH.le_or _ _), hs2.le' (PH.le_or _ _), rfl⟩, Ret.freeze hw1 (.cons (.tail (.tail (.tail (.tail (.tail (.tail (.tail (.tail .head)))))))) .nil)⟩)
end Go.Proofs.YtbnjeanldechnaaGreatDoor
