/- The walks: the code computes that. -/
import Derived.Test.YtpnohbdfgmjdbaaGD
import Derived.Test.YtpnohbdfgmjdbaaTys
import Derived.Test.YtpnohbdfgmjdbaaEngG
import Derived.KernelRfl
namespace Go.Proofs.Ytpnohbdfgmjdbaa
open Go.RowKit Go.Qe
set_option maxHeartbeats 4000000 in
theorem eq23 (x y : Arc) (w : World) : (Op.equalIn 10000 23 (.agg #[iv x.src, iv x.dst, iv x.low, iv x.cap, iv x.cost]) (.agg #[iv y.src, iv y.dst, iv y.low, iv y.cap, iv y.cost])).run Try.prog w = .ok (decide (x = y)) w := by
  rw [run_equalIn_struct w 9999 23 _ _ (by kernel_rfl) (by kernel_rfl)]
  have e : decide (x = y) = ((x.src == y.src) && ((x.dst == y.dst) && ((x.low == y.low) && ((x.cap == y.cap) && ((x.cost == y.cost)))))) := by
    cases x; cases y; rw [Bool.eq_iff_iff]; simp
  rw [e]
  have i2 : ∀ (a b : Int) (w : World), (Op.equalIn 9999 2 (.int .i64 a) (.int .i64 b)).run Try.prog w = .ok (a == b) w := fun a b w => run_equalIn_int w 9998 2 .i64 .i64 a b Try.underlying2
  have g2 : ∀ w : World, (isAgg 2).run Try.prog w = .ok false w := fun w => isAgg_run Try.underlying2 w
  have i3 : ∀ (a b : Int) (w : World), (Op.equalIn 9999 3 (.int .i64 a) (.int .i64 b)).run Try.prog w = .ok (a == b) w := fun a b w => run_equalIn_int w 9998 3 .i64 .i64 a b Try.underlying3
  have g3 : ∀ w : World, (isAgg 3).run Try.prog w = .ok false w := fun w => isAgg_run Try.underlying3 w
  simp [Program.fieldsOf, Op.eqFields, part, Try.underlying23, g2, i2, g3, i3]
  (repeat' split) <;> simp_all
set_option maxHeartbeats 4000000 in
theorem eq43 (x y : Wide) (w : World) : (Op.equalIn 10000 43 (.agg #[iv x.hi, .int .u64 (x.lo)]) (.agg #[iv y.hi, .int .u64 (y.lo)])).run Try.prog w = .ok (decide (x = y)) w := by
  rw [run_equalIn_struct w 9999 43 _ _ (by kernel_rfl) (by kernel_rfl)]
  have e : decide (x = y) = ((x.hi == y.hi) && ((x.lo == y.lo))) := by
    cases x; cases y; rw [Bool.eq_iff_iff]; simp
  rw [e]
  have i2 : ∀ (a b : Int) (w : World), (Op.equalIn 9999 2 (.int .i64 a) (.int .i64 b)).run Try.prog w = .ok (a == b) w := fun a b w => run_equalIn_int w 9998 2 .i64 .i64 a b Try.underlying2
  have g2 : ∀ w : World, (isAgg 2).run Try.prog w = .ok false w := fun w => isAgg_run Try.underlying2 w
  have i41 : ∀ (a b : Int) (w : World), (Op.equalIn 9999 41 (.int .u64 a) (.int .u64 b)).run Try.prog w = .ok (a == b) w := fun a b w => run_equalIn_int w 9998 41 .u64 .u64 a b Try.underlying41
  have g41 : ∀ w : World, (isAgg 41).run Try.prog w = .ok false w := fun w => isAgg_run Try.underlying41 w
  simp [Program.fieldsOf, Op.eqFields, part, Try.underlying43, g2, i2, g41, i41]
  (repeat' split) <;> simp_all
set_option maxRecDepth 20000 in
set_option maxHeartbeats 8000000 in
theorem law18_tame_w {w : World} {a1 : Arc} {r : Arc} (h : law18_tame a1 = some r) :
    Calls Try.prog 10 #[.agg #[iv a1.src, iv a1.dst, iv a1.low, iv a1.cap, iv a1.cost]] w fun e w' => e = .returned (.agg #[iv r.src, iv r.dst, iv r.low, iv r.cap, iv r.cost]) ∧ Below w.heap.size w w' := by
  unfold law18_tame at h
  refine enter_ Try.func10 rfl Try.ntmps10 rfl ?_
  refine WP.box rfl rfl rfl rfl rfl rfl ?_
  intro g1
  refine WP.al tysOk rfl rfl rfl rfl rfl rfl ?_
  intro g2
  refine WP.st tysOk true rfl True.intro rfl rfl rfl rfl True.intro ?_
  refine WP.ld1 tysOk rfl True.intro rfl rfl rfl rfl rfl rfl rfl (CellAt.blk (.tail .head) rfl) ?_
  refine WP.st tysOk true rfl True.intro rfl rfl rfl rfl (by decide) ?_
  refine WP.st tysOk true rfl True.intro rfl rfl rfl rfl True.intro ?_
  refine WP.sto' tysOk [iv a1.src, iv a1.dst, iv (a1.low.tmod 1000), iv a1.cap, iv a1.cost] rfl rfl rfl rfl rfl rfl rfl rfl rfl (.tail .head) rfl rfl ?_
  refine WP.st tysOk true rfl True.intro rfl rfl rfl rfl True.intro ?_
  refine WP.ld1 tysOk rfl True.intro rfl rfl rfl rfl rfl rfl rfl (CellAt.blk .head rfl) ?_
  refine WP.st tysOk true rfl True.intro rfl rfl rfl rfl True.intro ?_
  refine WP.cond_d rfl rfl (fun hh1 => ?_) (fun hh1 => ?_)
  · rw [if_pos hh1] at h
    refine WP.st tysOk true rfl True.intro rfl rfl rfl rfl True.intro ?_
    refine WP.ld1 tysOk rfl True.intro rfl rfl rfl rfl rfl rfl rfl (CellAt.blk .head rfl) ?_
    iterate 2 (refine WP.st tysOk true rfl True.intro rfl rfl rfl rfl True.intro ?_)
    refine WP.sto' tysOk [iv a1.src, iv a1.dst, iv (w64 (0 - (a1.low.tmod 1000))), iv a1.cap, iv a1.cost] rfl rfl rfl rfl rfl rfl rfl rfl rfl .head rfl rfl ?_
    refine WP.st tysOk true rfl True.intro rfl rfl rfl rfl True.intro ?_
    refine WP.ld1 tysOk rfl True.intro rfl rfl rfl rfl rfl rfl rfl (CellAt.blk .head rfl) ?_
    refine WP.st tysOk true rfl True.intro rfl rfl rfl rfl (by decide) ?_
    refine WP.st tysOk true rfl True.intro rfl rfl rfl rfl True.intro ?_
    refine WP.cond_d rfl rfl (fun hh2 => ?_) (fun hh2 => ?_)
    · rw [if_pos hh2] at h
      refine WP.st tysOk true rfl True.intro rfl rfl rfl rfl True.intro ?_
      refine WP.sto' tysOk [iv a1.src, iv a1.dst, iv (w64 (0 - (a1.low.tmod 1000))), iv 4611686018427387904, iv a1.cost] rfl rfl rfl rfl rfl rfl rfl rfl rfl .head rfl rfl ?_
      refine WP.st tysOk true rfl True.intro rfl rfl rfl rfl True.intro ?_
      refine WP.ld1 tysOk rfl True.intro rfl rfl rfl rfl rfl rfl rfl (CellAt.blk .head rfl) ?_
      refine WP.st tysOk true rfl True.intro rfl rfl rfl rfl (by decide) ?_
      refine WP.st tysOk true rfl True.intro rfl rfl rfl rfl True.intro ?_
      refine WP.sto' tysOk [iv a1.src, iv a1.dst, iv (w64 (0 - (a1.low.tmod 1000))), iv 4611686018427387904, iv (a1.cost.tmod 1000)] rfl rfl rfl rfl rfl rfl rfl rfl rfl .head rfl rfl ?_
      refine WP.ldm tysOk rfl True.intro rfl rfl rfl rfl rfl rfl rfl (SegAt.blk' .head rfl) ?_
      refine WP.sto' tysOk [iv a1.src, iv a1.dst, iv (w64 (0 - (a1.low.tmod 1000))), iv 4611686018427387904, iv (a1.cost.tmod 1000)] rfl rfl rfl rfl rfl rfl rfl rfl rfl (.tail .head) rfl rfl ?_
      cases h
      refine WP.retR tysOk rfl rfl ⟨_, _, _, _, rfl, ⟨_, rfl, .inr ⟨rfl, _, rfl, rfl, (SegAt.blk' (z := 5) .head rfl).1⟩⟩, rfl, rfl⟩ (fun w1 hw1 => ⟨rfl, Ret.below_ hw1 (.cons (.tail (.tail .head)) .nil)⟩)
    rw [if_neg hh2] at h
    refine WP.st tysOk true rfl True.intro rfl rfl rfl rfl True.intro ?_
    refine WP.ld1 tysOk rfl True.intro rfl rfl rfl rfl rfl rfl rfl (CellAt.blk .head rfl) ?_
    refine WP.st tysOk true rfl True.intro rfl rfl rfl rfl True.intro ?_
    refine WP.ld1 tysOk rfl True.intro rfl rfl rfl rfl rfl rfl rfl (CellAt.blk .head rfl) ?_
    refine WP.st tysOk true rfl True.intro rfl rfl rfl rfl (by decide) ?_
    refine WP.st tysOk true rfl True.intro rfl rfl rfl rfl True.intro ?_
    refine WP.ld1 tysOk rfl True.intro rfl rfl rfl rfl rfl rfl rfl (CellAt.blk .head rfl) ?_
    refine WP.st tysOk true rfl True.intro rfl rfl rfl rfl (by decide) ?_
    refine WP.st tysOk true rfl True.intro rfl rfl rfl rfl True.intro ?_
    refine WP.mx rfl True.intro rfl rfl rfl rfl rfl rfl ?_
    iterate 2 (refine WP.st tysOk true rfl True.intro rfl rfl rfl rfl True.intro ?_)
    refine WP.sto' tysOk [iv a1.src, iv a1.dst, iv (w64 (0 - (a1.low.tmod 1000))), iv (w64 ((w64 (0 - (a1.low.tmod 1000))) + (if (w64 (0 - (a1.cap.tmod 1000))) > (a1.cap.tmod 1000) then w64 (0 - (a1.cap.tmod 1000)) else a1.cap.tmod 1000))), iv a1.cost] rfl rfl rfl rfl rfl rfl rfl rfl rfl .head rfl rfl ?_
    refine WP.st tysOk true rfl True.intro rfl rfl rfl rfl True.intro ?_
    refine WP.ld1 tysOk rfl True.intro rfl rfl rfl rfl rfl rfl rfl (CellAt.blk .head rfl) ?_
    refine WP.st tysOk true rfl True.intro rfl rfl rfl rfl (by decide) ?_
    refine WP.st tysOk true rfl True.intro rfl rfl rfl rfl True.intro ?_
    refine WP.sto' tysOk [iv a1.src, iv a1.dst, iv (w64 (0 - (a1.low.tmod 1000))), iv (w64 ((w64 (0 - (a1.low.tmod 1000))) + (if (w64 (0 - (a1.cap.tmod 1000))) > (a1.cap.tmod 1000) then w64 (0 - (a1.cap.tmod 1000)) else a1.cap.tmod 1000))), iv (a1.cost.tmod 1000)] rfl rfl rfl rfl rfl rfl rfl rfl rfl .head rfl rfl ?_
    refine WP.ldm tysOk rfl True.intro rfl rfl rfl rfl rfl rfl rfl (SegAt.blk' .head rfl) ?_
    refine WP.sto' tysOk [iv a1.src, iv a1.dst, iv (w64 (0 - (a1.low.tmod 1000))), iv (w64 ((w64 (0 - (a1.low.tmod 1000))) + (if (w64 (0 - (a1.cap.tmod 1000))) > (a1.cap.tmod 1000) then w64 (0 - (a1.cap.tmod 1000)) else a1.cap.tmod 1000))), iv (a1.cost.tmod 1000)] rfl rfl rfl rfl rfl rfl rfl rfl rfl (.tail .head) rfl rfl ?_
    cases h
    refine WP.retR tysOk rfl rfl ⟨_, _, _, _, rfl, ⟨_, rfl, .inr ⟨rfl, _, rfl, rfl, (SegAt.blk' (z := 5) .head rfl).1⟩⟩, rfl, rfl⟩ (fun w1 hw1 => ⟨rfl, Ret.below_ hw1 (.cons (.tail (.tail .head)) .nil)⟩)
  rw [if_neg hh1] at h
  refine WP.st tysOk true rfl True.intro rfl rfl rfl rfl True.intro ?_
  refine WP.ld1 tysOk rfl True.intro rfl rfl rfl rfl rfl rfl rfl (CellAt.blk .head rfl) ?_
  refine WP.st tysOk true rfl True.intro rfl rfl rfl rfl (by decide) ?_
  refine WP.st tysOk true rfl True.intro rfl rfl rfl rfl True.intro ?_
  refine WP.cond_d rfl rfl (fun hh3 => ?_) (fun hh3 => ?_)
  · rw [if_pos hh3] at h
    refine WP.st tysOk true rfl True.intro rfl rfl rfl rfl True.intro ?_
    refine WP.sto' tysOk [iv a1.src, iv a1.dst, iv (a1.low.tmod 1000), iv 4611686018427387904, iv a1.cost] rfl rfl rfl rfl rfl rfl rfl rfl rfl .head rfl rfl ?_
    refine WP.st tysOk true rfl True.intro rfl rfl rfl rfl True.intro ?_
    refine WP.ld1 tysOk rfl True.intro rfl rfl rfl rfl rfl rfl rfl (CellAt.blk .head rfl) ?_
    refine WP.st tysOk true rfl True.intro rfl rfl rfl rfl (by decide) ?_
    refine WP.st tysOk true rfl True.intro rfl rfl rfl rfl True.intro ?_
    refine WP.sto' tysOk [iv a1.src, iv a1.dst, iv (a1.low.tmod 1000), iv 4611686018427387904, iv (a1.cost.tmod 1000)] rfl rfl rfl rfl rfl rfl rfl rfl rfl .head rfl rfl ?_
    refine WP.ldm tysOk rfl True.intro rfl rfl rfl rfl rfl rfl rfl (SegAt.blk' .head rfl) ?_
    refine WP.sto' tysOk [iv a1.src, iv a1.dst, iv (a1.low.tmod 1000), iv 4611686018427387904, iv (a1.cost.tmod 1000)] rfl rfl rfl rfl rfl rfl rfl rfl rfl (.tail .head) rfl rfl ?_
    cases h
    refine WP.retR tysOk rfl rfl ⟨_, _, _, _, rfl, ⟨_, rfl, .inr ⟨rfl, _, rfl, rfl, (SegAt.blk' (z := 5) .head rfl).1⟩⟩, rfl, rfl⟩ (fun w1 hw1 => ⟨rfl, Ret.below_ hw1 (.cons (.tail (.tail .head)) .nil)⟩)
  rw [if_neg hh3] at h
  refine WP.st tysOk true rfl True.intro rfl rfl rfl rfl True.intro ?_
  refine WP.ld1 tysOk rfl True.intro rfl rfl rfl rfl rfl rfl rfl (CellAt.blk .head rfl) ?_
  refine WP.st tysOk true rfl True.intro rfl rfl rfl rfl True.intro ?_
  refine WP.ld1 tysOk rfl True.intro rfl rfl rfl rfl rfl rfl rfl (CellAt.blk .head rfl) ?_
  refine WP.st tysOk true rfl True.intro rfl rfl rfl rfl (by decide) ?_
  refine WP.st tysOk true rfl True.intro rfl rfl rfl rfl True.intro ?_
  refine WP.ld1 tysOk rfl True.intro rfl rfl rfl rfl rfl rfl rfl (CellAt.blk .head rfl) ?_
  refine WP.st tysOk true rfl True.intro rfl rfl rfl rfl (by decide) ?_
  refine WP.st tysOk true rfl True.intro rfl rfl rfl rfl True.intro ?_
  refine WP.mx rfl True.intro rfl rfl rfl rfl rfl rfl ?_
  iterate 2 (refine WP.st tysOk true rfl True.intro rfl rfl rfl rfl True.intro ?_)
  refine WP.sto' tysOk [iv a1.src, iv a1.dst, iv (a1.low.tmod 1000), iv (w64 ((a1.low.tmod 1000) + (if (w64 (0 - (a1.cap.tmod 1000))) > (a1.cap.tmod 1000) then w64 (0 - (a1.cap.tmod 1000)) else a1.cap.tmod 1000))), iv a1.cost] rfl rfl rfl rfl rfl rfl rfl rfl rfl .head rfl rfl ?_
  refine WP.st tysOk true rfl True.intro rfl rfl rfl rfl True.intro ?_
  refine WP.ld1 tysOk rfl True.intro rfl rfl rfl rfl rfl rfl rfl (CellAt.blk .head rfl) ?_
  refine WP.st tysOk true rfl True.intro rfl rfl rfl rfl (by decide) ?_
  refine WP.st tysOk true rfl True.intro rfl rfl rfl rfl True.intro ?_
  refine WP.sto' tysOk [iv a1.src, iv a1.dst, iv (a1.low.tmod 1000), iv (w64 ((a1.low.tmod 1000) + (if (w64 (0 - (a1.cap.tmod 1000))) > (a1.cap.tmod 1000) then w64 (0 - (a1.cap.tmod 1000)) else a1.cap.tmod 1000))), iv (a1.cost.tmod 1000)] rfl rfl rfl rfl rfl rfl rfl rfl rfl .head rfl rfl ?_
  refine WP.ldm tysOk rfl True.intro rfl rfl rfl rfl rfl rfl rfl (SegAt.blk' .head rfl) ?_
  refine WP.sto' tysOk [iv a1.src, iv a1.dst, iv (a1.low.tmod 1000), iv (w64 ((a1.low.tmod 1000) + (if (w64 (0 - (a1.cap.tmod 1000))) > (a1.cap.tmod 1000) then w64 (0 - (a1.cap.tmod 1000)) else a1.cap.tmod 1000))), iv (a1.cost.tmod 1000)] rfl rfl rfl rfl rfl rfl rfl rfl rfl (.tail .head) rfl rfl ?_
  cases h
  refine WP.retR tysOk rfl rfl ⟨_, _, _, _, rfl, ⟨_, rfl, .inr ⟨rfl, _, rfl, rfl, (SegAt.blk' (z := 5) .head rfl).1⟩⟩, rfl, rfl⟩ (fun w1 hw1 => ⟨rfl, Ret.below_ hw1 (.cons (.tail (.tail .head)) .nil)⟩)

abbrev law18_One_S (r : Inst) : Value → Heap → Prop := fun v L => ∃ (A1 : Option Addr) (n1 c1 : Nat) (A2 : Option Addr) (n2 c2 : Nat), v = .agg #[.slice A1 n1 c1, .slice A2 n2 c2] ∧ OwF A1 n1 r.supply ∧ OwF A2 n2 r.arcs ∧ L = [Ow (fI .i64) 2 A1 n1 c1 r.supply, Ow fA 23 A2 n2 c2 r.arcs]
set_option maxRecDepth 20000 in
set_option maxHeartbeats 8000000 in
theorem law18_One_w {w : World} {d1 : Int} {i1 : Arc} {x1 : Arc} {x2 : Int} {x3 : Int} {x4 : Int} {r : Inst} (h : law18_One d1 i1 x1 x2 x3 x4 = some r) :
    Calls Try.prog 9 #[.int .u8 (d1), .agg #[iv i1.src, iv i1.dst, iv i1.low, iv i1.cap, iv i1.cost], .agg #[iv x1.src, iv x1.dst, iv x1.low, iv x1.cap, iv x1.cost], iv x2, iv x3, .int .u8 (x4)] w fun e w' => ∃ v L, e = .returned v ∧ law18_One_S r v L ∧ Ret w w' L := by
  unfold law18_One at h
  refine enter_ Try.func9 rfl Try.ntmps9 rfl ?_
  refine WP.box rfl rfl rfl rfl rfl rfl ?_
  intro g1
  refine WP.box rfl rfl rfl rfl rfl rfl ?_
  intro g2
  refine WP.al tysOk rfl rfl rfl rfl rfl rfl ?_
  intro g3
  refine WP.st tysOk true rfl True.intro rfl rfl rfl rfl True.intro ?_
  refine WP.ld1 tysOk rfl True.intro rfl rfl rfl rfl rfl rfl rfl (CellAt.blk (.tail (.tail .head)) rfl) ?_
  refine WP.st tysOk true rfl True.intro rfl rfl rfl rfl True.intro ?_
  refine WP.ld1 tysOk rfl True.intro rfl rfl rfl rfl rfl rfl rfl (CellAt.blk (.tail (.tail .head)) rfl) ?_
  refine WP.st tysOk true rfl True.intro rfl rfl rfl rfl True.intro ?_
  refine WP.ld1 tysOk rfl True.intro rfl rfl rfl rfl rfl rfl rfl (CellAt.blk (.tail (.tail .head)) rfl) ?_
  refine WP.bld (cs := [iv 0, iv 1, iv i1.low, iv i1.cap, iv i1.cost]) tysOk rfl True.intro rfl rfl rfl rfl rfl rfl rfl ?_
  refine WP.al tysOk rfl rfl rfl rfl rfl rfl ?_
  intro g4
  refine WP.sto' tysOk [iv 0, iv 1, iv i1.low, iv i1.cap, iv i1.cost] rfl rfl rfl rfl rfl rfl rfl rfl rfl .head rfl rfl ?_
  refine WP.st tysOk true rfl True.intro rfl rfl rfl rfl True.intro ?_
  refine WP.ld1 tysOk rfl True.intro rfl rfl rfl rfl rfl rfl rfl (CellAt.blk (.tail (.tail .head)) rfl) ?_
  refine WP.st tysOk true rfl True.intro rfl rfl rfl rfl True.intro ?_
  refine WP.ld1 tysOk rfl True.intro rfl rfl rfl rfl rfl rfl rfl (CellAt.blk (.tail (.tail .head)) rfl) ?_
  refine WP.st tysOk true rfl True.intro rfl rfl rfl rfl True.intro ?_
  refine WP.ld1 tysOk rfl True.intro rfl rfl rfl rfl rfl rfl rfl (CellAt.blk (.tail (.tail .head)) rfl) ?_
  refine WP.bld (cs := [iv 1, iv 2, iv x1.low, iv x1.cap, iv x1.cost]) tysOk rfl True.intro rfl rfl rfl rfl rfl rfl rfl ?_
  refine WP.al tysOk rfl rfl rfl rfl rfl rfl ?_
  intro g5
  refine WP.sto' tysOk [iv 1, iv 2, iv x1.low, iv x1.cap, iv x1.cost] rfl rfl rfl rfl rfl rfl rfl rfl rfl .head rfl rfl ?_
  refine WP.st tysOk true rfl True.intro rfl rfl rfl rfl True.intro ?_
  refine WP.st tysOk true rfl True.intro rfl rfl rfl rfl (by decide) ?_
  refine WP.st tysOk true rfl True.intro rfl rfl rfl rfl True.intro ?_
  refine WP.cond_d rfl rfl (fun hh1 => ?_) (fun hh1 => ?_)
  · rw [if_pos hh1] at h
    refine WP.st tysOk true rfl True.intro rfl rfl rfl rfl True.intro ?_
    refine WP.sto' tysOk [iv 1, iv 1, iv i1.low, iv i1.cap, iv i1.cost] rfl rfl rfl rfl rfl rfl rfl rfl rfl (.tail .head) rfl rfl ?_
    refine WP.st tysOk true rfl True.intro rfl rfl rfl rfl True.intro ?_
    refine WP.sto' tysOk [iv 1, iv 0, iv i1.low, iv i1.cap, iv i1.cost] rfl rfl rfl rfl rfl rfl rfl rfl rfl .head rfl rfl ?_
    refine WP.st tysOk true rfl True.intro rfl rfl rfl rfl True.intro ?_
    refine WP.st tysOk true rfl True.intro rfl rfl rfl rfl (by decide) ?_
    refine WP.st tysOk true rfl True.intro rfl rfl rfl rfl True.intro ?_
    refine WP.cond_d rfl rfl (fun hh2 => ?_) (fun hh2 => ?_)
    · rw [if_pos hh2] at h
      refine WP.st tysOk true rfl True.intro rfl rfl rfl rfl True.intro ?_
      refine WP.sto' tysOk [iv 2, iv 2, iv x1.low, iv x1.cap, iv x1.cost] rfl rfl rfl rfl rfl rfl rfl rfl rfl (.tail .head) rfl rfl ?_
      refine WP.st tysOk true rfl True.intro rfl rfl rfl rfl True.intro ?_
      refine WP.sto' tysOk [iv 2, iv 1, iv x1.low, iv x1.cap, iv x1.cost] rfl rfl rfl rfl rfl rfl rfl rfl rfl .head rfl rfl ?_
      refine WP.ldm tysOk rfl True.intro rfl rfl rfl rfl rfl rfl rfl (SegAt.blk' (.tail .head) rfl) ?_
      refine WP.ldm tysOk rfl True.intro rfl rfl rfl rfl rfl rfl rfl (SegAt.blk' .head rfl) ?_
      refine WP.bsO (f := fA) [(Arc.mk 1 0 i1.low i1.cap i1.cost), (Arc.mk 2 1 x1.low x1.cap x1.cost)] tysOk rfl rfl rfl rfl rfl rfl rfl rfl rfl rfl rfl rfl rfl rfl ?_
      intro g6 hf1
      iterate 2 (refine WP.st tysOk true rfl True.intro rfl rfl rfl rfl True.intro ?_)
      iterate 2 (refine WP.st tysOk true rfl True.intro rfl rfl rfl rfl (by decide) ?_)
      refine WP.st tysOk true rfl True.intro rfl rfl rfl rfl True.intro ?_
      refine WP.cond_d rfl rfl (fun hh3 => ?_) (fun hh3 => ?_)
      · rw [if_pos hh3] at h
        refine WP.ldm tysOk rfl True.intro rfl rfl rfl rfl rfl rfl rfl (SegAt.blk' (.tail .head) rfl) ?_
        refine WP.ldm tysOk rfl True.intro rfl rfl rfl rfl rfl rfl rfl (SegAt.blk' (.tail (.tail .head)) rfl) ?_
        refine WP.bsO (f := fA) [(Arc.mk 2 1 x1.low x1.cap x1.cost), (Arc.mk 1 0 i1.low i1.cap i1.cost)] tysOk rfl rfl rfl rfl rfl rfl rfl rfl rfl rfl rfl rfl rfl rfl ?_
        intro g7 hf2
        iterate 2 ((iterate 3 (refine WP.st tysOk true rfl True.intro rfl rfl rfl rfl True.intro ?_)); refine WP.st tysOk true rfl True.intro rfl rfl rfl rfl (by decide) ?_)
        refine WP.st tysOk true rfl True.intro rfl rfl rfl rfl (by decide) ?_
        iterate 4 (refine WP.st tysOk true rfl True.intro rfl rfl rfl rfl True.intro ?_)
        refine WP.bld (cs := [iv (w64 ((w64 (x4.tmod 2)) * 2)), iv (w64 ((w64 ((IntKind.wrap .u8 (x4.tdiv 2)).tmod 2)) * 2)), iv 0, iv 4611686018427387904, iv (w64 (x4))]) tysOk rfl True.intro rfl rfl rfl rfl rfl rfl rfl ?_
        refine WP.bsO (f := fA) [(Arc.mk (w64 ((w64 (x4.tmod 2)) * 2)) (w64 ((w64 ((IntKind.wrap .u8 (x4.tdiv 2)).tmod 2)) * 2)) 0 4611686018427387904 (w64 (x4)))] tysOk rfl rfl rfl rfl rfl rfl rfl rfl rfl rfl rfl rfl rfl rfl ?_
        intro g8 hf3
        obtain ⟨hl1, h⟩ := ck_some h
        obtain ⟨xs1, hz1, h⟩ := lt_some h
        refine WP.appO (f := fA) (xs := [(Arc.mk 2 1 x1.low x1.cap x1.cost), (Arc.mk 1 0 i1.low i1.cap i1.cost)]) (ys := [(Arc.mk (w64 ((w64 (x4.tmod 2)) * 2)) (w64 ((w64 ((IntKind.wrap .u8 (x4.tdiv 2)).tmod 2)) * 2)) 0 4611686018427387904 (w64 (x4)))]) tysOk rfl rfl rfl rfl rfl rfl rfl rfl rfl rfl rfl rfl (.tail .head) hf2 hf3.len (OwS.app .head hf3) hl1 hz1 ?_
        intro A1 c1 hf4
        iterate 2 (refine WP.st tysOk true rfl True.intro rfl rfl rfl rfl True.intro ?_)
        refine WP.bld (cs := [iv 2, iv 0, iv 0, iv 40, iv 1]) tysOk rfl True.intro rfl rfl rfl rfl rfl rfl rfl ?_
        refine WP.bld (cs := [iv 0, iv 2, iv 0, iv 40, iv 1]) tysOk rfl True.intro rfl rfl rfl rfl rfl rfl rfl ?_
        refine WP.bsO (f := fA) [(Arc.mk 2 0 0 40 1), (Arc.mk 0 2 0 40 1)] tysOk rfl rfl rfl rfl rfl rfl rfl rfl rfl rfl rfl rfl rfl rfl ?_
        intro g9 hf5
        obtain ⟨hl2, h⟩ := ck_some h
        obtain ⟨xs2, hz2, h⟩ := lt_some h
        refine WP.appO (f := fA) (xs := xs1) (ys := [(Arc.mk 2 0 0 40 1), (Arc.mk 0 2 0 40 1)]) tysOk rfl rfl rfl rfl rfl rfl rfl rfl rfl rfl rfl rfl (.tail .head) hf4 hf5.len (OwS.app .head hf5) hl2 hz2 ?_
        intro A2 c2 hf6
        iterate 7 (refine WP.st tysOk true rfl True.intro rfl rfl rfl rfl True.intro ?_)
        refine WP.bsO (f := (fI .i64)) [x3, x2, w64 ((w64 (0 - x3)) - x2)] tysOk rfl rfl rfl rfl rfl rfl rfl rfl rfl rfl rfl rfl rfl rfl ?_
        intro g10 hf7
        refine WP.st tysOk true rfl True.intro rfl rfl rfl rfl True.intro ?_
        refine WP.bld (cs := [.slice (some ⟨g10, 0, none⟩) 3 3, .slice A2 xs2.length c2]) tysOk rfl True.intro rfl rfl rfl rfl rfl rfl rfl ?_
        refine WP.sto' tysOk [.slice (some ⟨g10, 0, none⟩) 3 3, .slice A2 xs2.length c2] rfl rfl rfl rfl rfl rfl rfl rfl rfl (.tail (.tail (.tail (.tail (.tail (.tail (.tail .head))))))) rfl rfl ?_
        cases h
        refine WP.retR tysOk rfl rfl ⟨_, _, _, _, rfl, ⟨_, rfl, .inr ⟨rfl, _, rfl, rfl, (SegAt.blk' (z := 2) .head rfl).1⟩⟩, rfl, rfl⟩ (fun w1 hw1 => ⟨_, _, rfl, ⟨(some ⟨g10, 0, none⟩), 3, 3, A2, xs2.length, c2, rfl, hf7, hf6, rfl⟩, Ret.of_KH hw1 (.cons (.tail .head) (.cons (.tail .head) (.cons (.tail (.tail (.tail (.tail (.tail (.tail (.tail (.tail .head)))))))) .nil)))⟩)
      rw [if_neg hh3] at h
      iterate 2 (refine WP.st tysOk true rfl True.intro rfl rfl rfl rfl True.intro ?_)
      refine WP.st tysOk true rfl True.intro rfl rfl rfl rfl (by decide) ?_
      iterate 3 (refine WP.st tysOk true rfl True.intro rfl rfl rfl rfl True.intro ?_)
      iterate 2 (refine WP.st tysOk true rfl True.intro rfl rfl rfl rfl (by decide) ?_)
      iterate 4 (refine WP.st tysOk true rfl True.intro rfl rfl rfl rfl True.intro ?_)
      refine WP.bld (cs := [iv (w64 ((w64 (x4.tmod 2)) * 2)), iv (w64 ((w64 ((IntKind.wrap .u8 (x4.tdiv 2)).tmod 2)) * 2)), iv 0, iv 4611686018427387904, iv (w64 (x4))]) tysOk rfl True.intro rfl rfl rfl rfl rfl rfl rfl ?_
      refine WP.bsO (f := fA) [(Arc.mk (w64 ((w64 (x4.tmod 2)) * 2)) (w64 ((w64 ((IntKind.wrap .u8 (x4.tdiv 2)).tmod 2)) * 2)) 0 4611686018427387904 (w64 (x4)))] tysOk rfl rfl rfl rfl rfl rfl rfl rfl rfl rfl rfl rfl rfl rfl ?_
      intro g11 hf8
      obtain ⟨hl3, h⟩ := ck_some h
      obtain ⟨xs3, hz3, h⟩ := lt_some h
      refine WP.appO (f := fA) (xs := [(Arc.mk 1 0 i1.low i1.cap i1.cost), (Arc.mk 2 1 x1.low x1.cap x1.cost)]) (ys := [(Arc.mk (w64 ((w64 (x4.tmod 2)) * 2)) (w64 ((w64 ((IntKind.wrap .u8 (x4.tdiv 2)).tmod 2)) * 2)) 0 4611686018427387904 (w64 (x4)))]) tysOk rfl rfl rfl rfl rfl rfl rfl rfl rfl rfl rfl rfl (.tail .head) hf1 hf8.len (OwS.app .head hf8) hl3 hz3 ?_
      intro A3 c3 hf9
      iterate 2 (refine WP.st tysOk true rfl True.intro rfl rfl rfl rfl True.intro ?_)
      refine WP.bld (cs := [iv 2, iv 0, iv 0, iv 40, iv 1]) tysOk rfl True.intro rfl rfl rfl rfl rfl rfl rfl ?_
      refine WP.bld (cs := [iv 0, iv 2, iv 0, iv 40, iv 1]) tysOk rfl True.intro rfl rfl rfl rfl rfl rfl rfl ?_
      refine WP.bsO (f := fA) [(Arc.mk 2 0 0 40 1), (Arc.mk 0 2 0 40 1)] tysOk rfl rfl rfl rfl rfl rfl rfl rfl rfl rfl rfl rfl rfl rfl ?_
      intro g12 hf10
      obtain ⟨hl4, h⟩ := ck_some h
      obtain ⟨xs4, hz4, h⟩ := lt_some h
      refine WP.appO (f := fA) (xs := xs3) (ys := [(Arc.mk 2 0 0 40 1), (Arc.mk 0 2 0 40 1)]) tysOk rfl rfl rfl rfl rfl rfl rfl rfl rfl rfl rfl rfl (.tail .head) hf9 hf10.len (OwS.app .head hf10) hl4 hz4 ?_
      intro A4 c4 hf11
      iterate 7 (refine WP.st tysOk true rfl True.intro rfl rfl rfl rfl True.intro ?_)
      refine WP.bsO (f := (fI .i64)) [x3, x2, w64 ((w64 (0 - x3)) - x2)] tysOk rfl rfl rfl rfl rfl rfl rfl rfl rfl rfl rfl rfl rfl rfl ?_
      intro g13 hf12
      refine WP.st tysOk true rfl True.intro rfl rfl rfl rfl True.intro ?_
      refine WP.bld (cs := [.slice (some ⟨g13, 0, none⟩) 3 3, .slice A4 xs4.length c4]) tysOk rfl True.intro rfl rfl rfl rfl rfl rfl rfl ?_
      refine WP.sto' tysOk [.slice (some ⟨g13, 0, none⟩) 3 3, .slice A4 xs4.length c4] rfl rfl rfl rfl rfl rfl rfl rfl rfl (.tail (.tail (.tail (.tail (.tail (.tail .head)))))) rfl rfl ?_
      cases h
      refine WP.retR tysOk rfl rfl ⟨_, _, _, _, rfl, ⟨_, rfl, .inr ⟨rfl, _, rfl, rfl, (SegAt.blk' (z := 2) .head rfl).1⟩⟩, rfl, rfl⟩ (fun w1 hw1 => ⟨_, _, rfl, ⟨(some ⟨g13, 0, none⟩), 3, 3, A4, xs4.length, c4, rfl, hf12, hf11, rfl⟩, Ret.of_KH hw1 (.cons (.tail .head) (.cons (.tail .head) (.cons (.tail (.tail (.tail (.tail (.tail (.tail (.tail .head))))))) .nil)))⟩)
    rw [if_neg hh2] at h
    refine WP.ldm tysOk rfl True.intro rfl rfl rfl rfl rfl rfl rfl (SegAt.blk' .head rfl) ?_
    refine WP.ldm tysOk rfl True.intro rfl rfl rfl rfl rfl rfl rfl (SegAt.blk' (.tail .head) rfl) ?_
    refine WP.bsO (f := fA) [(Arc.mk 1 0 i1.low i1.cap i1.cost), (Arc.mk 1 2 x1.low x1.cap x1.cost)] tysOk rfl rfl rfl rfl rfl rfl rfl rfl rfl rfl rfl rfl rfl rfl ?_
    intro g14 hf13
    iterate 2 (refine WP.st tysOk true rfl True.intro rfl rfl rfl rfl True.intro ?_)
    iterate 2 (refine WP.st tysOk true rfl True.intro rfl rfl rfl rfl (by decide) ?_)
    refine WP.st tysOk true rfl True.intro rfl rfl rfl rfl True.intro ?_
    refine WP.cond_d rfl rfl (fun hh4 => ?_) (fun hh4 => ?_)
    · rw [if_pos hh4] at h
      refine WP.ldm tysOk rfl True.intro rfl rfl rfl rfl rfl rfl rfl (SegAt.blk' (.tail (.tail .head)) rfl) ?_
      refine WP.ldm tysOk rfl True.intro rfl rfl rfl rfl rfl rfl rfl (SegAt.blk' (.tail .head) rfl) ?_
      refine WP.bsO (f := fA) [(Arc.mk 1 2 x1.low x1.cap x1.cost), (Arc.mk 1 0 i1.low i1.cap i1.cost)] tysOk rfl rfl rfl rfl rfl rfl rfl rfl rfl rfl rfl rfl rfl rfl ?_
      intro g15 hf14
      iterate 2 ((iterate 3 (refine WP.st tysOk true rfl True.intro rfl rfl rfl rfl True.intro ?_)); refine WP.st tysOk true rfl True.intro rfl rfl rfl rfl (by decide) ?_)
      refine WP.st tysOk true rfl True.intro rfl rfl rfl rfl (by decide) ?_
      iterate 4 (refine WP.st tysOk true rfl True.intro rfl rfl rfl rfl True.intro ?_)
      refine WP.bld (cs := [iv (w64 ((w64 (x4.tmod 2)) * 2)), iv (w64 ((w64 ((IntKind.wrap .u8 (x4.tdiv 2)).tmod 2)) * 2)), iv 0, iv 4611686018427387904, iv (w64 (x4))]) tysOk rfl True.intro rfl rfl rfl rfl rfl rfl rfl ?_
      refine WP.bsO (f := fA) [(Arc.mk (w64 ((w64 (x4.tmod 2)) * 2)) (w64 ((w64 ((IntKind.wrap .u8 (x4.tdiv 2)).tmod 2)) * 2)) 0 4611686018427387904 (w64 (x4)))] tysOk rfl rfl rfl rfl rfl rfl rfl rfl rfl rfl rfl rfl rfl rfl ?_
      intro g16 hf15
      obtain ⟨hl5, h⟩ := ck_some h
      obtain ⟨xs5, hz5, h⟩ := lt_some h
      refine WP.appO (f := fA) (xs := [(Arc.mk 1 2 x1.low x1.cap x1.cost), (Arc.mk 1 0 i1.low i1.cap i1.cost)]) (ys := [(Arc.mk (w64 ((w64 (x4.tmod 2)) * 2)) (w64 ((w64 ((IntKind.wrap .u8 (x4.tdiv 2)).tmod 2)) * 2)) 0 4611686018427387904 (w64 (x4)))]) tysOk rfl rfl rfl rfl rfl rfl rfl rfl rfl rfl rfl rfl (.tail .head) hf14 hf15.len (OwS.app .head hf15) hl5 hz5 ?_
      intro A5 c5 hf16
      iterate 2 (refine WP.st tysOk true rfl True.intro rfl rfl rfl rfl True.intro ?_)
      refine WP.bld (cs := [iv 2, iv 0, iv 0, iv 40, iv 1]) tysOk rfl True.intro rfl rfl rfl rfl rfl rfl rfl ?_
      refine WP.bld (cs := [iv 0, iv 2, iv 0, iv 40, iv 1]) tysOk rfl True.intro rfl rfl rfl rfl rfl rfl rfl ?_
      refine WP.bsO (f := fA) [(Arc.mk 2 0 0 40 1), (Arc.mk 0 2 0 40 1)] tysOk rfl rfl rfl rfl rfl rfl rfl rfl rfl rfl rfl rfl rfl rfl ?_
      intro g17 hf17
      obtain ⟨hl6, h⟩ := ck_some h
      obtain ⟨xs6, hz6, h⟩ := lt_some h
      refine WP.appO (f := fA) (xs := xs5) (ys := [(Arc.mk 2 0 0 40 1), (Arc.mk 0 2 0 40 1)]) tysOk rfl rfl rfl rfl rfl rfl rfl rfl rfl rfl rfl rfl (.tail .head) hf16 hf17.len (OwS.app .head hf17) hl6 hz6 ?_
      intro A6 c6 hf18
      iterate 7 (refine WP.st tysOk true rfl True.intro rfl rfl rfl rfl True.intro ?_)
      refine WP.bsO (f := (fI .i64)) [x3, x2, w64 ((w64 (0 - x3)) - x2)] tysOk rfl rfl rfl rfl rfl rfl rfl rfl rfl rfl rfl rfl rfl rfl ?_
      intro g18 hf19
      refine WP.st tysOk true rfl True.intro rfl rfl rfl rfl True.intro ?_
      refine WP.bld (cs := [.slice (some ⟨g18, 0, none⟩) 3 3, .slice A6 xs6.length c6]) tysOk rfl True.intro rfl rfl rfl rfl rfl rfl rfl ?_
      refine WP.sto' tysOk [.slice (some ⟨g18, 0, none⟩) 3 3, .slice A6 xs6.length c6] rfl rfl rfl rfl rfl rfl rfl rfl rfl (.tail (.tail (.tail (.tail (.tail (.tail (.tail .head))))))) rfl rfl ?_
      cases h
      refine WP.retR tysOk rfl rfl ⟨_, _, _, _, rfl, ⟨_, rfl, .inr ⟨rfl, _, rfl, rfl, (SegAt.blk' (z := 2) .head rfl).1⟩⟩, rfl, rfl⟩ (fun w1 hw1 => ⟨_, _, rfl, ⟨(some ⟨g18, 0, none⟩), 3, 3, A6, xs6.length, c6, rfl, hf19, hf18, rfl⟩, Ret.of_KH hw1 (.cons (.tail .head) (.cons (.tail .head) (.cons (.tail (.tail (.tail (.tail (.tail (.tail (.tail (.tail .head)))))))) .nil)))⟩)
    rw [if_neg hh4] at h
    iterate 2 (refine WP.st tysOk true rfl True.intro rfl rfl rfl rfl True.intro ?_)
    refine WP.st tysOk true rfl True.intro rfl rfl rfl rfl (by decide) ?_
    iterate 3 (refine WP.st tysOk true rfl True.intro rfl rfl rfl rfl True.intro ?_)
    iterate 2 (refine WP.st tysOk true rfl True.intro rfl rfl rfl rfl (by decide) ?_)
    iterate 4 (refine WP.st tysOk true rfl True.intro rfl rfl rfl rfl True.intro ?_)
    refine WP.bld (cs := [iv (w64 ((w64 (x4.tmod 2)) * 2)), iv (w64 ((w64 ((IntKind.wrap .u8 (x4.tdiv 2)).tmod 2)) * 2)), iv 0, iv 4611686018427387904, iv (w64 (x4))]) tysOk rfl True.intro rfl rfl rfl rfl rfl rfl rfl ?_
    refine WP.bsO (f := fA) [(Arc.mk (w64 ((w64 (x4.tmod 2)) * 2)) (w64 ((w64 ((IntKind.wrap .u8 (x4.tdiv 2)).tmod 2)) * 2)) 0 4611686018427387904 (w64 (x4)))] tysOk rfl rfl rfl rfl rfl rfl rfl rfl rfl rfl rfl rfl rfl rfl ?_
    intro g19 hf20
    obtain ⟨hl7, h⟩ := ck_some h
    obtain ⟨xs7, hz7, h⟩ := lt_some h
    refine WP.appO (f := fA) (xs := [(Arc.mk 1 0 i1.low i1.cap i1.cost), (Arc.mk 1 2 x1.low x1.cap x1.cost)]) (ys := [(Arc.mk (w64 ((w64 (x4.tmod 2)) * 2)) (w64 ((w64 ((IntKind.wrap .u8 (x4.tdiv 2)).tmod 2)) * 2)) 0 4611686018427387904 (w64 (x4)))]) tysOk rfl rfl rfl rfl rfl rfl rfl rfl rfl rfl rfl rfl (.tail .head) hf13 hf20.len (OwS.app .head hf20) hl7 hz7 ?_
    intro A7 c7 hf21
    iterate 2 (refine WP.st tysOk true rfl True.intro rfl rfl rfl rfl True.intro ?_)
    refine WP.bld (cs := [iv 2, iv 0, iv 0, iv 40, iv 1]) tysOk rfl True.intro rfl rfl rfl rfl rfl rfl rfl ?_
    refine WP.bld (cs := [iv 0, iv 2, iv 0, iv 40, iv 1]) tysOk rfl True.intro rfl rfl rfl rfl rfl rfl rfl ?_
    refine WP.bsO (f := fA) [(Arc.mk 2 0 0 40 1), (Arc.mk 0 2 0 40 1)] tysOk rfl rfl rfl rfl rfl rfl rfl rfl rfl rfl rfl rfl rfl rfl ?_
    intro g20 hf22
    obtain ⟨hl8, h⟩ := ck_some h
    obtain ⟨xs8, hz8, h⟩ := lt_some h
    refine WP.appO (f := fA) (xs := xs7) (ys := [(Arc.mk 2 0 0 40 1), (Arc.mk 0 2 0 40 1)]) tysOk rfl rfl rfl rfl rfl rfl rfl rfl rfl rfl rfl rfl (.tail .head) hf21 hf22.len (OwS.app .head hf22) hl8 hz8 ?_
    intro A8 c8 hf23
    iterate 7 (refine WP.st tysOk true rfl True.intro rfl rfl rfl rfl True.intro ?_)
    refine WP.bsO (f := (fI .i64)) [x3, x2, w64 ((w64 (0 - x3)) - x2)] tysOk rfl rfl rfl rfl rfl rfl rfl rfl rfl rfl rfl rfl rfl rfl ?_
    intro g21 hf24
    refine WP.st tysOk true rfl True.intro rfl rfl rfl rfl True.intro ?_
    refine WP.bld (cs := [.slice (some ⟨g21, 0, none⟩) 3 3, .slice A8 xs8.length c8]) tysOk rfl True.intro rfl rfl rfl rfl rfl rfl rfl ?_
    refine WP.sto' tysOk [.slice (some ⟨g21, 0, none⟩) 3 3, .slice A8 xs8.length c8] rfl rfl rfl rfl rfl rfl rfl rfl rfl (.tail (.tail (.tail (.tail (.tail (.tail .head)))))) rfl rfl ?_
    cases h
    refine WP.retR tysOk rfl rfl ⟨_, _, _, _, rfl, ⟨_, rfl, .inr ⟨rfl, _, rfl, rfl, (SegAt.blk' (z := 2) .head rfl).1⟩⟩, rfl, rfl⟩ (fun w1 hw1 => ⟨_, _, rfl, ⟨(some ⟨g21, 0, none⟩), 3, 3, A8, xs8.length, c8, rfl, hf24, hf23, rfl⟩, Ret.of_KH hw1 (.cons (.tail .head) (.cons (.tail .head) (.cons (.tail (.tail (.tail (.tail (.tail (.tail (.tail .head))))))) .nil)))⟩)
  rw [if_neg hh1] at h
  refine WP.st tysOk true rfl True.intro rfl rfl rfl rfl True.intro ?_
  refine WP.st tysOk true rfl True.intro rfl rfl rfl rfl (by decide) ?_
  refine WP.st tysOk true rfl True.intro rfl rfl rfl rfl True.intro ?_
  refine WP.cond_d rfl rfl (fun hh5 => ?_) (fun hh5 => ?_)
  · rw [if_pos hh5] at h
    refine WP.st tysOk true rfl True.intro rfl rfl rfl rfl True.intro ?_
    refine WP.sto' tysOk [iv 2, iv 2, iv x1.low, iv x1.cap, iv x1.cost] rfl rfl rfl rfl rfl rfl rfl rfl rfl .head rfl rfl ?_
    refine WP.st tysOk true rfl True.intro rfl rfl rfl rfl True.intro ?_
    refine WP.sto' tysOk [iv 2, iv 1, iv x1.low, iv x1.cap, iv x1.cost] rfl rfl rfl rfl rfl rfl rfl rfl rfl .head rfl rfl ?_
    refine WP.ldm tysOk rfl True.intro rfl rfl rfl rfl rfl rfl rfl (SegAt.blk' (.tail .head) rfl) ?_
    refine WP.ldm tysOk rfl True.intro rfl rfl rfl rfl rfl rfl rfl (SegAt.blk' .head rfl) ?_
    refine WP.bsO (f := fA) [(Arc.mk 0 1 i1.low i1.cap i1.cost), (Arc.mk 2 1 x1.low x1.cap x1.cost)] tysOk rfl rfl rfl rfl rfl rfl rfl rfl rfl rfl rfl rfl rfl rfl ?_
    intro g22 hf25
    iterate 2 (refine WP.st tysOk true rfl True.intro rfl rfl rfl rfl True.intro ?_)
    iterate 2 (refine WP.st tysOk true rfl True.intro rfl rfl rfl rfl (by decide) ?_)
    refine WP.st tysOk true rfl True.intro rfl rfl rfl rfl True.intro ?_
    refine WP.cond_d rfl rfl (fun hh6 => ?_) (fun hh6 => ?_)
    · rw [if_pos hh6] at h
      refine WP.ldm tysOk rfl True.intro rfl rfl rfl rfl rfl rfl rfl (SegAt.blk' (.tail .head) rfl) ?_
      refine WP.ldm tysOk rfl True.intro rfl rfl rfl rfl rfl rfl rfl (SegAt.blk' (.tail (.tail .head)) rfl) ?_
      refine WP.bsO (f := fA) [(Arc.mk 2 1 x1.low x1.cap x1.cost), (Arc.mk 0 1 i1.low i1.cap i1.cost)] tysOk rfl rfl rfl rfl rfl rfl rfl rfl rfl rfl rfl rfl rfl rfl ?_
      intro g23 hf26
      iterate 2 ((iterate 3 (refine WP.st tysOk true rfl True.intro rfl rfl rfl rfl True.intro ?_)); refine WP.st tysOk true rfl True.intro rfl rfl rfl rfl (by decide) ?_)
      refine WP.st tysOk true rfl True.intro rfl rfl rfl rfl (by decide) ?_
      iterate 4 (refine WP.st tysOk true rfl True.intro rfl rfl rfl rfl True.intro ?_)
      refine WP.bld (cs := [iv (w64 ((w64 (x4.tmod 2)) * 2)), iv (w64 ((w64 ((IntKind.wrap .u8 (x4.tdiv 2)).tmod 2)) * 2)), iv 0, iv 4611686018427387904, iv (w64 (x4))]) tysOk rfl True.intro rfl rfl rfl rfl rfl rfl rfl ?_
      refine WP.bsO (f := fA) [(Arc.mk (w64 ((w64 (x4.tmod 2)) * 2)) (w64 ((w64 ((IntKind.wrap .u8 (x4.tdiv 2)).tmod 2)) * 2)) 0 4611686018427387904 (w64 (x4)))] tysOk rfl rfl rfl rfl rfl rfl rfl rfl rfl rfl rfl rfl rfl rfl ?_
      intro g24 hf27
      obtain ⟨hl9, h⟩ := ck_some h
      obtain ⟨xs9, hz9, h⟩ := lt_some h
      refine WP.appO (f := fA) (xs := [(Arc.mk 2 1 x1.low x1.cap x1.cost), (Arc.mk 0 1 i1.low i1.cap i1.cost)]) (ys := [(Arc.mk (w64 ((w64 (x4.tmod 2)) * 2)) (w64 ((w64 ((IntKind.wrap .u8 (x4.tdiv 2)).tmod 2)) * 2)) 0 4611686018427387904 (w64 (x4)))]) tysOk rfl rfl rfl rfl rfl rfl rfl rfl rfl rfl rfl rfl (.tail .head) hf26 hf27.len (OwS.app .head hf27) hl9 hz9 ?_
      intro A9 c9 hf28
      iterate 2 (refine WP.st tysOk true rfl True.intro rfl rfl rfl rfl True.intro ?_)
      refine WP.bld (cs := [iv 2, iv 0, iv 0, iv 40, iv 1]) tysOk rfl True.intro rfl rfl rfl rfl rfl rfl rfl ?_
      refine WP.bld (cs := [iv 0, iv 2, iv 0, iv 40, iv 1]) tysOk rfl True.intro rfl rfl rfl rfl rfl rfl rfl ?_
      refine WP.bsO (f := fA) [(Arc.mk 2 0 0 40 1), (Arc.mk 0 2 0 40 1)] tysOk rfl rfl rfl rfl rfl rfl rfl rfl rfl rfl rfl rfl rfl rfl ?_
      intro g25 hf29
      obtain ⟨hl10, h⟩ := ck_some h
      obtain ⟨xs10, hz10, h⟩ := lt_some h
      refine WP.appO (f := fA) (xs := xs9) (ys := [(Arc.mk 2 0 0 40 1), (Arc.mk 0 2 0 40 1)]) tysOk rfl rfl rfl rfl rfl rfl rfl rfl rfl rfl rfl rfl (.tail .head) hf28 hf29.len (OwS.app .head hf29) hl10 hz10 ?_
      intro A10 c10 hf30
      iterate 7 (refine WP.st tysOk true rfl True.intro rfl rfl rfl rfl True.intro ?_)
      refine WP.bsO (f := (fI .i64)) [x3, x2, w64 ((w64 (0 - x3)) - x2)] tysOk rfl rfl rfl rfl rfl rfl rfl rfl rfl rfl rfl rfl rfl rfl ?_
      intro g26 hf31
      refine WP.st tysOk true rfl True.intro rfl rfl rfl rfl True.intro ?_
      refine WP.bld (cs := [.slice (some ⟨g26, 0, none⟩) 3 3, .slice A10 xs10.length c10]) tysOk rfl True.intro rfl rfl rfl rfl rfl rfl rfl ?_
      refine WP.sto' tysOk [.slice (some ⟨g26, 0, none⟩) 3 3, .slice A10 xs10.length c10] rfl rfl rfl rfl rfl rfl rfl rfl rfl (.tail (.tail (.tail (.tail (.tail (.tail (.tail .head))))))) rfl rfl ?_
      cases h
      refine WP.retR tysOk rfl rfl ⟨_, _, _, _, rfl, ⟨_, rfl, .inr ⟨rfl, _, rfl, rfl, (SegAt.blk' (z := 2) .head rfl).1⟩⟩, rfl, rfl⟩ (fun w1 hw1 => ⟨_, _, rfl, ⟨(some ⟨g26, 0, none⟩), 3, 3, A10, xs10.length, c10, rfl, hf31, hf30, rfl⟩, Ret.of_KH hw1 (.cons (.tail .head) (.cons (.tail .head) (.cons (.tail (.tail (.tail (.tail (.tail (.tail (.tail (.tail .head)))))))) .nil)))⟩)
    rw [if_neg hh6] at h
    iterate 2 (refine WP.st tysOk true rfl True.intro rfl rfl rfl rfl True.intro ?_)
    refine WP.st tysOk true rfl True.intro rfl rfl rfl rfl (by decide) ?_
    iterate 3 (refine WP.st tysOk true rfl True.intro rfl rfl rfl rfl True.intro ?_)
    iterate 2 (refine WP.st tysOk true rfl True.intro rfl rfl rfl rfl (by decide) ?_)
    iterate 4 (refine WP.st tysOk true rfl True.intro rfl rfl rfl rfl True.intro ?_)
    refine WP.bld (cs := [iv (w64 ((w64 (x4.tmod 2)) * 2)), iv (w64 ((w64 ((IntKind.wrap .u8 (x4.tdiv 2)).tmod 2)) * 2)), iv 0, iv 4611686018427387904, iv (w64 (x4))]) tysOk rfl True.intro rfl rfl rfl rfl rfl rfl rfl ?_
    refine WP.bsO (f := fA) [(Arc.mk (w64 ((w64 (x4.tmod 2)) * 2)) (w64 ((w64 ((IntKind.wrap .u8 (x4.tdiv 2)).tmod 2)) * 2)) 0 4611686018427387904 (w64 (x4)))] tysOk rfl rfl rfl rfl rfl rfl rfl rfl rfl rfl rfl rfl rfl rfl ?_
    intro g27 hf32
    obtain ⟨hl11, h⟩ := ck_some h
    obtain ⟨xs11, hz11, h⟩ := lt_some h
    refine WP.appO (f := fA) (xs := [(Arc.mk 0 1 i1.low i1.cap i1.cost), (Arc.mk 2 1 x1.low x1.cap x1.cost)]) (ys := [(Arc.mk (w64 ((w64 (x4.tmod 2)) * 2)) (w64 ((w64 ((IntKind.wrap .u8 (x4.tdiv 2)).tmod 2)) * 2)) 0 4611686018427387904 (w64 (x4)))]) tysOk rfl rfl rfl rfl rfl rfl rfl rfl rfl rfl rfl rfl (.tail .head) hf25 hf32.len (OwS.app .head hf32) hl11 hz11 ?_
    intro A11 c11 hf33
    iterate 2 (refine WP.st tysOk true rfl True.intro rfl rfl rfl rfl True.intro ?_)
    refine WP.bld (cs := [iv 2, iv 0, iv 0, iv 40, iv 1]) tysOk rfl True.intro rfl rfl rfl rfl rfl rfl rfl ?_
    refine WP.bld (cs := [iv 0, iv 2, iv 0, iv 40, iv 1]) tysOk rfl True.intro rfl rfl rfl rfl rfl rfl rfl ?_
    refine WP.bsO (f := fA) [(Arc.mk 2 0 0 40 1), (Arc.mk 0 2 0 40 1)] tysOk rfl rfl rfl rfl rfl rfl rfl rfl rfl rfl rfl rfl rfl rfl ?_
    intro g28 hf34
    obtain ⟨hl12, h⟩ := ck_some h
    obtain ⟨xs12, hz12, h⟩ := lt_some h
    refine WP.appO (f := fA) (xs := xs11) (ys := [(Arc.mk 2 0 0 40 1), (Arc.mk 0 2 0 40 1)]) tysOk rfl rfl rfl rfl rfl rfl rfl rfl rfl rfl rfl rfl (.tail .head) hf33 hf34.len (OwS.app .head hf34) hl12 hz12 ?_
    intro A12 c12 hf35
    iterate 7 (refine WP.st tysOk true rfl True.intro rfl rfl rfl rfl True.intro ?_)
    refine WP.bsO (f := (fI .i64)) [x3, x2, w64 ((w64 (0 - x3)) - x2)] tysOk rfl rfl rfl rfl rfl rfl rfl rfl rfl rfl rfl rfl rfl rfl ?_
    intro g29 hf36
    refine WP.st tysOk true rfl True.intro rfl rfl rfl rfl True.intro ?_
    refine WP.bld (cs := [.slice (some ⟨g29, 0, none⟩) 3 3, .slice A12 xs12.length c12]) tysOk rfl True.intro rfl rfl rfl rfl rfl rfl rfl ?_
    refine WP.sto' tysOk [.slice (some ⟨g29, 0, none⟩) 3 3, .slice A12 xs12.length c12] rfl rfl rfl rfl rfl rfl rfl rfl rfl (.tail (.tail (.tail (.tail (.tail (.tail .head)))))) rfl rfl ?_
    cases h
    refine WP.retR tysOk rfl rfl ⟨_, _, _, _, rfl, ⟨_, rfl, .inr ⟨rfl, _, rfl, rfl, (SegAt.blk' (z := 2) .head rfl).1⟩⟩, rfl, rfl⟩ (fun w1 hw1 => ⟨_, _, rfl, ⟨(some ⟨g29, 0, none⟩), 3, 3, A12, xs12.length, c12, rfl, hf36, hf35, rfl⟩, Ret.of_KH hw1 (.cons (.tail .head) (.cons (.tail .head) (.cons (.tail (.tail (.tail (.tail (.tail (.tail (.tail .head))))))) .nil)))⟩)
  rw [if_neg hh5] at h
  refine WP.ldm tysOk rfl True.intro rfl rfl rfl rfl rfl rfl rfl (SegAt.blk' (.tail .head) rfl) ?_
  refine WP.ldm tysOk rfl True.intro rfl rfl rfl rfl rfl rfl rfl (SegAt.blk' .head rfl) ?_
  refine WP.bsO (f := fA) [(Arc.mk 0 1 i1.low i1.cap i1.cost), (Arc.mk 1 2 x1.low x1.cap x1.cost)] tysOk rfl rfl rfl rfl rfl rfl rfl rfl rfl rfl rfl rfl rfl rfl ?_
  intro g30 hf37
  iterate 2 (refine WP.st tysOk true rfl True.intro rfl rfl rfl rfl True.intro ?_)
  iterate 2 (refine WP.st tysOk true rfl True.intro rfl rfl rfl rfl (by decide) ?_)
  refine WP.st tysOk true rfl True.intro rfl rfl rfl rfl True.intro ?_
  refine WP.cond_d rfl rfl (fun hh7 => ?_) (fun hh7 => ?_)
  · rw [if_pos hh7] at h
    refine WP.ldm tysOk rfl True.intro rfl rfl rfl rfl rfl rfl rfl (SegAt.blk' (.tail .head) rfl) ?_
    refine WP.ldm tysOk rfl True.intro rfl rfl rfl rfl rfl rfl rfl (SegAt.blk' (.tail (.tail .head)) rfl) ?_
    refine WP.bsO (f := fA) [(Arc.mk 1 2 x1.low x1.cap x1.cost), (Arc.mk 0 1 i1.low i1.cap i1.cost)] tysOk rfl rfl rfl rfl rfl rfl rfl rfl rfl rfl rfl rfl rfl rfl ?_
    intro g31 hf38
    iterate 2 ((iterate 3 (refine WP.st tysOk true rfl True.intro rfl rfl rfl rfl True.intro ?_)); refine WP.st tysOk true rfl True.intro rfl rfl rfl rfl (by decide) ?_)
    refine WP.st tysOk true rfl True.intro rfl rfl rfl rfl (by decide) ?_
    iterate 4 (refine WP.st tysOk true rfl True.intro rfl rfl rfl rfl True.intro ?_)
    refine WP.bld (cs := [iv (w64 ((w64 (x4.tmod 2)) * 2)), iv (w64 ((w64 ((IntKind.wrap .u8 (x4.tdiv 2)).tmod 2)) * 2)), iv 0, iv 4611686018427387904, iv (w64 (x4))]) tysOk rfl True.intro rfl rfl rfl rfl rfl rfl rfl ?_
    refine WP.bsO (f := fA) [(Arc.mk (w64 ((w64 (x4.tmod 2)) * 2)) (w64 ((w64 ((IntKind.wrap .u8 (x4.tdiv 2)).tmod 2)) * 2)) 0 4611686018427387904 (w64 (x4)))] tysOk rfl rfl rfl rfl rfl rfl rfl rfl rfl rfl rfl rfl rfl rfl ?_
    intro g32 hf39
    obtain ⟨hl13, h⟩ := ck_some h
    obtain ⟨xs13, hz13, h⟩ := lt_some h
    refine WP.appO (f := fA) (xs := [(Arc.mk 1 2 x1.low x1.cap x1.cost), (Arc.mk 0 1 i1.low i1.cap i1.cost)]) (ys := [(Arc.mk (w64 ((w64 (x4.tmod 2)) * 2)) (w64 ((w64 ((IntKind.wrap .u8 (x4.tdiv 2)).tmod 2)) * 2)) 0 4611686018427387904 (w64 (x4)))]) tysOk rfl rfl rfl rfl rfl rfl rfl rfl rfl rfl rfl rfl (.tail .head) hf38 hf39.len (OwS.app .head hf39) hl13 hz13 ?_
    intro A13 c13 hf40
    iterate 2 (refine WP.st tysOk true rfl True.intro rfl rfl rfl rfl True.intro ?_)
    refine WP.bld (cs := [iv 2, iv 0, iv 0, iv 40, iv 1]) tysOk rfl True.intro rfl rfl rfl rfl rfl rfl rfl ?_
    refine WP.bld (cs := [iv 0, iv 2, iv 0, iv 40, iv 1]) tysOk rfl True.intro rfl rfl rfl rfl rfl rfl rfl ?_
    refine WP.bsO (f := fA) [(Arc.mk 2 0 0 40 1), (Arc.mk 0 2 0 40 1)] tysOk rfl rfl rfl rfl rfl rfl rfl rfl rfl rfl rfl rfl rfl rfl ?_
    intro g33 hf41
    obtain ⟨hl14, h⟩ := ck_some h
    obtain ⟨xs14, hz14, h⟩ := lt_some h
    refine WP.appO (f := fA) (xs := xs13) (ys := [(Arc.mk 2 0 0 40 1), (Arc.mk 0 2 0 40 1)]) tysOk rfl rfl rfl rfl rfl rfl rfl rfl rfl rfl rfl rfl (.tail .head) hf40 hf41.len (OwS.app .head hf41) hl14 hz14 ?_
    intro A14 c14 hf42
    iterate 7 (refine WP.st tysOk true rfl True.intro rfl rfl rfl rfl True.intro ?_)
    refine WP.bsO (f := (fI .i64)) [x3, x2, w64 ((w64 (0 - x3)) - x2)] tysOk rfl rfl rfl rfl rfl rfl rfl rfl rfl rfl rfl rfl rfl rfl ?_
    intro g34 hf43
    refine WP.st tysOk true rfl True.intro rfl rfl rfl rfl True.intro ?_
    refine WP.bld (cs := [.slice (some ⟨g34, 0, none⟩) 3 3, .slice A14 xs14.length c14]) tysOk rfl True.intro rfl rfl rfl rfl rfl rfl rfl ?_
    refine WP.sto' tysOk [.slice (some ⟨g34, 0, none⟩) 3 3, .slice A14 xs14.length c14] rfl rfl rfl rfl rfl rfl rfl rfl rfl (.tail (.tail (.tail (.tail (.tail (.tail (.tail .head))))))) rfl rfl ?_
    cases h
    refine WP.retR tysOk rfl rfl ⟨_, _, _, _, rfl, ⟨_, rfl, .inr ⟨rfl, _, rfl, rfl, (SegAt.blk' (z := 2) .head rfl).1⟩⟩, rfl, rfl⟩ (fun w1 hw1 => ⟨_, _, rfl, ⟨(some ⟨g34, 0, none⟩), 3, 3, A14, xs14.length, c14, rfl, hf43, hf42, rfl⟩, Ret.of_KH hw1 (.cons (.tail .head) (.cons (.tail .head) (.cons (.tail (.tail (.tail (.tail (.tail (.tail (.tail (.tail .head)))))))) .nil)))⟩)
  rw [if_neg hh7] at h
  iterate 2 (refine WP.st tysOk true rfl True.intro rfl rfl rfl rfl True.intro ?_)
  refine WP.st tysOk true rfl True.intro rfl rfl rfl rfl (by decide) ?_
  iterate 3 (refine WP.st tysOk true rfl True.intro rfl rfl rfl rfl True.intro ?_)
  iterate 2 (refine WP.st tysOk true rfl True.intro rfl rfl rfl rfl (by decide) ?_)
  iterate 4 (refine WP.st tysOk true rfl True.intro rfl rfl rfl rfl True.intro ?_)
  refine WP.bld (cs := [iv (w64 ((w64 (x4.tmod 2)) * 2)), iv (w64 ((w64 ((IntKind.wrap .u8 (x4.tdiv 2)).tmod 2)) * 2)), iv 0, iv 4611686018427387904, iv (w64 (x4))]) tysOk rfl True.intro rfl rfl rfl rfl rfl rfl rfl ?_
  refine WP.bsO (f := fA) [(Arc.mk (w64 ((w64 (x4.tmod 2)) * 2)) (w64 ((w64 ((IntKind.wrap .u8 (x4.tdiv 2)).tmod 2)) * 2)) 0 4611686018427387904 (w64 (x4)))] tysOk rfl rfl rfl rfl rfl rfl rfl rfl rfl rfl rfl rfl rfl rfl ?_
  intro g35 hf44
  obtain ⟨hl15, h⟩ := ck_some h
  obtain ⟨xs15, hz15, h⟩ := lt_some h
  refine WP.appO (f := fA) (xs := [(Arc.mk 0 1 i1.low i1.cap i1.cost), (Arc.mk 1 2 x1.low x1.cap x1.cost)]) (ys := [(Arc.mk (w64 ((w64 (x4.tmod 2)) * 2)) (w64 ((w64 ((IntKind.wrap .u8 (x4.tdiv 2)).tmod 2)) * 2)) 0 4611686018427387904 (w64 (x4)))]) tysOk rfl rfl rfl rfl rfl rfl rfl rfl rfl rfl rfl rfl (.tail .head) hf37 hf44.len (OwS.app .head hf44) hl15 hz15 ?_
  intro A15 c15 hf45
  iterate 2 (refine WP.st tysOk true rfl True.intro rfl rfl rfl rfl True.intro ?_)
  refine WP.bld (cs := [iv 2, iv 0, iv 0, iv 40, iv 1]) tysOk rfl True.intro rfl rfl rfl rfl rfl rfl rfl ?_
  refine WP.bld (cs := [iv 0, iv 2, iv 0, iv 40, iv 1]) tysOk rfl True.intro rfl rfl rfl rfl rfl rfl rfl ?_
  refine WP.bsO (f := fA) [(Arc.mk 2 0 0 40 1), (Arc.mk 0 2 0 40 1)] tysOk rfl rfl rfl rfl rfl rfl rfl rfl rfl rfl rfl rfl rfl rfl ?_
  intro g36 hf46
  obtain ⟨hl16, h⟩ := ck_some h
  obtain ⟨xs16, hz16, h⟩ := lt_some h
  refine WP.appO (f := fA) (xs := xs15) (ys := [(Arc.mk 2 0 0 40 1), (Arc.mk 0 2 0 40 1)]) tysOk rfl rfl rfl rfl rfl rfl rfl rfl rfl rfl rfl rfl (.tail .head) hf45 hf46.len (OwS.app .head hf46) hl16 hz16 ?_
  intro A16 c16 hf47
  iterate 7 (refine WP.st tysOk true rfl True.intro rfl rfl rfl rfl True.intro ?_)
  refine WP.bsO (f := (fI .i64)) [x3, x2, w64 ((w64 (0 - x3)) - x2)] tysOk rfl rfl rfl rfl rfl rfl rfl rfl rfl rfl rfl rfl rfl rfl ?_
  intro g37 hf48
  refine WP.st tysOk true rfl True.intro rfl rfl rfl rfl True.intro ?_
  refine WP.bld (cs := [.slice (some ⟨g37, 0, none⟩) 3 3, .slice A16 xs16.length c16]) tysOk rfl True.intro rfl rfl rfl rfl rfl rfl rfl ?_
  refine WP.sto' tysOk [.slice (some ⟨g37, 0, none⟩) 3 3, .slice A16 xs16.length c16] rfl rfl rfl rfl rfl rfl rfl rfl rfl (.tail (.tail (.tail (.tail (.tail (.tail .head)))))) rfl rfl ?_
  cases h
  refine WP.retR tysOk rfl rfl ⟨_, _, _, _, rfl, ⟨_, rfl, .inr ⟨rfl, _, rfl, rfl, (SegAt.blk' (z := 2) .head rfl).1⟩⟩, rfl, rfl⟩ (fun w1 hw1 => ⟨_, _, rfl, ⟨(some ⟨g37, 0, none⟩), 3, 3, A16, xs16.length, c16, rfl, hf48, hf47, rfl⟩, Ret.of_KH hw1 (.cons (.tail .head) (.cons (.tail .head) (.cons (.tail (.tail (.tail (.tail (.tail (.tail (.tail .head))))))) .nil)))⟩)

set_option maxRecDepth 20000 in
set_option maxHeartbeats 8000000 in
theorem two_series_w {w : World} :
    Calls Try.prog 26 #[] w fun e w' => e = .returned (.agg #[iv 8, .func (.func 45) #[] #[], .func (.func 46) #[] #[], .func (.func 47) #[] #[]]) ∧ Below w.heap.size w w' := by
  refine enter_ Try.func26 rfl Try.ntmps26 rfl ?_
  refine WP.al tysOk rfl rfl rfl rfl rfl rfl ?_
  intro g1
  refine WP.bld (cs := [iv 8, .func (.func 45) #[] #[], .func (.func 46) #[] #[], .func (.func 47) #[] #[]]) tysOk rfl True.intro rfl rfl rfl rfl rfl rfl rfl ?_
  refine WP.sto' tysOk [iv 8, .func (.func 45) #[] #[], .func (.func 46) #[] #[], .func (.func 47) #[] #[]] rfl rfl rfl rfl rfl rfl rfl rfl rfl .head rfl rfl ?_
  refine WP.retR tysOk rfl rfl ⟨_, _, _, _, rfl, ⟨_, rfl, .inr ⟨rfl, _, rfl, rfl, (SegAt.blk' (z := 4) .head rfl).1⟩⟩, rfl, rfl⟩ (fun w1 hw1 => ⟨rfl, Ret.below_ hw1 (.cons (.tail .head) .nil)⟩)

set_option maxRecDepth 20000 in
set_option maxHeartbeats 8000000 in
theorem inst_wrong_1_1_w {w : World} {gg1 : Nat} {n1 : Int} {x1 : Int} {r : Bool} (h : inst_wrong_1_1 n1 x1 = some r) (hb1 : Zc (PH.of w) gg1 0 = some (iv x1)) :
    Calls Try.prog 60 #[iv n1, .pointer (some ⟨gg1, 0, none⟩)] w fun e w' => e = .returned (.bool (r)) ∧ Below w.heap.size w w' := by
  unfold inst_wrong_1_1 at h
  refine enter_ Try.func60 rfl Try.ntmps60 rfl ?_
  iterate 4 (refine WP.st tysOk true rfl True.intro rfl rfl rfl rfl True.intro ?_)
  by_cases hh1 : 0 ≤ n1
  · rw [if_pos hh1] at h
    refine WP.yes rfl rfl (decide_eq_true hh1) ?_
    refine WP.st tysOk true rfl True.intro rfl rfl rfl rfl True.intro ?_
    refine WP.yes rfl rfl rfl ?_
    refine WP.ld1 tysOk rfl True.intro rfl rfl rfl rfl rfl rfl rfl (Held.cell (Held.mem (List.Mem.head _)) hb1) ?_
    refine WP.yes rfl rfl rfl ?_
    iterate 3 (refine WP.st tysOk true rfl True.intro rfl rfl rfl rfl True.intro ?_)
    cases h
    refine WP.retR tysOk rfl rfl ⟨_, _, rfl, rfl, rfl⟩ (fun w1 hw1 => ⟨rfl, Ret.below_ hw1 (.cons .head .nil)⟩)
  rw [if_neg hh1] at h
  refine WP.no rfl rfl (decide_eq_false hh1) rfl rfl ?_
  iterate 2 (refine WP.no rfl rfl rfl rfl rfl ?_)
  iterate 2 (refine WP.st tysOk true rfl True.intro rfl rfl rfl rfl True.intro ?_)
  cases h
  refine WP.retR tysOk rfl rfl ⟨_, _, rfl, rfl, rfl⟩ (fun w1 hw1 => ⟨rfl, Ret.below_ hw1 (.cons .head .nil)⟩)

set_option maxRecDepth 20000 in
set_option maxHeartbeats 8000000 in
theorem inst_within_w {w : World} {n1 : Int} {r : Bool} (h : inst_within n1 = some r) :
    Calls Try.prog 39 #[iv n1] w fun e w' => e = .returned (.bool (r)) ∧ Below w.heap.size w w' := by
  unfold inst_within at h
  refine enter_ Try.func39 rfl Try.ntmps39 rfl ?_
  iterate 4 (refine WP.st tysOk true rfl True.intro rfl rfl rfl rfl True.intro ?_)
  by_cases hh1 : (-4398046511104) ≤ n1
  · rw [if_pos hh1] at h
    refine WP.yes rfl rfl (decide_eq_true hh1) ?_
    refine WP.st tysOk true rfl True.intro rfl rfl rfl rfl True.intro ?_
    refine WP.yes rfl rfl rfl ?_
    iterate 3 (refine WP.st tysOk true rfl True.intro rfl rfl rfl rfl True.intro ?_)
    cases h
    refine WP.retR tysOk rfl rfl ⟨_, _, rfl, rfl, rfl⟩ (fun w1 hw1 => ⟨rfl, Ret.below_ hw1 (.cons .head .nil)⟩)
  rw [if_neg hh1] at h
  refine WP.no rfl rfl (decide_eq_false hh1) rfl rfl ?_
  refine WP.no rfl rfl rfl rfl rfl ?_
  iterate 2 (refine WP.st tysOk true rfl True.intro rfl rfl rfl rfl True.intro ?_)
  cases h
  refine WP.retR tysOk rfl rfl ⟨_, _, rfl, rfl, rfl⟩ (fun w1 hw1 => ⟨rfl, Ret.below_ hw1 (.cons .head .nil)⟩)

set_option maxRecDepth 20000 in
set_option maxHeartbeats 8000000 in
theorem inst_wrong_w {w : World} {a1 : Arc} {nodes1 : Int} {r : Int} (h : inst_wrong a1 nodes1 = some r) :
    Calls Try.prog 38 #[.agg #[iv a1.src, iv a1.dst, iv a1.low, iv a1.cap, iv a1.cost], iv nodes1] w fun e w' => e = .returned (.int .u16 (r)) ∧ Below w.heap.size w w' := by
  unfold inst_wrong at h
  refine enter_ Try.func38 rfl Try.ntmps38 rfl ?_
  refine WP.box rfl rfl rfl rfl rfl rfl ?_
  intro g1
  refine WP.box rfl rfl rfl rfl rfl rfl ?_
  intro g2
  iterate 5 (refine WP.st tysOk true rfl True.intro rfl rfl rfl rfl True.intro ?_)
  refine WP.ld1 tysOk rfl True.intro rfl rfl rfl rfl rfl rfl rfl (CellAt.blk (.tail .head) rfl) ?_
  obtain ⟨r1, hg1, h⟩ := bind_some h
  refine WP.callV rfl rfl rfl rfl rfl rfl rfl (by kernel_rfl) (fun w1 hw1 => (inst_wrong_1_1_w hg1 (KH.zcb hw1 .head rfl) :)) True.intro ?_
  iterate 2 (refine WP.st tysOk true rfl True.intro rfl rfl rfl rfl True.intro ?_)
  refine WP.cond_n rfl rfl (fun hh1 => ?_) (fun hh1 => ?_)
  · rw [if_neg (bneg hh1)] at h
    refine WP.cond_n rfl rfl (fun _ => ?_) (fun hh' => absurd hh' (bneg hh1))
    refine WP.st tysOk true rfl True.intro rfl rfl rfl rfl True.intro ?_
    cases h
    refine WP.retR tysOk rfl rfl ⟨_, _, rfl, rfl, rfl⟩ (fun w1 hw1 => ⟨rfl, Ret.below_ hw1 (.cons (.tail (.tail .head)) .nil)⟩)
  rw [if_pos hh1] at h
  iterate 2 (refine WP.st tysOk true rfl True.intro rfl rfl rfl rfl True.intro ?_)
  refine WP.ld1 tysOk rfl True.intro rfl rfl rfl rfl rfl rfl rfl (CellAt.blk (.tail .head) rfl) ?_
  obtain ⟨r2, hg2, h⟩ := bind_some h
  refine WP.callV rfl rfl rfl rfl rfl rfl rfl (by kernel_rfl) (fun w1 hw1 => (inst_wrong_1_1_w hg2 (KH.zcb hw1 .head rfl) :)) True.intro ?_
  iterate 2 (refine WP.st tysOk true rfl True.intro rfl rfl rfl rfl True.intro ?_)
  refine WP.cond_n rfl rfl (fun hh2 => ?_) (fun hh2 => ?_)
  · rw [if_neg (bneg hh2)] at h
    refine WP.st tysOk true rfl True.intro rfl rfl rfl rfl True.intro ?_
    cases h
    refine WP.retR tysOk rfl rfl ⟨_, _, rfl, rfl, rfl⟩ (fun w1 hw1 => ⟨rfl, Ret.below_ hw1 (.cons (.tail (.tail .head)) .nil)⟩)
  rw [if_pos hh2] at h
  refine WP.st tysOk true rfl True.intro rfl rfl rfl rfl True.intro ?_
  refine WP.ld1 tysOk rfl True.intro rfl rfl rfl rfl rfl rfl rfl (CellAt.blk (.tail .head) rfl) ?_
  iterate 2 (refine WP.st tysOk true rfl True.intro rfl rfl rfl rfl True.intro ?_)
  refine WP.cond_d rfl rfl (fun hh3 => ?_) (fun hh3 => ?_)
  · rw [if_pos hh3] at h
    refine WP.cond_d rfl rfl (fun _ => ?_) (fun hh' => (absurd hh3 hh'))
    refine WP.st tysOk true rfl True.intro rfl rfl rfl rfl True.intro ?_
    cases h
    refine WP.retR tysOk rfl rfl ⟨_, _, rfl, rfl, rfl⟩ (fun w1 hw1 => ⟨rfl, Ret.below_ hw1 (.cons (.tail (.tail .head)) .nil)⟩)
  rw [if_neg hh3] at h
  refine WP.st tysOk true rfl True.intro rfl rfl rfl rfl True.intro ?_
  refine WP.ld1 tysOk rfl True.intro rfl rfl rfl rfl rfl rfl rfl (CellAt.blk (.tail .head) rfl) ?_
  iterate 2 (refine WP.st tysOk true rfl True.intro rfl rfl rfl rfl True.intro ?_)
  refine WP.cond_d rfl rfl (fun hh4 => ?_) (fun hh4 => ?_)
  · rw [if_pos hh4] at h
    refine WP.cond_d rfl rfl (fun _ => ?_) (fun hh' => (absurd hh4 hh'))
    refine WP.st tysOk true rfl True.intro rfl rfl rfl rfl True.intro ?_
    cases h
    refine WP.retR tysOk rfl rfl ⟨_, _, rfl, rfl, rfl⟩ (fun w1 hw1 => ⟨rfl, Ret.below_ hw1 (.cons (.tail (.tail .head)) .nil)⟩)
  rw [if_neg hh4] at h
  refine WP.st tysOk true rfl True.intro rfl rfl rfl rfl True.intro ?_
  refine WP.ld1 tysOk rfl True.intro rfl rfl rfl rfl rfl rfl rfl (CellAt.blk (.tail .head) rfl) ?_
  iterate 2 (refine WP.st tysOk true rfl True.intro rfl rfl rfl rfl True.intro ?_)
  by_cases hh5 : ¬ a1.cap = 4611686018427387904
  · rw [if_pos hh5] at h
    refine WP.yes rfl rfl (decide_eq_true hh5) ?_
    refine WP.st tysOk true rfl True.intro rfl rfl rfl rfl True.intro ?_
    refine WP.yes rfl rfl rfl ?_
    refine WP.ld1 tysOk rfl True.intro rfl rfl rfl rfl rfl rfl rfl (CellAt.blk (.tail .head) rfl) ?_
    refine WP.yes rfl rfl rfl ?_
    refine WP.st tysOk true rfl True.intro rfl rfl rfl rfl True.intro ?_
    refine WP.yes rfl rfl rfl ?_
    refine WP.ld1 tysOk rfl True.intro rfl rfl rfl rfl rfl rfl rfl (CellAt.blk (.tail .head) rfl) ?_
    iterate 2 (refine WP.yes rfl rfl rfl ?_; refine WP.st tysOk true rfl True.intro rfl rfl rfl rfl True.intro ?_)
    by_cases hh6 : a1.cap < a1.low
    · rw [if_pos hh6] at h
      refine WP.no rfl rfl (decide_eq_true hh6) rfl rfl ?_
      iterate 2 (refine WP.no rfl rfl rfl rfl rfl ?_)
      refine WP.yes rfl rfl rfl ?_
      iterate 3 (refine WP.st tysOk true rfl True.intro rfl rfl rfl rfl True.intro ?_)
      refine WP.condT rfl rfl ?_
      refine WP.st tysOk true rfl True.intro rfl rfl rfl rfl True.intro ?_
      cases h
      refine WP.retR tysOk rfl rfl ⟨_, _, rfl, rfl, rfl⟩ (fun w1 hw1 => ⟨rfl, Ret.below_ hw1 (.cons (.tail (.tail .head)) .nil)⟩)
    rw [if_neg hh6] at h
    refine WP.yes rfl rfl (decide_eq_false hh6) ?_
    refine WP.st tysOk true rfl True.intro rfl rfl rfl rfl True.intro ?_
    refine WP.yes rfl rfl rfl ?_
    refine WP.ld1 tysOk rfl True.intro rfl rfl rfl rfl rfl rfl rfl (CellAt.blk (.tail .head) rfl) ?_
    refine WP.yes rfl rfl rfl ?_
    refine WP.st tysOk true rfl True.intro rfl rfl rfl rfl True.intro ?_
    refine WP.yes rfl rfl rfl ?_
    iterate 3 (refine WP.st tysOk true rfl True.intro rfl rfl rfl rfl True.intro ?_)
    refine WP.cond_d rfl rfl (fun hh7 => ?_) (fun hh7 => ?_)
    · rw [if_pos hh7] at h
      refine WP.st tysOk true rfl True.intro rfl rfl rfl rfl True.intro ?_
      cases h
      refine WP.retR tysOk rfl rfl ⟨_, _, rfl, rfl, rfl⟩ (fun w1 hw1 => ⟨rfl, Ret.below_ hw1 (.cons (.tail (.tail .head)) .nil)⟩)
    rw [if_neg hh7] at h
    refine WP.st tysOk true rfl True.intro rfl rfl rfl rfl True.intro ?_
    refine WP.ld1 tysOk rfl True.intro rfl rfl rfl rfl rfl rfl rfl (CellAt.blk (.tail .head) rfl) ?_
    obtain ⟨r3, hg3, h⟩ := bind_some h
    refine WP.callV rfl rfl rfl rfl rfl rfl rfl (by kernel_rfl) (fun w1 hw1 => (inst_within_w hg3  :)) True.intro ?_
    iterate 2 (refine WP.st tysOk true rfl True.intro rfl rfl rfl rfl True.intro ?_)
    refine WP.cond_n rfl rfl (fun hh8 => ?_) (fun hh8 => ?_)
    · rw [if_neg (bneg hh8)] at h
      refine WP.st tysOk true rfl True.intro rfl rfl rfl rfl True.intro ?_
      cases h
      refine WP.retR tysOk rfl rfl ⟨_, _, rfl, rfl, rfl⟩ (fun w1 hw1 => ⟨rfl, Ret.below_ hw1 (.cons (.tail (.tail .head)) .nil)⟩)
    rw [if_pos hh8] at h
    refine WP.st tysOk true rfl True.intro rfl rfl rfl rfl True.intro ?_
    cases h
    refine WP.retR tysOk rfl rfl ⟨_, _, rfl, rfl, rfl⟩ (fun w1 hw1 => ⟨rfl, Ret.below_ hw1 (.cons (.tail (.tail .head)) .nil)⟩)
  rw [if_neg hh5] at h
  refine WP.no rfl rfl (decide_eq_false hh5) rfl rfl ?_
  iterate 5 (refine WP.no rfl rfl rfl rfl rfl ?_)
  iterate 3 (refine WP.noU rfl rfl rfl rfl ?_)
  refine WP.no rfl rfl rfl rfl rfl ?_
  iterate 2 (refine WP.st tysOk true rfl True.intro rfl rfl rfl rfl True.intro ?_)
  refine WP.condF rfl rfl ?_
  refine WP.st tysOk true rfl True.intro rfl rfl rfl rfl True.intro ?_
  refine WP.ld1 tysOk rfl True.intro rfl rfl rfl rfl rfl rfl rfl (CellAt.blk (.tail .head) rfl) ?_
  obtain ⟨r4, hg4, h⟩ := bind_some h
  refine WP.callV rfl rfl rfl rfl rfl rfl rfl (by kernel_rfl) (fun w1 hw1 => (inst_within_w hg4  :)) True.intro ?_
  iterate 2 (refine WP.st tysOk true rfl True.intro rfl rfl rfl rfl True.intro ?_)
  refine WP.cond_n rfl rfl (fun hh9 => ?_) (fun hh9 => ?_)
  · rw [if_neg (bneg hh9)] at h
    refine WP.st tysOk true rfl True.intro rfl rfl rfl rfl True.intro ?_
    cases h
    refine WP.retR tysOk rfl rfl ⟨_, _, rfl, rfl, rfl⟩ (fun w1 hw1 => ⟨rfl, Ret.below_ hw1 (.cons (.tail (.tail .head)) .nil)⟩)
  rw [if_pos hh9] at h
  refine WP.st tysOk true rfl True.intro rfl rfl rfl rfl True.intro ?_
  cases h
  refine WP.retR tysOk rfl rfl ⟨_, _, rfl, rfl, rfl⟩ (fun w1 hw1 => ⟨rfl, Ret.below_ hw1 (.cons (.tail (.tail .head)) .nil)⟩)

set_option maxRecDepth 20000 in
set_option maxHeartbeats 8000000 in
theorem inst_Right_w {w : World} {v0 : Value} {i1 : Inst} {r : Int} (h : inst_Right i1 = some r) (p1 : InsZ (PH.of w) v0 i1) :
    Calls Try.prog 22 #[v0] w fun e w' => e = .returned (.int .u16 (r)) ∧ Below w.heap.size w w' := by
  obtain ⟨A1, c1, A2, c2, rfl, hs1, hs2⟩ := p1
  unfold inst_Right at h
  refine enter_ Try.func22 rfl Try.ntmps22 rfl ?_
  refine WP.box rfl rfl rfl rfl rfl rfl ?_
  intro g1
  iterate 2 (refine WP.st tysOk true rfl True.intro rfl rfl rfl rfl True.intro ?_)
  refine WP.ld1 tysOk rfl True.intro rfl rfl rfl rfl rfl rfl rfl (CellAt.blk .head rfl) ?_
  iterate 3 (refine WP.st tysOk true rfl True.intro rfl rfl rfl rfl True.intro ?_)
  by_cases hh1 : 64 < (i1.supply.length : Int)
  · rw [if_pos hh1] at h
    refine WP.no rfl rfl (decide_eq_true hh1) rfl rfl ?_
    iterate 3 (refine WP.no rfl rfl rfl rfl rfl ?_)
    refine WP.st tysOk true rfl True.intro rfl rfl rfl rfl True.intro ?_
    refine WP.condT rfl rfl ?_
    refine WP.st tysOk true rfl True.intro rfl rfl rfl rfl True.intro ?_
    cases h
    refine WP.retR tysOk rfl rfl ⟨_, _, rfl, rfl, rfl⟩ (fun w1 hw1 => ⟨rfl, Ret.below_ hw1 (.cons (.tail .head) .nil)⟩)
  rw [if_neg hh1] at h
  refine WP.yes rfl rfl (decide_eq_false hh1) ?_
  refine WP.st tysOk true rfl True.intro rfl rfl rfl rfl True.intro ?_
  refine WP.yes rfl rfl rfl ?_
  refine WP.ld1 tysOk rfl True.intro rfl rfl rfl rfl rfl rfl rfl (CellAt.blk .head rfl) ?_
  refine WP.yes rfl rfl rfl ?_
  refine WP.st tysOk true rfl True.intro rfl rfl rfl rfl True.intro ?_
  refine WP.yes rfl rfl rfl ?_
  iterate 2 (refine WP.st tysOk true rfl True.intro rfl rfl rfl rfl True.intro ?_)
  refine WP.cond_d rfl rfl (fun hh2 => ?_) (fun hh2 => ?_)
  · rw [if_pos hh2] at h
    refine WP.st tysOk true rfl True.intro rfl rfl rfl rfl True.intro ?_
    cases h
    refine WP.retR tysOk rfl rfl ⟨_, _, rfl, rfl, rfl⟩ (fun w1 hw1 => ⟨rfl, Ret.below_ hw1 (.cons (.tail .head) .nil)⟩)
  rw [if_neg hh2] at h
  refine WP.st tysOk true rfl True.intro rfl rfl rfl rfl True.intro ?_
  refine WP.ld1 tysOk rfl True.intro rfl rfl rfl rfl rfl rfl rfl (CellAt.blk .head rfl) ?_
  iterate 2 (refine WP.st tysOk true rfl True.intro rfl rfl rfl rfl True.intro ?_)
  refine WP.loop (α := Nat × Int) (fun x => lp (inst_Right_b1 i1) x.1 x.2 = some r) (fun x => [(1, .pointer (some ⟨g1, 0, none⟩)), (20, .slice A2 i1.arcs.length c2), (21, iv (i1.arcs.length : Int)), (22, iv x.2)]) (fun x => [.blk g1 27 [.slice A1 i1.supply.length c1, .slice A2 i1.arcs.length c2], .fz (PH.of w)]) (fun x => x.1) rfl (big, 0) h ?_ ?_ ?_
  · repeat (first | exact True.intro | refine And.intro rfl ?_)
  · exact (.cons .head (.cons .head .nil))
  rintro ⟨n3, s6⟩ h
  dsimp only at h ⊢
  rcases n3 with _ | n3
  · exact (lp_no h).elim
  replace h := lp_succ h
  unfold inst_Right_b1 at h
  try dsimp only at h
  refine WP.st tysOk true rfl True.intro rfl rfl rfl rfl True.intro ?_
  refine WP.cond_d rfl rfl (fun hh25 => ?_) (fun hh25 => ?_)
  · rw [if_pos hh25] at h
    obtain ⟨hj9, h⟩ := ck_some h
    refine WP.ixA tysOk rfl True.intro rfl rfl rfl rfl rfl rfl rfl rfl hj9 (hs2.ex hj9) ?_
    intro b9 _ hA9
    refine WP.ldm tysOk rfl True.intro rfl rfl rfl rfl rfl rfl rfl (hs2.seg hA9 (Held.mem (List.Mem.tail _ (List.Mem.head _))) hj9) ?_
    refine WP.al tysOk rfl rfl rfl rfl rfl rfl ?_
    intro g4
    refine WP.sto' tysOk [iv ((gt i1.arcs s6).src), iv ((gt i1.arcs s6).dst), iv ((gt i1.arcs s6).low), iv ((gt i1.arcs s6).cap), iv ((gt i1.arcs s6).cost)] rfl rfl rfl rfl rfl rfl rfl rfl rfl .head rfl rfl ?_
    refine WP.ldm tysOk rfl True.intro rfl rfl rfl rfl rfl rfl rfl (SegAt.blk' .head rfl) ?_
    refine WP.st tysOk true rfl True.intro rfl rfl rfl rfl True.intro ?_
    refine WP.ld1 tysOk rfl True.intro rfl rfl rfl rfl rfl rfl rfl (CellAt.blk (.tail .head) rfl) ?_
    refine WP.st tysOk true rfl True.intro rfl rfl rfl rfl True.intro ?_
    obtain ⟨r9, hg9, h⟩ := bind_some h
    refine WP.callV rfl rfl rfl rfl rfl rfl rfl (by kernel_rfl) (fun w1 hw1 => (inst_wrong_w hg9  :)) True.intro ?_
    iterate 3 (refine WP.st tysOk true rfl True.intro rfl rfl rfl rfl True.intro ?_)
    refine WP.cond_d rfl rfl (fun hh26 => ?_) (fun hh26 => ?_)
    · rw [if_pos hh26] at h
      iterate 2 (refine WP.st tysOk true rfl True.intro rfl rfl rfl rfl True.intro ?_)
      cases h
      refine WP.retR tysOk rfl rfl ⟨_, _, rfl, rfl, rfl⟩ (fun w1 hw1 => ⟨rfl, Ret.below_ hw1 (.cons (.tail (.tail .head)) .nil)⟩)
    rw [if_neg hh26] at h
    iterate 2 (refine WP.st tysOk true rfl True.intro rfl rfl rfl rfl True.intro ?_)
    refine WP.stop rfl (n3, w64 (s6 + 1)) ⟨h, Nat.lt_succ_self _⟩ ?_ ?_
    · repeat (first | exact True.intro | refine And.intro rfl ?_)
    exact (.cons (.tail .head) (.cons (.tail .head) .nil))
  rw [if_neg hh25] at h
  iterate 2 (refine WP.st tysOk true rfl True.intro rfl rfl rfl rfl True.intro ?_)
  refine WP.ld1 tysOk rfl True.intro rfl rfl rfl rfl rfl rfl rfl (CellAt.blk .head rfl) ?_
  iterate 2 (refine WP.st tysOk true rfl True.intro rfl rfl rfl rfl True.intro ?_)
  refine WP.loop (α := Nat × Int × Int) (fun x => lp (inst_Right_b2 i1) x.1 (x.2.1, x.2.2) = some r) (fun x => [(6, iv x.2.1), (36, .slice A1 i1.supply.length c1), (37, iv (i1.supply.length : Int)), (38, iv x.2.2)]) (fun x => [.fz (PH.of w)]) (fun x => x.1) rfl (big, 0, 0) h ?_ ?_ ?_
  · repeat (first | exact True.intro | refine And.intro rfl ?_)
  · exact (.cons (.tail .head) .nil)
  rintro ⟨n4, sum14, s8⟩ h
  dsimp only at h ⊢
  rcases n4 with _ | n4
  · exact (lp_no h).elim
  replace h := lp_succ h
  unfold inst_Right_b2 at h
  try dsimp only at h
  refine WP.st tysOk true rfl True.intro rfl rfl rfl rfl True.intro ?_
  refine WP.cond_d rfl rfl (fun hh33 => ?_) (fun hh33 => ?_)
  · rw [if_pos hh33] at h
    obtain ⟨hj12, h⟩ := ck_some h
    refine WP.ixA tysOk rfl True.intro rfl rfl rfl rfl rfl rfl rfl rfl hj12 (hs1.ex hj12) ?_
    intro b12 _ hA12
    refine WP.ld1 tysOk rfl True.intro rfl rfl rfl rfl rfl rfl rfl (hs1.at0 hA12 (Held.mem (List.Mem.head _)) hj12 rfl) ?_
    iterate 2 (refine WP.st tysOk true rfl True.intro rfl rfl rfl rfl True.intro ?_)
    obtain ⟨r12, hg12, h⟩ := bind_some h
    refine WP.callV rfl rfl rfl rfl rfl rfl rfl (by kernel_rfl) (fun w1 hw1 => (inst_within_w hg12  :)) True.intro ?_
    refine WP.st tysOk true rfl True.intro rfl rfl rfl rfl True.intro ?_
    refine WP.cond_n rfl rfl (fun hh34 => ?_) (fun hh34 => ?_)
    · rw [if_neg (bneg hh34)] at h
      refine WP.st tysOk true rfl True.intro rfl rfl rfl rfl True.intro ?_
      cases h
      refine WP.retR tysOk rfl rfl ⟨_, _, rfl, rfl, rfl⟩ (fun w1 hw1 => ⟨rfl, Ret.below_ hw1 (.cons .head .nil)⟩)
    rw [if_pos hh34] at h
    iterate 3 (refine WP.st tysOk true rfl True.intro rfl rfl rfl rfl True.intro ?_)
    obtain ⟨sum15, hx9, h⟩ := lt_some h
    refine WP.st tysOk true rfl True.intro rfl rfl rfl rfl True.intro ?_
    refine WP.retell (s := 6) (.int .i64 sum15) rfl (congrArg (Value.int .i64) hx9.symm) ?_
    iterate 2 (refine WP.st tysOk true rfl True.intro rfl rfl rfl rfl True.intro ?_)
    refine WP.stop rfl (n4, sum15, w64 (s8 + 1)) ⟨h, Nat.lt_succ_self _⟩ ?_ ?_
    · repeat (first | exact True.intro | refine And.intro rfl ?_)
    exact (.cons .head .nil)
  rw [if_neg hh33] at h
  iterate 2 (refine WP.st tysOk true rfl True.intro rfl rfl rfl rfl True.intro ?_)
  refine WP.cond_d rfl rfl (fun hh35 => ?_) (fun hh35 => ?_)
  · rw [if_pos hh35] at h
    refine WP.st tysOk true rfl True.intro rfl rfl rfl rfl True.intro ?_
    cases h
    refine WP.retR tysOk rfl rfl ⟨_, _, rfl, rfl, rfl⟩ (fun w1 hw1 => ⟨rfl, Ret.below_ hw1 (.cons .head .nil)⟩)
  rw [if_neg hh35] at h
  refine WP.st tysOk true rfl True.intro rfl rfl rfl rfl True.intro ?_
  cases h
  refine WP.retR tysOk rfl rfl ⟨_, _, rfl, rfl, rfl⟩ (fun w1 hw1 => ⟨rfl, Ret.below_ hw1 (.cons .head .nil)⟩)

abbrev inst_Copy_S (r : Inst) : Value → Heap → Prop := fun v L => ∃ (A1 : Option Addr) (n1 c1 : Nat) (A2 : Option Addr) (n2 c2 : Nat), v = .agg #[.slice A1 n1 c1, .slice A2 n2 c2] ∧ OwF A1 n1 r.supply ∧ OwF A2 n2 r.arcs ∧ L = [Ow (fI .i64) 2 A1 n1 c1 r.supply, Ow fA 23 A2 n2 c2 r.arcs]
set_option maxRecDepth 20000 in
set_option maxHeartbeats 8000000 in
theorem inst_Copy_w {w : World} {v0 : Value} {i1 : Inst} {r : Inst} (h : inst_Copy i1 = some r) (p1 : InsZ (PH.of w) v0 i1) :
    Calls Try.prog 50 #[v0] w fun e w' => ∃ v L, e = .returned v ∧ inst_Copy_S r v L ∧ Ret w w' L := by
  obtain ⟨A1, c1, A2, c2, rfl, hs1, hs2⟩ := p1
  unfold inst_Copy at h
  refine enter_ Try.func50 rfl Try.ntmps50 rfl ?_
  refine WP.box rfl rfl rfl rfl rfl rfl ?_
  intro g1
  refine WP.al tysOk rfl rfl rfl rfl rfl rfl ?_
  intro g2
  obtain ⟨r1, hg1, h⟩ := bind_some h
  obtain ⟨r2, hg2, h⟩ := bind_some h
  refine WP.drawL 7 [(2, [], fun _ => slices_Clone_int64_S r1), (5, [], fun _ => slices_Clone_api_Arc_S r2)] rfl (by kernel_rfl) (by kernel_rfl) (by kernel_rfl) ?_
  refine WP.st tysOk true rfl ⟨⟨rfl, rfl⟩, rfl⟩ rfl rfl rfl rfl True.intro ?_
  refine WP.ld1 tysOk rfl ⟨⟨rfl, rfl⟩, rfl⟩ rfl rfl rfl rfl rfl rfl rfl (CellAt.blk (.tail .head) rfl) ?_
  refine WP.lcall rfl ⟨rfl, rfl⟩ rfl rfl rfl rfl rfl rfl rfl (by kernel_rfl) (fun w1 hw1 => (slices_Clone_int64_w hg1 (hs1.le' ((Held.mem (List.Mem.tail _ (List.Mem.tail _ (List.Mem.head _)))) _ _ hw1)).of :)) ?_
  rintro _ _ ⟨A3, n1, c3, rfl, hf1, rfl⟩
  refine WP.st tysOk true rfl ⟨⟨rfl, rfl⟩, rfl⟩ rfl rfl rfl rfl True.intro ?_
  refine WP.ld1 tysOk rfl ⟨⟨rfl, rfl⟩, rfl⟩ rfl rfl rfl rfl rfl rfl rfl (CellAt.blk (.tail .head) rfl) ?_
  refine WP.lcall rfl ⟨rfl, rfl⟩ rfl rfl rfl rfl rfl rfl rfl (by kernel_rfl) (fun w1 hw1 => (slices_Clone_api_Arc_w hg2 (hs2.le' ((Held.mem (List.Mem.tail _ (List.Mem.tail _ (List.Mem.head _)))) _ _ hw1)).of :)) ?_
  rintro _ _ ⟨A4, n2, c4, rfl, hf2, rfl⟩
  refine WP.bld (cs := [.slice A3 n1 c3, .slice A4 n2 c4]) tysOk rfl ⟨⟨rfl, rfl⟩, rfl⟩ rfl rfl rfl rfl rfl rfl rfl ?_
  refine WP.lend rfl ⟨rfl, rfl⟩ ?_
  refine WP.sto' tysOk [.slice A3 n1 c3, .slice A4 n2 c4] rfl rfl rfl rfl rfl rfl rfl rfl rfl (.tail (.tail .head)) rfl rfl ?_
  cases h
  refine WP.retR tysOk rfl rfl ⟨_, _, _, _, rfl, ⟨_, rfl, .inr ⟨rfl, _, rfl, rfl, (SegAt.blk' (z := 2) .head rfl).1⟩⟩, rfl, rfl⟩ (fun w1 hw1 => ⟨_, _, rfl, ⟨A3, n1, c3, A4, n2, c4, rfl, hf1, hf2, rfl⟩, Ret.of_KH hw1 (.cons (.tail (.tail .head)) (.cons (.tail .head) (.cons (.tail (.tail .head)) .nil)))⟩)

set_option maxRecDepth 20000 in
set_option maxHeartbeats 8000000 in
theorem two_series_1_w {w : World} {x1 : Arc} {y1 : Arc} {n1 : Int} {r : Bool} (h : two_series_1 x1 y1 n1 = some r) :
    Calls Try.prog 45 #[.agg #[iv x1.src, iv x1.dst, iv x1.low, iv x1.cap, iv x1.cost], .agg #[iv y1.src, iv y1.dst, iv y1.low, iv y1.cap, iv y1.cost], iv n1] w fun e w' => e = .returned (.bool (r)) ∧ Below w.heap.size w w' := by
  unfold two_series_1 at h
  refine enter_ Try.func45 rfl Try.ntmps45 rfl ?_
  refine WP.box rfl rfl rfl rfl rfl rfl ?_
  intro g1
  refine WP.box rfl rfl rfl rfl rfl rfl ?_
  intro g2
  iterate 2 (refine WP.st tysOk true rfl True.intro rfl rfl rfl rfl True.intro ?_)
  refine WP.ld1 tysOk rfl True.intro rfl rfl rfl rfl rfl rfl rfl (CellAt.blk (.tail .head) rfl) ?_
  iterate 3 (refine WP.st tysOk true rfl True.intro rfl rfl rfl rfl True.intro ?_)
  by_cases hh1 : x1.dst = n1
  · rw [if_pos hh1] at h
    refine WP.yes rfl rfl (decide_eq_true hh1) ?_
    refine WP.st tysOk true rfl True.intro rfl rfl rfl rfl True.intro ?_
    refine WP.yes rfl rfl rfl ?_
    refine WP.ld1 tysOk rfl True.intro rfl rfl rfl rfl rfl rfl rfl (CellAt.blk .head rfl) ?_
    refine WP.yes rfl rfl rfl ?_
    refine WP.st tysOk true rfl True.intro rfl rfl rfl rfl True.intro ?_
    refine WP.yes rfl rfl rfl ?_
    iterate 3 (refine WP.st tysOk true rfl True.intro rfl rfl rfl rfl True.intro ?_)
    cases h
    refine WP.retR tysOk rfl rfl ⟨_, _, rfl, rfl, rfl⟩ (fun w1 hw1 => ⟨rfl, Ret.below_ hw1 (.cons (.tail (.tail .head)) .nil)⟩)
  rw [if_neg hh1] at h
  refine WP.no rfl rfl (decide_eq_false hh1) rfl rfl ?_
  iterate 3 (refine WP.no rfl rfl rfl rfl rfl ?_)
  iterate 2 (refine WP.st tysOk true rfl True.intro rfl rfl rfl rfl True.intro ?_)
  cases h
  refine WP.retR tysOk rfl rfl ⟨_, _, rfl, rfl, rfl⟩ (fun w1 hw1 => ⟨rfl, Ret.below_ hw1 (.cons (.tail (.tail .head)) .nil)⟩)

set_option maxRecDepth 20000 in
set_option maxHeartbeats 8000000 in
theorem two_least_w {w : World} {a1 : Int} {b1 : Int} {s1 : Int} {r : Int} (h : two_least a1 b1 s1 = some r) :
    Calls Try.prog 63 #[iv a1, iv b1, iv s1] w fun e w' => e = .returned (iv r) ∧ Below w.heap.size w w' := by
  unfold two_least at h
  refine enter_ Try.func63 rfl Try.ntmps63 rfl ?_
  iterate 2 (refine WP.st tysOk true rfl True.intro rfl rfl rfl rfl True.intro ?_)
  by_cases hh1 : b1 = 4611686018427387904
  · rw [if_pos hh1] at h
    refine WP.callV rfl rfl rfl rfl rfl rfl rfl (by kernel_rfl) (fun w1 hw1 => two_bound_nil hh1) True.intro ?_
    iterate 3 (refine WP.st tysOk true rfl True.intro rfl rfl rfl rfl True.intro ?_)
    refine WP.condF rfl rfl ?_
    iterate 2 (refine WP.st tysOk true rfl True.intro rfl rfl rfl rfl True.intro ?_)
    cases h
    refine WP.retR tysOk rfl rfl ⟨_, _, rfl, rfl, rfl⟩ (fun w1 hw1 => ⟨rfl, Ret.below_ hw1 (.cons .head .nil)⟩)
  rw [if_neg hh1] at h
  refine WP.callS (two_bound_S b1) rfl rfl rfl rfl rfl rfl rfl (by kernel_rfl) (fun w1 hw1 => two_bound_some hh1) ?_
  rintro _ _ ⟨g1, rfl, rfl⟩
  iterate 3 (refine WP.st tysOk true rfl True.intro rfl rfl rfl rfl True.intro ?_)
  refine WP.condT rfl rfl ?_
  iterate 3 (refine WP.st tysOk true rfl True.intro rfl rfl rfl rfl True.intro ?_)
  refine WP.ld1 tysOk rfl True.intro rfl rfl rfl rfl rfl rfl rfl (CellAt.blk .head rfl) ?_
  iterate 2 (refine WP.st tysOk true rfl True.intro rfl rfl rfl rfl True.intro ?_)
  refine WP.mn rfl True.intro rfl rfl rfl rfl rfl rfl ?_
  refine WP.st tysOk true rfl True.intro rfl rfl rfl rfl True.intro ?_
  cases h
  refine WP.retR tysOk rfl rfl ⟨_, _, rfl, rfl, rfl⟩ (fun w1 hw1 => ⟨rfl, Ret.below_ hw1 (.cons (.tail .head) .nil)⟩)

set_option maxRecDepth 20000 in
set_option maxHeartbeats 8000000 in
theorem two_pair_chain_w {w : World} {p1 : Pair} {r : Arc} (h : two_pair_chain p1 = some r) :
    Calls Try.prog 46 #[.agg #[iv p1.x.src, iv p1.x.dst, iv p1.x.low, iv p1.x.cap, iv p1.x.cost, iv p1.y.src, iv p1.y.dst, iv p1.y.low, iv p1.y.cap, iv p1.y.cost, iv p1.n, iv p1.s]] w fun e w' => e = .returned (.agg #[iv r.src, iv r.dst, iv r.low, iv r.cap, iv r.cost]) ∧ Below w.heap.size w w' := by
  unfold two_pair_chain at h
  refine enter_ Try.func46 rfl Try.ntmps46 rfl ?_
  refine WP.box rfl rfl rfl rfl rfl rfl ?_
  intro g1
  refine WP.al tysOk rfl rfl rfl rfl rfl rfl ?_
  intro g2
  obtain ⟨r1, hg1, h⟩ := bind_some h
  refine WP.drawL 41 [(30, [], fun _ => constSpec (iv r1))] rfl (by kernel_rfl) (by kernel_rfl) (by kernel_rfl) ?_
  iterate 3 (refine WP.st tysOk true rfl ⟨⟨rfl, rfl⟩, rfl⟩ rfl rfl rfl rfl True.intro ?_)
  refine WP.ld1 tysOk rfl ⟨⟨rfl, rfl⟩, rfl⟩ rfl rfl rfl rfl rfl rfl rfl (CellAt.blk (.tail .head) rfl) ?_
  iterate 3 (refine WP.st tysOk true rfl ⟨⟨rfl, rfl⟩, rfl⟩ rfl rfl rfl rfl True.intro ?_)
  refine WP.ld1 tysOk rfl ⟨⟨rfl, rfl⟩, rfl⟩ rfl rfl rfl rfl rfl rfl rfl (CellAt.blk (.tail .head) rfl) ?_
  iterate 3 (refine WP.st tysOk true rfl ⟨⟨rfl, rfl⟩, rfl⟩ rfl rfl rfl rfl True.intro ?_)
  refine WP.ld1 tysOk rfl ⟨⟨rfl, rfl⟩, rfl⟩ rfl rfl rfl rfl rfl rfl rfl (CellAt.blk (.tail .head) rfl) ?_
  iterate 3 (refine WP.st tysOk true rfl ⟨⟨rfl, rfl⟩, rfl⟩ rfl rfl rfl rfl True.intro ?_)
  refine WP.ld1 tysOk rfl ⟨⟨rfl, rfl⟩, rfl⟩ rfl rfl rfl rfl rfl rfl rfl (CellAt.blk (.tail .head) rfl) ?_
  refine WP.st tysOk true rfl ⟨⟨rfl, rfl⟩, rfl⟩ rfl rfl rfl rfl True.intro ?_
  refine WP.ld1 tysOk rfl ⟨⟨rfl, rfl⟩, rfl⟩ rfl rfl rfl rfl rfl rfl rfl (CellAt.blk (.tail .head) rfl) ?_
  refine WP.st tysOk true rfl ⟨⟨rfl, rfl⟩, rfl⟩ rfl rfl rfl rfl True.intro ?_
  refine WP.mx rfl ⟨⟨rfl, rfl⟩, rfl⟩ rfl rfl rfl rfl rfl rfl ?_
  iterate 3 (refine WP.st tysOk true rfl ⟨⟨rfl, rfl⟩, rfl⟩ rfl rfl rfl rfl True.intro ?_)
  refine WP.ld1 tysOk rfl ⟨⟨rfl, rfl⟩, rfl⟩ rfl rfl rfl rfl rfl rfl rfl (CellAt.blk (.tail .head) rfl) ?_
  iterate 3 (refine WP.st tysOk true rfl ⟨⟨rfl, rfl⟩, rfl⟩ rfl rfl rfl rfl True.intro ?_)
  refine WP.ld1 tysOk rfl ⟨⟨rfl, rfl⟩, rfl⟩ rfl rfl rfl rfl rfl rfl rfl (CellAt.blk (.tail .head) rfl) ?_
  refine WP.st tysOk true rfl ⟨⟨rfl, rfl⟩, rfl⟩ rfl rfl rfl rfl True.intro ?_
  refine WP.ld1 tysOk rfl ⟨⟨rfl, rfl⟩, rfl⟩ rfl rfl rfl rfl rfl rfl rfl (CellAt.blk (.tail .head) rfl) ?_
  refine WP.callV rfl rfl rfl rfl rfl rfl rfl (by kernel_rfl) (fun w1 hw1 => (two_least_w hg1  :)) ⟨⟨rfl, rfl⟩, rfl⟩ ?_
  iterate 3 (refine WP.st tysOk true rfl ⟨⟨rfl, rfl⟩, rfl⟩ rfl rfl rfl rfl True.intro ?_)
  refine WP.ld1 tysOk rfl ⟨⟨rfl, rfl⟩, rfl⟩ rfl rfl rfl rfl rfl rfl rfl (CellAt.blk (.tail .head) rfl) ?_
  iterate 3 (refine WP.st tysOk true rfl ⟨⟨rfl, rfl⟩, rfl⟩ rfl rfl rfl rfl True.intro ?_)
  refine WP.ld1 tysOk rfl ⟨⟨rfl, rfl⟩, rfl⟩ rfl rfl rfl rfl rfl rfl rfl (CellAt.blk (.tail .head) rfl) ?_
  refine WP.st tysOk true rfl ⟨⟨rfl, rfl⟩, rfl⟩ rfl rfl rfl rfl True.intro ?_
  refine WP.bld (cs := [iv p1.x.src, iv p1.y.dst, iv (if (w64 (p1.y.low - p1.s)) > p1.x.low then w64 (p1.y.low - p1.s) else p1.x.low), iv r1, iv (w64 (p1.x.cost + p1.y.cost))]) tysOk rfl ⟨⟨rfl, rfl⟩, rfl⟩ rfl rfl rfl rfl rfl rfl rfl ?_
  refine WP.lend rfl ⟨rfl, rfl⟩ ?_
  refine WP.sto' tysOk [iv p1.x.src, iv p1.y.dst, iv (if (w64 (p1.y.low - p1.s)) > p1.x.low then w64 (p1.y.low - p1.s) else p1.x.low), iv r1, iv (w64 (p1.x.cost + p1.y.cost))] rfl rfl rfl rfl rfl rfl rfl rfl rfl .head rfl rfl ?_
  cases h
  refine WP.retR tysOk rfl rfl ⟨_, _, _, _, rfl, ⟨_, rfl, .inr ⟨rfl, _, rfl, rfl, (SegAt.blk' (z := 5) .head rfl).1⟩⟩, rfl, rfl⟩ (fun w1 hw1 => ⟨rfl, Ret.below_ hw1 (.cons (.tail (.tail .head)) .nil)⟩)

set_option maxRecDepth 20000 in
set_option maxHeartbeats 8000000 in
theorem two_shape_at_1_w {w : World} {v0 : Value} {v1 : Value} {i1 : Inst} {x1 : Inst} {x2 : Int} {r : Spot × Pair × Bool} (h : two_shape_at_1 i1 x1 x2 = some r) (p1 : GraphZ (PH.of w) v0 i1) (p2 : InsZ (PH.of w) v1 x1) :
    Calls Try.prog 27 #[.agg #[iv 8, .func (.func 45) #[] #[], .func (.func 46) #[] #[], .func (.func 47) #[] #[]], v0, v1, iv x2] w fun e w' => e = .returned (.tuple #[.agg #[iv r.1.node, iv r.1.a, iv r.1.b, iv r.1.new.src, iv r.1.new.dst, iv r.1.new.low, iv r.1.new.cap, iv r.1.new.cost], .agg #[iv r.2.1.x.src, iv r.2.1.x.dst, iv r.2.1.x.low, iv r.2.1.x.cap, iv r.2.1.x.cost, iv r.2.1.y.src, iv r.2.1.y.dst, iv r.2.1.y.low, iv r.2.1.y.cap, iv r.2.1.y.cost, iv r.2.1.n, iv r.2.1.s], .bool (r.2.2)]) ∧ Below w.heap.size w w' := by
  obtain ⟨gg1, rfl⟩ := p1.ptr'
  obtain ⟨A1, c1, A2, c2, rfl, hs1, hs2⟩ := p2
  unfold two_shape_at_1 at h
  refine enter_ Try.func27 rfl Try.ntmps27 rfl ?_
  refine WP.box rfl rfl rfl rfl rfl rfl ?_
  intro g1
  refine WP.box rfl rfl rfl rfl rfl rfl ?_
  intro g2
  refine WP.al tysOk rfl rfl rfl rfl rfl rfl ?_
  intro g3
  refine WP.al tysOk rfl rfl rfl rfl rfl rfl ?_
  intro g4
  iterate 3 (refine WP.st tysOk true rfl True.intro rfl rfl rfl rfl True.intro ?_)
  obtain ⟨r1, hg1, h⟩ := bind_some h
  refine WP.callS (adj_Graph_At_S r1) rfl rfl rfl rfl rfl rfl rfl (by kernel_rfl) (fun w1 hw1 => (adj_Graph_At_w hg1 (p1.le ((Held.mem (List.Mem.tail _ (List.Mem.tail _ (List.Mem.tail _ (List.Mem.tail _ (List.Mem.head _)))))) _ _ hw1)) :)) ?_
  rintro _ _ ⟨A3, n1, c3, rfl, hf1, rfl⟩
  iterate 2 (refine WP.st tysOk true rfl True.intro rfl rfl rfl rfl True.intro ?_)
  refine WP.lenO (xs := r1) tysOk rfl True.intro rfl rfl rfl rfl rfl rfl hf1 ?_
  iterate 2 (refine WP.st tysOk true rfl True.intro rfl rfl rfl rfl True.intro ?_)
  by_cases hh1 : ¬ (r1.length : Int) = 2
  · rw [if_pos hh1] at h
    refine WP.no rfl rfl (decide_eq_true hh1) rfl rfl ?_
    iterate 3 (refine WP.no rfl rfl rfl rfl rfl ?_)
    refine WP.st tysOk true rfl True.intro rfl rfl rfl rfl True.intro ?_
    refine WP.condT rfl rfl ?_
    refine WP.bld (cs := [iv 0, iv 0, iv 0, iv 0, iv 0, iv 0, iv 0, iv 0]) tysOk rfl True.intro rfl rfl rfl rfl rfl rfl rfl ?_
    refine WP.bld (cs := [iv 0, iv 0, iv 0, iv 0, iv 0, iv 0, iv 0, iv 0, iv 0, iv 0, iv 0, iv 0]) tysOk rfl True.intro rfl rfl rfl rfl rfl rfl rfl ?_
    refine WP.sto' tysOk [iv 0, iv 0, iv 0, iv 0, iv 0, iv 0, iv 0, iv 0] rfl rfl rfl rfl rfl rfl rfl rfl rfl (.tail (.tail .head)) rfl rfl ?_
    refine WP.sto' tysOk [iv 0, iv 0, iv 0, iv 0, iv 0, iv 0, iv 0, iv 0, iv 0, iv 0, iv 0, iv 0] rfl rfl rfl rfl rfl rfl rfl rfl rfl (.tail (.tail .head)) rfl rfl ?_
    refine WP.st tysOk true rfl True.intro rfl rfl rfl rfl True.intro ?_
    cases h
    refine WP.retR tysOk rfl rfl ⟨_, _, _, _, rfl, ⟨_, rfl, .inr ⟨rfl, _, rfl, rfl, (SegAt.blk' (z := 8) (.tail .head) rfl).1⟩⟩, ⟨_, _, _, _, rfl, ⟨_, rfl, .inr ⟨rfl, _, rfl, rfl, (SegAt.blk' (z := 12) .head rfl).1⟩⟩, ⟨_, _, rfl, rfl, rfl⟩, rfl⟩, rfl⟩ (fun w1 hw1 => ⟨rfl, Ret.below_ hw1 (.cons (.tail (.tail (.tail (.tail (.tail .head))))) .nil)⟩)
  rw [if_neg hh1] at h
  refine WP.yes rfl rfl (decide_eq_false hh1) ?_
  iterate 2 (refine WP.st tysOk true rfl True.intro rfl rfl rfl rfl True.intro ?_; refine WP.yes rfl rfl rfl ?_)
  obtain ⟨r2, hg2, h⟩ := bind_some h
  refine WP.callV rfl rfl rfl rfl rfl rfl rfl (by kernel_rfl) (fun w1 hw1 => (adj_Graph_Loops_w hg2 (p1.le ((Held.mem (List.Mem.tail _ (List.Mem.tail _ (List.Mem.tail _ (List.Mem.tail _ (List.Mem.tail _ (List.Mem.head _))))))) _ _ hw1)) :)) True.intro ?_
  refine WP.yes rfl rfl rfl ?_
  iterate 2 (refine WP.st tysOk true rfl True.intro rfl rfl rfl rfl True.intro ?_)
  refine WP.cond_d rfl rfl (fun hh2 => ?_) (fun hh2 => ?_)
  · rw [if_pos hh2] at h
    refine WP.bld (cs := [iv 0, iv 0, iv 0, iv 0, iv 0, iv 0, iv 0, iv 0]) tysOk rfl True.intro rfl rfl rfl rfl rfl rfl rfl ?_
    refine WP.bld (cs := [iv 0, iv 0, iv 0, iv 0, iv 0, iv 0, iv 0, iv 0, iv 0, iv 0, iv 0, iv 0]) tysOk rfl True.intro rfl rfl rfl rfl rfl rfl rfl ?_
    refine WP.sto' tysOk [iv 0, iv 0, iv 0, iv 0, iv 0, iv 0, iv 0, iv 0] rfl rfl rfl rfl rfl rfl rfl rfl rfl (.tail (.tail .head)) rfl rfl ?_
    refine WP.sto' tysOk [iv 0, iv 0, iv 0, iv 0, iv 0, iv 0, iv 0, iv 0, iv 0, iv 0, iv 0, iv 0] rfl rfl rfl rfl rfl rfl rfl rfl rfl (.tail (.tail .head)) rfl rfl ?_
    refine WP.st tysOk true rfl True.intro rfl rfl rfl rfl True.intro ?_
    cases h
    refine WP.retR tysOk rfl rfl ⟨_, _, _, _, rfl, ⟨_, rfl, .inr ⟨rfl, _, rfl, rfl, (SegAt.blk' (z := 8) (.tail .head) rfl).1⟩⟩, ⟨_, _, _, _, rfl, ⟨_, rfl, .inr ⟨rfl, _, rfl, rfl, (SegAt.blk' (z := 12) .head rfl).1⟩⟩, ⟨_, _, rfl, rfl, rfl⟩, rfl⟩, rfl⟩ (fun w1 hw1 => ⟨rfl, Ret.below_ hw1 (.cons (.tail (.tail (.tail (.tail (.tail .head))))) .nil)⟩)
  rw [if_neg hh2] at h
  refine WP.draw rfl (by kernel_rfl) (by kernel_rfl) ?_
  refine WP.st tysOk true rfl rfl rfl rfl rfl rfl True.intro ?_
  obtain ⟨hj1, h⟩ := ck_some h
  refine WP.ixO tysOk rfl rfl rfl rfl rfl rfl rfl rfl rfl rfl hf1 hj1 ?_
  intro b1 hA1
  refine WP.ld1 tysOk rfl rfl rfl rfl rfl rfl rfl rfl rfl (OwS.at0 .head hA1 hj1 rfl) ?_
  refine WP.st tysOk true rfl rfl rfl rfl rfl rfl True.intro ?_
  obtain ⟨hj2, h⟩ := ck_some h
  refine WP.ixO tysOk rfl rfl rfl rfl rfl rfl rfl rfl rfl rfl hf1 hj2 ?_
  intro b2 hA2
  refine WP.ld1 tysOk rfl rfl rfl rfl rfl rfl rfl rfl rfl (OwS.at0 .head hA2 hj2 rfl) ?_
  iterate 2 (refine WP.st tysOk true rfl rfl rfl rfl rfl rfl True.intro ?_)
  refine WP.qend rfl ?_
  obtain ⟨hj3, h⟩ := ck_some h
  obtain ⟨hj4, h⟩ := ck_some h
  obtain ⟨r3, hg3, h⟩ := bind_some h
  refine WP.drawL 15 [(13, [], fun _ => constSpec (.bool (r3)))] rfl (by kernel_rfl) (by kernel_rfl) (by kernel_rfl) ?_
  refine WP.st tysOk true rfl ⟨⟨rfl, rfl⟩, rfl⟩ rfl rfl rfl rfl True.intro ?_
  refine WP.ld1 tysOk rfl ⟨⟨rfl, rfl⟩, rfl⟩ rfl rfl rfl rfl rfl rfl rfl (CellAt.blk (.tail (.tail (.tail (.tail .head)))) rfl) ?_
  refine WP.st tysOk true rfl ⟨⟨rfl, rfl⟩, rfl⟩ rfl rfl rfl rfl True.intro ?_
  refine WP.ld1 tysOk rfl ⟨⟨rfl, rfl⟩, rfl⟩ rfl rfl rfl rfl rfl rfl rfl (CellAt.blk (.tail (.tail (.tail .head))) rfl) ?_
  refine WP.st tysOk true rfl ⟨⟨rfl, rfl⟩, rfl⟩ rfl rfl rfl rfl True.intro ?_
  refine WP.ixA tysOk rfl ⟨⟨rfl, rfl⟩, rfl⟩ rfl rfl rfl rfl rfl rfl rfl rfl hj3 (hs2.ex hj3) ?_
  intro b3 _ hA3
  refine WP.ldm tysOk rfl ⟨⟨rfl, rfl⟩, rfl⟩ rfl rfl rfl rfl rfl rfl rfl (hs2.seg hA3 (Held.mem (List.Mem.tail _ (List.Mem.tail _ (List.Mem.tail _ (List.Mem.tail _ (List.Mem.tail _ (List.Mem.head _))))))) hj3) ?_
  refine WP.st tysOk true rfl ⟨⟨rfl, rfl⟩, rfl⟩ rfl rfl rfl rfl True.intro ?_
  refine WP.ld1 tysOk rfl ⟨⟨rfl, rfl⟩, rfl⟩ rfl rfl rfl rfl rfl rfl rfl (CellAt.blk (.tail (.tail (.tail .head))) rfl) ?_
  refine WP.st tysOk true rfl ⟨⟨rfl, rfl⟩, rfl⟩ rfl rfl rfl rfl True.intro ?_
  refine WP.ixA tysOk rfl ⟨⟨rfl, rfl⟩, rfl⟩ rfl rfl rfl rfl rfl rfl rfl rfl hj4 (hs2.ex hj4) ?_
  intro b4 _ hA4
  refine WP.ldm tysOk rfl ⟨⟨rfl, rfl⟩, rfl⟩ rfl rfl rfl rfl rfl rfl rfl (hs2.seg hA4 (Held.mem (List.Mem.tail _ (List.Mem.tail _ (List.Mem.tail _ (List.Mem.tail _ (List.Mem.tail _ (List.Mem.head _))))))) hj4) ?_
  refine WP.st tysOk true rfl ⟨⟨rfl, rfl⟩, rfl⟩ rfl rfl rfl rfl True.intro ?_
  refine WP.callV rfl rfl rfl rfl rfl rfl rfl (by kernel_rfl) (fun w1 hw1 => (two_series_1_w hg3  :)) ⟨⟨rfl, rfl⟩, rfl⟩ ?_
  refine WP.st tysOk true rfl ⟨⟨rfl, rfl⟩, rfl⟩ rfl rfl rfl rfl True.intro ?_
  refine WP.lend rfl ⟨rfl, rfl⟩ ?_
  refine WP.cond_n rfl rfl (fun hh3 => ?_) (fun hh3 => ?_)
  · rw [if_neg (bneg hh3)] at h
    iterate 4 (refine WP.st tysOk true rfl True.intro rfl rfl rfl rfl True.intro ?_)
    obtain ⟨r4, hg4, h⟩ := bind_some h
    refine WP.drawL 15 [(13, [], fun _ => constSpec (.bool (r4)))] rfl (by kernel_rfl) (by kernel_rfl) (by kernel_rfl) ?_
    refine WP.st tysOk true rfl ⟨⟨rfl, rfl⟩, rfl⟩ rfl rfl rfl rfl True.intro ?_
    refine WP.ld1 tysOk rfl ⟨⟨rfl, rfl⟩, rfl⟩ rfl rfl rfl rfl rfl rfl rfl (CellAt.blk (.tail (.tail (.tail (.tail .head)))) rfl) ?_
    refine WP.st tysOk true rfl ⟨⟨rfl, rfl⟩, rfl⟩ rfl rfl rfl rfl True.intro ?_
    refine WP.ld1 tysOk rfl ⟨⟨rfl, rfl⟩, rfl⟩ rfl rfl rfl rfl rfl rfl rfl (CellAt.blk (.tail (.tail (.tail .head))) rfl) ?_
    refine WP.st tysOk true rfl ⟨⟨rfl, rfl⟩, rfl⟩ rfl rfl rfl rfl True.intro ?_
    refine WP.ixA tysOk rfl ⟨⟨rfl, rfl⟩, rfl⟩ rfl rfl rfl rfl rfl rfl rfl rfl hj4 (hs2.ex hj4) ?_
    intro b5 _ hA5
    refine WP.ldm tysOk rfl ⟨⟨rfl, rfl⟩, rfl⟩ rfl rfl rfl rfl rfl rfl rfl (hs2.seg hA5 (Held.mem (List.Mem.tail _ (List.Mem.tail _ (List.Mem.tail _ (List.Mem.tail _ (List.Mem.tail _ (List.Mem.head _))))))) hj4) ?_
    refine WP.st tysOk true rfl ⟨⟨rfl, rfl⟩, rfl⟩ rfl rfl rfl rfl True.intro ?_
    refine WP.ld1 tysOk rfl ⟨⟨rfl, rfl⟩, rfl⟩ rfl rfl rfl rfl rfl rfl rfl (CellAt.blk (.tail (.tail (.tail .head))) rfl) ?_
    refine WP.st tysOk true rfl ⟨⟨rfl, rfl⟩, rfl⟩ rfl rfl rfl rfl True.intro ?_
    refine WP.ixA tysOk rfl ⟨⟨rfl, rfl⟩, rfl⟩ rfl rfl rfl rfl rfl rfl rfl rfl hj3 (hs2.ex hj3) ?_
    intro b6 _ hA6
    refine WP.ldm tysOk rfl ⟨⟨rfl, rfl⟩, rfl⟩ rfl rfl rfl rfl rfl rfl rfl (hs2.seg hA6 (Held.mem (List.Mem.tail _ (List.Mem.tail _ (List.Mem.tail _ (List.Mem.tail _ (List.Mem.tail _ (List.Mem.head _))))))) hj3) ?_
    refine WP.st tysOk true rfl ⟨⟨rfl, rfl⟩, rfl⟩ rfl rfl rfl rfl True.intro ?_
    refine WP.callV rfl rfl rfl rfl rfl rfl rfl (by kernel_rfl) (fun w1 hw1 => (two_series_1_w hg4  :)) ⟨⟨rfl, rfl⟩, rfl⟩ ?_
    refine WP.st tysOk true rfl ⟨⟨rfl, rfl⟩, rfl⟩ rfl rfl rfl rfl True.intro ?_
    refine WP.lend rfl ⟨rfl, rfl⟩ ?_
    refine WP.cond_n rfl rfl (fun hh4 => ?_) (fun hh4 => ?_)
    · rw [if_neg (bneg hh4)] at h
      refine WP.bld (cs := [iv 0, iv 0, iv 0, iv 0, iv 0, iv 0, iv 0, iv 0]) tysOk rfl True.intro rfl rfl rfl rfl rfl rfl rfl ?_
      refine WP.bld (cs := [iv 0, iv 0, iv 0, iv 0, iv 0, iv 0, iv 0, iv 0, iv 0, iv 0, iv 0, iv 0]) tysOk rfl True.intro rfl rfl rfl rfl rfl rfl rfl ?_
      refine WP.sto' tysOk [iv 0, iv 0, iv 0, iv 0, iv 0, iv 0, iv 0, iv 0] rfl rfl rfl rfl rfl rfl rfl rfl rfl (.tail (.tail .head)) rfl rfl ?_
      refine WP.sto' tysOk [iv 0, iv 0, iv 0, iv 0, iv 0, iv 0, iv 0, iv 0, iv 0, iv 0, iv 0, iv 0] rfl rfl rfl rfl rfl rfl rfl rfl rfl (.tail (.tail .head)) rfl rfl ?_
      refine WP.st tysOk true rfl True.intro rfl rfl rfl rfl True.intro ?_
      cases h
      refine WP.retR tysOk rfl rfl ⟨_, _, _, _, rfl, ⟨_, rfl, .inr ⟨rfl, _, rfl, rfl, (SegAt.blk' (z := 8) (.tail .head) rfl).1⟩⟩, ⟨_, _, _, _, rfl, ⟨_, rfl, .inr ⟨rfl, _, rfl, rfl, (SegAt.blk' (z := 12) .head rfl).1⟩⟩, ⟨_, _, rfl, rfl, rfl⟩, rfl⟩, rfl⟩ (fun w1 hw1 => ⟨rfl, Ret.below_ hw1 (.cons (.tail (.tail (.tail (.tail (.tail .head))))) .nil)⟩)
    rw [if_pos hh4] at h
    obtain ⟨hj5, h⟩ := ck_some h
    refine WP.drawL 20 [(19, [], fun _ => blkSpec 70 [iv 0, iv 0, iv 0, iv 0, iv 0, iv 0, iv 0, iv 0, iv 0, iv 0, iv 0, iv 0])] rfl (by kernel_rfl) (by kernel_rfl) (by kernel_rfl) ?_
    refine WP.st tysOk true rfl ⟨⟨rfl, rfl⟩, rfl⟩ rfl rfl rfl rfl True.intro ?_
    refine WP.ld1 tysOk rfl ⟨⟨rfl, rfl⟩, rfl⟩ rfl rfl rfl rfl rfl rfl rfl (CellAt.blk (.tail (.tail (.tail .head))) rfl) ?_
    refine WP.st tysOk true rfl ⟨⟨rfl, rfl⟩, rfl⟩ rfl rfl rfl rfl True.intro ?_
    refine WP.ixA tysOk rfl ⟨⟨rfl, rfl⟩, rfl⟩ rfl rfl rfl rfl rfl rfl rfl rfl hj4 (hs2.ex hj4) ?_
    intro b7 _ hA7
    refine WP.ldm tysOk rfl ⟨⟨rfl, rfl⟩, rfl⟩ rfl rfl rfl rfl rfl rfl rfl (hs2.seg hA7 (Held.mem (List.Mem.tail _ (List.Mem.tail _ (List.Mem.tail _ (List.Mem.tail _ (List.Mem.tail _ (List.Mem.head _))))))) hj4) ?_
    refine WP.bld (cs := [iv ((gt x1.arcs (gt r1 1)).src), iv ((gt x1.arcs (gt r1 1)).dst), iv ((gt x1.arcs (gt r1 1)).low), iv ((gt x1.arcs (gt r1 1)).cap), iv ((gt x1.arcs (gt r1 1)).cost)]) tysOk rfl ⟨⟨rfl, rfl⟩, rfl⟩ rfl rfl rfl rfl rfl rfl rfl ?_
    refine WP.st tysOk true rfl ⟨⟨rfl, rfl⟩, rfl⟩ rfl rfl rfl rfl True.intro ?_
    refine WP.ld1 tysOk rfl ⟨⟨rfl, rfl⟩, rfl⟩ rfl rfl rfl rfl rfl rfl rfl (CellAt.blk (.tail (.tail (.tail .head))) rfl) ?_
    refine WP.st tysOk true rfl ⟨⟨rfl, rfl⟩, rfl⟩ rfl rfl rfl rfl True.intro ?_
    refine WP.ixA tysOk rfl ⟨⟨rfl, rfl⟩, rfl⟩ rfl rfl rfl rfl rfl rfl rfl rfl hj3 (hs2.ex hj3) ?_
    intro b8 _ hA8
    refine WP.ldm tysOk rfl ⟨⟨rfl, rfl⟩, rfl⟩ rfl rfl rfl rfl rfl rfl rfl (hs2.seg hA8 (Held.mem (List.Mem.tail _ (List.Mem.tail _ (List.Mem.tail _ (List.Mem.tail _ (List.Mem.tail _ (List.Mem.head _))))))) hj3) ?_
    refine WP.bld (cs := [iv ((gt x1.arcs (gt r1 0)).src), iv ((gt x1.arcs (gt r1 0)).dst), iv ((gt x1.arcs (gt r1 0)).low), iv ((gt x1.arcs (gt r1 0)).cap), iv ((gt x1.arcs (gt r1 0)).cost)]) tysOk rfl ⟨⟨rfl, rfl⟩, rfl⟩ rfl rfl rfl rfl rfl rfl rfl ?_
    iterate 2 (refine WP.st tysOk true rfl ⟨⟨rfl, rfl⟩, rfl⟩ rfl rfl rfl rfl True.intro ?_)
    refine WP.ld1 tysOk rfl ⟨⟨rfl, rfl⟩, rfl⟩ rfl rfl rfl rfl rfl rfl rfl (CellAt.blk (.tail (.tail (.tail .head))) rfl) ?_
    refine WP.st tysOk true rfl ⟨⟨rfl, rfl⟩, rfl⟩ rfl rfl rfl rfl True.intro ?_
    refine WP.ixA tysOk rfl ⟨⟨rfl, rfl⟩, rfl⟩ rfl rfl rfl rfl rfl rfl rfl rfl hj5 (hs1.ex hj5) ?_
    intro b9 _ hA9
    refine WP.ld1 tysOk rfl ⟨⟨rfl, rfl⟩, rfl⟩ rfl rfl rfl rfl rfl rfl rfl (hs1.at0 hA9 (Held.mem (List.Mem.tail _ (List.Mem.tail _ (List.Mem.tail _ (List.Mem.tail _ (List.Mem.tail _ (List.Mem.head _))))))) hj5 rfl) ?_
    refine WP.bld (cs := [iv ((gt x1.arcs (gt r1 1)).src), iv ((gt x1.arcs (gt r1 1)).dst), iv ((gt x1.arcs (gt r1 1)).low), iv ((gt x1.arcs (gt r1 1)).cap), iv ((gt x1.arcs (gt r1 1)).cost), iv ((gt x1.arcs (gt r1 0)).src), iv ((gt x1.arcs (gt r1 0)).dst), iv ((gt x1.arcs (gt r1 0)).low), iv ((gt x1.arcs (gt r1 0)).cap), iv ((gt x1.arcs (gt r1 0)).cost), iv x2, iv (gt x1.supply x2)]) tysOk rfl ⟨⟨rfl, rfl⟩, rfl⟩ rfl rfl rfl rfl rfl rfl rfl ?_
    refine WP.lal tysOk rfl ⟨rfl, rfl⟩ rfl rfl rfl rfl rfl rfl rfl ?_
    intro g5
    refine WP.lend rfl ⟨rfl, rfl⟩ ?_
    refine WP.sto' tysOk [iv ((gt x1.arcs (gt r1 1)).src), iv ((gt x1.arcs (gt r1 1)).dst), iv ((gt x1.arcs (gt r1 1)).low), iv ((gt x1.arcs (gt r1 1)).cap), iv ((gt x1.arcs (gt r1 1)).cost), iv ((gt x1.arcs (gt r1 0)).src), iv ((gt x1.arcs (gt r1 0)).dst), iv ((gt x1.arcs (gt r1 0)).low), iv ((gt x1.arcs (gt r1 0)).cap), iv ((gt x1.arcs (gt r1 0)).cost), iv x2, iv (gt x1.supply x2)] rfl rfl rfl rfl rfl rfl rfl rfl rfl .head rfl rfl ?_
    refine WP.st tysOk true rfl True.intro rfl rfl rfl rfl True.intro ?_
    refine WP.ld1 tysOk rfl True.intro rfl rfl rfl rfl rfl rfl rfl (CellAt.blk (.tail (.tail (.tail (.tail (.tail .head))))) rfl) ?_
    refine WP.ldm tysOk rfl True.intro rfl rfl rfl rfl rfl rfl rfl (SegAt.blk' .head rfl) ?_
    obtain ⟨r5, hg5, h⟩ := bind_some h
    refine WP.callV rfl rfl rfl rfl rfl rfl rfl (by kernel_rfl) (fun w1 hw1 => (two_pair_chain_w hg5  :)) True.intro ?_
    refine WP.al tysOk rfl rfl rfl rfl rfl rfl ?_
    intro g6
    refine WP.sto' tysOk [iv r5.src, iv r5.dst, iv r5.low, iv r5.cap, iv r5.cost] rfl rfl rfl rfl rfl rfl rfl rfl rfl .head rfl rfl ?_
    refine WP.st tysOk true rfl True.intro rfl rfl rfl rfl True.intro ?_
    refine WP.ld1 tysOk rfl True.intro rfl rfl rfl rfl rfl rfl rfl (CellAt.blk .head rfl) ?_
    refine WP.st tysOk true rfl True.intro rfl rfl rfl rfl True.intro ?_
    refine WP.ld1 tysOk rfl True.intro rfl rfl rfl rfl rfl rfl rfl (CellAt.blk .head rfl) ?_
    refine WP.st tysOk true rfl True.intro rfl rfl rfl rfl True.intro ?_
    refine WP.cond_d rfl rfl (fun hh5 => ?_) (fun hh5 => ?_)
    · rw [if_pos hh5] at h
      refine WP.bld (cs := [iv 0, iv 0, iv 0, iv 0, iv 0, iv 0, iv 0, iv 0]) tysOk rfl True.intro rfl rfl rfl rfl rfl rfl rfl ?_
      refine WP.bld (cs := [iv 0, iv 0, iv 0, iv 0, iv 0, iv 0, iv 0, iv 0, iv 0, iv 0, iv 0, iv 0]) tysOk rfl True.intro rfl rfl rfl rfl rfl rfl rfl ?_
      refine WP.sto' tysOk [iv 0, iv 0, iv 0, iv 0, iv 0, iv 0, iv 0, iv 0] rfl rfl rfl rfl rfl rfl rfl rfl rfl (.tail (.tail (.tail (.tail .head)))) rfl rfl ?_
      refine WP.sto' tysOk [iv 0, iv 0, iv 0, iv 0, iv 0, iv 0, iv 0, iv 0, iv 0, iv 0, iv 0, iv 0] rfl rfl rfl rfl rfl rfl rfl rfl rfl (.tail (.tail (.tail (.tail .head)))) rfl rfl ?_
      refine WP.st tysOk true rfl True.intro rfl rfl rfl rfl True.intro ?_
      cases h
      refine WP.retR tysOk rfl rfl ⟨_, _, _, _, rfl, ⟨_, rfl, .inr ⟨rfl, _, rfl, rfl, (SegAt.blk' (z := 8) (.tail .head) rfl).1⟩⟩, ⟨_, _, _, _, rfl, ⟨_, rfl, .inr ⟨rfl, _, rfl, rfl, (SegAt.blk' (z := 12) .head rfl).1⟩⟩, ⟨_, _, rfl, rfl, rfl⟩, rfl⟩, rfl⟩ (fun w1 hw1 => ⟨rfl, Ret.below_ hw1 (.cons (.tail (.tail (.tail (.tail (.tail (.tail (.tail .head))))))) .nil)⟩)
    rw [if_neg hh5] at h
    refine WP.join (α := Unit) (fun _ => True) (fun _ => [(8, .pointer (some ⟨g3, 0, none⟩)), (9, .pointer (some ⟨g4, 0, none⟩)), (10, .bool (true))]) (fun _ => [.blk g4 70 [iv ((gt x1.arcs (gt r1 1)).src), iv ((gt x1.arcs (gt r1 1)).dst), iv ((gt x1.arcs (gt r1 1)).low), iv ((gt x1.arcs (gt r1 1)).cap), iv ((gt x1.arcs (gt r1 1)).cost), iv ((gt x1.arcs (gt r1 0)).src), iv ((gt x1.arcs (gt r1 0)).dst), iv ((gt x1.arcs (gt r1 0)).low), iv ((gt x1.arcs (gt r1 0)).cap), iv ((gt x1.arcs (gt r1 0)).cost), iv x2, iv (gt x1.supply x2)], .blk g3 31 [iv x2, iv (gt r1 1), iv (gt r1 0), iv r5.src, iv r5.dst, iv r5.low, iv r5.cap, iv r5.cost], .blk g6 23 [iv r5.src, iv r5.dst, iv r5.low, iv r5.cap, iv r5.cost], .blk g5 70 [iv ((gt x1.arcs (gt r1 1)).src), iv ((gt x1.arcs (gt r1 1)).dst), iv ((gt x1.arcs (gt r1 1)).low), iv ((gt x1.arcs (gt r1 1)).cap), iv ((gt x1.arcs (gt r1 1)).cost), iv ((gt x1.arcs (gt r1 0)).src), iv ((gt x1.arcs (gt r1 0)).dst), iv ((gt x1.arcs (gt r1 0)).low), iv ((gt x1.arcs (gt r1 0)).cap), iv ((gt x1.arcs (gt r1 0)).cost), iv x2, iv (gt x1.supply x2)], Ow (fI .i64) 3 A3 n1 c3 r1, .blk g2 27 [.slice A1 x1.supply.length c1, .slice A2 x1.arcs.length c2], .blk g1 76 [iv 8, .func (.func 45) #[] #[], .func (.func 46) #[] #[], .func (.func 47) #[] #[]], .fz (PH.of w)]) rfl ?_ ?_
    · refine WP.drawA rfl (by kernel_rfl) ?_
      refine WP.anyP 0 tysOk putInv_body rfl rfl rfl (by kernel_rfl) (by kernel_rfl) rfl rfl rfl rfl rfl True.intro ?_
      refine WP.anyP 1 tysOk putInv_body rfl rfl rfl (by kernel_rfl) (by kernel_rfl) rfl rfl rfl rfl rfl True.intro ?_
      refine WP.anyP 2 tysOk putInv_body rfl rfl rfl (by kernel_rfl) (by kernel_rfl) rfl rfl rfl rfl rfl True.intro ?_
      refine WP.any2 3 5 rfl (by kernel_rfl) rfl rfl ?_ ?_
      · refine WP.ldm tysOk rfl True.intro rfl rfl rfl rfl rfl rfl rfl (SegAt.blk' .head rfl) ?_
        refine WP.any2 4 5 rfl (by kernel_rfl) rfl rfl ?_ ?_
        · refine WP.bld (cs := [iv x2, iv (gt r1 1), iv (gt r1 0), iv r5.src, iv r5.dst, iv r5.low, iv r5.cap, iv r5.cost]) tysOk rfl True.intro rfl rfl rfl rfl rfl rfl rfl ?_
          refine WP.any2 5 6 rfl (by kernel_rfl) rfl rfl ?_ ?_
          · refine WP.ldm tysOk rfl True.intro rfl rfl rfl rfl rfl rfl rfl (SegAt.blk' (.tail .head) rfl) ?_
            refine WP.any1 6 rfl (by kernel_rfl) rfl ?_
            refine WP.sto' tysOk [iv x2, iv (gt r1 1), iv (gt r1 0), iv r5.src, iv r5.dst, iv r5.low, iv r5.cap, iv r5.cost] rfl rfl rfl rfl rfl rfl rfl rfl rfl (.tail (.tail (.tail (.tail .head)))) rfl rfl ?_
            refine WP.any1 7 rfl (by kernel_rfl) rfl ?_
            refine WP.sto' tysOk [iv ((gt x1.arcs (gt r1 1)).src), iv ((gt x1.arcs (gt r1 1)).dst), iv ((gt x1.arcs (gt r1 1)).low), iv ((gt x1.arcs (gt r1 1)).cap), iv ((gt x1.arcs (gt r1 1)).cost), iv ((gt x1.arcs (gt r1 0)).src), iv ((gt x1.arcs (gt r1 0)).dst), iv ((gt x1.arcs (gt r1 0)).low), iv ((gt x1.arcs (gt r1 0)).cap), iv ((gt x1.arcs (gt r1 0)).cost), iv x2, iv (gt x1.supply x2)] rfl rfl rfl rfl rfl rfl rfl rfl rfl (.tail (.tail (.tail (.tail .head)))) rfl rfl ?_
            refine WP.anyP 8 tysOk putInv_body rfl rfl rfl (by kernel_rfl) (by kernel_rfl) rfl rfl rfl rfl rfl True.intro ?_
            refine WP.any0 rfl (by kernel_rfl) ?_
            refine WP.stop rfl () True.intro ?_ ?_
            · repeat (first | exact True.intro | refine And.intro rfl ?_)
            exact (.cons .head (.cons .head (.cons .head (.cons .head (.cons .head (.cons .head (.cons .head (.cons .head .nil))))))))
          refine WP.sto' tysOk [iv x2, iv (gt r1 1), iv (gt r1 0), iv r5.src, iv r5.dst, iv r5.low, iv r5.cap, iv r5.cost] rfl rfl rfl rfl rfl rfl rfl rfl rfl (.tail (.tail (.tail (.tail .head)))) rfl rfl ?_
          refine WP.any1 5 rfl (by kernel_rfl) rfl ?_
          refine WP.ldm tysOk rfl True.intro rfl rfl rfl rfl rfl rfl rfl (SegAt.blk' (.tail (.tail .head)) rfl) ?_
          refine WP.any1 7 rfl (by kernel_rfl) rfl ?_
          refine WP.sto' tysOk [iv ((gt x1.arcs (gt r1 1)).src), iv ((gt x1.arcs (gt r1 1)).dst), iv ((gt x1.arcs (gt r1 1)).low), iv ((gt x1.arcs (gt r1 1)).cap), iv ((gt x1.arcs (gt r1 1)).cost), iv ((gt x1.arcs (gt r1 0)).src), iv ((gt x1.arcs (gt r1 0)).dst), iv ((gt x1.arcs (gt r1 0)).low), iv ((gt x1.arcs (gt r1 0)).cap), iv ((gt x1.arcs (gt r1 0)).cost), iv x2, iv (gt x1.supply x2)] rfl rfl rfl rfl rfl rfl rfl rfl rfl (.tail (.tail (.tail (.tail .head)))) rfl rfl ?_
          refine WP.anyP 8 tysOk putInv_body rfl rfl rfl (by kernel_rfl) (by kernel_rfl) rfl rfl rfl rfl rfl True.intro ?_
          refine WP.any0 rfl (by kernel_rfl) ?_
          refine WP.stop rfl () True.intro ?_ ?_
          · repeat (first | exact True.intro | refine And.intro rfl ?_)
          exact (.cons .head (.cons .head (.cons .head (.cons .head (.cons .head (.cons .head (.cons .head (.cons .head .nil))))))))
        refine WP.ldm tysOk rfl True.intro rfl rfl rfl rfl rfl rfl rfl (SegAt.blk' (.tail .head) rfl) ?_
        refine WP.any1 4 rfl (by kernel_rfl) rfl ?_
        refine WP.bld (cs := [iv x2, iv (gt r1 1), iv (gt r1 0), iv r5.src, iv r5.dst, iv r5.low, iv r5.cap, iv r5.cost]) tysOk rfl True.intro rfl rfl rfl rfl rfl rfl rfl ?_
        refine WP.any1 6 rfl (by kernel_rfl) rfl ?_
        refine WP.sto' tysOk [iv x2, iv (gt r1 1), iv (gt r1 0), iv r5.src, iv r5.dst, iv r5.low, iv r5.cap, iv r5.cost] rfl rfl rfl rfl rfl rfl rfl rfl rfl (.tail (.tail (.tail (.tail .head)))) rfl rfl ?_
        refine WP.any1 7 rfl (by kernel_rfl) rfl ?_
        refine WP.sto' tysOk [iv ((gt x1.arcs (gt r1 1)).src), iv ((gt x1.arcs (gt r1 1)).dst), iv ((gt x1.arcs (gt r1 1)).low), iv ((gt x1.arcs (gt r1 1)).cap), iv ((gt x1.arcs (gt r1 1)).cost), iv ((gt x1.arcs (gt r1 0)).src), iv ((gt x1.arcs (gt r1 0)).dst), iv ((gt x1.arcs (gt r1 0)).low), iv ((gt x1.arcs (gt r1 0)).cap), iv ((gt x1.arcs (gt r1 0)).cost), iv x2, iv (gt x1.supply x2)] rfl rfl rfl rfl rfl rfl rfl rfl rfl (.tail (.tail (.tail (.tail .head)))) rfl rfl ?_
        refine WP.anyP 8 tysOk putInv_body rfl rfl rfl (by kernel_rfl) (by kernel_rfl) rfl rfl rfl rfl rfl True.intro ?_
        refine WP.any0 rfl (by kernel_rfl) ?_
        refine WP.stop rfl () True.intro ?_ ?_
        · repeat (first | exact True.intro | refine And.intro rfl ?_)
        exact (.cons .head (.cons .head (.cons .head (.cons .head (.cons .head (.cons .head (.cons .head (.cons .head .nil))))))))
      refine WP.ldm tysOk rfl True.intro rfl rfl rfl rfl rfl rfl rfl (SegAt.blk' (.tail .head) rfl) ?_
      refine WP.any1 3 rfl (by kernel_rfl) rfl ?_
      refine WP.ldm tysOk rfl True.intro rfl rfl rfl rfl rfl rfl rfl (SegAt.blk' .head rfl) ?_
      refine WP.any1 4 rfl (by kernel_rfl) rfl ?_
      refine WP.bld (cs := [iv x2, iv (gt r1 1), iv (gt r1 0), iv r5.src, iv r5.dst, iv r5.low, iv r5.cap, iv r5.cost]) tysOk rfl True.intro rfl rfl rfl rfl rfl rfl rfl ?_
      refine WP.any1 6 rfl (by kernel_rfl) rfl ?_
      refine WP.sto' tysOk [iv x2, iv (gt r1 1), iv (gt r1 0), iv r5.src, iv r5.dst, iv r5.low, iv r5.cap, iv r5.cost] rfl rfl rfl rfl rfl rfl rfl rfl rfl (.tail (.tail (.tail (.tail .head)))) rfl rfl ?_
      refine WP.any1 7 rfl (by kernel_rfl) rfl ?_
      refine WP.sto' tysOk [iv ((gt x1.arcs (gt r1 1)).src), iv ((gt x1.arcs (gt r1 1)).dst), iv ((gt x1.arcs (gt r1 1)).low), iv ((gt x1.arcs (gt r1 1)).cap), iv ((gt x1.arcs (gt r1 1)).cost), iv ((gt x1.arcs (gt r1 0)).src), iv ((gt x1.arcs (gt r1 0)).dst), iv ((gt x1.arcs (gt r1 0)).low), iv ((gt x1.arcs (gt r1 0)).cap), iv ((gt x1.arcs (gt r1 0)).cost), iv x2, iv (gt x1.supply x2)] rfl rfl rfl rfl rfl rfl rfl rfl rfl (.tail (.tail (.tail (.tail .head)))) rfl rfl ?_
      refine WP.anyP 8 tysOk putInv_body rfl rfl rfl (by kernel_rfl) (by kernel_rfl) rfl rfl rfl rfl rfl True.intro ?_
      refine WP.any0 rfl (by kernel_rfl) ?_
      refine WP.stop rfl () True.intro ?_ ?_
      · repeat (first | exact True.intro | refine And.intro rfl ?_)
      exact (.cons .head (.cons .head (.cons .head (.cons .head (.cons .head (.cons .head (.cons .head (.cons .head .nil))))))))
    intro _ _
    cases h
    refine WP.retR tysOk rfl rfl ⟨_, _, _, _, rfl, ⟨_, rfl, .inr ⟨rfl, _, rfl, rfl, (SegAt.blk' (z := 8) (.tail .head) rfl).1⟩⟩, ⟨_, _, _, _, rfl, ⟨_, rfl, .inr ⟨rfl, _, rfl, rfl, (SegAt.blk' (z := 12) .head rfl).1⟩⟩, ⟨_, _, rfl, rfl, rfl⟩, rfl⟩, rfl⟩ (fun w1 hw1 => ⟨rfl, Ret.below_ hw1 (.cons (.tail (.tail (.tail (.tail (.tail (.tail (.tail .head))))))) .nil)⟩)
  rw [if_pos hh3] at h
  obtain ⟨r6, hg6, h⟩ := bind_some h
  refine WP.drawL 15 [(13, [], fun _ => constSpec (.bool (r6)))] rfl (by kernel_rfl) (by kernel_rfl) (by kernel_rfl) ?_
  refine WP.st tysOk true rfl ⟨⟨rfl, rfl⟩, rfl⟩ rfl rfl rfl rfl True.intro ?_
  refine WP.ld1 tysOk rfl ⟨⟨rfl, rfl⟩, rfl⟩ rfl rfl rfl rfl rfl rfl rfl (CellAt.blk (.tail (.tail (.tail (.tail .head)))) rfl) ?_
  refine WP.st tysOk true rfl ⟨⟨rfl, rfl⟩, rfl⟩ rfl rfl rfl rfl True.intro ?_
  refine WP.ld1 tysOk rfl ⟨⟨rfl, rfl⟩, rfl⟩ rfl rfl rfl rfl rfl rfl rfl (CellAt.blk (.tail (.tail (.tail .head))) rfl) ?_
  refine WP.st tysOk true rfl ⟨⟨rfl, rfl⟩, rfl⟩ rfl rfl rfl rfl True.intro ?_
  refine WP.ixA tysOk rfl ⟨⟨rfl, rfl⟩, rfl⟩ rfl rfl rfl rfl rfl rfl rfl rfl hj3 (hs2.ex hj3) ?_
  intro b10 _ hA10
  refine WP.ldm tysOk rfl ⟨⟨rfl, rfl⟩, rfl⟩ rfl rfl rfl rfl rfl rfl rfl (hs2.seg hA10 (Held.mem (List.Mem.tail _ (List.Mem.tail _ (List.Mem.tail _ (List.Mem.tail _ (List.Mem.tail _ (List.Mem.head _))))))) hj3) ?_
  refine WP.st tysOk true rfl ⟨⟨rfl, rfl⟩, rfl⟩ rfl rfl rfl rfl True.intro ?_
  refine WP.ld1 tysOk rfl ⟨⟨rfl, rfl⟩, rfl⟩ rfl rfl rfl rfl rfl rfl rfl (CellAt.blk (.tail (.tail (.tail .head))) rfl) ?_
  refine WP.st tysOk true rfl ⟨⟨rfl, rfl⟩, rfl⟩ rfl rfl rfl rfl True.intro ?_
  refine WP.ixA tysOk rfl ⟨⟨rfl, rfl⟩, rfl⟩ rfl rfl rfl rfl rfl rfl rfl rfl hj4 (hs2.ex hj4) ?_
  intro b11 _ hA11
  refine WP.ldm tysOk rfl ⟨⟨rfl, rfl⟩, rfl⟩ rfl rfl rfl rfl rfl rfl rfl (hs2.seg hA11 (Held.mem (List.Mem.tail _ (List.Mem.tail _ (List.Mem.tail _ (List.Mem.tail _ (List.Mem.tail _ (List.Mem.head _))))))) hj4) ?_
  refine WP.st tysOk true rfl ⟨⟨rfl, rfl⟩, rfl⟩ rfl rfl rfl rfl True.intro ?_
  refine WP.callV rfl rfl rfl rfl rfl rfl rfl (by kernel_rfl) (fun w1 hw1 => (two_series_1_w hg6  :)) ⟨⟨rfl, rfl⟩, rfl⟩ ?_
  refine WP.st tysOk true rfl ⟨⟨rfl, rfl⟩, rfl⟩ rfl rfl rfl rfl True.intro ?_
  refine WP.lend rfl ⟨rfl, rfl⟩ ?_
  refine WP.cond_n rfl rfl (fun hh6 => ?_) (fun hh6 => ?_)
  · rw [if_neg (bneg hh6)] at h
    refine WP.bld (cs := [iv 0, iv 0, iv 0, iv 0, iv 0, iv 0, iv 0, iv 0]) tysOk rfl True.intro rfl rfl rfl rfl rfl rfl rfl ?_
    refine WP.bld (cs := [iv 0, iv 0, iv 0, iv 0, iv 0, iv 0, iv 0, iv 0, iv 0, iv 0, iv 0, iv 0]) tysOk rfl True.intro rfl rfl rfl rfl rfl rfl rfl ?_
    refine WP.sto' tysOk [iv 0, iv 0, iv 0, iv 0, iv 0, iv 0, iv 0, iv 0] rfl rfl rfl rfl rfl rfl rfl rfl rfl (.tail (.tail .head)) rfl rfl ?_
    refine WP.sto' tysOk [iv 0, iv 0, iv 0, iv 0, iv 0, iv 0, iv 0, iv 0, iv 0, iv 0, iv 0, iv 0] rfl rfl rfl rfl rfl rfl rfl rfl rfl (.tail (.tail .head)) rfl rfl ?_
    refine WP.st tysOk true rfl True.intro rfl rfl rfl rfl True.intro ?_
    cases h
    refine WP.retR tysOk rfl rfl ⟨_, _, _, _, rfl, ⟨_, rfl, .inr ⟨rfl, _, rfl, rfl, (SegAt.blk' (z := 8) (.tail .head) rfl).1⟩⟩, ⟨_, _, _, _, rfl, ⟨_, rfl, .inr ⟨rfl, _, rfl, rfl, (SegAt.blk' (z := 12) .head rfl).1⟩⟩, ⟨_, _, rfl, rfl, rfl⟩, rfl⟩, rfl⟩ (fun w1 hw1 => ⟨rfl, Ret.below_ hw1 (.cons (.tail (.tail (.tail (.tail (.tail .head))))) .nil)⟩)
  rw [if_pos hh6] at h
  obtain ⟨hj6, h⟩ := ck_some h
  refine WP.drawL 20 [(19, [], fun _ => blkSpec 70 [iv 0, iv 0, iv 0, iv 0, iv 0, iv 0, iv 0, iv 0, iv 0, iv 0, iv 0, iv 0])] rfl (by kernel_rfl) (by kernel_rfl) (by kernel_rfl) ?_
  refine WP.st tysOk true rfl ⟨⟨rfl, rfl⟩, rfl⟩ rfl rfl rfl rfl True.intro ?_
  refine WP.ld1 tysOk rfl ⟨⟨rfl, rfl⟩, rfl⟩ rfl rfl rfl rfl rfl rfl rfl (CellAt.blk (.tail (.tail (.tail .head))) rfl) ?_
  refine WP.st tysOk true rfl ⟨⟨rfl, rfl⟩, rfl⟩ rfl rfl rfl rfl True.intro ?_
  refine WP.ixA tysOk rfl ⟨⟨rfl, rfl⟩, rfl⟩ rfl rfl rfl rfl rfl rfl rfl rfl hj3 (hs2.ex hj3) ?_
  intro b12 _ hA12
  refine WP.ldm tysOk rfl ⟨⟨rfl, rfl⟩, rfl⟩ rfl rfl rfl rfl rfl rfl rfl (hs2.seg hA12 (Held.mem (List.Mem.tail _ (List.Mem.tail _ (List.Mem.tail _ (List.Mem.tail _ (List.Mem.tail _ (List.Mem.head _))))))) hj3) ?_
  refine WP.bld (cs := [iv ((gt x1.arcs (gt r1 0)).src), iv ((gt x1.arcs (gt r1 0)).dst), iv ((gt x1.arcs (gt r1 0)).low), iv ((gt x1.arcs (gt r1 0)).cap), iv ((gt x1.arcs (gt r1 0)).cost)]) tysOk rfl ⟨⟨rfl, rfl⟩, rfl⟩ rfl rfl rfl rfl rfl rfl rfl ?_
  refine WP.st tysOk true rfl ⟨⟨rfl, rfl⟩, rfl⟩ rfl rfl rfl rfl True.intro ?_
  refine WP.ld1 tysOk rfl ⟨⟨rfl, rfl⟩, rfl⟩ rfl rfl rfl rfl rfl rfl rfl (CellAt.blk (.tail (.tail (.tail .head))) rfl) ?_
  refine WP.st tysOk true rfl ⟨⟨rfl, rfl⟩, rfl⟩ rfl rfl rfl rfl True.intro ?_
  refine WP.ixA tysOk rfl ⟨⟨rfl, rfl⟩, rfl⟩ rfl rfl rfl rfl rfl rfl rfl rfl hj4 (hs2.ex hj4) ?_
  intro b13 _ hA13
  refine WP.ldm tysOk rfl ⟨⟨rfl, rfl⟩, rfl⟩ rfl rfl rfl rfl rfl rfl rfl (hs2.seg hA13 (Held.mem (List.Mem.tail _ (List.Mem.tail _ (List.Mem.tail _ (List.Mem.tail _ (List.Mem.tail _ (List.Mem.head _))))))) hj4) ?_
  refine WP.bld (cs := [iv ((gt x1.arcs (gt r1 1)).src), iv ((gt x1.arcs (gt r1 1)).dst), iv ((gt x1.arcs (gt r1 1)).low), iv ((gt x1.arcs (gt r1 1)).cap), iv ((gt x1.arcs (gt r1 1)).cost)]) tysOk rfl ⟨⟨rfl, rfl⟩, rfl⟩ rfl rfl rfl rfl rfl rfl rfl ?_
  iterate 2 (refine WP.st tysOk true rfl ⟨⟨rfl, rfl⟩, rfl⟩ rfl rfl rfl rfl True.intro ?_)
  refine WP.ld1 tysOk rfl ⟨⟨rfl, rfl⟩, rfl⟩ rfl rfl rfl rfl rfl rfl rfl (CellAt.blk (.tail (.tail (.tail .head))) rfl) ?_
  refine WP.st tysOk true rfl ⟨⟨rfl, rfl⟩, rfl⟩ rfl rfl rfl rfl True.intro ?_
  refine WP.ixA tysOk rfl ⟨⟨rfl, rfl⟩, rfl⟩ rfl rfl rfl rfl rfl rfl rfl rfl hj6 (hs1.ex hj6) ?_
  intro b14 _ hA14
  refine WP.ld1 tysOk rfl ⟨⟨rfl, rfl⟩, rfl⟩ rfl rfl rfl rfl rfl rfl rfl (hs1.at0 hA14 (Held.mem (List.Mem.tail _ (List.Mem.tail _ (List.Mem.tail _ (List.Mem.tail _ (List.Mem.tail _ (List.Mem.head _))))))) hj6 rfl) ?_
  refine WP.bld (cs := [iv ((gt x1.arcs (gt r1 0)).src), iv ((gt x1.arcs (gt r1 0)).dst), iv ((gt x1.arcs (gt r1 0)).low), iv ((gt x1.arcs (gt r1 0)).cap), iv ((gt x1.arcs (gt r1 0)).cost), iv ((gt x1.arcs (gt r1 1)).src), iv ((gt x1.arcs (gt r1 1)).dst), iv ((gt x1.arcs (gt r1 1)).low), iv ((gt x1.arcs (gt r1 1)).cap), iv ((gt x1.arcs (gt r1 1)).cost), iv x2, iv (gt x1.supply x2)]) tysOk rfl ⟨⟨rfl, rfl⟩, rfl⟩ rfl rfl rfl rfl rfl rfl rfl ?_
  refine WP.lal tysOk rfl ⟨rfl, rfl⟩ rfl rfl rfl rfl rfl rfl rfl ?_
  intro g7
  refine WP.lend rfl ⟨rfl, rfl⟩ ?_
  refine WP.sto' tysOk [iv ((gt x1.arcs (gt r1 0)).src), iv ((gt x1.arcs (gt r1 0)).dst), iv ((gt x1.arcs (gt r1 0)).low), iv ((gt x1.arcs (gt r1 0)).cap), iv ((gt x1.arcs (gt r1 0)).cost), iv ((gt x1.arcs (gt r1 1)).src), iv ((gt x1.arcs (gt r1 1)).dst), iv ((gt x1.arcs (gt r1 1)).low), iv ((gt x1.arcs (gt r1 1)).cap), iv ((gt x1.arcs (gt r1 1)).cost), iv x2, iv (gt x1.supply x2)] rfl rfl rfl rfl rfl rfl rfl rfl rfl .head rfl rfl ?_
  refine WP.st tysOk true rfl True.intro rfl rfl rfl rfl True.intro ?_
  refine WP.ld1 tysOk rfl True.intro rfl rfl rfl rfl rfl rfl rfl (CellAt.blk (.tail (.tail (.tail (.tail (.tail .head))))) rfl) ?_
  refine WP.ldm tysOk rfl True.intro rfl rfl rfl rfl rfl rfl rfl (SegAt.blk' .head rfl) ?_
  obtain ⟨r7, hg7, h⟩ := bind_some h
  refine WP.callV rfl rfl rfl rfl rfl rfl rfl (by kernel_rfl) (fun w1 hw1 => (two_pair_chain_w hg7  :)) True.intro ?_
  refine WP.al tysOk rfl rfl rfl rfl rfl rfl ?_
  intro g8
  refine WP.sto' tysOk [iv r7.src, iv r7.dst, iv r7.low, iv r7.cap, iv r7.cost] rfl rfl rfl rfl rfl rfl rfl rfl rfl .head rfl rfl ?_
  refine WP.st tysOk true rfl True.intro rfl rfl rfl rfl True.intro ?_
  refine WP.ld1 tysOk rfl True.intro rfl rfl rfl rfl rfl rfl rfl (CellAt.blk .head rfl) ?_
  refine WP.st tysOk true rfl True.intro rfl rfl rfl rfl True.intro ?_
  refine WP.ld1 tysOk rfl True.intro rfl rfl rfl rfl rfl rfl rfl (CellAt.blk .head rfl) ?_
  refine WP.st tysOk true rfl True.intro rfl rfl rfl rfl True.intro ?_
  refine WP.cond_d rfl rfl (fun hh7 => ?_) (fun hh7 => ?_)
  · rw [if_pos hh7] at h
    refine WP.bld (cs := [iv 0, iv 0, iv 0, iv 0, iv 0, iv 0, iv 0, iv 0]) tysOk rfl True.intro rfl rfl rfl rfl rfl rfl rfl ?_
    refine WP.bld (cs := [iv 0, iv 0, iv 0, iv 0, iv 0, iv 0, iv 0, iv 0, iv 0, iv 0, iv 0, iv 0]) tysOk rfl True.intro rfl rfl rfl rfl rfl rfl rfl ?_
    refine WP.sto' tysOk [iv 0, iv 0, iv 0, iv 0, iv 0, iv 0, iv 0, iv 0] rfl rfl rfl rfl rfl rfl rfl rfl rfl (.tail (.tail (.tail (.tail .head)))) rfl rfl ?_
    refine WP.sto' tysOk [iv 0, iv 0, iv 0, iv 0, iv 0, iv 0, iv 0, iv 0, iv 0, iv 0, iv 0, iv 0] rfl rfl rfl rfl rfl rfl rfl rfl rfl (.tail (.tail (.tail (.tail .head)))) rfl rfl ?_
    refine WP.st tysOk true rfl True.intro rfl rfl rfl rfl True.intro ?_
    cases h
    refine WP.retR tysOk rfl rfl ⟨_, _, _, _, rfl, ⟨_, rfl, .inr ⟨rfl, _, rfl, rfl, (SegAt.blk' (z := 8) (.tail .head) rfl).1⟩⟩, ⟨_, _, _, _, rfl, ⟨_, rfl, .inr ⟨rfl, _, rfl, rfl, (SegAt.blk' (z := 12) .head rfl).1⟩⟩, ⟨_, _, rfl, rfl, rfl⟩, rfl⟩, rfl⟩ (fun w1 hw1 => ⟨rfl, Ret.below_ hw1 (.cons (.tail (.tail (.tail (.tail (.tail (.tail (.tail .head))))))) .nil)⟩)
  rw [if_neg hh7] at h
  refine WP.join (α := Unit) (fun _ => True) (fun _ => [(8, .pointer (some ⟨g3, 0, none⟩)), (9, .pointer (some ⟨g4, 0, none⟩)), (10, .bool (true))]) (fun _ => [.blk g4 70 [iv ((gt x1.arcs (gt r1 0)).src), iv ((gt x1.arcs (gt r1 0)).dst), iv ((gt x1.arcs (gt r1 0)).low), iv ((gt x1.arcs (gt r1 0)).cap), iv ((gt x1.arcs (gt r1 0)).cost), iv ((gt x1.arcs (gt r1 1)).src), iv ((gt x1.arcs (gt r1 1)).dst), iv ((gt x1.arcs (gt r1 1)).low), iv ((gt x1.arcs (gt r1 1)).cap), iv ((gt x1.arcs (gt r1 1)).cost), iv x2, iv (gt x1.supply x2)], .blk g3 31 [iv x2, iv (gt r1 0), iv (gt r1 1), iv r7.src, iv r7.dst, iv r7.low, iv r7.cap, iv r7.cost], .blk g8 23 [iv r7.src, iv r7.dst, iv r7.low, iv r7.cap, iv r7.cost], .blk g7 70 [iv ((gt x1.arcs (gt r1 0)).src), iv ((gt x1.arcs (gt r1 0)).dst), iv ((gt x1.arcs (gt r1 0)).low), iv ((gt x1.arcs (gt r1 0)).cap), iv ((gt x1.arcs (gt r1 0)).cost), iv ((gt x1.arcs (gt r1 1)).src), iv ((gt x1.arcs (gt r1 1)).dst), iv ((gt x1.arcs (gt r1 1)).low), iv ((gt x1.arcs (gt r1 1)).cap), iv ((gt x1.arcs (gt r1 1)).cost), iv x2, iv (gt x1.supply x2)], Ow (fI .i64) 3 A3 n1 c3 r1, .blk g2 27 [.slice A1 x1.supply.length c1, .slice A2 x1.arcs.length c2], .blk g1 76 [iv 8, .func (.func 45) #[] #[], .func (.func 46) #[] #[], .func (.func 47) #[] #[]], .fz (PH.of w)]) rfl ?_ ?_
  · refine WP.drawA rfl (by kernel_rfl) ?_
    refine WP.anyP 0 tysOk putInv_body rfl rfl rfl (by kernel_rfl) (by kernel_rfl) rfl rfl rfl rfl rfl True.intro ?_
    refine WP.anyP 1 tysOk putInv_body rfl rfl rfl (by kernel_rfl) (by kernel_rfl) rfl rfl rfl rfl rfl True.intro ?_
    refine WP.anyP 2 tysOk putInv_body rfl rfl rfl (by kernel_rfl) (by kernel_rfl) rfl rfl rfl rfl rfl True.intro ?_
    refine WP.any2 3 5 rfl (by kernel_rfl) rfl rfl ?_ ?_
    · refine WP.ldm tysOk rfl True.intro rfl rfl rfl rfl rfl rfl rfl (SegAt.blk' .head rfl) ?_
      refine WP.any2 4 5 rfl (by kernel_rfl) rfl rfl ?_ ?_
      · refine WP.bld (cs := [iv x2, iv (gt r1 0), iv (gt r1 1), iv r7.src, iv r7.dst, iv r7.low, iv r7.cap, iv r7.cost]) tysOk rfl True.intro rfl rfl rfl rfl rfl rfl rfl ?_
        refine WP.any2 5 6 rfl (by kernel_rfl) rfl rfl ?_ ?_
        · refine WP.ldm tysOk rfl True.intro rfl rfl rfl rfl rfl rfl rfl (SegAt.blk' (.tail .head) rfl) ?_
          refine WP.any1 6 rfl (by kernel_rfl) rfl ?_
          refine WP.sto' tysOk [iv x2, iv (gt r1 0), iv (gt r1 1), iv r7.src, iv r7.dst, iv r7.low, iv r7.cap, iv r7.cost] rfl rfl rfl rfl rfl rfl rfl rfl rfl (.tail (.tail (.tail (.tail .head)))) rfl rfl ?_
          refine WP.any1 7 rfl (by kernel_rfl) rfl ?_
          refine WP.sto' tysOk [iv ((gt x1.arcs (gt r1 0)).src), iv ((gt x1.arcs (gt r1 0)).dst), iv ((gt x1.arcs (gt r1 0)).low), iv ((gt x1.arcs (gt r1 0)).cap), iv ((gt x1.arcs (gt r1 0)).cost), iv ((gt x1.arcs (gt r1 1)).src), iv ((gt x1.arcs (gt r1 1)).dst), iv ((gt x1.arcs (gt r1 1)).low), iv ((gt x1.arcs (gt r1 1)).cap), iv ((gt x1.arcs (gt r1 1)).cost), iv x2, iv (gt x1.supply x2)] rfl rfl rfl rfl rfl rfl rfl rfl rfl (.tail (.tail (.tail (.tail .head)))) rfl rfl ?_
          refine WP.anyP 8 tysOk putInv_body rfl rfl rfl (by kernel_rfl) (by kernel_rfl) rfl rfl rfl rfl rfl True.intro ?_
          refine WP.any0 rfl (by kernel_rfl) ?_
          refine WP.stop rfl () True.intro ?_ ?_
          · repeat (first | exact True.intro | refine And.intro rfl ?_)
          exact (.cons .head (.cons .head (.cons .head (.cons .head (.cons .head (.cons .head (.cons .head (.cons .head .nil))))))))
        refine WP.sto' tysOk [iv x2, iv (gt r1 0), iv (gt r1 1), iv r7.src, iv r7.dst, iv r7.low, iv r7.cap, iv r7.cost] rfl rfl rfl rfl rfl rfl rfl rfl rfl (.tail (.tail (.tail (.tail .head)))) rfl rfl ?_
        refine WP.any1 5 rfl (by kernel_rfl) rfl ?_
        refine WP.ldm tysOk rfl True.intro rfl rfl rfl rfl rfl rfl rfl (SegAt.blk' (.tail (.tail .head)) rfl) ?_
        refine WP.any1 7 rfl (by kernel_rfl) rfl ?_
        refine WP.sto' tysOk [iv ((gt x1.arcs (gt r1 0)).src), iv ((gt x1.arcs (gt r1 0)).dst), iv ((gt x1.arcs (gt r1 0)).low), iv ((gt x1.arcs (gt r1 0)).cap), iv ((gt x1.arcs (gt r1 0)).cost), iv ((gt x1.arcs (gt r1 1)).src), iv ((gt x1.arcs (gt r1 1)).dst), iv ((gt x1.arcs (gt r1 1)).low), iv ((gt x1.arcs (gt r1 1)).cap), iv ((gt x1.arcs (gt r1 1)).cost), iv x2, iv (gt x1.supply x2)] rfl rfl rfl rfl rfl rfl rfl rfl rfl (.tail (.tail (.tail (.tail .head)))) rfl rfl ?_
        refine WP.anyP 8 tysOk putInv_body rfl rfl rfl (by kernel_rfl) (by kernel_rfl) rfl rfl rfl rfl rfl True.intro ?_
        refine WP.any0 rfl (by kernel_rfl) ?_
        refine WP.stop rfl () True.intro ?_ ?_
        · repeat (first | exact True.intro | refine And.intro rfl ?_)
        exact (.cons .head (.cons .head (.cons .head (.cons .head (.cons .head (.cons .head (.cons .head (.cons .head .nil))))))))
      refine WP.ldm tysOk rfl True.intro rfl rfl rfl rfl rfl rfl rfl (SegAt.blk' (.tail .head) rfl) ?_
      refine WP.any1 4 rfl (by kernel_rfl) rfl ?_
      refine WP.bld (cs := [iv x2, iv (gt r1 0), iv (gt r1 1), iv r7.src, iv r7.dst, iv r7.low, iv r7.cap, iv r7.cost]) tysOk rfl True.intro rfl rfl rfl rfl rfl rfl rfl ?_
      refine WP.any1 6 rfl (by kernel_rfl) rfl ?_
      refine WP.sto' tysOk [iv x2, iv (gt r1 0), iv (gt r1 1), iv r7.src, iv r7.dst, iv r7.low, iv r7.cap, iv r7.cost] rfl rfl rfl rfl rfl rfl rfl rfl rfl (.tail (.tail (.tail (.tail .head)))) rfl rfl ?_
      refine WP.any1 7 rfl (by kernel_rfl) rfl ?_
      refine WP.sto' tysOk [iv ((gt x1.arcs (gt r1 0)).src), iv ((gt x1.arcs (gt r1 0)).dst), iv ((gt x1.arcs (gt r1 0)).low), iv ((gt x1.arcs (gt r1 0)).cap), iv ((gt x1.arcs (gt r1 0)).cost), iv ((gt x1.arcs (gt r1 1)).src), iv ((gt x1.arcs (gt r1 1)).dst), iv ((gt x1.arcs (gt r1 1)).low), iv ((gt x1.arcs (gt r1 1)).cap), iv ((gt x1.arcs (gt r1 1)).cost), iv x2, iv (gt x1.supply x2)] rfl rfl rfl rfl rfl rfl rfl rfl rfl (.tail (.tail (.tail (.tail .head)))) rfl rfl ?_
      refine WP.anyP 8 tysOk putInv_body rfl rfl rfl (by kernel_rfl) (by kernel_rfl) rfl rfl rfl rfl rfl True.intro ?_
      refine WP.any0 rfl (by kernel_rfl) ?_
      refine WP.stop rfl () True.intro ?_ ?_
      · repeat (first | exact True.intro | refine And.intro rfl ?_)
      exact (.cons .head (.cons .head (.cons .head (.cons .head (.cons .head (.cons .head (.cons .head (.cons .head .nil))))))))
    refine WP.ldm tysOk rfl True.intro rfl rfl rfl rfl rfl rfl rfl (SegAt.blk' (.tail .head) rfl) ?_
    refine WP.any1 3 rfl (by kernel_rfl) rfl ?_
    refine WP.ldm tysOk rfl True.intro rfl rfl rfl rfl rfl rfl rfl (SegAt.blk' .head rfl) ?_
    refine WP.any1 4 rfl (by kernel_rfl) rfl ?_
    refine WP.bld (cs := [iv x2, iv (gt r1 0), iv (gt r1 1), iv r7.src, iv r7.dst, iv r7.low, iv r7.cap, iv r7.cost]) tysOk rfl True.intro rfl rfl rfl rfl rfl rfl rfl ?_
    refine WP.any1 6 rfl (by kernel_rfl) rfl ?_
    refine WP.sto' tysOk [iv x2, iv (gt r1 0), iv (gt r1 1), iv r7.src, iv r7.dst, iv r7.low, iv r7.cap, iv r7.cost] rfl rfl rfl rfl rfl rfl rfl rfl rfl (.tail (.tail (.tail (.tail .head)))) rfl rfl ?_
    refine WP.any1 7 rfl (by kernel_rfl) rfl ?_
    refine WP.sto' tysOk [iv ((gt x1.arcs (gt r1 0)).src), iv ((gt x1.arcs (gt r1 0)).dst), iv ((gt x1.arcs (gt r1 0)).low), iv ((gt x1.arcs (gt r1 0)).cap), iv ((gt x1.arcs (gt r1 0)).cost), iv ((gt x1.arcs (gt r1 1)).src), iv ((gt x1.arcs (gt r1 1)).dst), iv ((gt x1.arcs (gt r1 1)).low), iv ((gt x1.arcs (gt r1 1)).cap), iv ((gt x1.arcs (gt r1 1)).cost), iv x2, iv (gt x1.supply x2)] rfl rfl rfl rfl rfl rfl rfl rfl rfl (.tail (.tail (.tail (.tail .head)))) rfl rfl ?_
    refine WP.anyP 8 tysOk putInv_body rfl rfl rfl (by kernel_rfl) (by kernel_rfl) rfl rfl rfl rfl rfl True.intro ?_
    refine WP.any0 rfl (by kernel_rfl) ?_
    refine WP.stop rfl () True.intro ?_ ?_
    · repeat (first | exact True.intro | refine And.intro rfl ?_)
    exact (.cons .head (.cons .head (.cons .head (.cons .head (.cons .head (.cons .head (.cons .head (.cons .head .nil))))))))
  intro _ _
  cases h
  refine WP.retR tysOk rfl rfl ⟨_, _, _, _, rfl, ⟨_, rfl, .inr ⟨rfl, _, rfl, rfl, (SegAt.blk' (z := 8) (.tail .head) rfl).1⟩⟩, ⟨_, _, _, _, rfl, ⟨_, rfl, .inr ⟨rfl, _, rfl, rfl, (SegAt.blk' (z := 12) .head rfl).1⟩⟩, ⟨_, _, rfl, rfl, rfl⟩, rfl⟩, rfl⟩ (fun w1 hw1 => ⟨rfl, Ret.below_ hw1 (.cons (.tail (.tail (.tail (.tail (.tail (.tail (.tail .head))))))) .nil)⟩)

abbrev inst_Kept_S (r : (List Int)) : Value → Heap → Prop := fun v L => ∃ (A1 : Option Addr) (n1 c1 : Nat), v = .slice A1 n1 c1 ∧ OwF A1 n1 r ∧ L = [Ow (fI .i64) 3 A1 n1 c1 r]
set_option maxRecDepth 20000 in
set_option maxHeartbeats 8000000 in
theorem inst_Kept_w {w : World} {v0 : Value} {off1 : List Bool} {n1 : Int} {r : (List Int)} (h : inst_Kept off1 n1 = some r) (p1 : SlF fB (PH.of w) v0 off1) :
    Calls Try.prog 75 #[v0, iv n1] w fun e w' => ∃ v L, e = .returned v ∧ inst_Kept_S r v L ∧ Ret w w' L := by
  obtain ⟨A1, c1, rfl, hs1⟩ := p1
  unfold inst_Kept at h
  refine enter_ Try.func75 rfl Try.ntmps75 rfl ?_
  iterate 3 (refine WP.st tysOk true rfl True.intro rfl rfl rfl rfl True.intro ?_)
  refine WP.mn rfl True.intro rfl rfl rfl rfl rfl rfl ?_
  refine WP.st tysOk true rfl True.intro rfl rfl rfl rfl True.intro ?_
  refine WP.own_nil 3 (fI .i64).z ?_
  refine WP.loop (α := Nat × Int × (List Int) × (Option Addr) × Nat × Nat) (fun x => lp (inst_Kept_b1 off1 n1) x.1 (x.2.1, x.2.2.1) = some r ∧ OwF x.2.2.2.1 x.2.2.2.2.1 x.2.2.1) (fun x => [(0, .slice A1 off1.length c1), (5, .slice x.2.2.2.1 x.2.2.2.2.1 x.2.2.2.2.2), (8, iv (if 1000 < n1 then 1000 else n1)), (9, iv x.2.1)]) (fun x => [Ow (fI .i64) 3 x.2.2.2.1 x.2.2.2.2.1 x.2.2.2.2.2 x.2.2.1, .fz (PH.of w)]) (fun x => x.1) rfl (big, 0, ([] : List Int), none, 0, 0) ⟨h, OwF.nil_⟩ ?_ ?_ ?_
  · repeat (first | exact True.intro | refine And.intro rfl ?_)
  · exact (.cons .head (.cons .head .nil))
  rintro ⟨n2, s3, xs10, A11, m2, c11⟩ ⟨h, hf18⟩
  dsimp only at h hf18 ⊢
  rcases n2 with _ | n2
  · exact (lp_no h).elim
  replace h := lp_succ h
  unfold inst_Kept_b1 at h
  try dsimp only at h
  refine WP.st tysOk true rfl True.intro rfl rfl rfl rfl True.intro ?_
  refine WP.cond_d rfl rfl (fun hh13 => ?_) (fun hh13 => ?_)
  · rw [if_pos hh13] at h
    iterate 7 (refine WP.st tysOk true rfl True.intro rfl rfl rfl rfl True.intro ?_)
    by_cases hh14 : (off1.length : Int) ≤ s3
    · rw [if_pos hh14] at h
      refine WP.no rfl rfl (decide_eq_true hh14) rfl rfl ?_
      iterate 4 (refine WP.no rfl rfl rfl rfl rfl ?_)
      refine WP.st tysOk true rfl True.intro rfl rfl rfl rfl True.intro ?_
      refine WP.condT rfl rfl ?_
      iterate 2 (refine WP.st tysOk true rfl True.intro rfl rfl rfl rfl True.intro ?_)
      refine WP.bsO (f := (fI .i64)) [s3] tysOk rfl rfl rfl rfl rfl rfl rfl rfl rfl rfl rfl rfl rfl rfl ?_
      intro g9 hf19
      obtain ⟨hl9, h⟩ := ck_some h
      obtain ⟨xs11, hz9, h⟩ := lt_some h
      refine WP.appO (f := (fI .i64)) (xs := xs10) (ys := [s3]) tysOk rfl rfl rfl rfl rfl rfl rfl rfl rfl rfl rfl rfl (.tail .head) hf18 hf19.len (OwS.app .head hf19) hl9 hz9 ?_
      intro A12 c12 hf20
      iterate 3 (refine WP.st tysOk true rfl True.intro rfl rfl rfl rfl True.intro ?_)
      refine WP.stop rfl (n2, w64 (s3 + 1), xs11, A12, xs11.length, c12) ⟨⟨h, hf20⟩, Nat.lt_succ_self _⟩ ?_ ?_
      · repeat (first | exact True.intro | refine And.intro rfl ?_)
      exact (.cons .head (.cons (.tail .head) .nil))
    rw [if_neg hh14] at h
    refine WP.yes rfl rfl (decide_eq_false hh14) ?_
    iterate 2 (refine WP.st tysOk true rfl True.intro rfl rfl rfl rfl True.intro ?_; refine WP.yes rfl rfl rfl ?_)
    obtain ⟨hj5, h⟩ := ck_some h
    refine WP.ixA tysOk rfl True.intro rfl rfl rfl rfl rfl rfl rfl rfl hj5 (hs1.ex hj5) ?_
    intro b5 _ hA5
    refine WP.yes rfl rfl rfl ?_
    refine WP.ld1 tysOk rfl True.intro rfl rfl rfl rfl rfl rfl rfl (hs1.at0 hA5 (Held.mem (List.Mem.tail _ (List.Mem.head _))) hj5 rfl) ?_
    refine WP.yes rfl rfl rfl ?_
    iterate 2 (refine WP.st tysOk true rfl True.intro rfl rfl rfl rfl True.intro ?_)
    refine WP.cond_n rfl rfl (fun hh15 => ?_) (fun hh15 => ?_)
    · rw [if_neg (bneg hh15)] at h
      iterate 2 (refine WP.st tysOk true rfl True.intro rfl rfl rfl rfl True.intro ?_)
      refine WP.bsO (f := (fI .i64)) [s3] tysOk rfl rfl rfl rfl rfl rfl rfl rfl rfl rfl rfl rfl rfl rfl ?_
      intro g10 hf21
      obtain ⟨hl10, h⟩ := ck_some h
      obtain ⟨xs12, hz10, h⟩ := lt_some h
      refine WP.appO (f := (fI .i64)) (xs := xs10) (ys := [s3]) tysOk rfl rfl rfl rfl rfl rfl rfl rfl rfl rfl rfl rfl (.tail .head) hf18 hf21.len (OwS.app .head hf21) hl10 hz10 ?_
      intro A13 c13 hf22
      iterate 3 (refine WP.st tysOk true rfl True.intro rfl rfl rfl rfl True.intro ?_)
      refine WP.stop rfl (n2, w64 (s3 + 1), xs12, A13, xs12.length, c13) ⟨⟨h, hf22⟩, Nat.lt_succ_self _⟩ ?_ ?_
      · repeat (first | exact True.intro | refine And.intro rfl ?_)
      exact (.cons .head (.cons (.tail .head) .nil))
    rw [if_pos hh15] at h
    iterate 2 (refine WP.st tysOk true rfl True.intro rfl rfl rfl rfl True.intro ?_)
    refine WP.stop rfl (n2, w64 (s3 + 1), xs10, A11, m2, c11) ⟨⟨h, hf18⟩, Nat.lt_succ_self _⟩ ?_ ?_
    · repeat (first | exact True.intro | refine And.intro rfl ?_)
    exact (.cons .head (.cons .head .nil))
  rw [if_neg hh13] at h
  iterate 2 (refine WP.st tysOk true rfl True.intro rfl rfl rfl rfl True.intro ?_)
  cases h
  refine WP.retR tysOk rfl rfl ⟨_, _, rfl, rfl, rfl⟩ (fun w1 hw1 => ⟨_, _, rfl, ⟨A11, m2, c11, rfl, hf18, rfl⟩, Ret.of_KH hw1 (.cons .head (.cons .head .nil))⟩)

abbrev inst_pick_int64_S (r : (List Int)) : Value → Heap → Prop := fun v L => ∃ (A1 : Option Addr) (n1 c1 : Nat), v = .slice A1 n1 c1 ∧ OwF A1 n1 r ∧ L = [Ow (fI .i64) 2 A1 n1 c1 r]
set_option maxRecDepth 20000 in
set_option maxHeartbeats 8000000 in
theorem inst_pick_int64_w {w : World} {v0 : Value} {v1 : Value} {l1 : List Int} {atv1 : List Int} {r : (List Int)} (h : inst_pick_int64 l1 atv1 = some r) (p1 : SlF (fI .i64) (PH.of w) v0 l1) (p2 : SlF (fI .i64) (PH.of w) v1 atv1) :
    Calls Try.prog 76 #[v0, v1] w fun e w' => ∃ v L, e = .returned v ∧ inst_pick_int64_S r v L ∧ Ret w w' L := by
  obtain ⟨A1, c1, rfl, hs1⟩ := p1
  obtain ⟨A2, c2, rfl, hs2⟩ := p2
  unfold inst_pick_int64 at h
  refine enter_ Try.func76 rfl Try.ntmps76 rfl ?_
  iterate 5 (refine WP.st tysOk true rfl True.intro rfl rfl rfl rfl True.intro ?_)
  refine WP.own_nil 2 (fI .i64).z ?_
  refine WP.loop (α := Nat × Int × (List Int) × (Option Addr) × Nat × Nat) (fun x => lp (inst_pick_int64_b1 l1 atv1) x.1 (x.2.1, x.2.2.1) = some r ∧ OwF x.2.2.2.1 x.2.2.2.2.1 x.2.2.1) (fun x => [(0, .slice A1 l1.length c1), (5, .slice x.2.2.2.1 x.2.2.2.2.1 x.2.2.2.2.2), (8, .slice A2 atv1.length c2), (9, iv (atv1.length : Int)), (10, iv x.2.1)]) (fun x => [Ow (fI .i64) 2 x.2.2.2.1 x.2.2.2.2.1 x.2.2.2.2.2 x.2.2.1, .fz (PH.of w)]) (fun x => x.1) rfl (big, 0, ([] : List Int), none, 0, 0) ⟨h, OwF.nil_⟩ ?_ ?_ ?_
  · repeat (first | exact True.intro | refine And.intro rfl ?_)
  · exact (.cons .head (.cons .head .nil))
  rintro ⟨n1, s3, xs6, A8, m2, c8⟩ ⟨h, hf10⟩
  dsimp only at h hf10 ⊢
  rcases n1 with _ | n1
  · exact (lp_no h).elim
  replace h := lp_succ h
  unfold inst_pick_int64_b1 at h
  try dsimp only at h
  refine WP.st tysOk true rfl True.intro rfl rfl rfl rfl True.intro ?_
  refine WP.cond_d rfl rfl (fun hh5 => ?_) (fun hh5 => ?_)
  · rw [if_pos hh5] at h
    obtain ⟨hj9, h⟩ := ck_some h
    refine WP.ixA tysOk rfl True.intro rfl rfl rfl rfl rfl rfl rfl rfl hj9 (hs2.ex hj9) ?_
    intro b9 _ hA9
    refine WP.ld1 tysOk rfl True.intro rfl rfl rfl rfl rfl rfl rfl (hs2.at0 hA9 (Held.mem (List.Mem.tail _ (List.Mem.head _))) hj9 rfl) ?_
    iterate 4 (refine WP.st tysOk true rfl True.intro rfl rfl rfl rfl True.intro ?_)
    obtain ⟨hj10, h⟩ := ck_some h
    refine WP.ixA tysOk rfl True.intro rfl rfl rfl rfl rfl rfl rfl rfl hj10 (hs1.ex hj10) ?_
    intro b10 _ hA10
    refine WP.ld1 tysOk rfl True.intro rfl rfl rfl rfl rfl rfl rfl (hs1.at0 hA10 (Held.mem (List.Mem.tail _ (List.Mem.head _))) hj10 rfl) ?_
    refine WP.bsO (f := (fI .i64)) [(gt l1 (gt atv1 s3))] tysOk rfl rfl rfl rfl rfl rfl rfl rfl rfl rfl rfl rfl rfl rfl ?_
    intro g5 hf11
    obtain ⟨hl5, h⟩ := ck_some h
    obtain ⟨xs7, hz5, h⟩ := lt_some h
    refine WP.appO (f := (fI .i64)) (xs := xs6) (ys := [(gt l1 (gt atv1 s3))]) tysOk rfl rfl rfl rfl rfl rfl rfl rfl rfl rfl rfl rfl (.tail .head) hf10 hf11.len (OwS.app .head hf11) hl5 hz5 ?_
    intro A9 c9 hf12
    iterate 3 (refine WP.st tysOk true rfl True.intro rfl rfl rfl rfl True.intro ?_)
    refine WP.stop rfl (n1, w64 (s3 + 1), xs7, A9, xs7.length, c9) ⟨⟨h, hf12⟩, Nat.lt_succ_self _⟩ ?_ ?_
    · repeat (first | exact True.intro | refine And.intro rfl ?_)
    exact (.cons .head (.cons (.tail .head) .nil))
  rw [if_neg hh5] at h
  iterate 2 (refine WP.st tysOk true rfl True.intro rfl rfl rfl rfl True.intro ?_)
  cases h
  refine WP.retR tysOk rfl rfl ⟨_, _, rfl, rfl, rfl⟩ (fun w1 hw1 => ⟨_, _, rfl, ⟨A8, m2, c8, rfl, hf10, rfl⟩, Ret.of_KH hw1 (.cons .head (.cons .head .nil))⟩)

abbrev inst_pick_api_Arc_S (r : (List Arc)) : Value → Heap → Prop := fun v L => ∃ (A1 : Option Addr) (n1 c1 : Nat), v = .slice A1 n1 c1 ∧ OwF A1 n1 r ∧ L = [Ow fA 23 A1 n1 c1 r]
set_option maxRecDepth 20000 in
set_option maxHeartbeats 8000000 in
theorem inst_pick_api_Arc_w {w : World} {v0 : Value} {v1 : Value} {l1 : List Arc} {atv1 : List Int} {r : (List Arc)} (h : inst_pick_api_Arc l1 atv1 = some r) (p1 : SlF fA (PH.of w) v0 l1) (p2 : SlF (fI .i64) (PH.of w) v1 atv1) :
    Calls Try.prog 77 #[v0, v1] w fun e w' => ∃ v L, e = .returned v ∧ inst_pick_api_Arc_S r v L ∧ Ret w w' L := by
  obtain ⟨A1, c1, rfl, hs1⟩ := p1
  obtain ⟨A2, c2, rfl, hs2⟩ := p2
  unfold inst_pick_api_Arc at h
  refine enter_ Try.func77 rfl Try.ntmps77 rfl ?_
  iterate 5 (refine WP.st tysOk true rfl True.intro rfl rfl rfl rfl True.intro ?_)
  refine WP.own_nil 23 fA.z ?_
  refine WP.loop (α := Nat × Int × (List Arc) × (Option Addr) × Nat × Nat) (fun x => lp (inst_pick_api_Arc_b1 l1 atv1) x.1 (x.2.1, x.2.2.1) = some r ∧ OwF x.2.2.2.1 x.2.2.2.2.1 x.2.2.1) (fun x => [(0, .slice A1 l1.length c1), (5, .slice x.2.2.2.1 x.2.2.2.2.1 x.2.2.2.2.2), (8, .slice A2 atv1.length c2), (9, iv (atv1.length : Int)), (10, iv x.2.1)]) (fun x => [Ow fA 23 x.2.2.2.1 x.2.2.2.2.1 x.2.2.2.2.2 x.2.2.1, .fz (PH.of w)]) (fun x => x.1) rfl (big, 0, ([] : List Arc), none, 0, 0) ⟨h, OwF.nil_⟩ ?_ ?_ ?_
  · repeat (first | exact True.intro | refine And.intro rfl ?_)
  · exact (.cons .head (.cons .head .nil))
  rintro ⟨n1, s3, xs6, A8, m2, c8⟩ ⟨h, hf10⟩
  dsimp only at h hf10 ⊢
  rcases n1 with _ | n1
  · exact (lp_no h).elim
  replace h := lp_succ h
  unfold inst_pick_api_Arc_b1 at h
  try dsimp only at h
  refine WP.st tysOk true rfl True.intro rfl rfl rfl rfl True.intro ?_
  refine WP.cond_d rfl rfl (fun hh5 => ?_) (fun hh5 => ?_)
  · rw [if_pos hh5] at h
    obtain ⟨hj9, h⟩ := ck_some h
    refine WP.ixA tysOk rfl True.intro rfl rfl rfl rfl rfl rfl rfl rfl hj9 (hs2.ex hj9) ?_
    intro b9 _ hA9
    refine WP.ld1 tysOk rfl True.intro rfl rfl rfl rfl rfl rfl rfl (hs2.at0 hA9 (Held.mem (List.Mem.tail _ (List.Mem.head _))) hj9 rfl) ?_
    iterate 4 (refine WP.st tysOk true rfl True.intro rfl rfl rfl rfl True.intro ?_)
    obtain ⟨hj10, h⟩ := ck_some h
    refine WP.ixA tysOk rfl True.intro rfl rfl rfl rfl rfl rfl rfl rfl hj10 (hs1.ex hj10) ?_
    intro b10 _ hA10
    refine WP.ldm tysOk rfl True.intro rfl rfl rfl rfl rfl rfl rfl (hs1.seg hA10 (Held.mem (List.Mem.tail _ (List.Mem.head _))) hj10) ?_
    refine WP.bsO (f := fA) [(gt l1 (gt atv1 s3))] tysOk rfl rfl rfl rfl rfl rfl rfl rfl rfl rfl rfl rfl rfl rfl ?_
    intro g5 hf11
    obtain ⟨hl5, h⟩ := ck_some h
    obtain ⟨xs7, hz5, h⟩ := lt_some h
    refine WP.appO (f := fA) (xs := xs6) (ys := [(gt l1 (gt atv1 s3))]) tysOk rfl rfl rfl rfl rfl rfl rfl rfl rfl rfl rfl rfl (.tail .head) hf10 hf11.len (OwS.app .head hf11) hl5 hz5 ?_
    intro A9 c9 hf12
    iterate 3 (refine WP.st tysOk true rfl True.intro rfl rfl rfl rfl True.intro ?_)
    refine WP.stop rfl (n1, w64 (s3 + 1), xs7, A9, xs7.length, c9) ⟨⟨h, hf12⟩, Nat.lt_succ_self _⟩ ?_ ?_
    · repeat (first | exact True.intro | refine And.intro rfl ?_)
    exact (.cons .head (.cons (.tail .head) .nil))
  rw [if_neg hh5] at h
  iterate 2 (refine WP.st tysOk true rfl True.intro rfl rfl rfl rfl True.intro ?_)
  cases h
  refine WP.retR tysOk rfl rfl ⟨_, _, rfl, rfl, rfl⟩ (fun w1 hw1 => ⟨_, _, rfl, ⟨A8, m2, c8, rfl, hf10, rfl⟩, Ret.of_KH hw1 (.cons .head (.cons .head .nil))⟩)

set_option maxRecDepth 20000 in
set_option maxHeartbeats 8000000 in
theorem slices_Index_int_w {w : World} {v0 : Value} {s1 : List Int} {v1 : Int} {r : Int} (h : slices_Index_int s1 v1 = some r) (p1 : SlF (fI .i64) (PH.of w) v0 s1) :
    Calls Try.prog 78 #[v0, iv v1] w fun e w' => e = .returned (iv r) ∧ Below w.heap.size w w' := by
  obtain ⟨A1, c1, rfl, hs1⟩ := p1
  unfold slices_Index_int at h
  refine enter_ Try.func78 rfl Try.ntmps78 rfl ?_
  iterate 4 (refine WP.st tysOk true rfl True.intro rfl rfl rfl rfl True.intro ?_)
  refine WP.loop (α := Nat × Int) (fun x => lp (slices_Index_int_b1 s1 v1) x.1 x.2 = some r) (fun x => [(0, .slice A1 s1.length c1), (1, iv v1), (7, iv (s1.length : Int)), (8, iv x.2)]) (fun x => [.fz (PH.of w)]) (fun x => x.1) rfl (big, 0) h ?_ ?_ ?_
  · repeat (first | exact True.intro | refine And.intro rfl ?_)
  · exact (.cons .head .nil)
  rintro ⟨n1, s3⟩ h
  dsimp only at h ⊢
  rcases n1 with _ | n1
  · exact (lp_no h).elim
  replace h := lp_succ h
  unfold slices_Index_int_b1 at h
  try dsimp only at h
  refine WP.st tysOk true rfl True.intro rfl rfl rfl rfl True.intro ?_
  refine WP.cond_d rfl rfl (fun hh5 => ?_) (fun hh5 => ?_)
  · rw [if_pos hh5] at h
    iterate 5 (refine WP.st tysOk true rfl True.intro rfl rfl rfl rfl True.intro ?_)
    obtain ⟨hj3, h⟩ := ck_some h
    refine WP.ixA tysOk rfl True.intro rfl rfl rfl rfl rfl rfl rfl rfl hj3 (hs1.ex hj3) ?_
    intro b3 _ hA3
    refine WP.ld1 tysOk rfl True.intro rfl rfl rfl rfl rfl rfl rfl (hs1.at0 hA3 (Held.mem (List.Mem.head _)) hj3 rfl) ?_
    refine WP.st tysOk true rfl True.intro rfl rfl rfl rfl True.intro ?_
    refine WP.cond_d rfl rfl (fun hh6 => ?_) (fun hh6 => ?_)
    · rw [if_pos hh6] at h
      iterate 2 (refine WP.st tysOk true rfl True.intro rfl rfl rfl rfl True.intro ?_)
      cases h
      refine WP.retR tysOk rfl rfl ⟨_, _, rfl, rfl, rfl⟩ (fun w1 hw1 => ⟨rfl, Ret.below_ hw1 (.cons .head .nil)⟩)
    rw [if_neg hh6] at h
    iterate 2 (refine WP.st tysOk true rfl True.intro rfl rfl rfl rfl True.intro ?_)
    refine WP.stop rfl (n1, w64 (s3 + 1)) ⟨h, Nat.lt_succ_self _⟩ ?_ ?_
    · repeat (first | exact True.intro | refine And.intro rfl ?_)
    exact (.cons .head .nil)
  rw [if_neg hh5] at h
  refine WP.st tysOk true rfl True.intro rfl rfl rfl rfl True.intro ?_
  cases h
  refine WP.retR tysOk rfl rfl ⟨_, _, rfl, rfl, rfl⟩ (fun w1 hw1 => ⟨rfl, Ret.below_ hw1 (.cons .head .nil)⟩)

abbrev inst_Without_S (r : Inst) : Value → Heap → Prop := fun v L => ∃ (A1 : Option Addr) (n1 c1 : Nat) (A2 : Option Addr) (n2 c2 : Nat), v = .agg #[.slice A1 n1 c1, .slice A2 n2 c2] ∧ OwF A1 n1 r.supply ∧ OwF A2 n2 r.arcs ∧ L = [Ow (fI .i64) 2 A1 n1 c1 r.supply, Ow fA 23 A2 n2 c2 r.arcs]
set_option maxRecDepth 20000 in
set_option maxHeartbeats 8000000 in
theorem inst_Without_w {w : World} {v0 : Value} {v1 : Value} {v2 : Value} {i1 : Inst} {nodes1 : List Bool} {arcs1 : List Bool} {r : Inst} (h : inst_Without i1 nodes1 arcs1 = some r) (p1 : InsZ (PH.of w) v0 i1) (p2 : SlF fB (PH.of w) v1 nodes1) (p3 : SlF fB (PH.of w) v2 arcs1) :
    Calls Try.prog 59 #[v0, v1, v2] w fun e w' => ∃ v L, e = .returned v ∧ inst_Without_S r v L ∧ Ret w w' L := by
  obtain ⟨A1, c1, A2, c2, rfl, hs1, hs2⟩ := p1
  obtain ⟨A3, c3, rfl, hs3⟩ := p2
  obtain ⟨A4, c4, rfl, hs4⟩ := p3
  unfold inst_Without at h
  refine enter_ Try.func59 rfl Try.ntmps59 rfl ?_
  refine WP.box rfl rfl rfl rfl rfl rfl ?_
  intro g1
  refine WP.al tysOk rfl rfl rfl rfl rfl rfl ?_
  intro g2
  iterate 2 (refine WP.st tysOk true rfl True.intro rfl rfl rfl rfl True.intro ?_)
  refine WP.ld1 tysOk rfl True.intro rfl rfl rfl rfl rfl rfl rfl (CellAt.blk (.tail .head) rfl) ?_
  refine WP.st tysOk true rfl True.intro rfl rfl rfl rfl True.intro ?_
  obtain ⟨r1, hg1, h⟩ := bind_some h
  refine WP.callS (inst_Kept_S r1) rfl rfl rfl rfl rfl rfl rfl (by kernel_rfl) (fun w1 hw1 => (inst_Kept_w hg1 (hs3.le' ((Held.mem (List.Mem.tail _ (List.Mem.tail _ (List.Mem.head _)))) _ _ hw1)).of :)) ?_
  rintro _ _ ⟨A5, n1, c5, rfl, hf1, rfl⟩
  iterate 2 (refine WP.st tysOk true rfl True.intro rfl rfl rfl rfl True.intro ?_)
  refine WP.ld1 tysOk rfl True.intro rfl rfl rfl rfl rfl rfl rfl (CellAt.blk (.tail (.tail .head)) rfl) ?_
  refine WP.st tysOk true rfl True.intro rfl rfl rfl rfl True.intro ?_
  obtain ⟨r2, hg2, h⟩ := bind_some h
  refine WP.callS (inst_pick_int64_S r2) rfl rfl rfl rfl rfl rfl rfl (by kernel_rfl) (fun w1 hw1 => (inst_pick_int64_w hg2 (hs1.le' ((Held.mem (List.Mem.tail _ (List.Mem.tail _ (List.Mem.tail _ (List.Mem.head _))))) _ _ hw1)).of (hw1.ow .head hf1) :)) ?_
  rintro _ _ ⟨A6, n2, c6, rfl, hf2, rfl⟩
  refine WP.bld (cs := [.slice A6 n2 c6, .slice none 0 0]) tysOk rfl True.intro rfl rfl rfl rfl rfl rfl rfl ?_
  refine WP.al tysOk rfl rfl rfl rfl rfl rfl ?_
  intro g3
  refine WP.sto' tysOk [.slice A6 n2 c6, .slice none 0 0] rfl rfl rfl rfl rfl rfl rfl rfl rfl .head rfl rfl ?_
  obtain ⟨r3, hg3, h⟩ := bind_some h
  obtain ⟨r4, hg4, h⟩ := bind_some h
  refine WP.drawL 10 [(6, [], fun _ => inst_Kept_S r3), (7, [6], fun _ => inst_pick_api_Arc_S r4)] rfl (by kernel_rfl) (by kernel_rfl) (by kernel_rfl) ?_
  refine WP.st tysOk true rfl ⟨⟨rfl, rfl⟩, rfl⟩ rfl rfl rfl rfl True.intro ?_
  refine WP.ld1 tysOk rfl ⟨⟨rfl, rfl⟩, rfl⟩ rfl rfl rfl rfl rfl rfl rfl (CellAt.blk (.tail (.tail (.tail (.tail .head)))) rfl) ?_
  iterate 2 (refine WP.st tysOk true rfl ⟨⟨rfl, rfl⟩, rfl⟩ rfl rfl rfl rfl True.intro ?_)
  refine WP.ld1 tysOk rfl ⟨⟨rfl, rfl⟩, rfl⟩ rfl rfl rfl rfl rfl rfl rfl (CellAt.blk (.tail (.tail (.tail (.tail .head)))) rfl) ?_
  refine WP.st tysOk true rfl ⟨⟨rfl, rfl⟩, rfl⟩ rfl rfl rfl rfl True.intro ?_
  refine WP.lcall rfl ⟨rfl, rfl⟩ rfl rfl rfl rfl rfl rfl rfl (by kernel_rfl) (fun w1 hw1 => (inst_Kept_w hg3 (hs4.le' ((Held.mem (List.Mem.tail _ (List.Mem.tail _ (List.Mem.tail _ (List.Mem.tail _ (List.Mem.tail _ (List.Mem.head _))))))) _ _ hw1)).of :)) ?_
  rintro _ _ ⟨A7, n3, c7, rfl, hf3, rfl⟩
  refine WP.lcall rfl ⟨rfl, rfl⟩ rfl rfl rfl rfl rfl rfl rfl (by kernel_rfl) (fun w1 hw1 => (inst_pick_api_Arc_w hg4 (hs2.le' ((Held.mem (List.Mem.tail _ (List.Mem.tail _ (List.Mem.tail _ (List.Mem.tail _ (List.Mem.tail _ (List.Mem.tail _ (List.Mem.head _)))))))) _ _ hw1)).of (hw1.ow .head hf3) :)) ?_
  rintro _ _ ⟨A8, n4, c8, rfl, hf4, rfl⟩
  refine WP.lenO (xs := r4) tysOk rfl ⟨⟨rfl, rfl⟩, rfl⟩ rfl rfl rfl rfl rfl rfl hf4 ?_
  refine WP.st tysOk true rfl ⟨⟨rfl, rfl⟩, rfl⟩ rfl rfl rfl rfl True.intro ?_
  refine WP.lend rfl ⟨rfl, rfl⟩ ?_
  refine WP.own_nil 23 fA.z ?_
  refine WP.loop (α := Nat × Int × (List Arc) × (Option Addr) × Nat × Nat) (fun x => lp (inst_Without_b1 r1 r2 r4) x.1 (x.2.1, x.2.2.1) = some r ∧ OwF x.2.2.2.1 x.2.2.2.2.1 x.2.2.1) (fun x => [(6, .pointer (some ⟨g2, 0, none⟩)), (7, .slice A5 n1 c5), (8, .pointer (some ⟨g3, 0, none⟩)), (28, .slice A8 n4 c8), (29, iv (r4.length : Int)), (30, iv x.2.1)]) (fun x => [Ow fA 23 x.2.2.2.1 x.2.2.2.2.1 x.2.2.2.2.2 x.2.2.1, Ow fA 23 A8 n4 c8 r4, .blk g3 27 [.slice A6 n2 c6, .slice x.2.2.2.1 x.2.2.2.2.1 x.2.2.2.2.2], Ow (fI .i64) 2 A6 n2 c6 r2, Ow (fI .i64) 3 A5 n1 c5 r1, .blk g2 27 [.slice none 0 0, .slice none 0 0], .fz (PH.of w)]) (fun x => x.1) rfl (big, 0, ([] : List Arc), none, 0, 0) ⟨h, OwF.nil_⟩ ?_ ?_ ?_
  · repeat (first | exact True.intro | refine And.intro rfl ?_)
  · exact (.cons .head (.cons .head (.cons (.tail .head) (.cons (.tail .head) (.cons (.tail .head) (.cons (.tail .head) (.cons (.tail (.tail .head)) .nil)))))))
  rintro ⟨n5, s3, xs5, A13, m2, c13⟩ ⟨h, hf12⟩
  dsimp only at h hf12 ⊢
  rcases n5 with _ | n5
  · exact (lp_no h).elim
  replace h := lp_succ h
  unfold inst_Without_b1 at h
  try dsimp only at h
  refine WP.st tysOk true rfl True.intro rfl rfl rfl rfl True.intro ?_
  refine WP.cond_d rfl rfl (fun hh10 => ?_) (fun hh10 => ?_)
  · rw [if_pos hh10] at h
    obtain ⟨hj4, h⟩ := ck_some h
    refine WP.ixO tysOk rfl True.intro rfl rfl rfl rfl rfl rfl rfl rfl hf4 hj4 ?_
    intro b4 hA4
    refine WP.ldm tysOk rfl True.intro rfl rfl rfl rfl rfl rfl rfl (OwS.seg (.tail .head) hA4 hj4) ?_
    refine WP.al tysOk rfl rfl rfl rfl rfl rfl ?_
    intro g10
    refine WP.sto' tysOk [iv ((gt r4 s3).src), iv ((gt r4 s3).dst), iv ((gt r4 s3).low), iv ((gt r4 s3).cap), iv ((gt r4 s3).cost)] rfl rfl rfl rfl rfl rfl rfl rfl rfl .head rfl rfl ?_
    obtain ⟨r11, hg11, h⟩ := bind_some h
    obtain ⟨r12, hg12, h⟩ := bind_some h
    refine WP.drawL 9 [(3, [], fun _ => constSpec (iv r11)), (7, [], fun _ => constSpec (iv r12))] rfl (by kernel_rfl) (by kernel_rfl) (by kernel_rfl) ?_
    iterate 2 (refine WP.st tysOk true rfl ⟨⟨rfl, rfl⟩, rfl⟩ rfl rfl rfl rfl True.intro ?_)
    refine WP.ld1 tysOk rfl ⟨⟨rfl, rfl⟩, rfl⟩ rfl rfl rfl rfl rfl rfl rfl (CellAt.blk .head rfl) ?_
    refine WP.callV rfl rfl rfl rfl rfl rfl rfl (by kernel_rfl) (fun w1 hw1 => (slices_Index_int_w hg11 (hw1.ow (.tail (.tail (.tail (.tail (.tail .head))))) hf1) :)) ⟨⟨rfl, rfl⟩, rfl⟩ ?_
    iterate 2 (refine WP.st tysOk true rfl ⟨⟨rfl, rfl⟩, rfl⟩ rfl rfl rfl rfl True.intro ?_)
    refine WP.ld1 tysOk rfl ⟨⟨rfl, rfl⟩, rfl⟩ rfl rfl rfl rfl rfl rfl rfl (CellAt.blk .head rfl) ?_
    refine WP.callV rfl rfl rfl rfl rfl rfl rfl (by kernel_rfl) (fun w1 hw1 => (slices_Index_int_w hg12 (hw1.ow (.tail (.tail (.tail (.tail (.tail .head))))) hf1) :)) ⟨⟨rfl, rfl⟩, rfl⟩ ?_
    refine WP.st tysOk true rfl ⟨⟨rfl, rfl⟩, rfl⟩ rfl rfl rfl rfl True.intro ?_
    refine WP.lend rfl ⟨rfl, rfl⟩ ?_
    refine WP.sto' tysOk [iv r11, iv ((gt r4 s3).dst), iv ((gt r4 s3).low), iv ((gt r4 s3).cap), iv ((gt r4 s3).cost)] rfl rfl rfl rfl rfl rfl rfl rfl rfl .head rfl rfl ?_
    refine WP.st tysOk true rfl True.intro rfl rfl rfl rfl True.intro ?_
    refine WP.sto' tysOk [iv r11, iv r12, iv ((gt r4 s3).low), iv ((gt r4 s3).cap), iv ((gt r4 s3).cost)] rfl rfl rfl rfl rfl rfl rfl rfl rfl .head rfl rfl ?_
    refine WP.st tysOk true rfl True.intro rfl rfl rfl rfl True.intro ?_
    refine WP.ld1 tysOk rfl True.intro rfl rfl rfl rfl rfl rfl rfl (CellAt.blk .head rfl) ?_
    iterate 2 (refine WP.st tysOk true rfl True.intro rfl rfl rfl rfl True.intro ?_)
    by_cases hh11 : 0 ≤ r11
    · rw [if_pos hh11] at h
      refine WP.yes rfl rfl (decide_eq_true hh11) ?_
      refine WP.st tysOk true rfl True.intro rfl rfl rfl rfl True.intro ?_
      refine WP.yes rfl rfl rfl ?_
      refine WP.ld1 tysOk rfl True.intro rfl rfl rfl rfl rfl rfl rfl (CellAt.blk .head rfl) ?_
      refine WP.yes rfl rfl rfl ?_
      iterate 2 (refine WP.st tysOk true rfl True.intro rfl rfl rfl rfl True.intro ?_)
      refine WP.cond_d rfl rfl (fun hh12 => ?_) (fun hh12 => ?_)
      · rw [if_pos hh12] at h
        refine WP.st tysOk true rfl True.intro rfl rfl rfl rfl True.intro ?_
        refine WP.ld1 tysOk rfl True.intro rfl rfl rfl rfl rfl rfl rfl (CellAt.blk (.tail (.tail (.tail .head))) rfl) ?_
        refine WP.ldm tysOk rfl True.intro rfl rfl rfl rfl rfl rfl rfl (SegAt.blk' .head rfl) ?_
        refine WP.bsO (f := fA) [(Arc.mk r11 r12 ((gt r4 s3).low) ((gt r4 s3).cap) ((gt r4 s3).cost))] tysOk rfl rfl rfl rfl rfl rfl rfl rfl rfl rfl rfl rfl rfl rfl ?_
        intro g11 hf13
        obtain ⟨hl4, h⟩ := ck_some h
        obtain ⟨xs6, hz4, h⟩ := lt_some h
        refine WP.appO (f := fA) (xs := xs5) (ys := [(Arc.mk r11 r12 ((gt r4 s3).low) ((gt r4 s3).cap) ((gt r4 s3).cost))]) tysOk rfl rfl rfl rfl rfl rfl rfl rfl rfl rfl rfl rfl (.tail (.tail .head)) hf12 hf13.len (OwS.app .head hf13) hl4 hz4 ?_
        intro A14 c14 hf14
        refine WP.st tysOk true rfl True.intro rfl rfl rfl rfl True.intro ?_
        refine WP.sto' tysOk [.slice A6 n2 c6, .slice A14 xs6.length c14] rfl rfl rfl rfl rfl rfl rfl rfl rfl (.tail (.tail (.tail (.tail .head)))) rfl rfl ?_
        iterate 2 (refine WP.st tysOk true rfl True.intro rfl rfl rfl rfl True.intro ?_)
        refine WP.stop rfl (n5, w64 (s3 + 1), xs6, A14, xs6.length, c14) ⟨⟨h, hf14⟩, Nat.lt_succ_self _⟩ ?_ ?_
        · repeat (first | exact True.intro | refine And.intro rfl ?_)
        exact (.cons (.tail .head) (.cons (.tail (.tail (.tail .head))) (.cons .head (.cons (.tail (.tail .head)) (.cons (.tail (.tail .head)) (.cons (.tail (.tail .head)) (.cons (.tail (.tail .head)) .nil)))))))
      rw [if_neg hh12] at h
      iterate 2 (refine WP.st tysOk true rfl True.intro rfl rfl rfl rfl True.intro ?_)
      refine WP.stop rfl (n5, w64 (s3 + 1), xs5, A13, m2, c13) ⟨⟨h, hf12⟩, Nat.lt_succ_self _⟩ ?_ ?_
      · repeat (first | exact True.intro | refine And.intro rfl ?_)
      exact (.cons (.tail .head) (.cons (.tail .head) (.cons (.tail .head) (.cons (.tail .head) (.cons (.tail .head) (.cons (.tail .head) (.cons (.tail .head) .nil)))))))
    rw [if_neg hh11] at h
    refine WP.no rfl rfl (decide_eq_false hh11) rfl rfl ?_
    iterate 2 (refine WP.no rfl rfl rfl rfl rfl ?_)
    refine WP.st tysOk true rfl True.intro rfl rfl rfl rfl True.intro ?_
    refine WP.condF rfl rfl ?_
    iterate 2 (refine WP.st tysOk true rfl True.intro rfl rfl rfl rfl True.intro ?_)
    refine WP.stop rfl (n5, w64 (s3 + 1), xs5, A13, m2, c13) ⟨⟨h, hf12⟩, Nat.lt_succ_self _⟩ ?_ ?_
    · repeat (first | exact True.intro | refine And.intro rfl ?_)
    exact (.cons (.tail .head) (.cons (.tail .head) (.cons (.tail .head) (.cons (.tail .head) (.cons (.tail .head) (.cons (.tail .head) (.cons (.tail .head) .nil)))))))
  rw [if_neg hh10] at h
  refine WP.ldm tysOk rfl True.intro rfl rfl rfl rfl rfl rfl rfl (SegAt.blk' (.tail (.tail .head)) rfl) ?_
  refine WP.sto' tysOk [.slice A6 n2 c6, .slice A13 m2 c13] rfl rfl rfl rfl rfl rfl rfl rfl rfl (.tail (.tail (.tail (.tail (.tail .head))))) rfl rfl ?_
  cases h
  refine WP.retR tysOk rfl rfl ⟨_, _, _, _, rfl, ⟨_, rfl, .inr ⟨rfl, _, rfl, rfl, (SegAt.blk' (z := 2) .head rfl).1⟩⟩, rfl, rfl⟩ (fun w1 hw1 => ⟨_, _, rfl, ⟨A6, n2, c6, A13, m2, c13, rfl, hf2, hf12, rfl⟩, Ret.of_KH hw1 (.cons (.tail (.tail (.tail (.tail .head)))) (.cons (.tail .head) (.cons (.tail (.tail (.tail (.tail .head)))) .nil)))⟩)

set_option maxRecDepth 20000 in
set_option maxHeartbeats 8000000 in
theorem two_series_2_w {w : World} {p1 : Pair} {r : Int} (h : two_series_2 p1 = some r) :
    Calls Try.prog 47 #[.agg #[iv p1.x.src, iv p1.x.dst, iv p1.x.low, iv p1.x.cap, iv p1.x.cost, iv p1.y.src, iv p1.y.dst, iv p1.y.low, iv p1.y.cap, iv p1.y.cost, iv p1.n, iv p1.s]] w fun e w' => e = .returned (iv r) ∧ Below w.heap.size w w' := by
  unfold two_series_2 at h
  refine enter_ Try.func47 rfl Try.ntmps47 rfl ?_
  refine WP.box rfl rfl rfl rfl rfl rfl ?_
  intro g1
  iterate 2 (refine WP.st tysOk true rfl True.intro rfl rfl rfl rfl True.intro ?_)
  refine WP.ld1 tysOk rfl True.intro rfl rfl rfl rfl rfl rfl rfl (CellAt.blk .head rfl) ?_
  refine WP.st tysOk true rfl True.intro rfl rfl rfl rfl True.intro ?_
  cases h
  refine WP.retR tysOk rfl rfl ⟨_, _, rfl, rfl, rfl⟩ (fun w1 hw1 => ⟨rfl, Ret.below_ hw1 (.cons (.tail .head) .nil)⟩)

set_option maxRecDepth 20000 in
set_option maxHeartbeats 8000000 in
theorem math_bits_Mul64_w {w : World} {x1 : Int} {y1 : Int} {r : Int × Int} (h : math_bits_Mul64 x1 y1 = some r) :
    Calls Try.prog 62 #[.int .u64 (x1), .int .u64 (y1)] w fun e w' => e = .returned (.tuple #[.int .u64 (r.1), .int .u64 (r.2)]) ∧ Below w.heap.size w w' := by
  unfold math_bits_Mul64 at h
  refine enter_ Try.func62 rfl Try.ntmps62 rfl ?_
  iterate 4 (refine WP.st tysOk true rfl True.intro rfl rfl rfl rfl True.intro ?_)
  obtain ⟨x01, hx1, h⟩ := lt_some h
  refine WP.st tysOk true rfl True.intro rfl rfl rfl rfl True.intro ?_
  refine WP.retell (s := 6) (.int .u64 x01) rfl (congrArg (Value.int .u64) hx1.symm) ?_
  refine WP.st tysOk true rfl True.intro rfl rfl rfl rfl True.intro ?_
  refine WP.st tysOk true rfl True.intro rfl rfl rfl rfl (by decide) ?_
  obtain ⟨x11, hx2, h⟩ := lt_some h
  refine WP.st tysOk true rfl True.intro rfl rfl rfl rfl True.intro ?_
  refine WP.retell (s := 7) (.int .u64 x11) rfl (congrArg (Value.int .u64) hx2.symm) ?_
  iterate 2 (refine WP.st tysOk true rfl True.intro rfl rfl rfl rfl True.intro ?_)
  obtain ⟨y01, hx3, h⟩ := lt_some h
  refine WP.st tysOk true rfl True.intro rfl rfl rfl rfl True.intro ?_
  refine WP.retell (s := 8) (.int .u64 y01) rfl (congrArg (Value.int .u64) hx3.symm) ?_
  refine WP.st tysOk true rfl True.intro rfl rfl rfl rfl True.intro ?_
  refine WP.st tysOk true rfl True.intro rfl rfl rfl rfl (by decide) ?_
  obtain ⟨y11, hx4, h⟩ := lt_some h
  refine WP.st tysOk true rfl True.intro rfl rfl rfl rfl True.intro ?_
  refine WP.retell (s := 9) (.int .u64 y11) rfl (congrArg (Value.int .u64) hx4.symm) ?_
  iterate 3 (refine WP.st tysOk true rfl True.intro rfl rfl rfl rfl True.intro ?_)
  obtain ⟨w01, hx5, h⟩ := lt_some h
  refine WP.st tysOk true rfl True.intro rfl rfl rfl rfl True.intro ?_
  refine WP.retell (s := 10) (.int .u64 w01) rfl (congrArg (Value.int .u64) hx5.symm) ?_
  iterate 4 (refine WP.st tysOk true rfl True.intro rfl rfl rfl rfl True.intro ?_)
  refine WP.st tysOk true rfl True.intro rfl rfl rfl rfl (by decide) ?_
  refine WP.st tysOk true rfl True.intro rfl rfl rfl rfl True.intro ?_
  obtain ⟨t1, hx6, h⟩ := lt_some h
  refine WP.st tysOk true rfl True.intro rfl rfl rfl rfl True.intro ?_
  refine WP.retell (s := 11) (.int .u64 t1) rfl (congrArg (Value.int .u64) hx6.symm) ?_
  iterate 2 (refine WP.st tysOk true rfl True.intro rfl rfl rfl rfl True.intro ?_)
  obtain ⟨w11, hx7, h⟩ := lt_some h
  refine WP.st tysOk true rfl True.intro rfl rfl rfl rfl True.intro ?_
  refine WP.retell (s := 12) (.int .u64 w11) rfl (congrArg (Value.int .u64) hx7.symm) ?_
  refine WP.st tysOk true rfl True.intro rfl rfl rfl rfl True.intro ?_
  refine WP.st tysOk true rfl True.intro rfl rfl rfl rfl (by decide) ?_
  obtain ⟨w21, hx8, h⟩ := lt_some h
  refine WP.st tysOk true rfl True.intro rfl rfl rfl rfl True.intro ?_
  refine WP.retell (s := 13) (.int .u64 w21) rfl (congrArg (Value.int .u64) hx8.symm) ?_
  iterate 5 (refine WP.st tysOk true rfl True.intro rfl rfl rfl rfl True.intro ?_)
  obtain ⟨w12, hx9, h⟩ := lt_some h
  refine WP.st tysOk true rfl True.intro rfl rfl rfl rfl True.intro ?_
  refine WP.retell (s := 12) (.int .u64 w12) rfl (congrArg (Value.int .u64) hx9.symm) ?_
  iterate 6 (refine WP.st tysOk true rfl True.intro rfl rfl rfl rfl True.intro ?_)
  refine WP.st tysOk true rfl True.intro rfl rfl rfl rfl (by decide) ?_
  refine WP.st tysOk true rfl True.intro rfl rfl rfl rfl True.intro ?_
  obtain ⟨hi1, hx10, h⟩ := lt_some h
  refine WP.st tysOk true rfl True.intro rfl rfl rfl rfl True.intro ?_
  refine WP.retell (s := 4) (.int .u64 hi1) rfl (congrArg (Value.int .u64) hx10.symm) ?_
  iterate 3 (refine WP.st tysOk true rfl True.intro rfl rfl rfl rfl True.intro ?_)
  obtain ⟨lo1, hx11, h⟩ := lt_some h
  refine WP.st tysOk true rfl True.intro rfl rfl rfl rfl True.intro ?_
  refine WP.retell (s := 5) (.int .u64 lo1) rfl (congrArg (Value.int .u64) hx11.symm) ?_
  cases h
  refine WP.retR tysOk rfl rfl ⟨_, _, rfl, ⟨_, _, rfl, rfl, rfl⟩, rfl⟩ (fun w1 hw1 => ⟨rfl, Ret.below_ hw1 (.cons .head .nil)⟩)
end Go.Proofs.Ytpnohbdfgmjdbaa
