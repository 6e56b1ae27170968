/- What functions compute, printed by a program of mine. -/
import Derived.Test.YtbnjeanldechnaaGreatDoorLfG
import Derived.Test.YtbnjeanldechnaaGreatDoorTys
import Derived.Test.YtbnjeanldechnaaGreatDoorEngG
import Derived.KernelRfl
namespace Go.Proofs.YtbnjeanldechnaaGreatDoor
open Go.RowKit Go.Qe
def law07_Thin_b1 (c1 : List Int) (n1 : Int) (k4 : (Int × (List Arc)) → Option Inst) : (Int × (List Arc)) → Option Inst := fun (k3, xs5) =>
  if k3 < (c1.length : Int) then (if k3 < 20 then (if 0 ≤ k3 ∧ k3 < (c1.length : Int) then (if n1 ≠ 0 then (lt ((w64 ((gt c1 k3))).tmod n1) fun (fromv4 : Int) => (if n1 ≠ 0 then (lt ((w64 (fromv4 + (w64 ((IntKind.wrap .u8 ((gt c1 k3).tdiv 16)).tmod 4)))).tmod n1) fun (tov4 : Int) => (if xs5.length + ([(Arc.mk fromv4 tov4 0 3 k3)]).length ≤ lim then (lt (xs5 ++ ([(Arc.mk fromv4 tov4 0 3 k3)])) fun (xs6 : List Arc) => (k4 (w64 (k3 + 1), xs6))) else none)) else none)) else none) else none) else (some (Inst.mk (List.replicate n1.toNat 0) xs5))) else (some (Inst.mk (List.replicate n1.toNat 0) xs5))
def law07_Thin_b2 (c1 : List Int) (k8 : (Int × (List Arc)) → Option Inst) : (Int × (List Arc)) → Option Inst := fun (k7, xs11) =>
  if k7 < (c1.length : Int) then (if k7 < 20 then (if 0 ≤ k7 ∧ k7 < (c1.length : Int) then (lt ((w64 ((gt c1 k7))).tmod 2) fun (fromv7 : Int) => (lt ((w64 (fromv7 + (w64 ((IntKind.wrap .u8 ((gt c1 k7).tdiv 16)).tmod 4)))).tmod 2) fun (tov8 : Int) => (if xs11.length + ([(Arc.mk fromv7 tov8 0 3 k7)]).length ≤ lim then (lt (xs11 ++ ([(Arc.mk fromv7 tov8 0 3 k7)])) fun (xs12 : List Arc) => (k8 (w64 (k7 + 1), xs12))) else none))) else none) else (some (Inst.mk (List.replicate (2 : Int).toNat 0) xs11))) else (some (Inst.mk (List.replicate (2 : Int).toNat 0) xs11))
def law07_Thin (c1 : List Int) : Option Inst :=
  if 0 < (c1.length : Int) then (if 0 ≤ (0 : Int) ∧ (0 : Int) < (c1.length : Int) then (lt (w64 (2 + (w64 ((gt c1 0).tmod 9)))) fun (n1 : Int) => (if 0 ≤ n1 ∧ n1 ≤ (lim : Int) then (lp (law07_Thin_b1 c1 n1) big (1, ([] : List Arc))) else none)) else none) else (if 0 ≤ (2 : Int) ∧ (2 : Int) ≤ (lim : Int) then (lp (law07_Thin_b2 c1) big (1, ([] : List Arc))) else none)

def law17_Tree_b1 (i1 : List Int) (k1 : (Int × (List Int) × (List Arc)) → Option Inst) : (Int × (List Int) × (List Arc)) → Option Inst := fun (s3, xs27, xs28) =>
  if s3 < (xs28.length : Int) then (if s3 < (i1.length : Int) then (if 0 ≤ s3 ∧ s3 < (i1.length : Int) then (if 0 ≤ s3 ∧ s3 < (xs28.length : Int) then (lt (upd xs28 s3 (Arc.mk ((gt xs28 s3).src) ((gt xs28 s3).dst) (w64 ((IntKind.wrap .u8 ((gt i1 s3).tdiv 4)).tmod 2)) ((gt xs28 s3).cap) ((gt xs28 s3).cost))) fun (xs29 : List Arc) => (if ((gt i1 s3).tmod 16) = 15 then (if 0 ≤ s3 ∧ s3 < (xs29.length : Int) then (lt (upd xs29 s3 (Arc.mk ((gt xs29 s3).src) ((gt xs29 s3).dst) ((gt xs29 s3).low) 4611686018427387904 ((gt xs29 s3).cost))) fun (xs30 : List Arc) => (if 0 ≤ s3 ∧ s3 < (xs30.length : Int) then (if 0 ≤ ((gt xs30 s3).src) ∧ ((gt xs30 s3).src) < (xs27.length : Int) then (lt (upd xs27 ((gt xs30 s3).src) (w64 ((gt xs27 ((gt xs30 s3).src)) + (w64 ((gt i1 s3).tmod 4))))) fun (xs31 : List Int) => (if 0 ≤ ((gt xs30 s3).dst) ∧ ((gt xs30 s3).dst) < (xs31.length : Int) then (lt (upd xs31 ((gt xs30 s3).dst) (w64 ((gt xs31 ((gt xs30 s3).dst)) - (w64 ((gt i1 s3).tmod 4))))) fun (xs32 : List Int) => (k1 (w64 (s3 + 1), xs32, xs30))) else none)) else none) else none)) else none) else (if 0 ≤ s3 ∧ s3 < (xs29.length : Int) then (if 0 ≤ ((gt xs29 s3).src) ∧ ((gt xs29 s3).src) < (xs27.length : Int) then (lt (upd xs27 ((gt xs29 s3).src) (w64 ((gt xs27 ((gt xs29 s3).src)) + (w64 ((gt i1 s3).tmod 4))))) fun (xs33 : List Int) => (if 0 ≤ ((gt xs29 s3).dst) ∧ ((gt xs29 s3).dst) < (xs33.length : Int) then (lt (upd xs33 ((gt xs29 s3).dst) (w64 ((gt xs33 ((gt xs29 s3).dst)) - (w64 ((gt i1 s3).tmod 4))))) fun (xs34 : List Int) => (k1 (w64 (s3 + 1), xs34, xs29))) else none)) else none) else none))) else none) else none) else (if 0 ≤ s3 ∧ s3 < (xs28.length : Int) then (if 0 ≤ ((gt xs28 s3).src) ∧ ((gt xs28 s3).src) < (xs27.length : Int) then (lt (upd xs27 ((gt xs28 s3).src) (w64 ((gt xs27 ((gt xs28 s3).src)) + 0))) fun (xs35 : List Int) => (if 0 ≤ ((gt xs28 s3).dst) ∧ ((gt xs28 s3).dst) < (xs35.length : Int) then (lt (upd xs35 ((gt xs28 s3).dst) (w64 ((gt xs35 ((gt xs28 s3).dst)) - 0))) fun (xs36 : List Int) => (k1 (w64 (s3 + 1), xs36, xs28))) else none)) else none) else none)) else (some (Inst.mk xs27 xs28))
def law17_Tree (d1 : List Int) (i1 : List Int) : Option Inst :=
  (law07_Thin d1).bind fun r1 => (lp (law17_Tree_b1 i1) big (0, r1.supply, r1.arcs))

def inst_wrong_1_1 (n1 : Int) (x1 : Int) : Option Bool :=
  if 0 ≤ n1 then (some (decide (n1 < x1))) else (some false)

def inst_within (n1 : Int) : Option Bool :=
  if (-4398046511104) ≤ n1 then (some (decide (n1 ≤ 4398046511104))) else (some false)

def inst_wrong (a1 : Arc) (nodes1 : Int) : Option Int :=
  (inst_wrong_1_1 a1.src nodes1).bind fun r1 => (if r1 = true then ((inst_wrong_1_1 a1.dst nodes1).bind fun r2 => (if r2 = true then (if a1.low < 0 then (some 22) else (if 4398046511104 < a1.low then (some 22) else (if ¬ a1.cap = 4611686018427387904 then (if a1.cap < a1.low then (some 22) else (if 4398046511104 < a1.cap then (some 22) else ((inst_within a1.cost).bind fun r3 => (if r3 = true then (some 0) else (some 23))))) else ((inst_within a1.cost).bind fun r4 => (if r4 = true then (some 0) else (some 23)))))) else (some 21))) else (some 21))

def inst_Right_b2 (i1 : Inst) (k4 : (Int × Int) → Option Int) : (Int × Int) → Option Int := fun (sum14, s8) =>
  if s8 < (i1.supply.length : Int) then (if 0 ≤ s8 ∧ s8 < (i1.supply.length : Int) then ((inst_within (gt i1.supply s8)).bind fun r12 => (if r12 = true then (lt (w64 (sum14 + (gt i1.supply s8))) fun (sum15 : Int) => (k4 (sum15, w64 (s8 + 1)))) else (some 24))) else none) else (if ¬ sum14 = 0 then (some 25) else (some 0))
def inst_Right_b1 (i1 : Inst) (k3 : Int → Option Int) : Int → Option Int := fun s6 =>
  if s6 < (i1.arcs.length : Int) then (if 0 ≤ s6 ∧ s6 < (i1.arcs.length : Int) then ((inst_wrong (gt i1.arcs s6) (i1.supply.length : Int)).bind fun r9 => (if ¬ r9 = 0 then (some r9) else (k3 (w64 (s6 + 1))))) else none) else (lp (inst_Right_b2 i1) big (0, 0))
def inst_Right (i1 : Inst) : Option Int :=
  if 64 < (i1.supply.length : Int) then (some 20) else (if 256 < (i1.arcs.length : Int) then (some 20) else (lp (inst_Right_b1 i1) big 0))

def leaf_tipOf (g1 : Inst) (i1 : Inst) (n1 : Int) : Option (Tip × Bool) :=
  (adj_Graph_At g1 n1).bind fun r1 => (if ¬ (r1.length : Int) = 1 then (some ((Tip.mk 0 0), false)) else ((adj_Graph_Loops g1 n1).bind fun r2 => (if 0 < r2 then (some ((Tip.mk 0 0), false)) else (if 0 ≤ (0 : Int) ∧ (0 : Int) < (r1.length : Int) then (if 0 ≤ (gt r1 0) ∧ (gt r1 0) < (i1.arcs.length : Int) then (if 0 ≤ n1 ∧ n1 < (i1.supply.length : Int) then (if ((gt i1.arcs (gt r1 0)).dst) = n1 then (if (w64 (0 - (gt i1.supply n1))) < ((gt i1.arcs (gt r1 0)).low) then (some ((Tip.mk 0 0), false)) else (if ((gt i1.arcs (gt r1 0)).cap) < (w64 (0 - (gt i1.supply n1))) then (some ((Tip.mk 0 0), false)) else (some ((Tip.mk (gt r1 0) (w64 (0 - (gt i1.supply n1)))), true)))) else (if (gt i1.supply n1) < ((gt i1.arcs (gt r1 0)).low) then (some ((Tip.mk 0 0), false)) else (if ((gt i1.arcs (gt r1 0)).cap) < (gt i1.supply n1) then (some ((Tip.mk 0 0), false)) else (some ((Tip.mk (gt r1 0) (gt i1.supply n1)), true))))) else none) else none) else none))))

def leaf_leaf_1_1 (k1 : Int) (x1 : Inst) (x2 : Inst) : Option (Tip × Bool) :=
  (leaf_tipOf x1 x2 k1).bind fun r1 => (some (r1.1, r1.2))

def leaf_first_leaf_tip_1_b1 (n1 : Int) (x1 : Inst) (x2 : Inst) (k1 : Int → Option (Int × Tip × Bool)) : Int → Option (Int × Tip × Bool) := fun s2 =>
  if s2 < n1 then ((leaf_leaf_1_1 s2 x1 x2).bind fun r3 => (if r3.2 = true then (some (s2, r3.1, true)) else (k1 (w64 (s2 + 1))))) else (some (0, (Tip.mk 0 0), false))
def leaf_first_leaf_tip_1 (n1 : Int) (x1 : Inst) (x2 : Inst) : Option (Int × Tip × Bool) :=
  lp (leaf_first_leaf_tip_1_b1 n1 x1 x2) big 0

def inst_Copy (i1 : Inst) : Option Inst :=
  (slices_Clone_int64 i1.supply).bind fun r1 => ((slices_Clone_api_Arc i1.arcs).bind fun r2 => (some (Inst.mk r1 r2)))

def math_bits_Mul64 (x1 : Int) (y1 : Int) : Option (Int × Int) :=
  lt (bits .and .u64 x1 4294967295) fun (x01 : Int) => (lt (x1.fdiv (2 ^ (min (32 : Int).toNat (IntKind.bits .u64)))) fun (x11 : Int) => (lt (bits .and .u64 y1 4294967295) fun (y01 : Int) => (lt (y1.fdiv (2 ^ (min (32 : Int).toNat (IntKind.bits .u64)))) fun (y11 : Int) => (lt (IntKind.wrap .u64 (x01 * y01)) fun (w01 : Int) => (lt (IntKind.wrap .u64 ((IntKind.wrap .u64 (x11 * y01)) + (w01.fdiv (2 ^ (min (32 : Int).toNat (IntKind.bits .u64)))))) fun (t1 : Int) => (lt (bits .and .u64 t1 4294967295) fun (w11 : Int) => (lt (t1.fdiv (2 ^ (min (32 : Int).toNat (IntKind.bits .u64)))) fun (w21 : Int) => (lt (IntKind.wrap .u64 (w11 + (IntKind.wrap .u64 (x01 * y11)))) fun (w12 : Int) => (lt (IntKind.wrap .u64 ((IntKind.wrap .u64 ((IntKind.wrap .u64 (x11 * y11)) + w21)) + (w12.fdiv (2 ^ (min (32 : Int).toNat (IntKind.bits .u64)))))) fun (hi1 : Int) => (lt (IntKind.wrap .u64 (x1 * y1)) fun (lo1 : Int) => (some (hi1, lo1))))))))))))

def num_Times (a1 : Int) (b1 : Int) : Option Wide :=
  (math_bits_Mul64 (IntKind.wrap .u64 (a1)) (IntKind.wrap .u64 (b1))).bind fun r1 => (lt (IntKind.wrap .u64 (r1.1 - (bits .and .u64 (IntKind.wrap .u64 (a1.fdiv (2 ^ (min (63 : Int).toNat (IntKind.bits .i64))))) (IntKind.wrap .u64 (b1))))) fun (hi1 : Int) => (lt (IntKind.wrap .u64 (hi1 - (bits .and .u64 (IntKind.wrap .u64 (b1.fdiv (2 ^ (min (63 : Int).toNat (IntKind.bits .i64))))) (IntKind.wrap .u64 (a1))))) fun (hi2 : Int) => (some (Wide.mk (w64 (hi2)) r1.2))))

def inst_Kept_b1 (off1 : List Bool) (n1 : Int) (k1 : (Int × (List Int)) → Option (List Int)) : (Int × (List Int)) → Option (List Int) := fun (s3, xs10) =>
  if s3 < (if 1000 < n1 then 1000 else n1) then (if (off1.length : Int) ≤ s3 then (if xs10.length + ([s3]).length ≤ lim then (lt (xs10 ++ ([s3])) fun (xs11 : List Int) => (k1 (w64 (s3 + 1), xs11))) else none) else (if 0 ≤ s3 ∧ s3 < (off1.length : Int) then (if (gt off1 s3) = true then (k1 (w64 (s3 + 1), xs10)) else (if xs10.length + ([s3]).length ≤ lim then (lt (xs10 ++ ([s3])) fun (xs12 : List Int) => (k1 (w64 (s3 + 1), xs12))) else none)) else none)) else (some xs10)
def inst_Kept (off1 : List Bool) (n1 : Int) : Option (List Int) :=
  lp (inst_Kept_b1 off1 n1) big (0, ([] : List Int))

def inst_pick_int64_b1 (l1 : List Int) (atv1 : List Int) (k1 : (Int × (List Int)) → Option (List Int)) : (Int × (List Int)) → Option (List Int) := fun (s3, xs6) =>
  if s3 < (atv1.length : Int) then (if 0 ≤ s3 ∧ s3 < (atv1.length : Int) then (if 0 ≤ (gt atv1 s3) ∧ (gt atv1 s3) < (l1.length : Int) then (if xs6.length + ([(gt l1 (gt atv1 s3))]).length ≤ lim then (lt (xs6 ++ ([(gt l1 (gt atv1 s3))])) fun (xs7 : List Int) => (k1 (w64 (s3 + 1), xs7))) else none) else none) else none) else (some xs6)
def inst_pick_int64 (l1 : List Int) (atv1 : List Int) : Option (List Int) :=
  lp (inst_pick_int64_b1 l1 atv1) big (0, ([] : List Int))

def inst_pick_api_Arc_b1 (l1 : List Arc) (atv1 : List Int) (k1 : (Int × (List Arc)) → Option (List Arc)) : (Int × (List Arc)) → Option (List Arc) := fun (s3, xs6) =>
  if s3 < (atv1.length : Int) then (if 0 ≤ s3 ∧ s3 < (atv1.length : Int) then (if 0 ≤ (gt atv1 s3) ∧ (gt atv1 s3) < (l1.length : Int) then (if xs6.length + ([(gt l1 (gt atv1 s3))]).length ≤ lim then (lt (xs6 ++ ([(gt l1 (gt atv1 s3))])) fun (xs7 : List Arc) => (k1 (w64 (s3 + 1), xs7))) else none) else none) else none) else (some xs6)
def inst_pick_api_Arc (l1 : List Arc) (atv1 : List Int) : Option (List Arc) :=
  lp (inst_pick_api_Arc_b1 l1 atv1) big (0, ([] : List Arc))

def slices_Index_int_b1 (s1 : List Int) (v1 : Int) (k1 : Int → Option Int) : Int → Option Int := fun s3 =>
  if s3 < (s1.length : Int) then (if 0 ≤ s3 ∧ s3 < (s1.length : Int) then (if v1 = (gt s1 s3) then (some s3) else (k1 (w64 (s3 + 1)))) else none) else (some (-1))
def slices_Index_int (s1 : List Int) (v1 : Int) : Option Int :=
  lp (slices_Index_int_b1 s1 v1) big 0

def inst_Without_b1 (r1 : (List Int)) (r2 : (List Int)) (r4 : (List Arc)) (k1 : (Int × (List Arc)) → Option Inst) : (Int × (List Arc)) → Option Inst := fun (s3, xs5) =>
  if s3 < (r4.length : Int) then (if 0 ≤ s3 ∧ s3 < (r4.length : Int) then ((slices_Index_int r1 ((gt r4 s3).src)).bind fun r11 => ((slices_Index_int r1 ((gt r4 s3).dst)).bind fun r12 => (if 0 ≤ r11 then (if 0 ≤ r12 then (if xs5.length + ([(Arc.mk r11 r12 ((gt r4 s3).low) ((gt r4 s3).cap) ((gt r4 s3).cost))]).length ≤ lim then (lt (xs5 ++ ([(Arc.mk r11 r12 ((gt r4 s3).low) ((gt r4 s3).cap) ((gt r4 s3).cost))])) fun (xs6 : List Arc) => (k1 (w64 (s3 + 1), xs6))) else none) else (k1 (w64 (s3 + 1), xs5))) else (k1 (w64 (s3 + 1), xs5))))) else none) else (some (Inst.mk r2 xs5))
def inst_Without (i1 : Inst) (nodes1 : List Bool) (arcs1 : List Bool) : Option Inst :=
  (inst_Kept nodes1 (i1.supply.length : Int)).bind fun r1 => ((inst_pick_int64 i1.supply r1).bind fun r2 => ((inst_Kept arcs1 (i1.arcs.length : Int)).bind fun r3 => ((inst_pick_api_Arc i1.arcs r3).bind fun r4 => (lp (inst_Without_b1 r1 r2 r4) big (0, ([] : List Arc))))))

def leaf_without (pass1 : Int) (was1 : Inst) (i1 : Inst) (n1 : Int) (off1 : Wide) : Option (Step × (Option Int)) :=
  if 0 ≤ (i1.supply.length : Int) ∧ (i1.supply.length : Int) ≤ (lim : Int) then (if 0 ≤ n1 ∧ n1 < ((List.replicate (i1.supply.length : Int).toNat false).length : Int) then (lt (upd (List.replicate (i1.supply.length : Int).toNat false) n1 true) fun (xs1 : List Bool) => ((inst_Without i1 xs1 ([] : List Bool)).bind fun r1 => ((inst_Right r1).bind fun r2 => (if ¬ r2 = 0 then (some ((Step.mk (Inst.mk ([]) ([])) (Rec.mk 0 (Inst.mk ([]) ([]))) (Wide.mk 0 0) false), (some 40))) else (some ((Step.mk (Inst.mk r1.supply r1.arcs) (Rec.mk pass1 (Inst.mk was1.supply was1.arcs)) off1 true), none)))))) else none) else none

def leaf_leaf (d1 : Inst) : Option (Step × (Option Int)) :=
  (adj_New d1).bind fun r1 => ((leaf_first_leaf_tip_1 (d1.supply.length : Int) r1 d1).bind fun r2 => (if r2.2.2 = true then ((inst_Copy d1).bind fun r4 => (if 0 ≤ r2.2.1.a ∧ r2.2.1.a < (d1.arcs.length : Int) then (if 0 ≤ ((gt d1.arcs r2.2.1.a).src) ∧ ((gt d1.arcs r2.2.1.a).src) < (r4.supply.length : Int) then (lt (upd r4.supply ((gt d1.arcs r2.2.1.a).src) (w64 ((gt r4.supply ((gt d1.arcs r2.2.1.a).src)) - r2.2.1.n))) fun (xs1 : List Int) => (if 0 ≤ ((gt d1.arcs r2.2.1.a).dst) ∧ ((gt d1.arcs r2.2.1.a).dst) < (xs1.length : Int) then (lt (upd xs1 ((gt d1.arcs r2.2.1.a).dst) (w64 ((gt xs1 ((gt d1.arcs r2.2.1.a).dst)) + r2.2.1.n))) fun (xs2 : List Int) => ((inst_Copy d1).bind fun r_o5_1_1 => ((num_Times r2.2.1.n ((gt d1.arcs r2.2.1.a).cost)).bind fun r_o5_8_1 => ((leaf_without 6 r_o5_1_1 (Inst.mk xs2 r4.arcs) r2.1 r_o5_8_1).bind fun r_o5_9_1 => (some ((Step.mk (Inst.mk r_o5_9_1.1.inst.supply r_o5_9_1.1.inst.arcs) (Rec.mk r_o5_9_1.1.rcd.pass (Inst.mk r_o5_9_1.1.rcd.was.supply r_o5_9_1.1.rcd.was.arcs)) r_o5_9_1.1.off r_o5_9_1.1.did), r_o5_9_1.2)))))) else none)) else none) else none)) else ((inst_Copy d1).bind fun r3 => (some ((Step.mk (Inst.mk r3.supply r3.arcs) (Rec.mk 0 (Inst.mk ([]) ([]))) (Wide.mk 0 0) false), none)))))

def leaf_run_1 (i1 : Inst) : Option (Step × Int) :=
  (inst_Right i1).bind fun r1 => (if ¬ r1 = 0 then (some ((Step.mk (Inst.mk ([]) ([])) (Rec.mk 0 (Inst.mk ([]) ([]))) (Wide.mk 0 0) false), r1)) else ((leaf_leaf i1).bind fun r2 => (if r2.2.isSome = true then (some ((Step.mk (Inst.mk ([]) ([])) (Rec.mk 0 (Inst.mk ([]) ([]))) (Wide.mk 0 0) false), r2.2.getD 0)) else (some ((Step.mk (Inst.mk r2.1.inst.supply r2.1.inst.arcs) (Rec.mk r2.1.rcd.pass (Inst.mk r2.1.rcd.was.supply r2.1.rcd.was.arcs)) r2.1.off r2.1.did), 0)))))

def leaf_Leaf (i1 : Inst) : Option (Step × Int) :=
  (leaf_run_1 i1).bind fun r1 => (some ((Step.mk (Inst.mk r1.1.inst.supply r1.1.inst.arcs) (Rec.mk r1.1.rcd.pass (Inst.mk r1.1.rcd.was.supply r1.1.rcd.was.arcs)) r1.1.off r1.1.did), r1.2))

def leaf_Tip (i1 : Inst) (n1 : Int) : Option (Int × Int × Bool) :=
  (adj_New i1).bind fun r1 => ((leaf_tipOf r1 i1 n1).bind fun r2 => (some (r2.1.a, r2.1.n, r2.2)))

def num_Of (a1 : Int) : Option Wide :=
  some (Wide.mk (a1.fdiv (2 ^ (min (63 : Int).toNat (IntKind.bits .i64)))) (IntKind.wrap .u64 (a1)))

def ref03_Nums_b1 (a1 : List Int) (b1 : List Int) (k3 : Int → Option Bool) : Int → Option Bool := fun k2 =>
  if k2 < (a1.length : Int) then (if 0 ≤ k2 ∧ k2 < (a1.length : Int) then (if 0 ≤ k2 ∧ k2 < (b1.length : Int) then (if ¬ (gt a1 k2) = (gt b1 k2) then (some false) else (k3 (w64 (k2 + 1)))) else none) else none) else (some true)
def ref03_Nums (a1 : List Int) (b1 : List Int) : Option Bool :=
  if ¬ (a1.length : Int) = (b1.length : Int) then (some false) else (lp (ref03_Nums_b1 a1 b1) big 0)

def ref03_Same_b1 (a1 : Inst) (b1 : Inst) (k3 : Int → Option Bool) : Int → Option Bool := fun k2 =>
  if k2 < (a1.arcs.length : Int) then (if 0 ≤ k2 ∧ k2 < (a1.arcs.length : Int) then (if 0 ≤ k2 ∧ k2 < (b1.arcs.length : Int) then (if (gt a1.arcs k2) = (gt b1.arcs k2) then (k3 (w64 (k2 + 1))) else (some false)) else none) else none) else (some true)
def ref03_Same (a1 : Inst) (b1 : Inst) : Option Bool :=
  (ref03_Nums a1.supply b1.supply).bind fun r1 => (if r1 = true then (if ¬ (a1.arcs.length : Int) = (b1.arcs.length : Int) then (some false) else (lp (ref03_Same_b1 a1 b1) big 0)) else (some false))

def leaf_shut_b1 (g1 : Inst) (i1 : Inst) (n1 : Int) (r1 : (List Int)) (k1 : Int → Option Bool) : Int → Option Bool := fun s2 =>
  if s2 < (r1.length : Int) then (if 0 ≤ s2 ∧ s2 < (r1.length : Int) then (if 0 ≤ (gt r1 s2) ∧ (gt r1 s2) < (i1.arcs.length : Int) then (if ¬ ((gt i1.arcs (gt r1 s2)).low) = 0 then (some false) else (k1 (w64 (s2 + 1)))) else none) else none) else ((adj_Graph_Out g1 n1).bind fun r7 => (if (r7.length : Int) = 0 then (some true) else ((adj_Graph_In g1 n1).bind fun r8 => (some (decide ((r8.length : Int) = 0))))))
def leaf_shut (g1 : Inst) (i1 : Inst) (n1 : Int) : Option Bool :=
  (adj_Graph_At g1 n1).bind fun r1 => (if (r1.length : Int) = 0 then (some false) else ((adj_Graph_Loops g1 n1).bind fun r2 => (if 0 < r2 then (some false) else (if 0 ≤ n1 ∧ n1 < (i1.supply.length : Int) then (if ¬ (gt i1.supply n1) = 0 then (some false) else (lp (leaf_shut_b1 g1 i1 n1 r1) big 0)) else none))))

def leaf_Shut (i1 : Inst) (n1 : Int) : Option Bool :=
  (adj_New i1).bind fun r1 => ((leaf_shut r1 i1 n1).bind fun r2 => (some r2))

def law17_known  : Option Bool :=
  (leaf_Leaf (Inst.mk ([3, -3]) ([(Arc.mk 0 1 0 5 4)]))).bind fun r1 => ((leaf_Tip (Inst.mk ([3, -3]) ([(Arc.mk 0 1 0 5 4)])) 1).bind fun r2 => (if r1.2 = 0 then (if r1.1.did = true then ((num_Of 12).bind fun r3 => (if r1.1.off = r3 then ((ref03_Same r1.1.inst (Inst.mk ([0]) ([] : List Arc))).bind fun r4 => (if r4 = true then (if r2.1 = 0 then (if r2.2.1 = 3 then (if r2.2.2 = true then ((leaf_Shut (Inst.mk ([3, -3]) ([(Arc.mk 0 1 0 5 4)])) 0).bind fun r5 => (some (!r5))) else (some false)) else (some false)) else (some false)) else (some false))) else (some false))) else (some false)) else (some false)))

def law03_Marks_b1 (c1 : List Int) (many1 : Int) (k4 : (Int × (List Bool)) → Option (List Bool)) : (Int × (List Bool)) → Option (List Bool) := fun (k3, xs6) =>
  if k3 < many1 then (if k3 < (c1.length : Int) then (if 0 ≤ k3 ∧ k3 < (c1.length : Int) then (if xs6.length + ([decide (((gt c1 k3).tmod 3) = 0)]).length ≤ lim then (lt (xs6 ++ ([decide (((gt c1 k3).tmod 3) = 0)])) fun (xs7 : List Bool) => (k4 (w64 (k3 + 1), xs7))) else none) else none) else (some xs6)) else (some xs6)
def law03_Marks (c1 : List Int) (many1 : Int) : Option (List Bool) :=
  lp (law03_Marks_b1 c1 many1) big (0, ([] : List Bool))


def cut_over_1_1_1 (n1 : Int) (x1 : Inst) : Option Bool :=
  if 0 ≤ n1 then (some (decide (n1 < (x1.supply.length : Int)))) else (some false)

def cut_on (side1 : List Bool) (n1 : Int) : Option Bool :=
  if n1 < (side1.length : Int) then (if 0 ≤ n1 ∧ n1 < (side1.length : Int) then (some (gt side1 n1)) else none) else (some false)

def cut_over_1_b1 (x1 : Inst) (x2 : List Bool) (k1 : Int → Option (List (Arc × Bool))) : Int → Option (List (Arc × Bool)) := fun s2 =>
  if s2 < (x1.arcs.length : Int) then (if 0 ≤ s2 ∧ s2 < (x1.arcs.length : Int) then ((cut_over_1_1_1 ((gt x1.arcs s2).src) x1).bind fun r14 => (if r14 = true then ((cut_over_1_1_1 ((gt x1.arcs s2).dst) x1).bind fun r15 => (if r15 = true then ((cut_on x2 ((gt x1.arcs s2).src)).bind fun r16 => ((cut_on x2 ((gt x1.arcs s2).dst)).bind fun r17 => (if (r16 == r17) = true then (k1 (w64 (s2 + 1))) else ((cut_on x2 ((gt x1.arcs s2).src)).bind fun r18 => ((k1 (w64 (s2 + 1))).bind fun post3 => some (((gt x1.arcs s2), r18) :: post3)))))) else (k1 (w64 (s2 + 1))))) else (k1 (w64 (s2 + 1))))) else none) else (some [])
def cut_over_1 (x1 : Inst) (x2 : List Bool) : Option (List (Arc × Bool)) :=
  lp (cut_over_1_b1 x1 x2) big 0
def cut_over_1_enc (x : Arc × Bool) : Array Value := #[.agg #[iv x.1.src, iv x.1.dst, iv x.1.low, iv x.1.cap, iv x.1.cost], .bool (x.2)]

def num_Minus (a1 : Wide) (b1 : Wide) : Option Wide :=
  if ((sub64 a1.lo b1.lo 0).2) = 0 ∨ ((sub64 a1.lo b1.lo 0).2) = 1 then (lt ((sub64 (IntKind.wrap .u64 (a1.hi)) (IntKind.wrap .u64 (b1.hi)) ((sub64 a1.lo b1.lo 0).2)).1) fun (hi1 : Int) => (lt ((sub64 (IntKind.wrap .u64 (a1.hi)) (IntKind.wrap .u64 (b1.hi)) ((sub64 a1.lo b1.lo 0).2)).2) fun (_1 : Int) => (some (Wide.mk (w64 (hi1)) ((sub64 a1.lo b1.lo 0).1))))) else none

def num_Plus (a1 : Wide) (b1 : Wide) : Option Wide :=
  if ((add64 a1.lo b1.lo 0).2) = 0 ∨ ((add64 a1.lo b1.lo 0).2) = 1 then (lt ((add64 (IntKind.wrap .u64 (a1.hi)) (IntKind.wrap .u64 (b1.hi)) ((add64 a1.lo b1.lo 0).2)).1) fun (hi1 : Int) => (lt ((add64 (IntKind.wrap .u64 (a1.hi)) (IntKind.wrap .u64 (b1.hi)) ((add64 a1.lo b1.lo 0).2)).2) fun (_1 : Int) => (some (Wide.mk (w64 (hi1)) ((add64 a1.lo b1.lo 0).1))))) else none

def cut_Room_r1  (x1 : Arc × Bool) (k1 : (Int × Int) → Option (Wide × Bool)) : (Int × Int) → Option (Wide × Bool) := fun (s3, s4) =>
  if x1.2 = true then (if x1.1.cap = 4611686018427387904 then (some ((Wide.mk 0 0), false)) else ((num_Of x1.1.cap).bind fun r11 => ((num_Plus (Wide.mk s3 s4) r11).bind fun r12 => (k1 (r12.hi, r12.lo))))) else ((num_Of x1.1.low).bind fun r9 => ((num_Minus (Wide.mk s3 s4) r9).bind fun r10 => (k1 (r10.hi, r10.lo))))
def cut_Room (i1 : Inst) (side1 : List Bool) : Option (Wide × Bool) :=
  (cut_over_1 i1 side1).bind fun xs1 => (lt (fun ((s3, s4) : Int × Int) => some ((Wide.mk s3 s4), true)) fun (kd1 : (Int × Int) → Option (Wide × Bool)) => (fe cut_Room_r1 xs1 kd1 (0, 0)))

def num_Sum_b1 (l1 : List Int) (k1 : (Int × Int × Int) → Option Wide) : (Int × Int × Int) → Option Wide := fun (s4, s5, s6) =>
  if s4 < (l1.length : Int) then (if 0 ≤ s4 ∧ s4 < (l1.length : Int) then ((num_Of (gt l1 s4)).bind fun r5 => ((num_Plus (Wide.mk s5 s6) r5).bind fun r6 => (k1 (w64 (s4 + 1), r6.hi, r6.lo)))) else none) else (some (Wide.mk s5 s6))
def num_Sum (l1 : List Int) : Option Wide :=
  lp (num_Sum_b1 l1) big (0, 0, 0)

def cut_Need_b1 (i1 : Inst) (side1 : List Bool) (k1 : (Int × (List Int)) → Option Wide) : (Int × (List Int)) → Option Wide := fun (s3, xs6) =>
  if s3 < (i1.supply.length : Int) then (if 0 ≤ s3 ∧ s3 < (i1.supply.length : Int) then ((cut_on side1 s3).bind fun r9 => (if r9 = true then (if xs6.length + ([(gt i1.supply s3)]).length ≤ lim then (lt (xs6 ++ ([(gt i1.supply s3)])) fun (xs7 : List Int) => (k1 (w64 (s3 + 1), xs7))) else none) else (k1 (w64 (s3 + 1), xs6)))) else none) else ((num_Sum xs6).bind fun r10 => (some r10))
def cut_Need (i1 : Inst) (side1 : List Bool) : Option Wide :=
  lp (cut_Need_b1 i1 side1) big (0, ([] : List Int))

def law17_LeafSides_b1 (x1 : List Int) (r1 : Inst) (r2 : Step × Int) (k1 : (Int × Int) → Option Bool) : (Int × Int) → Option Bool := fun (s3, s4) =>
  if 0 ≤ s4 then ((leaf_Tip r1 s4).bind fun r39 => (if r39.2.2 = true then (k1 (s4, w64 (s4 - 1))) else (k1 (s3, w64 (s4 - 1))))) else ((leaf_Tip r1 s3).bind fun r40 => (if r40.2.2 = true then (if r40.1 < 0 then (some false) else (if (r1.arcs.length : Int) ≤ r40.1 then (some false) else (if 0 ≤ (r1.supply.length : Int) ∧ (r1.supply.length : Int) ≤ (lim : Int) then ((law03_Marks x1 ((List.replicate (r1.supply.length : Int).toNat false).length : Int)).bind fun r41 => (lt (cpy (List.replicate (r1.supply.length : Int).toNat false) r41) fun (xs15 : List Bool) => (if 0 ≤ r40.1 ∧ r40.1 < (r1.arcs.length : Int) then (if ((gt r1.arcs r40.1).src) = s3 then (if 0 ≤ ((gt r1.arcs r40.1).dst) ∧ ((gt r1.arcs r40.1).dst) < (xs15.length : Int) then (if 0 ≤ s3 ∧ s3 < (xs15.length : Int) then (lt (upd xs15 s3 (gt xs15 ((gt r1.arcs r40.1).dst))) fun (xs16 : List Bool) => (if 0 ≤ (0 : Int) ∧ (0 : Int) ≤ s3 ∧ s3 ≤ (xs16.length : Int) then (if ([] : List Bool).length + (prt xs16 (0 : Int) s3).length ≤ lim then (lt (([] : List Bool) ++ (prt xs16 (0 : Int) s3)) fun (xs17 : List Bool) => (if 0 ≤ (w64 (s3 + 1)) ∧ (w64 (s3 + 1)) ≤ (xs16.length : Int) ∧ (xs16.length : Int) ≤ (xs16.length : Int) then (if xs17.length + (prt xs16 (w64 (s3 + 1)) (xs16.length : Int)).length ≤ lim then (lt (xs17 ++ (prt xs16 (w64 (s3 + 1)) (xs16.length : Int))) fun (xs18 : List Bool) => ((cut_Room r1 xs16).bind fun r42 => ((cut_Room r2.1.inst xs18).bind fun r43 => ((law17_known).bind fun r44 => (if r44 = true then (if (r42.2 == r43.2) = true then (if r42.2 = true then ((cut_Need r1 xs16).bind fun r45 => ((num_Minus r42.1 r45).bind fun r46 => ((cut_Need r2.1.inst xs18).bind fun r47 => ((num_Minus r43.1 r47).bind fun r48 => (some (decide (r46 = r48))))))) else (some true)) else (some false)) else (some false)))))) else none) else none)) else none) else none)) else none) else none) else (if 0 ≤ ((gt r1.arcs r40.1).src) ∧ ((gt r1.arcs r40.1).src) < (xs15.length : Int) then (if 0 ≤ s3 ∧ s3 < (xs15.length : Int) then (lt (upd xs15 s3 (gt xs15 ((gt r1.arcs r40.1).src))) fun (xs19 : List Bool) => (if 0 ≤ (0 : Int) ∧ (0 : Int) ≤ s3 ∧ s3 ≤ (xs19.length : Int) then (if ([] : List Bool).length + (prt xs19 (0 : Int) s3).length ≤ lim then (lt (([] : List Bool) ++ (prt xs19 (0 : Int) s3)) fun (xs20 : List Bool) => (if 0 ≤ (w64 (s3 + 1)) ∧ (w64 (s3 + 1)) ≤ (xs19.length : Int) ∧ (xs19.length : Int) ≤ (xs19.length : Int) then (if xs20.length + (prt xs19 (w64 (s3 + 1)) (xs19.length : Int)).length ≤ lim then (lt (xs20 ++ (prt xs19 (w64 (s3 + 1)) (xs19.length : Int))) fun (xs21 : List Bool) => ((cut_Room r1 xs19).bind fun r49 => ((cut_Room r2.1.inst xs21).bind fun r50 => ((law17_known).bind fun r51 => (if r51 = true then (if (r49.2 == r50.2) = true then (if r49.2 = true then ((cut_Need r1 xs19).bind fun r52 => ((num_Minus r49.1 r52).bind fun r53 => ((cut_Need r2.1.inst xs21).bind fun r54 => ((num_Minus r50.1 r54).bind fun r55 => (some (decide (r53 = r55))))))) else (some true)) else (some false)) else (some false)))))) else none) else none)) else none) else none)) else none) else none)) else none))) else none))) else (some false)))
def law17_LeafSides (d1 : List Int) (i1 : List Int) (x1 : List Int) : Option Bool :=
  (law17_Tree d1 i1).bind fun r1 => ((leaf_Leaf r1).bind fun r2 => (if ¬ r2.2 = 0 then ((law17_known).bind fun r3 => (some r3)) else (if r2.1.did = true then (lp (law17_LeafSides_b1 x1 r1 r2) big ((r1.supply.length : Int), w64 ((r1.supply.length : Int) - 1))) else ((law17_known).bind fun r4 => (some r4)))))
end Go.Proofs.YtbnjeanldechnaaGreatDoor
