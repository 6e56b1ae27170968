/- What functions compute, printed by a program of mine. -/
import Derived.Test.YtbnjeanldechnaaGreatDoorLfG
import Derived.Test.YtbnjeanldechnaaGreatDoorTys
import Derived.Test.YtbnjeanldechnaaGreatDoorEngG
import Derived.KernelRfl
namespace Go.Proofs.YtbnjeanldechnaaGreatDoor
open Go.RowKit Go.Qe
def law03_Size (i1 : Inst) : Option Int :=
  some (w64 ((i1.supply.length : Int) + (w64 (2 * (i1.arcs.length : Int)))))

def inst_wrong_1_1 (n1 : Int) (x1 : Int) : Option Bool :=
  if 0 ≤ n1 then (some (decide (n1 < x1))) else (some false)

def inst_within (n1 : Int) : Option Bool :=
  if (-4398046511104) ≤ n1 then (some (decide (n1 ≤ 4398046511104))) else (some false)

def inst_wrong (a1 : Arc) (nodes1 : Int) : Option Int :=
  (inst_wrong_1_1 a1.src nodes1).bind fun r1 => (if r1 = true then ((inst_wrong_1_1 a1.dst nodes1).bind fun r2 => (if r2 = true then (if a1.low < 0 then (some 22) else (if 4398046511104 < a1.low then (some 22) else (if ¬ a1.cap = 4611686018427387904 then (if a1.cap < a1.low then (some 22) else (if 4398046511104 < a1.cap then (some 22) else ((inst_within a1.cost).bind fun r3 => (if r3 = true then (some 0) else (some 23))))) else ((inst_within a1.cost).bind fun r4 => (if r4 = true then (some 0) else (some 23)))))) else (some 21))) else (some 21))

def inst_Right_b2 (i1 : Inst) (k4 : (Int × Int) → Option Int) : (Int × Int) → Option Int := fun (sum14, s8) =>
  if s8 < (i1.supply.length : Int) then (if 0 ≤ s8 ∧ s8 < (i1.supply.length : Int) then ((inst_within (gt i1.supply s8)).bind fun r12 => (if r12 = true then (lt (w64 (sum14 + (gt i1.supply s8))) fun (sum15 : Int) => (k4 (sum15, w64 (s8 + 1)))) else (some 24))) else none) else (if ¬ sum14 = 0 then (some 25) else (some 0))
def inst_Right_b1 (i1 : Inst) (k3 : Int → Option Int) : Int → Option Int := fun s6 =>
  if s6 < (i1.arcs.length : Int) then (if 0 ≤ s6 ∧ s6 < (i1.arcs.length : Int) then ((inst_wrong (gt i1.arcs s6) (i1.supply.length : Int)).bind fun r9 => (if ¬ r9 = 0 then (some r9) else (k3 (w64 (s6 + 1))))) else none) else (lp (inst_Right_b2 i1) big (0, 0))
def inst_Right (i1 : Inst) : Option Int :=
  if 64 < (i1.supply.length : Int) then (some 20) else (if 256 < (i1.arcs.length : Int) then (some 20) else (lp (inst_Right_b1 i1) big 0))

def leaf_tipOf (g1 : Inst) (i1 : Inst) (n1 : Int) : Option (Tip × Bool) :=
  (adj_Graph_At g1 n1).bind fun r1 => (if ¬ (r1.length : Int) = 1 then (some ((Tip.mk 0 0), false)) else ((adj_Graph_Loops g1 n1).bind fun r2 => (if 0 < r2 then (some ((Tip.mk 0 0), false)) else (if 0 ≤ (0 : Int) ∧ (0 : Int) < (r1.length : Int) then (if 0 ≤ (gt r1 0) ∧ (gt r1 0) < (i1.arcs.length : Int) then (if 0 ≤ n1 ∧ n1 < (i1.supply.length : Int) then (if ((gt i1.arcs (gt r1 0)).dst) = n1 then (if (w64 (0 - (gt i1.supply n1))) < ((gt i1.arcs (gt r1 0)).low) then (some ((Tip.mk 0 0), false)) else (if ((gt i1.arcs (gt r1 0)).cap) < (w64 (0 - (gt i1.supply n1))) then (some ((Tip.mk 0 0), false)) else (some ((Tip.mk (gt r1 0) (w64 (0 - (gt i1.supply n1)))), true)))) else (if (gt i1.supply n1) < ((gt i1.arcs (gt r1 0)).low) then (some ((Tip.mk 0 0), false)) else (if ((gt i1.arcs (gt r1 0)).cap) < (gt i1.supply n1) then (some ((Tip.mk 0 0), false)) else (some ((Tip.mk (gt r1 0) (gt i1.supply n1)), true))))) else none) else none) else none))))

def leaf_leaf_1_1 (k1 : Int) (x1 : Inst) (x2 : Inst) : Option (Tip × Bool) :=
  (leaf_tipOf x1 x2 k1).bind fun r1 => (some (r1.1, r1.2))

def leaf_first_leaf_tip_1_b1 (n1 : Int) (x1 : Inst) (x2 : Inst) (k1 : Int → Option (Int × Tip × Bool)) : Int → Option (Int × Tip × Bool) := fun s2 =>
  if s2 < n1 then ((leaf_leaf_1_1 s2 x1 x2).bind fun r3 => (if r3.2 = true then (some (s2, r3.1, true)) else (k1 (w64 (s2 + 1))))) else (some (0, (Tip.mk 0 0), false))
def leaf_first_leaf_tip_1 (n1 : Int) (x1 : Inst) (x2 : Inst) : Option (Int × Tip × Bool) :=
  lp (leaf_first_leaf_tip_1_b1 n1 x1 x2) big 0

def inst_Copy (i1 : Inst) : Option Inst :=
  (slices_Clone_int64 i1.supply).bind fun r1 => ((slices_Clone_api_Arc i1.arcs).bind fun r2 => (some (Inst.mk r1 r2)))

def math_bits_Mul64 (x1 : Int) (y1 : Int) : Option (Int × Int) :=
  lt (bits .and .u64 x1 4294967295) fun (x01 : Int) => (lt (x1.fdiv (2 ^ (min (32 : Int).toNat (IntKind.bits .u64)))) fun (x11 : Int) => (lt (bits .and .u64 y1 4294967295) fun (y01 : Int) => (lt (y1.fdiv (2 ^ (min (32 : Int).toNat (IntKind.bits .u64)))) fun (y11 : Int) => (lt (IntKind.wrap .u64 (x01 * y01)) fun (w01 : Int) => (lt (IntKind.wrap .u64 ((IntKind.wrap .u64 (x11 * y01)) + (w01.fdiv (2 ^ (min (32 : Int).toNat (IntKind.bits .u64)))))) fun (t1 : Int) => (lt (bits .and .u64 t1 4294967295) fun (w11 : Int) => (lt (t1.fdiv (2 ^ (min (32 : Int).toNat (IntKind.bits .u64)))) fun (w21 : Int) => (lt (IntKind.wrap .u64 (w11 + (IntKind.wrap .u64 (x01 * y11)))) fun (w12 : Int) => (lt (IntKind.wrap .u64 ((IntKind.wrap .u64 ((IntKind.wrap .u64 (x11 * y11)) + w21)) + (w12.fdiv (2 ^ (min (32 : Int).toNat (IntKind.bits .u64)))))) fun (hi1 : Int) => (lt (IntKind.wrap .u64 (x1 * y1)) fun (lo1 : Int) => (some (hi1, lo1))))))))))))

def num_Times (a1 : Int) (b1 : Int) : Option Wide :=
  (math_bits_Mul64 (IntKind.wrap .u64 (a1)) (IntKind.wrap .u64 (b1))).bind fun r1 => (lt (IntKind.wrap .u64 (r1.1 - (bits .and .u64 (IntKind.wrap .u64 (a1.fdiv (2 ^ (min (63 : Int).toNat (IntKind.bits .i64))))) (IntKind.wrap .u64 (b1))))) fun (hi1 : Int) => (lt (IntKind.wrap .u64 (hi1 - (bits .and .u64 (IntKind.wrap .u64 (b1.fdiv (2 ^ (min (63 : Int).toNat (IntKind.bits .i64))))) (IntKind.wrap .u64 (a1))))) fun (hi2 : Int) => (some (Wide.mk (w64 (hi2)) r1.2))))

def inst_Kept_b1 (off1 : List Bool) (n1 : Int) (k1 : (Int × (List Int)) → Option (List Int)) : (Int × (List Int)) → Option (List Int) := fun (s3, xs10) =>
  if s3 < (if 1000 < n1 then 1000 else n1) then (if (off1.length : Int) ≤ s3 then (if xs10.length + ([s3]).length ≤ lim then (lt (xs10 ++ ([s3])) fun (xs11 : List Int) => (k1 (w64 (s3 + 1), xs11))) else none) else (if 0 ≤ s3 ∧ s3 < (off1.length : Int) then (if (gt off1 s3) = true then (k1 (w64 (s3 + 1), xs10)) else (if xs10.length + ([s3]).length ≤ lim then (lt (xs10 ++ ([s3])) fun (xs12 : List Int) => (k1 (w64 (s3 + 1), xs12))) else none)) else none)) else (some xs10)
def inst_Kept (off1 : List Bool) (n1 : Int) : Option (List Int) :=
  lp (inst_Kept_b1 off1 n1) big (0, ([] : List Int))

def inst_pick_int64_b1 (l1 : List Int) (atv1 : List Int) (k1 : (Int × (List Int)) → Option (List Int)) : (Int × (List Int)) → Option (List Int) := fun (s3, xs6) =>
  if s3 < (atv1.length : Int) then (if 0 ≤ s3 ∧ s3 < (atv1.length : Int) then (if 0 ≤ (gt atv1 s3) ∧ (gt atv1 s3) < (l1.length : Int) then (if xs6.length + ([(gt l1 (gt atv1 s3))]).length ≤ lim then (lt (xs6 ++ ([(gt l1 (gt atv1 s3))])) fun (xs7 : List Int) => (k1 (w64 (s3 + 1), xs7))) else none) else none) else none) else (some xs6)
def inst_pick_int64 (l1 : List Int) (atv1 : List Int) : Option (List Int) :=
  lp (inst_pick_int64_b1 l1 atv1) big (0, ([] : List Int))

def inst_pick_api_Arc_b1 (l1 : List Arc) (atv1 : List Int) (k1 : (Int × (List Arc)) → Option (List Arc)) : (Int × (List Arc)) → Option (List Arc) := fun (s3, xs6) =>
  if s3 < (atv1.length : Int) then (if 0 ≤ s3 ∧ s3 < (atv1.length : Int) then (if 0 ≤ (gt atv1 s3) ∧ (gt atv1 s3) < (l1.length : Int) then (if xs6.length + ([(gt l1 (gt atv1 s3))]).length ≤ lim then (lt (xs6 ++ ([(gt l1 (gt atv1 s3))])) fun (xs7 : List Arc) => (k1 (w64 (s3 + 1), xs7))) else none) else none) else none) else (some xs6)
def inst_pick_api_Arc (l1 : List Arc) (atv1 : List Int) : Option (List Arc) :=
  lp (inst_pick_api_Arc_b1 l1 atv1) big (0, ([] : List Arc))

def slices_Index_int_b1 (s1 : List Int) (v1 : Int) (k1 : Int → Option Int) : Int → Option Int := fun s3 =>
  if s3 < (s1.length : Int) then (if 0 ≤ s3 ∧ s3 < (s1.length : Int) then (if v1 = (gt s1 s3) then (some s3) else (k1 (w64 (s3 + 1)))) else none) else (some (-1))
def slices_Index_int (s1 : List Int) (v1 : Int) : Option Int :=
  lp (slices_Index_int_b1 s1 v1) big 0

def inst_Without_b1 (r1 : (List Int)) (r2 : (List Int)) (r4 : (List Arc)) (k1 : (Int × (List Arc)) → Option Inst) : (Int × (List Arc)) → Option Inst := fun (s3, xs5) =>
  if s3 < (r4.length : Int) then (if 0 ≤ s3 ∧ s3 < (r4.length : Int) then ((slices_Index_int r1 ((gt r4 s3).src)).bind fun r11 => ((slices_Index_int r1 ((gt r4 s3).dst)).bind fun r12 => (if 0 ≤ r11 then (if 0 ≤ r12 then (if xs5.length + ([(Arc.mk r11 r12 ((gt r4 s3).low) ((gt r4 s3).cap) ((gt r4 s3).cost))]).length ≤ lim then (lt (xs5 ++ ([(Arc.mk r11 r12 ((gt r4 s3).low) ((gt r4 s3).cap) ((gt r4 s3).cost))])) fun (xs6 : List Arc) => (k1 (w64 (s3 + 1), xs6))) else none) else (k1 (w64 (s3 + 1), xs5))) else (k1 (w64 (s3 + 1), xs5))))) else none) else (some (Inst.mk r2 xs5))
def inst_Without (i1 : Inst) (nodes1 : List Bool) (arcs1 : List Bool) : Option Inst :=
  (inst_Kept nodes1 (i1.supply.length : Int)).bind fun r1 => ((inst_pick_int64 i1.supply r1).bind fun r2 => ((inst_Kept arcs1 (i1.arcs.length : Int)).bind fun r3 => ((inst_pick_api_Arc i1.arcs r3).bind fun r4 => (lp (inst_Without_b1 r1 r2 r4) big (0, ([] : List Arc))))))

def leaf_without (pass1 : Int) (was1 : Inst) (i1 : Inst) (n1 : Int) (off1 : Wide) : Option (Step × (Option Int)) :=
  if 0 ≤ (i1.supply.length : Int) ∧ (i1.supply.length : Int) ≤ (lim : Int) then (if 0 ≤ n1 ∧ n1 < ((List.replicate (i1.supply.length : Int).toNat false).length : Int) then (lt (upd (List.replicate (i1.supply.length : Int).toNat false) n1 true) fun (xs1 : List Bool) => ((inst_Without i1 xs1 ([] : List Bool)).bind fun r1 => ((inst_Right r1).bind fun r2 => (if ¬ r2 = 0 then (some ((Step.mk (Inst.mk ([]) ([])) (Rec.mk 0 (Inst.mk ([]) ([]))) (Wide.mk 0 0) false), (some 40))) else (some ((Step.mk (Inst.mk r1.supply r1.arcs) (Rec.mk pass1 (Inst.mk was1.supply was1.arcs)) off1 true), none)))))) else none) else none

def leaf_leaf (d1 : Inst) : Option (Step × (Option Int)) :=
  (adj_New d1).bind fun r1 => ((leaf_first_leaf_tip_1 (d1.supply.length : Int) r1 d1).bind fun r2 => (if r2.2.2 = true then ((inst_Copy d1).bind fun r4 => (if 0 ≤ r2.2.1.a ∧ r2.2.1.a < (d1.arcs.length : Int) then (if 0 ≤ ((gt d1.arcs r2.2.1.a).src) ∧ ((gt d1.arcs r2.2.1.a).src) < (r4.supply.length : Int) then (lt (upd r4.supply ((gt d1.arcs r2.2.1.a).src) (w64 ((gt r4.supply ((gt d1.arcs r2.2.1.a).src)) - r2.2.1.n))) fun (xs1 : List Int) => (if 0 ≤ ((gt d1.arcs r2.2.1.a).dst) ∧ ((gt d1.arcs r2.2.1.a).dst) < (xs1.length : Int) then (lt (upd xs1 ((gt d1.arcs r2.2.1.a).dst) (w64 ((gt xs1 ((gt d1.arcs r2.2.1.a).dst)) + r2.2.1.n))) fun (xs2 : List Int) => ((inst_Copy d1).bind fun r_o5_1_1 => ((num_Times r2.2.1.n ((gt d1.arcs r2.2.1.a).cost)).bind fun r_o5_8_1 => ((leaf_without 6 r_o5_1_1 (Inst.mk xs2 r4.arcs) r2.1 r_o5_8_1).bind fun r_o5_9_1 => (some ((Step.mk (Inst.mk r_o5_9_1.1.inst.supply r_o5_9_1.1.inst.arcs) (Rec.mk r_o5_9_1.1.rcd.pass (Inst.mk r_o5_9_1.1.rcd.was.supply r_o5_9_1.1.rcd.was.arcs)) r_o5_9_1.1.off r_o5_9_1.1.did), r_o5_9_1.2)))))) else none)) else none) else none)) else ((inst_Copy d1).bind fun r3 => (some ((Step.mk (Inst.mk r3.supply r3.arcs) (Rec.mk 0 (Inst.mk ([]) ([]))) (Wide.mk 0 0) false), none)))))

def leaf_run_1 (i1 : Inst) : Option (Step × Int) :=
  (inst_Right i1).bind fun r1 => (if ¬ r1 = 0 then (some ((Step.mk (Inst.mk ([]) ([])) (Rec.mk 0 (Inst.mk ([]) ([]))) (Wide.mk 0 0) false), r1)) else ((leaf_leaf i1).bind fun r2 => (if r2.2.isSome = true then (some ((Step.mk (Inst.mk ([]) ([])) (Rec.mk 0 (Inst.mk ([]) ([]))) (Wide.mk 0 0) false), r2.2.getD 0)) else (some ((Step.mk (Inst.mk r2.1.inst.supply r2.1.inst.arcs) (Rec.mk r2.1.rcd.pass (Inst.mk r2.1.rcd.was.supply r2.1.rcd.was.arcs)) r2.1.off r2.1.did), 0)))))

def leaf_Leaf (i1 : Inst) : Option (Step × Int) :=
  (leaf_run_1 i1).bind fun r1 => (some ((Step.mk (Inst.mk r1.1.inst.supply r1.1.inst.arcs) (Rec.mk r1.1.rcd.pass (Inst.mk r1.1.rcd.was.supply r1.1.rcd.was.arcs)) r1.1.off r1.1.did), r1.2))

def leaf_Tip (i1 : Inst) (n1 : Int) : Option (Int × Int × Bool) :=
  (adj_New i1).bind fun r1 => ((leaf_tipOf r1 i1 n1).bind fun r2 => (some (r2.1.a, r2.1.n, r2.2)))

def num_Of (a1 : Int) : Option Wide :=
  some (Wide.mk (a1.fdiv (2 ^ (min (63 : Int).toNat (IntKind.bits .i64)))) (IntKind.wrap .u64 (a1)))

def ref03_Nums_b1 (a1 : List Int) (b1 : List Int) (k3 : Int → Option Bool) : Int → Option Bool := fun k2 =>
  if k2 < (a1.length : Int) then (if 0 ≤ k2 ∧ k2 < (a1.length : Int) then (if 0 ≤ k2 ∧ k2 < (b1.length : Int) then (if ¬ (gt a1 k2) = (gt b1 k2) then (some false) else (k3 (w64 (k2 + 1)))) else none) else none) else (some true)
def ref03_Nums (a1 : List Int) (b1 : List Int) : Option Bool :=
  if ¬ (a1.length : Int) = (b1.length : Int) then (some false) else (lp (ref03_Nums_b1 a1 b1) big 0)

def ref03_Same_b1 (a1 : Inst) (b1 : Inst) (k3 : Int → Option Bool) : Int → Option Bool := fun k2 =>
  if k2 < (a1.arcs.length : Int) then (if 0 ≤ k2 ∧ k2 < (a1.arcs.length : Int) then (if 0 ≤ k2 ∧ k2 < (b1.arcs.length : Int) then (if (gt a1.arcs k2) = (gt b1.arcs k2) then (k3 (w64 (k2 + 1))) else (some false)) else none) else none) else (some true)
def ref03_Same (a1 : Inst) (b1 : Inst) : Option Bool :=
  (ref03_Nums a1.supply b1.supply).bind fun r1 => (if r1 = true then (if ¬ (a1.arcs.length : Int) = (b1.arcs.length : Int) then (some false) else (lp (ref03_Same_b1 a1 b1) big 0)) else (some false))

def leaf_shut_b1 (g1 : Inst) (i1 : Inst) (n1 : Int) (r1 : (List Int)) (k1 : Int → Option Bool) : Int → Option Bool := fun s2 =>
  if s2 < (r1.length : Int) then (if 0 ≤ s2 ∧ s2 < (r1.length : Int) then (if 0 ≤ (gt r1 s2) ∧ (gt r1 s2) < (i1.arcs.length : Int) then (if ¬ ((gt i1.arcs (gt r1 s2)).low) = 0 then (some false) else (k1 (w64 (s2 + 1)))) else none) else none) else ((adj_Graph_Out g1 n1).bind fun r7 => (if (r7.length : Int) = 0 then (some true) else ((adj_Graph_In g1 n1).bind fun r8 => (some (decide ((r8.length : Int) = 0))))))
def leaf_shut (g1 : Inst) (i1 : Inst) (n1 : Int) : Option Bool :=
  (adj_Graph_At g1 n1).bind fun r1 => (if (r1.length : Int) = 0 then (some false) else ((adj_Graph_Loops g1 n1).bind fun r2 => (if 0 < r2 then (some false) else (if 0 ≤ n1 ∧ n1 < (i1.supply.length : Int) then (if ¬ (gt i1.supply n1) = 0 then (some false) else (lp (leaf_shut_b1 g1 i1 n1 r1) big 0)) else none))))

def leaf_Shut (i1 : Inst) (n1 : Int) : Option Bool :=
  (adj_New i1).bind fun r1 => ((leaf_shut r1 i1 n1).bind fun r2 => (some r2))

def law17_known  : Option Bool :=
  (leaf_Leaf (Inst.mk ([3, -3]) ([(Arc.mk 0 1 0 5 4)]))).bind fun r1 => ((leaf_Tip (Inst.mk ([3, -3]) ([(Arc.mk 0 1 0 5 4)])) 1).bind fun r2 => (if r1.2 = 0 then (if r1.1.did = true then ((num_Of 12).bind fun r3 => (if r1.1.off = r3 then ((ref03_Same r1.1.inst (Inst.mk ([0]) ([] : List Arc))).bind fun r4 => (if r4 = true then (if r2.1 = 0 then (if r2.2.1 = 3 then (if r2.2.2 = true then ((leaf_Shut (Inst.mk ([3, -3]) ([(Arc.mk 0 1 0 5 4)])) 0).bind fun r5 => (some (!r5))) else (some false)) else (some false)) else (some false)) else (some false))) else (some false))) else (some false)) else (some false)))

def law07_Thin_b1 (c1 : List Int) (n1 : Int) (k4 : (Int × (List Arc)) → Option Inst) : (Int × (List Arc)) → Option Inst := fun (k3, xs5) =>
  if k3 < (c1.length : Int) then (if k3 < 20 then (if 0 ≤ k3 ∧ k3 < (c1.length : Int) then (if n1 ≠ 0 then (lt ((w64 ((gt c1 k3))).tmod n1) fun (fromv4 : Int) => (if n1 ≠ 0 then (lt ((w64 (fromv4 + (w64 ((IntKind.wrap .u8 ((gt c1 k3).tdiv 16)).tmod 4)))).tmod n1) fun (tov4 : Int) => (if xs5.length + ([(Arc.mk fromv4 tov4 0 3 k3)]).length ≤ lim then (lt (xs5 ++ ([(Arc.mk fromv4 tov4 0 3 k3)])) fun (xs6 : List Arc) => (k4 (w64 (k3 + 1), xs6))) else none)) else none)) else none) else none) else (some (Inst.mk (List.replicate n1.toNat 0) xs5))) else (some (Inst.mk (List.replicate n1.toNat 0) xs5))
def law07_Thin_b2 (c1 : List Int) (k8 : (Int × (List Arc)) → Option Inst) : (Int × (List Arc)) → Option Inst := fun (k7, xs11) =>
  if k7 < (c1.length : Int) then (if k7 < 20 then (if 0 ≤ k7 ∧ k7 < (c1.length : Int) then (lt ((w64 ((gt c1 k7))).tmod 2) fun (fromv7 : Int) => (lt ((w64 (fromv7 + (w64 ((IntKind.wrap .u8 ((gt c1 k7).tdiv 16)).tmod 4)))).tmod 2) fun (tov8 : Int) => (if xs11.length + ([(Arc.mk fromv7 tov8 0 3 k7)]).length ≤ lim then (lt (xs11 ++ ([(Arc.mk fromv7 tov8 0 3 k7)])) fun (xs12 : List Arc) => (k8 (w64 (k7 + 1), xs12))) else none))) else none) else (some (Inst.mk (List.replicate (2 : Int).toNat 0) xs11))) else (some (Inst.mk (List.replicate (2 : Int).toNat 0) xs11))
def law07_Thin (c1 : List Int) : Option Inst :=
  if 0 < (c1.length : Int) then (if 0 ≤ (0 : Int) ∧ (0 : Int) < (c1.length : Int) then (lt (w64 (2 + (w64 ((gt c1 0).tmod 9)))) fun (n1 : Int) => (if 0 ≤ n1 ∧ n1 ≤ (lim : Int) then (lp (law07_Thin_b1 c1 n1) big (1, ([] : List Arc))) else none)) else none) else (if 0 ≤ (2 : Int) ∧ (2 : Int) ≤ (lim : Int) then (lp (law07_Thin_b2 c1) big (1, ([] : List Arc))) else none)

def law17_Tree_b1 (i1 : List Int) (k1 : (Int × (List Int) × (List Arc)) → Option Inst) : (Int × (List Int) × (List Arc)) → Option Inst := fun (s3, xs27, xs28) =>
  if s3 < (xs28.length : Int) then (if s3 < (i1.length : Int) then (if 0 ≤ s3 ∧ s3 < (i1.length : Int) then (if 0 ≤ s3 ∧ s3 < (xs28.length : Int) then (lt (upd xs28 s3 (Arc.mk ((gt xs28 s3).src) ((gt xs28 s3).dst) (w64 ((IntKind.wrap .u8 ((gt i1 s3).tdiv 4)).tmod 2)) ((gt xs28 s3).cap) ((gt xs28 s3).cost))) fun (xs29 : List Arc) => (if ((gt i1 s3).tmod 16) = 15 then (if 0 ≤ s3 ∧ s3 < (xs29.length : Int) then (lt (upd xs29 s3 (Arc.mk ((gt xs29 s3).src) ((gt xs29 s3).dst) ((gt xs29 s3).low) 4611686018427387904 ((gt xs29 s3).cost))) fun (xs30 : List Arc) => (if 0 ≤ s3 ∧ s3 < (xs30.length : Int) then (if 0 ≤ ((gt xs30 s3).src) ∧ ((gt xs30 s3).src) < (xs27.length : Int) then (lt (upd xs27 ((gt xs30 s3).src) (w64 ((gt xs27 ((gt xs30 s3).src)) + (w64 ((gt i1 s3).tmod 4))))) fun (xs31 : List Int) => (if 0 ≤ ((gt xs30 s3).dst) ∧ ((gt xs30 s3).dst) < (xs31.length : Int) then (lt (upd xs31 ((gt xs30 s3).dst) (w64 ((gt xs31 ((gt xs30 s3).dst)) - (w64 ((gt i1 s3).tmod 4))))) fun (xs32 : List Int) => (k1 (w64 (s3 + 1), xs32, xs30))) else none)) else none) else none)) else none) else (if 0 ≤ s3 ∧ s3 < (xs29.length : Int) then (if 0 ≤ ((gt xs29 s3).src) ∧ ((gt xs29 s3).src) < (xs27.length : Int) then (lt (upd xs27 ((gt xs29 s3).src) (w64 ((gt xs27 ((gt xs29 s3).src)) + (w64 ((gt i1 s3).tmod 4))))) fun (xs33 : List Int) => (if 0 ≤ ((gt xs29 s3).dst) ∧ ((gt xs29 s3).dst) < (xs33.length : Int) then (lt (upd xs33 ((gt xs29 s3).dst) (w64 ((gt xs33 ((gt xs29 s3).dst)) - (w64 ((gt i1 s3).tmod 4))))) fun (xs34 : List Int) => (k1 (w64 (s3 + 1), xs34, xs29))) else none)) else none) else none))) else none) else none) else (if 0 ≤ s3 ∧ s3 < (xs28.length : Int) then (if 0 ≤ ((gt xs28 s3).src) ∧ ((gt xs28 s3).src) < (xs27.length : Int) then (lt (upd xs27 ((gt xs28 s3).src) (w64 ((gt xs27 ((gt xs28 s3).src)) + 0))) fun (xs35 : List Int) => (if 0 ≤ ((gt xs28 s3).dst) ∧ ((gt xs28 s3).dst) < (xs35.length : Int) then (lt (upd xs35 ((gt xs28 s3).dst) (w64 ((gt xs35 ((gt xs28 s3).dst)) - 0))) fun (xs36 : List Int) => (k1 (w64 (s3 + 1), xs36, xs28))) else none)) else none) else none)) else (some (Inst.mk xs27 xs28))
def law17_Tree (d1 : List Int) (i1 : List Int) : Option Inst :=
  (law07_Thin d1).bind fun r1 => (lp (law17_Tree_b1 i1) big (0, r1.supply, r1.arcs))

def ref03_in (n1 : Int) : Option Bool :=
  if (-4398046511104) ≤ n1 then (some (decide (n1 ≤ 4398046511104))) else (some false)

def ref03_arc (a1 : Arc) (n1 : Int) : Option Int :=
  if a1.src < 0 then (some 21) else (if n1 ≤ a1.src then (some 21) else (if a1.dst < 0 then (some 21) else (if n1 ≤ a1.dst then (some 21) else (if a1.low < 0 then (some 22) else (if 4398046511104 < a1.low then (some 22) else (if ¬ a1.cap = 4611686018427387904 then (if a1.cap < a1.low then (some 22) else (if 4398046511104 < a1.cap then (some 22) else ((ref03_in a1.cost).bind fun r1 => (if r1 = true then (some 0) else (some 23))))) else ((ref03_in a1.cost).bind fun r2 => (if r2 = true then (some 0) else (some 23)))))))))

def ref03_Right_b2 (i1 : Inst) (k6 : (Int × Int) → Option Int) : (Int × Int) → Option Int := fun (sum14, n9) =>
  if n9 < (i1.supply.length : Int) then (if 0 ≤ n9 ∧ n9 < (i1.supply.length : Int) then ((ref03_in (gt i1.supply n9)).bind fun r12 => (if r12 = true then (lt (w64 (sum14 + (gt i1.supply n9))) fun (sum15 : Int) => (k6 (sum15, w64 (n9 + 1)))) else (some 24))) else none) else (if ¬ sum14 = 0 then (some 25) else (some 0))
def ref03_Right_b1 (i1 : Inst) (k5 : Int → Option Int) : Int → Option Int := fun k4 =>
  if k4 < (i1.arcs.length : Int) then (if 0 ≤ k4 ∧ k4 < (i1.arcs.length : Int) then ((ref03_arc (gt i1.arcs k4) (i1.supply.length : Int)).bind fun r9 => (if ¬ r9 = 0 then (some r9) else (k5 (w64 (k4 + 1))))) else none) else (lp (ref03_Right_b2 i1) big (0, 0))
def ref03_Right (i1 : Inst) : Option Int :=
  if 64 < (i1.supply.length : Int) then (some 20) else (if 256 < (i1.arcs.length : Int) then (some 20) else (lp (ref03_Right_b1 i1) big 0))

def ref04_fit (i1 : Inst) (a1 : Int) : Option Bool :=
  if a1 < 0 then (some false) else (if (i1.arcs.length : Int) ≤ a1 then (some false) else (if 0 ≤ a1 ∧ a1 < (i1.arcs.length : Int) then (if 0 ≤ ((gt i1.arcs a1).src) then (if ((gt i1.arcs a1).src) < (i1.supply.length : Int) then (if 0 ≤ ((gt i1.arcs a1).dst) then (some (decide (((gt i1.arcs a1).dst) < (i1.supply.length : Int)))) else (some false)) else (some false)) else (some false)) else none))

def ref04_some_b1 (i1 : Inst) (n1 : Int) (outv1 : Bool) (inv1 : Bool) (k1 : (Int × (List Int)) → Option (List Int)) : (Int × (List Int)) → Option (List Int) := fun (a3, xs14) =>
  if a3 < (i1.arcs.length : Int) then ((ref04_fit i1 a3).bind fun r5 => (if r5 = true then (if outv1 = true then (if 0 ≤ a3 ∧ a3 < (i1.arcs.length : Int) then (if ((gt i1.arcs a3).src) = n1 then (if xs14.length + ([a3]).length ≤ lim then (lt (xs14 ++ ([a3])) fun (xs15 : List Int) => (k1 (w64 (a3 + 1), xs15))) else none) else (if inv1 = true then (if ((gt i1.arcs a3).dst) = n1 then (if xs14.length + ([a3]).length ≤ lim then (lt (xs14 ++ ([a3])) fun (xs16 : List Int) => (k1 (w64 (a3 + 1), xs16))) else none) else (k1 (w64 (a3 + 1), xs14))) else (k1 (w64 (a3 + 1), xs14)))) else none) else (if inv1 = true then (if 0 ≤ a3 ∧ a3 < (i1.arcs.length : Int) then (if ((gt i1.arcs a3).dst) = n1 then (if xs14.length + ([a3]).length ≤ lim then (lt (xs14 ++ ([a3])) fun (xs17 : List Int) => (k1 (w64 (a3 + 1), xs17))) else none) else (k1 (w64 (a3 + 1), xs14))) else none) else (k1 (w64 (a3 + 1), xs14)))) else (k1 (w64 (a3 + 1), xs14)))) else (some xs14)
def ref04_some (i1 : Inst) (n1 : Int) (outv1 : Bool) (inv1 : Bool) : Option (List Int) :=
  lp (ref04_some_b1 i1 n1 outv1 inv1) big (0, ([] : List Int))

def ref04_At (i1 : Inst) (n1 : Int) : Option (List Int) :=
  (ref04_some i1 n1 true true).bind fun r1 => (some r1)

def ref04_Loops_b1 (i1 : Inst) (n1 : Int) (k3 : (Int × Int) → Option Int) : (Int × Int) → Option Int := fun (k2, a2) =>
  if a2 < (i1.arcs.length : Int) then ((ref04_fit i1 a2).bind fun r3 => (if r3 = true then (if 0 ≤ a2 ∧ a2 < (i1.arcs.length : Int) then (if ((gt i1.arcs a2).src) = n1 then (if ((gt i1.arcs a2).dst) = n1 then (k3 (w64 (k2 + 1), w64 (a2 + 1))) else (k3 (k2, w64 (a2 + 1)))) else (k3 (k2, w64 (a2 + 1)))) else none) else (k3 (k2, w64 (a2 + 1))))) else (some k2)
def ref04_Loops (i1 : Inst) (n1 : Int) : Option Int :=
  lp (ref04_Loops_b1 i1 n1) big (0, 0)

def ref17_Tip (d1 : Inst) (i1 : Int) : Option (Int × Int × Bool) :=
  (ref04_At d1 i1).bind fun r1 => (if i1 < 0 then (some (0, 0, false)) else (if (d1.supply.length : Int) ≤ i1 then (some (0, 0, false)) else (if ¬ (r1.length : Int) = 1 then (some (0, 0, false)) else ((ref04_Loops d1 i1).bind fun r2 => (if 0 < r2 then (some (0, 0, false)) else (if 0 ≤ (0 : Int) ∧ (0 : Int) < (r1.length : Int) then (if 0 ≤ (gt r1 0) ∧ (gt r1 0) < (d1.arcs.length : Int) then (if 0 ≤ i1 ∧ i1 < (d1.supply.length : Int) then (if ((gt d1.arcs (gt r1 0)).dst) = i1 then (if (w64 (0 - (gt d1.supply i1))) < ((gt d1.arcs (gt r1 0)).low) then (some (0, 0, false)) else (if ((gt d1.arcs (gt r1 0)).cap) < (w64 (0 - (gt d1.supply i1))) then (some (0, 0, false)) else (some ((gt r1 0), w64 (0 - (gt d1.supply i1)), true)))) else (if (gt d1.supply i1) < ((gt d1.arcs (gt r1 0)).low) then (some (0, 0, false)) else (if ((gt d1.arcs (gt r1 0)).cap) < (gt d1.supply i1) then (some (0, 0, false)) else (some ((gt r1 0), (gt d1.supply i1), true))))) else none) else none) else none))))))

def ref03_Copy (i1 : Inst) : Option Inst :=
  if ([] : List Int).length + i1.supply.length ≤ lim then (lt (([] : List Int) ++ i1.supply) fun (xs1 : List Int) => (if ([] : List Arc).length + i1.arcs.length ≤ lim then (lt (([] : List Arc) ++ i1.arcs) fun (xs2 : List Arc) => (some (Inst.mk xs1 xs2))) else none)) else none

def ref01_Of (a1 : Int) : Option Wide :=
  if a1 < 0 then (some (Wide.mk (-1) (IntKind.wrap .u64 (a1)))) else (some (Wide.mk 0 (IntKind.wrap .u64 (a1))))

def ref01_Plus (a1 : Wide) (b1 : Wide) : Option Wide :=
  if (IntKind.wrap .u64 (a1.lo + b1.lo)) < a1.lo then (some (Wide.mk (w64 ((w64 (a1.hi + b1.hi)) + 1)) (IntKind.wrap .u64 (a1.lo + b1.lo)))) else (some (Wide.mk (w64 (a1.hi + b1.hi)) (IntKind.wrap .u64 (a1.lo + b1.lo))))

def ref01_Less (a1 : Wide) : Option Wide :=
  (ref01_Plus (Wide.mk (bits .xor .i64 (-1) a1.hi) (bits .xor .u64 18446744073709551615 a1.lo)) (Wide.mk 0 1)).bind fun r1 => (some r1)

def ref01_Minus (a1 : Wide) (b1 : Wide) : Option Wide :=
  (ref01_Less b1).bind fun r1 => ((ref01_Plus a1 r1).bind fun r2 => (some r2))

def ref01_Twice (a1 : Wide) : Option Wide :=
  (ref01_Plus a1 a1).bind fun r1 => (some r1)

def ref01_Times_b1 (b1 : Int) (k1 : (Int × Int × Int × Int × Int) → Option Wide) : (Int × Int × Int × Int × Int) → Option Wide := fun (i2, s5, s6, s7, s8) =>
  if i2 < 64 then (if 0 ≤ (IntKind.wrap .u64 (i2)) then (if (((IntKind.wrap .u64 (b1)).fdiv (2 ^ (min (IntKind.wrap .u64 (i2)).toNat (IntKind.bits .u64)))).tmod 2) = 1 then (if i2 = 63 then ((ref01_Minus (Wide.mk s5 s6) (Wide.mk s7 s8)).bind fun r12 => ((ref01_Twice (Wide.mk s7 s8)).bind fun r13 => (k1 (w64 (i2 + 1), r12.hi, r12.lo, r13.hi, r13.lo)))) else ((ref01_Plus (Wide.mk s5 s6) (Wide.mk s7 s8)).bind fun r14 => ((ref01_Twice (Wide.mk s7 s8)).bind fun r15 => (k1 (w64 (i2 + 1), r14.hi, r14.lo, r15.hi, r15.lo))))) else ((ref01_Twice (Wide.mk s7 s8)).bind fun r16 => (k1 (w64 (i2 + 1), s5, s6, r16.hi, r16.lo)))) else none) else (some (Wide.mk s5 s6))
def ref01_Times (a1 : Int) (b1 : Int) : Option Wide :=
  (ref01_Of a1).bind fun r1 => (lp (ref01_Times_b1 b1) big (0, 0, 0, r1.hi, r1.lo))

def ref15_Fixed (i1 : Inst) (a1 : Int) (n1 : Int) (off1 : Wide) : Option (Inst × Wide) :=
  if 0 ≤ a1 ∧ a1 < (i1.arcs.length : Int) then ((ref03_Copy i1).bind fun r1 => (if 0 ≤ ((gt i1.arcs a1).src) ∧ ((gt i1.arcs a1).src) < (r1.supply.length : Int) then (lt (upd r1.supply ((gt i1.arcs a1).src) (w64 ((gt r1.supply ((gt i1.arcs a1).src)) - n1))) fun (xs1 : List Int) => (if 0 ≤ ((gt i1.arcs a1).dst) ∧ ((gt i1.arcs a1).dst) < (xs1.length : Int) then (lt (upd xs1 ((gt i1.arcs a1).dst) (w64 ((gt xs1 ((gt i1.arcs a1).dst)) + n1))) fun (xs2 : List Int) => ((ref01_Times n1 ((gt i1.arcs a1).cost)).bind fun r2 => ((ref01_Plus off1 r2).bind fun r3 => (some ((Inst.mk xs2 r1.arcs), r3))))) else none)) else none)) else none

def ref17_one (many1 : Int) (atv1 : Int) : Option (List Bool) :=
  if 0 ≤ many1 ∧ many1 ≤ (lim : Int) then (if 0 ≤ atv1 ∧ atv1 < ((List.replicate many1.toNat false).length : Int) then (lt (upd (List.replicate many1.toNat false) atv1 true) fun (xs1 : List Bool) => (some xs1)) else none) else none

def ref03_Off (off1 : List Bool) (k1 : Int) : Option Bool :=
  if k1 < (off1.length : Int) then (if 0 ≤ k1 ∧ k1 < (off1.length : Int) then (some (gt off1 k1)) else none) else (some false)

def ref03_Kept_b1 (off1 : List Bool) (n1 : Int) (k4 : (Int × (List Int)) → Option (List Int)) : (Int × (List Int)) → Option (List Int) := fun (k3, xs6) =>
  if k3 < n1 then (if k3 < 1000 then ((ref03_Off off1 k3).bind fun r5 => (if r5 = true then (k4 (w64 (k3 + 1), xs6)) else (if xs6.length + ([k3]).length ≤ lim then (lt (xs6 ++ ([k3])) fun (xs7 : List Int) => (k4 (w64 (k3 + 1), xs7))) else none))) else (some xs6)) else (some xs6)
def ref03_Kept (off1 : List Bool) (n1 : Int) : Option (List Int) :=
  lp (ref03_Kept_b1 off1 n1) big (0, ([] : List Int))

def ref03_Place_b1 (l1 : List Int) (n1 : Int) (k3 : Int → Option Int) : Int → Option Int := fun k2 =>
  if k2 < (l1.length : Int) then (if 0 ≤ k2 ∧ k2 < (l1.length : Int) then (if (gt l1 k2) = n1 then (some k2) else (k3 (w64 (k2 + 1)))) else none) else (some (-1))
def ref03_Place (l1 : List Int) (n1 : Int) : Option Int :=
  lp (ref03_Place_b1 l1 n1) big 0

def ref03_Without_b2 (d1 : Inst) (r1 : (List Int)) (xs23 : List Int) (r29 : (List Int)) (k5 : (Int × (List Arc)) → Option Inst) : (Int × (List Arc)) → Option Inst := fun (s15, xs29) =>
  if s15 < (r29.length : Int) then (if 0 ≤ s15 ∧ s15 < (r29.length : Int) then (if 0 ≤ (gt r29 s15) ∧ (gt r29 s15) < (d1.arcs.length : Int) then ((ref03_Place r1 ((gt d1.arcs (gt r29 s15)).src)).bind fun r36 => ((ref03_Place r1 ((gt d1.arcs (gt r29 s15)).dst)).bind fun r37 => (if 0 ≤ r36 then (if 0 ≤ r37 then (if xs29.length + ([(Arc.mk r36 r37 ((gt d1.arcs (gt r29 s15)).low) ((gt d1.arcs (gt r29 s15)).cap) ((gt d1.arcs (gt r29 s15)).cost))]).length ≤ lim then (lt (xs29 ++ ([(Arc.mk r36 r37 ((gt d1.arcs (gt r29 s15)).low) ((gt d1.arcs (gt r29 s15)).cap) ((gt d1.arcs (gt r29 s15)).cost))])) fun (xs30 : List Arc) => (k5 (w64 (s15 + 1), xs30))) else none) else (k5 (w64 (s15 + 1), xs29))) else (k5 (w64 (s15 + 1), xs29))))) else none) else none) else (some (Inst.mk xs23 xs29))
def ref03_Without_b1 (d1 : Inst) (x1 : List Bool) (r1 : (List Int)) (k4 : (Int × (List Int)) → Option Inst) : (Int × (List Int)) → Option Inst := fun (s12, xs23) =>
  if s12 < (r1.length : Int) then (if 0 ≤ s12 ∧ s12 < (r1.length : Int) then (if 0 ≤ (gt r1 s12) ∧ (gt r1 s12) < (d1.supply.length : Int) then (if xs23.length + ([(gt d1.supply (gt r1 s12))]).length ≤ lim then (lt (xs23 ++ ([(gt d1.supply (gt r1 s12))])) fun (xs24 : List Int) => (k4 (w64 (s12 + 1), xs24))) else none) else none) else none) else ((ref03_Kept x1 (d1.arcs.length : Int)).bind fun r29 => (lp (ref03_Without_b2 d1 r1 xs23 r29) big (0, ([] : List Arc))))
def ref03_Without (d1 : Inst) (i1 : List Bool) (x1 : List Bool) : Option Inst :=
  (ref03_Kept i1 (d1.supply.length : Int)).bind fun r1 => (lp (ref03_Without_b1 d1 x1 r1) big (0, ([] : List Int)))

def ref15_Done (pass1 : Int) (was1 : Inst) (next1 : Inst) (off1 : Wide) (did1 : Bool) : Option (Step × Int) :=
  if did1 = true then ((ref03_Right next1).bind fun r1 => (if ¬ r1 = 0 then (some ((Step.mk (Inst.mk ([]) ([])) (Rec.mk 0 (Inst.mk ([]) ([]))) (Wide.mk 0 0) false), 40)) else (some ((Step.mk (Inst.mk next1.supply next1.arcs) (Rec.mk pass1 (Inst.mk was1.supply was1.arcs)) off1 true), 0)))) else (some ((Step.mk (Inst.mk was1.supply was1.arcs) (Rec.mk 0 (Inst.mk ([]) ([]))) (Wide.mk 0 0) false), 0))

def ref17_Leaf_b1 (i1 : Inst) (k1 : Int → Option (Step × Int)) : Int → Option (Step × Int) := fun n6 =>
  if n6 < (i1.supply.length : Int) then ((ref17_Tip i1 n6).bind fun r6 => (if r6.2.2 = true then ((ref15_Fixed i1 r6.1 r6.2.1 (Wide.mk 0 0)).bind fun r7 => ((ref17_one (i1.supply.length : Int) n6).bind fun r_o9_6_1 => ((ref03_Without r7.1 r_o9_6_1 ([] : List Bool)).bind fun r_o9_7_1 => ((ref15_Done 6 i1 r_o9_7_1 r7.2 true).bind fun r_o9_9_1 => (some ((Step.mk (Inst.mk r_o9_9_1.1.inst.supply r_o9_9_1.1.inst.arcs) (Rec.mk r_o9_9_1.1.rcd.pass (Inst.mk r_o9_9_1.1.rcd.was.supply r_o9_9_1.1.rcd.was.arcs)) r_o9_9_1.1.off r_o9_9_1.1.did), r_o9_9_1.2)))))) else (k1 (w64 (n6 + 1))))) else (some ((Step.mk (Inst.mk i1.supply i1.arcs) (Rec.mk 0 (Inst.mk ([]) ([]))) (Wide.mk 0 0) false), 0))
def ref17_Leaf (i1 : Inst) : Option (Step × Int) :=
  (ref03_Right i1).bind fun r1 => (if ¬ r1 = 0 then (some ((Step.mk (Inst.mk ([]) ([])) (Rec.mk 0 (Inst.mk ([]) ([]))) (Wide.mk 0 0) false), r1)) else (lp (ref17_Leaf_b1 i1) big 0))

def leaf_dead_1_1 (k1 : Int) (x1 : Inst) (x2 : Inst) : Option (Unit × Bool) :=
  (leaf_shut x1 x2 k1).bind fun r1 => (some ((), r1))

def leaf_first_struct_1_b1 (n1 : Int) (x1 : Inst) (x2 : Inst) (k1 : Int → Option (Int × Unit × Bool)) : Int → Option (Int × Unit × Bool) := fun s2 =>
  if s2 < n1 then ((leaf_dead_1_1 s2 x1 x2).bind fun r3 => (if r3.2 = true then (some (s2, (), true)) else (k1 (w64 (s2 + 1))))) else (some (0, (), false))
def leaf_first_struct_1 (n1 : Int) (x1 : Inst) (x2 : Inst) : Option (Int × Unit × Bool) :=
  lp (leaf_first_struct_1_b1 n1 x1 x2) big 0

def leaf_dead (i1 : Inst) : Option (Step × (Option Int)) :=
  (adj_New i1).bind fun r1 => ((leaf_first_struct_1 (i1.supply.length : Int) r1 i1).bind fun r2 => (if r2.2.2 = true then ((inst_Copy i1).bind fun r_o3_1_1 => ((inst_Copy i1).bind fun r_o3_3_1 => ((leaf_without 7 r_o3_1_1 r_o3_3_1 r2.1 (Wide.mk 0 0)).bind fun r_o3_6_1 => (some ((Step.mk (Inst.mk r_o3_6_1.1.inst.supply r_o3_6_1.1.inst.arcs) (Rec.mk r_o3_6_1.1.rcd.pass (Inst.mk r_o3_6_1.1.rcd.was.supply r_o3_6_1.1.rcd.was.arcs)) r_o3_6_1.1.off r_o3_6_1.1.did), r_o3_6_1.2))))) else ((inst_Copy i1).bind fun r3 => (some ((Step.mk (Inst.mk r3.supply r3.arcs) (Rec.mk 0 (Inst.mk ([]) ([]))) (Wide.mk 0 0) false), none)))))

def leaf_run_2 (i1 : Inst) : Option (Step × Int) :=
  (inst_Right i1).bind fun r1 => (if ¬ r1 = 0 then (some ((Step.mk (Inst.mk ([]) ([])) (Rec.mk 0 (Inst.mk ([]) ([]))) (Wide.mk 0 0) false), r1)) else ((leaf_dead i1).bind fun r2 => (if r2.2.isSome = true then (some ((Step.mk (Inst.mk ([]) ([])) (Rec.mk 0 (Inst.mk ([]) ([]))) (Wide.mk 0 0) false), r2.2.getD 0)) else (some ((Step.mk (Inst.mk r2.1.inst.supply r2.1.inst.arcs) (Rec.mk r2.1.rcd.pass (Inst.mk r2.1.rcd.was.supply r2.1.rcd.was.arcs)) r2.1.off r2.1.did), 0)))))

def leaf_Dead (i1 : Inst) : Option (Step × Int) :=
  (leaf_run_2 i1).bind fun r1 => (some ((Step.mk (Inst.mk r1.1.inst.supply r1.1.inst.arcs) (Rec.mk r1.1.rcd.pass (Inst.mk r1.1.rcd.was.supply r1.1.rcd.was.arcs)) r1.1.off r1.1.did), r1.2))

def ref04_Out (i1 : Inst) (n1 : Int) : Option (List Int) :=
  (ref04_some i1 n1 true false).bind fun r1 => (some r1)

def ref04_In (i1 : Inst) (n1 : Int) : Option (List Int) :=
  (ref04_some i1 n1 false true).bind fun r1 => (some r1)

def ref17_Shut_b1 (d1 : Inst) (i1 : Int) (r1 : (List Int)) (k1 : Int → Option Bool) : Int → Option Bool := fun s2 =>
  if s2 < (r1.length : Int) then (if 0 ≤ s2 ∧ s2 < (r1.length : Int) then (if 0 ≤ (gt r1 s2) ∧ (gt r1 s2) < (d1.arcs.length : Int) then (if ¬ ((gt d1.arcs (gt r1 s2)).low) = 0 then (some false) else (k1 (w64 (s2 + 1)))) else none) else none) else ((ref04_Out d1 i1).bind fun r7 => (if (r7.length : Int) = 0 then (some true) else ((ref04_In d1 i1).bind fun r8 => (some (decide ((r8.length : Int) = 0))))))
def ref17_Shut (d1 : Inst) (i1 : Int) : Option Bool :=
  (ref04_At d1 i1).bind fun r1 => (if i1 < 0 then (some false) else (if (d1.supply.length : Int) ≤ i1 then (some false) else (if 0 ≤ i1 ∧ i1 < (d1.supply.length : Int) then (if ¬ (gt d1.supply i1) = 0 then (some false) else (if (r1.length : Int) = 0 then (some false) else ((ref04_Loops d1 i1).bind fun r2 => (if 0 < r2 then (some false) else (lp (ref17_Shut_b1 d1 i1 r1) big 0))))) else none)))

def ref17_Dead_b1 (i1 : Inst) (k1 : Int → Option (Step × Int)) : Int → Option (Step × Int) := fun n2 =>
  if n2 < (i1.supply.length : Int) then ((ref17_Shut i1 n2).bind fun r4 => (if r4 = true then ((ref17_one (i1.supply.length : Int) n2).bind fun r_o3_6_1 => ((ref03_Without i1 r_o3_6_1 ([] : List Bool)).bind fun r_o3_7_1 => ((ref15_Done 7 i1 r_o3_7_1 (Wide.mk 0 0) true).bind fun r_o3_9_1 => (some ((Step.mk (Inst.mk r_o3_9_1.1.inst.supply r_o3_9_1.1.inst.arcs) (Rec.mk r_o3_9_1.1.rcd.pass (Inst.mk r_o3_9_1.1.rcd.was.supply r_o3_9_1.1.rcd.was.arcs)) r_o3_9_1.1.off r_o3_9_1.1.did), r_o3_9_1.2))))) else (k1 (w64 (n2 + 1))))) else (some ((Step.mk (Inst.mk i1.supply i1.arcs) (Rec.mk 0 (Inst.mk ([]) ([]))) (Wide.mk 0 0) false), 0))
def ref17_Dead (i1 : Inst) : Option (Step × Int) :=
  (ref03_Right i1).bind fun r1 => (if ¬ r1 = 0 then (some ((Step.mk (Inst.mk ([]) ([])) (Rec.mk 0 (Inst.mk ([]) ([]))) (Wide.mk 0 0) false), r1)) else (lp (ref17_Dead_b1 i1) big 0))

def ref15_Same (a1 : Step) (b1 : Step) : Option Bool :=
  if (a1.did == b1.did) = true then (if a1.off = b1.off then (if a1.rcd.pass = b1.rcd.pass then ((ref03_Same a1.inst b1.inst).bind fun r1 => (if r1 = true then ((ref03_Same a1.rcd.was b1.rcd.was).bind fun r2 => (some r2)) else (some false))) else (some false)) else (some false)) else (some false)

def law17_does (d1 : Inst) (i1 : Int) : Option Bool :=
  (leaf_Leaf d1).bind fun r1 => ((ref17_Leaf d1).bind fun r2 => ((leaf_Dead d1).bind fun r3 => ((ref17_Dead d1).bind fun r4 => ((ref03_Right d1).bind fun r5 => (lt (fun (_ : Unit) => if (w64 (r1.2)) = r2.2 then ((ref15_Same r1.1 r2.1).bind fun r10 => (if r10 = true then (if (w64 (r3.2)) = r4.2 then ((ref15_Same r3.1 r4.1).bind fun r11 => (some r11)) else (some false)) else (some false))) else (some false)) fun (k1 : Unit → Option Bool) => (if r5 = 0 then ((leaf_Tip d1 i1).bind fun r12 => ((ref17_Tip d1 i1).bind fun r13 => (if ¬ r12.1 = r13.1 then (some false) else (if ¬ r12.2.1 = r13.2.1 then (some false) else (if (r12.2.2 == r13.2.2) = true then ((leaf_Shut d1 i1).bind fun r14 => ((ref17_Shut d1 i1).bind fun r15 => (if (r14 == r15) = true then (k1 ()) else (some false)))) else (some false)))))) else (k1 ())))))))

def law17_Still_b1 (i1 : List Int) (r1 : Inst) (k1 : (Int × (List Arc)) → Option Inst) : (Int × (List Arc)) → Option Inst := fun (s3, xs14) =>
  if s3 < (xs14.length : Int) then (if s3 < (i1.length : Int) then (if 0 ≤ s3 ∧ s3 < (i1.length : Int) then (if ((gt i1 s3).tmod 5) = 0 then (if 0 ≤ s3 ∧ s3 < (xs14.length : Int) then (lt (upd xs14 s3 (Arc.mk ((gt xs14 s3).src) ((gt xs14 s3).dst) 1 ((gt xs14 s3).cap) ((gt xs14 s3).cost))) fun (xs15 : List Arc) => (if 0 ≤ s3 ∧ s3 < (xs15.length : Int) then (lt (upd xs15 s3 (Arc.mk ((gt xs15 s3).src) ((gt xs15 s3).dst) ((gt xs15 s3).low) 4611686018427387904 ((gt xs15 s3).cost))) fun (xs16 : List Arc) => (k1 (w64 (s3 + 1), xs16))) else none)) else none) else (k1 (w64 (s3 + 1), xs14))) else none) else (k1 (w64 (s3 + 1), xs14))) else (if 0 < (i1.length : Int) then (if 0 ≤ (0 : Int) ∧ (0 : Int) < (i1.length : Int) then (if 0 < ((gt i1 0).tmod 3) then (if 0 ≤ (0 : Int) ∧ (0 : Int) < (r1.supply.length : Int) then (lt (upd r1.supply 0 (w64 ((gt r1.supply 0) + (w64 ((gt i1 0).tmod 3))))) fun (xs17 : List Int) => (if 0 ≤ (w64 ((xs17.length : Int) - 1)) ∧ (w64 ((xs17.length : Int) - 1)) < (xs17.length : Int) then (lt (upd xs17 (w64 ((xs17.length : Int) - 1)) (w64 ((gt xs17 (w64 ((xs17.length : Int) - 1))) - (w64 ((gt i1 0).tmod 3))))) fun (xs18 : List Int) => (some (Inst.mk xs18 xs14))) else none)) else none) else (some (Inst.mk r1.supply xs14))) else none) else (some (Inst.mk r1.supply xs14)))
def law17_Still (d1 : List Int) (i1 : List Int) : Option Inst :=
  (law07_Thin d1).bind fun r1 => (lp (law17_Still_b1 i1 r1) big (0, r1.arcs))

def law03_Arcs_b1 (d1 : List Int) (i1 : Int) (k1 : (Int × (List Arc)) → Option (List Arc)) : (Int × (List Arc)) → Option (List Arc) := fun (s3, xs18) =>
  if (w64 (s3 + 3)) < (d1.length : Int) then (if s3 < 72 then (if 0 ≤ s3 ∧ s3 < (d1.length : Int) then (if i1 ≠ 0 then (if i1 ≠ 0 then (if 0 ≤ (w64 (s3 + 1)) ∧ (w64 (s3 + 1)) < (d1.length : Int) then (if 0 ≤ (w64 (s3 + 2)) ∧ (w64 (s3 + 2)) < (d1.length : Int) then (if 0 ≤ (w64 (s3 + 3)) ∧ (w64 (s3 + 3)) < (d1.length : Int) then (if ((gt d1 (w64 (s3 + 3))).tmod 8) = 0 then (if xs18.length + ([(Arc.mk ((w64 ((gt d1 s3))).tmod i1) ((w64 (IntKind.wrap .u8 ((gt d1 s3).tdiv 16))).tmod i1) (w64 ((gt d1 (w64 (s3 + 1))).tmod 3)) 4611686018427387904 (w64 ((w64 ((gt d1 (w64 (s3 + 2))).tmod 21)) - 8)))]).length ≤ lim then (lt (xs18 ++ ([(Arc.mk ((w64 ((gt d1 s3))).tmod i1) ((w64 (IntKind.wrap .u8 ((gt d1 s3).tdiv 16))).tmod i1) (w64 ((gt d1 (w64 (s3 + 1))).tmod 3)) 4611686018427387904 (w64 ((w64 ((gt d1 (w64 (s3 + 2))).tmod 21)) - 8)))])) fun (xs19 : List Arc) => (k1 (w64 (s3 + 4), xs19))) else none) else (if ((gt d1 (w64 (s3 + 3))).tmod 8) = 1 then (if xs18.length + ([(Arc.mk ((w64 ((gt d1 s3))).tmod i1) ((w64 (IntKind.wrap .u8 ((gt d1 s3).tdiv 16))).tmod i1) 0 (w64 ((w64 ((gt d1 (w64 (s3 + 1))).tmod 3)) + (w64 ((IntKind.wrap .u8 ((gt d1 (w64 (s3 + 1))).tdiv 3)).tmod 6)))) (w64 ((w64 ((gt d1 (w64 (s3 + 2))).tmod 21)) - 8)))]).length ≤ lim then (lt (xs18 ++ ([(Arc.mk ((w64 ((gt d1 s3))).tmod i1) ((w64 (IntKind.wrap .u8 ((gt d1 s3).tdiv 16))).tmod i1) 0 (w64 ((w64 ((gt d1 (w64 (s3 + 1))).tmod 3)) + (w64 ((IntKind.wrap .u8 ((gt d1 (w64 (s3 + 1))).tdiv 3)).tmod 6)))) (w64 ((w64 ((gt d1 (w64 (s3 + 2))).tmod 21)) - 8)))])) fun (xs20 : List Arc) => (k1 (w64 (s3 + 4), xs20))) else none) else (if ((gt d1 (w64 (s3 + 3))).tmod 8) = 2 then (if xs18.length + ([(Arc.mk ((w64 ((gt d1 s3))).tmod i1) ((w64 (IntKind.wrap .u8 ((gt d1 s3).tdiv 16))).tmod i1) (w64 ((gt d1 (w64 (s3 + 1))).tmod 3)) (w64 ((w64 ((gt d1 (w64 (s3 + 1))).tmod 3)) + (w64 ((IntKind.wrap .u8 ((gt d1 (w64 (s3 + 1))).tdiv 3)).tmod 6)))) 0)]).length ≤ lim then (lt (xs18 ++ ([(Arc.mk ((w64 ((gt d1 s3))).tmod i1) ((w64 (IntKind.wrap .u8 ((gt d1 s3).tdiv 16))).tmod i1) (w64 ((gt d1 (w64 (s3 + 1))).tmod 3)) (w64 ((w64 ((gt d1 (w64 (s3 + 1))).tmod 3)) + (w64 ((IntKind.wrap .u8 ((gt d1 (w64 (s3 + 1))).tdiv 3)).tmod 6)))) 0)])) fun (xs21 : List Arc) => (k1 (w64 (s3 + 4), xs21))) else none) else (if xs18.length + ([(Arc.mk ((w64 ((gt d1 s3))).tmod i1) ((w64 (IntKind.wrap .u8 ((gt d1 s3).tdiv 16))).tmod i1) (w64 ((gt d1 (w64 (s3 + 1))).tmod 3)) (w64 ((w64 ((gt d1 (w64 (s3 + 1))).tmod 3)) + (w64 ((IntKind.wrap .u8 ((gt d1 (w64 (s3 + 1))).tdiv 3)).tmod 6)))) (w64 ((w64 ((gt d1 (w64 (s3 + 2))).tmod 21)) - 8)))]).length ≤ lim then (lt (xs18 ++ ([(Arc.mk ((w64 ((gt d1 s3))).tmod i1) ((w64 (IntKind.wrap .u8 ((gt d1 s3).tdiv 16))).tmod i1) (w64 ((gt d1 (w64 (s3 + 1))).tmod 3)) (w64 ((w64 ((gt d1 (w64 (s3 + 1))).tmod 3)) + (w64 ((IntKind.wrap .u8 ((gt d1 (w64 (s3 + 1))).tdiv 3)).tmod 6)))) (w64 ((w64 ((gt d1 (w64 (s3 + 2))).tmod 21)) - 8)))])) fun (xs22 : List Arc) => (k1 (w64 (s3 + 4), xs22))) else none)))) else none) else none) else none) else none) else none) else none) else (some xs18)) else (some xs18)
def law03_Arcs (d1 : List Int) (i1 : Int) : Option (List Arc) :=
  lp (law03_Arcs_b1 d1 i1) big (0, ([] : List Arc))

def law03_Inst_b1 (i1 : List Int) (r1 : (List Arc)) (k1 : (Int × (List Int)) → Option Inst) : (Int × (List Int)) → Option Inst := fun (s3, xs20) =>
  if s3 < (r1.length : Int) then (if 0 ≤ s3 ∧ s3 < (r1.length : Int) then (if (w64 (s3 + 1)) < (i1.length : Int) then (if 0 ≤ (w64 (s3 + 1)) ∧ (w64 (s3 + 1)) < (i1.length : Int) then (if 0 ≤ ((gt r1 s3).src) ∧ ((gt r1 s3).src) < (xs20.length : Int) then (lt (upd xs20 ((gt r1 s3).src) (w64 ((gt xs20 ((gt r1 s3).src)) + (if ((gt r1 s3).cap) < (w64 (((gt r1 s3).low) + (w64 ((gt i1 (w64 (s3 + 1))).tmod 4)))) then (gt r1 s3).cap else w64 (((gt r1 s3).low) + (w64 ((gt i1 (w64 (s3 + 1))).tmod 4))))))) fun (xs21 : List Int) => (if 0 ≤ ((gt r1 s3).dst) ∧ ((gt r1 s3).dst) < (xs21.length : Int) then (lt (upd xs21 ((gt r1 s3).dst) (w64 ((gt xs21 ((gt r1 s3).dst)) - (if ((gt r1 s3).cap) < (w64 (((gt r1 s3).low) + (w64 ((gt i1 (w64 (s3 + 1))).tmod 4)))) then (gt r1 s3).cap else w64 (((gt r1 s3).low) + (w64 ((gt i1 (w64 (s3 + 1))).tmod 4))))))) fun (xs22 : List Int) => (k1 (w64 (s3 + 1), xs22))) else none)) else none) else none) else (if 0 ≤ ((gt r1 s3).src) ∧ ((gt r1 s3).src) < (xs20.length : Int) then (lt (upd xs20 ((gt r1 s3).src) (w64 ((gt xs20 ((gt r1 s3).src)) + ((gt r1 s3).low)))) fun (xs23 : List Int) => (if 0 ≤ ((gt r1 s3).dst) ∧ ((gt r1 s3).dst) < (xs23.length : Int) then (lt (upd xs23 ((gt r1 s3).dst) (w64 ((gt xs23 ((gt r1 s3).dst)) - ((gt r1 s3).low)))) fun (xs24 : List Int) => (k1 (w64 (s3 + 1), xs24))) else none)) else none)) else none) else (if 1 < (i1.length : Int) then (if 0 ≤ (w64 ((i1.length : Int) - 1)) ∧ (w64 ((i1.length : Int) - 1)) < (i1.length : Int) then (if ((gt i1 (w64 ((i1.length : Int) - 1))).tmod 5) = 0 then (if 0 ≤ (1 : Int) ∧ (1 : Int) < (i1.length : Int) then (if 0 ≤ (0 : Int) ∧ (0 : Int) < (xs20.length : Int) then (lt (upd xs20 0 (w64 ((gt xs20 0) + (w64 ((gt i1 1).tmod 3))))) fun (xs25 : List Int) => (if 0 ≤ (w64 ((w64 (1 + (w64 ((gt i1 0).tmod 7)))) - 1)) ∧ (w64 ((w64 (1 + (w64 ((gt i1 0).tmod 7)))) - 1)) < (xs25.length : Int) then (lt (upd xs25 (w64 ((w64 (1 + (w64 ((gt i1 0).tmod 7)))) - 1)) (w64 ((gt xs25 (w64 ((w64 (1 + (w64 ((gt i1 0).tmod 7)))) - 1))) - (w64 ((gt i1 1).tmod 3))))) fun (xs26 : List Int) => (some (Inst.mk xs26 r1))) else none)) else none) else none) else (some (Inst.mk xs20 r1))) else none) else (some (Inst.mk xs20 r1)))
def law03_Inst_b2 (i1 : List Int) (r2 : (List Arc)) (k2 : (Int × (List Int)) → Option Inst) : (Int × (List Int)) → Option Inst := fun (s6, xs46) =>
  if s6 < (r2.length : Int) then (if 0 ≤ s6 ∧ s6 < (r2.length : Int) then (if (w64 (s6 + 1)) < (i1.length : Int) then (if 0 ≤ (w64 (s6 + 1)) ∧ (w64 (s6 + 1)) < (i1.length : Int) then (if 0 ≤ ((gt r2 s6).src) ∧ ((gt r2 s6).src) < (xs46.length : Int) then (lt (upd xs46 ((gt r2 s6).src) (w64 ((gt xs46 ((gt r2 s6).src)) + (if ((gt r2 s6).cap) < (w64 (((gt r2 s6).low) + (w64 ((gt i1 (w64 (s6 + 1))).tmod 4)))) then (gt r2 s6).cap else w64 (((gt r2 s6).low) + (w64 ((gt i1 (w64 (s6 + 1))).tmod 4))))))) fun (xs47 : List Int) => (if 0 ≤ ((gt r2 s6).dst) ∧ ((gt r2 s6).dst) < (xs47.length : Int) then (lt (upd xs47 ((gt r2 s6).dst) (w64 ((gt xs47 ((gt r2 s6).dst)) - (if ((gt r2 s6).cap) < (w64 (((gt r2 s6).low) + (w64 ((gt i1 (w64 (s6 + 1))).tmod 4)))) then (gt r2 s6).cap else w64 (((gt r2 s6).low) + (w64 ((gt i1 (w64 (s6 + 1))).tmod 4))))))) fun (xs48 : List Int) => (k2 (w64 (s6 + 1), xs48))) else none)) else none) else none) else (if 0 ≤ ((gt r2 s6).src) ∧ ((gt r2 s6).src) < (xs46.length : Int) then (lt (upd xs46 ((gt r2 s6).src) (w64 ((gt xs46 ((gt r2 s6).src)) + ((gt r2 s6).low)))) fun (xs49 : List Int) => (if 0 ≤ ((gt r2 s6).dst) ∧ ((gt r2 s6).dst) < (xs49.length : Int) then (lt (upd xs49 ((gt r2 s6).dst) (w64 ((gt xs49 ((gt r2 s6).dst)) - ((gt r2 s6).low)))) fun (xs50 : List Int) => (k2 (w64 (s6 + 1), xs50))) else none)) else none)) else none) else (if 1 < (i1.length : Int) then (if 0 ≤ (w64 ((i1.length : Int) - 1)) ∧ (w64 ((i1.length : Int) - 1)) < (i1.length : Int) then (if ((gt i1 (w64 ((i1.length : Int) - 1))).tmod 5) = 0 then (if 0 ≤ (1 : Int) ∧ (1 : Int) < (i1.length : Int) then (if 0 ≤ (0 : Int) ∧ (0 : Int) < (xs46.length : Int) then (lt (upd xs46 0 (w64 ((gt xs46 0) + (w64 ((gt i1 1).tmod 3))))) fun (xs51 : List Int) => (if 0 ≤ (w64 (1 - 1)) ∧ (w64 (1 - 1)) < (xs51.length : Int) then (lt (upd xs51 (w64 (1 - 1)) (w64 ((gt xs51 (w64 (1 - 1))) - (w64 ((gt i1 1).tmod 3))))) fun (xs52 : List Int) => (some (Inst.mk xs52 r2))) else none)) else none) else none) else (some (Inst.mk xs46 r2))) else none) else (some (Inst.mk xs46 r2)))
def law03_Inst (d1 : List Int) (i1 : List Int) : Option Inst :=
  if 0 < (i1.length : Int) then (if 0 ≤ (0 : Int) ∧ (0 : Int) < (i1.length : Int) then (if 0 ≤ (w64 (1 + (w64 ((gt i1 0).tmod 7)))) ∧ (w64 (1 + (w64 ((gt i1 0).tmod 7)))) ≤ (lim : Int) then ((law03_Arcs d1 (w64 (1 + (w64 ((gt i1 0).tmod 7))))).bind fun r1 => (lp (law03_Inst_b1 i1 r1) big (0, (List.replicate (w64 (1 + (w64 ((gt i1 0).tmod 7)))).toNat 0)))) else none) else none) else (if 0 ≤ (1 : Int) ∧ (1 : Int) ≤ (lim : Int) then ((law03_Arcs d1 1).bind fun r2 => (lp (law03_Inst_b2 i1 r2) big (0, (List.replicate (1 : Int).toNat 0)))) else none)

def law17_LeafDoes (d1 : Inst) (i1 : Int) (x1 : List Int) (x2 : List Int) (x3 : Int) (x4 : Int) : Option Bool :=
  (law03_Size d1).bind fun r1 => (if 120 < r1 then ((law17_known).bind fun r2 => (some r2)) else ((law17_known).bind fun r3 => (if r3 = true then ((law17_Tree x1 x2).bind fun r5 => (if (r5.supply.length : Int) ≠ 0 then (if r5.arcs.length + ([(Arc.mk ((w64 (x3)).tmod (r5.supply.length : Int)) 0 0 4398046511104 (x4.tmod 4398046511104))]).length ≤ lim then (lt (r5.arcs ++ ([(Arc.mk ((w64 (x3)).tmod (r5.supply.length : Int)) 0 0 4398046511104 (x4.tmod 4398046511104))])) fun (xs1 : List Arc) => ((law17_does d1 i1).bind fun r6 => (if r6 = true then ((law17_Tree x1 x2).bind fun r7 => ((law17_does r7 (w64 (x3.tmod 12))).bind fun r8 => (if r8 = true then ((law17_Still x1 x2).bind fun r9 => ((law17_does r9 (w64 (x3.tmod 12))).bind fun r10 => (if r10 = true then ((law17_does (Inst.mk r5.supply xs1) (w64 (x3.tmod 11))).bind fun r11 => (if r11 = true then ((law03_Inst x1 x2).bind fun r12 => ((law17_does r12 i1).bind fun r13 => (some r13))) else (some false))) else (some false)))) else (some false)))) else (some false)))) else none) else none)) else ((law17_known).bind fun r4 => (some r4)))))
end Go.Proofs.YtbnjeanldechnaaGreatDoor
