/- What functions compute, printed by a program of mine. -/
import Derived.Test.YtpnohbdfgmjdbaaAdjG
import Derived.Test.YtpnohbdfgmjdbaaTys
import Derived.Test.YtpnohbdfgmjdbaaEngG
import Derived.KernelRfl
namespace Go.Proofs.Ytpnohbdfgmjdbaa
open Go.RowKit Go.Qe
def law07_Thin_b1 (c1 : List Int) (n1 : Int) (k4 : (Int × (List Arc)) → Option Inst) : (Int × (List Arc)) → Option Inst := fun (k3, xs5) =>
  if k3 < (c1.length : Int) then (if k3 < 20 then (if 0 ≤ k3 ∧ k3 < (c1.length : Int) then (if n1 ≠ 0 then (lt ((w64 ((gt c1 k3))).tmod n1) fun (fromv4 : Int) => (if n1 ≠ 0 then (lt ((w64 (fromv4 + (w64 ((IntKind.wrap .u8 ((gt c1 k3).tdiv 16)).tmod 4)))).tmod n1) fun (tov4 : Int) => (if xs5.length + ([(Arc.mk fromv4 tov4 0 3 k3)]).length ≤ lim then (lt (xs5 ++ ([(Arc.mk fromv4 tov4 0 3 k3)])) fun (xs6 : List Arc) => (k4 (w64 (k3 + 1), xs6))) else none)) else none)) else none) else none) else (some (Inst.mk (List.replicate n1.toNat 0) xs5))) else (some (Inst.mk (List.replicate n1.toNat 0) xs5))
def law07_Thin_b2 (c1 : List Int) (k8 : (Int × (List Arc)) → Option Inst) : (Int × (List Arc)) → Option Inst := fun (k7, xs11) =>
  if k7 < (c1.length : Int) then (if k7 < 20 then (if 0 ≤ k7 ∧ k7 < (c1.length : Int) then (lt ((w64 ((gt c1 k7))).tmod 2) fun (fromv7 : Int) => (lt ((w64 (fromv7 + (w64 ((IntKind.wrap .u8 ((gt c1 k7).tdiv 16)).tmod 4)))).tmod 2) fun (tov8 : Int) => (if xs11.length + ([(Arc.mk fromv7 tov8 0 3 k7)]).length ≤ lim then (lt (xs11 ++ ([(Arc.mk fromv7 tov8 0 3 k7)])) fun (xs12 : List Arc) => (k8 (w64 (k7 + 1), xs12))) else none))) else none) else (some (Inst.mk (List.replicate (2 : Int).toNat 0) xs11))) else (some (Inst.mk (List.replicate (2 : Int).toNat 0) xs11))
def law07_Thin (c1 : List Int) : Option Inst :=
  if 0 < (c1.length : Int) then (if 0 ≤ (0 : Int) ∧ (0 : Int) < (c1.length : Int) then (lt (w64 (2 + (w64 ((gt c1 0).tmod 9)))) fun (n1 : Int) => (if 0 ≤ n1 ∧ n1 ≤ (lim : Int) then (lp (law07_Thin_b1 c1 n1) big (1, ([] : List Arc))) else none)) else none) else (if 0 ≤ (2 : Int) ∧ (2 : Int) ≤ (lim : Int) then (lp (law07_Thin_b2 c1) big (1, ([] : List Arc))) else none)

def law18_Sparse_b1 (i1 : List Int) (k1 : (Int × (List Int) × (List Arc)) → Option Inst) : (Int × (List Int) × (List Arc)) → Option Inst := fun (s3, xs30, xs31) =>
  if s3 < (xs31.length : Int) then (if s3 < (i1.length : Int) then (if 0 ≤ s3 ∧ s3 < (i1.length : Int) then (if 0 ≤ s3 ∧ s3 < (xs31.length : Int) then (lt (upd xs31 s3 (Arc.mk ((gt xs31 s3).src) ((gt xs31 s3).dst) (w64 ((IntKind.wrap .u8 ((gt i1 s3).tdiv 3)).tmod 2)) ((gt xs31 s3).cap) ((gt xs31 s3).cost))) fun (xs32 : List Arc) => (if 0 ≤ s3 ∧ s3 < (xs32.length : Int) then (lt (upd xs32 s3 (Arc.mk ((gt xs32 s3).src) ((gt xs32 s3).dst) ((gt xs32 s3).low) (w64 (((gt xs32 s3).low) + (w64 ((IntKind.wrap .u8 ((gt i1 s3).tdiv 6)).tmod 5)))) ((gt xs32 s3).cost))) fun (xs33 : List Arc) => (if ((gt i1 s3).tmod 13) = 0 then (if 0 ≤ s3 ∧ s3 < (xs33.length : Int) then (lt (upd xs33 s3 (Arc.mk ((gt xs33 s3).src) ((gt xs33 s3).dst) ((gt xs33 s3).low) 4611686018427387904 ((gt xs33 s3).cost))) fun (xs34 : List Arc) => (if 0 ≤ s3 ∧ s3 < (xs34.length : Int) then (lt (upd xs34 s3 (Arc.mk ((gt xs34 s3).src) ((gt xs34 s3).dst) ((gt xs34 s3).low) ((gt xs34 s3).cap) (w64 ((w64 ((gt i1 s3).tmod 17)) - 6)))) fun (xs35 : List Arc) => (if 0 ≤ s3 ∧ s3 < (xs35.length : Int) then (if 0 ≤ ((gt xs35 s3).src) ∧ ((gt xs35 s3).src) < (xs30.length : Int) then (lt (upd xs30 ((gt xs35 s3).src) (w64 ((gt xs30 ((gt xs35 s3).src)) + (w64 ((gt i1 s3).tmod 3))))) fun (xs36 : List Int) => (if 0 ≤ ((gt xs35 s3).dst) ∧ ((gt xs35 s3).dst) < (xs36.length : Int) then (lt (upd xs36 ((gt xs35 s3).dst) (w64 ((gt xs36 ((gt xs35 s3).dst)) - (w64 ((gt i1 s3).tmod 3))))) fun (xs37 : List Int) => (k1 (w64 (s3 + 1), xs37, xs35))) else none)) else none) else none)) else none)) else none) else (if 0 ≤ s3 ∧ s3 < (xs33.length : Int) then (lt (upd xs33 s3 (Arc.mk ((gt xs33 s3).src) ((gt xs33 s3).dst) ((gt xs33 s3).low) ((gt xs33 s3).cap) (w64 ((w64 ((gt i1 s3).tmod 17)) - 6)))) fun (xs38 : List Arc) => (if 0 ≤ s3 ∧ s3 < (xs38.length : Int) then (if 0 ≤ ((gt xs38 s3).src) ∧ ((gt xs38 s3).src) < (xs30.length : Int) then (lt (upd xs30 ((gt xs38 s3).src) (w64 ((gt xs30 ((gt xs38 s3).src)) + (w64 ((gt i1 s3).tmod 3))))) fun (xs39 : List Int) => (if 0 ≤ ((gt xs38 s3).dst) ∧ ((gt xs38 s3).dst) < (xs39.length : Int) then (lt (upd xs39 ((gt xs38 s3).dst) (w64 ((gt xs39 ((gt xs38 s3).dst)) - (w64 ((gt i1 s3).tmod 3))))) fun (xs40 : List Int) => (k1 (w64 (s3 + 1), xs40, xs38))) else none)) else none) else none)) else none))) else none)) else none) else none) else (some (Inst.mk xs30 xs31))) else (some (Inst.mk xs30 xs31))
def law18_Sparse (d1 : List Int) (i1 : List Int) : Option Inst :=
  (law07_Thin d1).bind fun r1 => (lp (law18_Sparse_b1 i1) big (0, r1.supply, r1.arcs))


def inst_wrong_1_1 (n1 : Int) (x1 : Int) : Option Bool :=
  if 0 ≤ n1 then (some (decide (n1 < x1))) else (some false)

def inst_within (n1 : Int) : Option Bool :=
  if (-4398046511104) ≤ n1 then (some (decide (n1 ≤ 4398046511104))) else (some false)

def inst_wrong (a1 : Arc) (nodes1 : Int) : Option Int :=
  (inst_wrong_1_1 a1.src nodes1).bind fun r1 => (if r1 = true then ((inst_wrong_1_1 a1.dst nodes1).bind fun r2 => (if r2 = true then (if a1.low < 0 then (some 22) else (if 4398046511104 < a1.low then (some 22) else (if ¬ a1.cap = 4611686018427387904 then (if a1.cap < a1.low then (some 22) else (if 4398046511104 < a1.cap then (some 22) else ((inst_within a1.cost).bind fun r3 => (if r3 = true then (some 0) else (some 23))))) else ((inst_within a1.cost).bind fun r4 => (if r4 = true then (some 0) else (some 23)))))) else (some 21))) else (some 21))

def inst_Right_b2 (i1 : Inst) (k4 : (Int × Int) → Option Int) : (Int × Int) → Option Int := fun (sum14, s8) =>
  if s8 < (i1.supply.length : Int) then (if 0 ≤ s8 ∧ s8 < (i1.supply.length : Int) then ((inst_within (gt i1.supply s8)).bind fun r12 => (if r12 = true then (lt (w64 (sum14 + (gt i1.supply s8))) fun (sum15 : Int) => (k4 (sum15, w64 (s8 + 1)))) else (some 24))) else none) else (if ¬ sum14 = 0 then (some 25) else (some 0))
def inst_Right_b1 (i1 : Inst) (k3 : Int → Option Int) : Int → Option Int := fun s6 =>
  if s6 < (i1.arcs.length : Int) then (if 0 ≤ s6 ∧ s6 < (i1.arcs.length : Int) then ((inst_wrong (gt i1.arcs s6) (i1.supply.length : Int)).bind fun r9 => (if ¬ r9 = 0 then (some r9) else (k3 (w64 (s6 + 1))))) else none) else (lp (inst_Right_b2 i1) big (0, 0))
def inst_Right (i1 : Inst) : Option Int :=
  if 64 < (i1.supply.length : Int) then (some 20) else (if 256 < (i1.arcs.length : Int) then (some 20) else (lp (inst_Right_b1 i1) big 0))

def inst_Copy (i1 : Inst) : Option Inst :=
  (slices_Clone_int64 i1.supply).bind fun r1 => ((slices_Clone_api_Arc i1.arcs).bind fun r2 => (some (Inst.mk r1 r2)))

def two_series_1 (x1 : Arc) (y1 : Arc) (n1 : Int) : Option Bool :=
  if x1.dst = n1 then (some (decide (y1.src = n1))) else (some false)

def two_least (a1 : Int) (b1 : Int) (s1 : Int) : Option Int :=
  if b1 = 4611686018427387904 then (some a1) else (some (if (w64 (b1 - s1)) < a1 then w64 (b1 - s1) else a1))

def two_pair_chain (p1 : Pair) : Option Arc :=
  (two_least p1.x.cap p1.y.cap p1.s).bind fun r1 => (some (Arc.mk p1.x.src p1.y.dst (if (w64 (p1.y.low - p1.s)) > p1.x.low then w64 (p1.y.low - p1.s) else p1.x.low) r1 (w64 (p1.x.cost + p1.y.cost))))

def two_shape_at_1 (i1 : Inst) (x1 : Inst) (x2 : Int) : Option (Spot × Pair × Bool) :=
  (adj_Graph_At i1 x2).bind fun r1 => (if ¬ (r1.length : Int) = 2 then (some ((Spot.mk 0 0 0 (Arc.mk 0 0 0 0 0)), (Pair.mk (Arc.mk 0 0 0 0 0) (Arc.mk 0 0 0 0 0) 0 0), false)) else ((adj_Graph_Loops i1 x2).bind fun r2 => (if 0 < r2 then (some ((Spot.mk 0 0 0 (Arc.mk 0 0 0 0 0)), (Pair.mk (Arc.mk 0 0 0 0 0) (Arc.mk 0 0 0 0 0) 0 0), false)) else (if 0 ≤ (0 : Int) ∧ (0 : Int) < (r1.length : Int) then (if 0 ≤ (1 : Int) ∧ (1 : Int) < (r1.length : Int) then (if 0 ≤ (gt r1 0) ∧ (gt r1 0) < (x1.arcs.length : Int) then (if 0 ≤ (gt r1 1) ∧ (gt r1 1) < (x1.arcs.length : Int) then ((two_series_1 (gt x1.arcs (gt r1 0)) (gt x1.arcs (gt r1 1)) x2).bind fun r3 => (if r3 = true then ((two_series_1 (gt x1.arcs (gt r1 0)) (gt x1.arcs (gt r1 1)) x2).bind fun r6 => (if r6 = true then (if 0 ≤ x2 ∧ x2 < (x1.supply.length : Int) then ((two_pair_chain (Pair.mk (gt x1.arcs (gt r1 0)) (gt x1.arcs (gt r1 1)) x2 (gt x1.supply x2))).bind fun r7 => (if r7.cap < r7.low then (some ((Spot.mk 0 0 0 (Arc.mk 0 0 0 0 0)), (Pair.mk (Arc.mk 0 0 0 0 0) (Arc.mk 0 0 0 0 0) 0 0), false)) else (some ((Spot.mk x2 (gt r1 0) (gt r1 1) r7), (Pair.mk (gt x1.arcs (gt r1 0)) (gt x1.arcs (gt r1 1)) x2 (gt x1.supply x2)), true)))) else none) else (some ((Spot.mk 0 0 0 (Arc.mk 0 0 0 0 0)), (Pair.mk (Arc.mk 0 0 0 0 0) (Arc.mk 0 0 0 0 0) 0 0), false)))) else ((two_series_1 (gt x1.arcs (gt r1 1)) (gt x1.arcs (gt r1 0)) x2).bind fun r4 => (if r4 = true then (if 0 ≤ x2 ∧ x2 < (x1.supply.length : Int) then ((two_pair_chain (Pair.mk (gt x1.arcs (gt r1 1)) (gt x1.arcs (gt r1 0)) x2 (gt x1.supply x2))).bind fun r5 => (if r5.cap < r5.low then (some ((Spot.mk 0 0 0 (Arc.mk 0 0 0 0 0)), (Pair.mk (Arc.mk 0 0 0 0 0) (Arc.mk 0 0 0 0 0) 0 0), false)) else (some ((Spot.mk x2 (gt r1 1) (gt r1 0) r5), (Pair.mk (gt x1.arcs (gt r1 1)) (gt x1.arcs (gt r1 0)) x2 (gt x1.supply x2)), true)))) else none) else (some ((Spot.mk 0 0 0 (Arc.mk 0 0 0 0 0)), (Pair.mk (Arc.mk 0 0 0 0 0) (Arc.mk 0 0 0 0 0) 0 0), false)))))) else none) else none) else none) else none))))

def inst_Kept_b1 (off1 : List Bool) (n1 : Int) (k1 : (Int × (List Int)) → Option (List Int)) : (Int × (List Int)) → Option (List Int) := fun (s3, xs10) =>
  if s3 < (if 1000 < n1 then 1000 else n1) then (if (off1.length : Int) ≤ s3 then (if xs10.length + ([s3]).length ≤ lim then (lt (xs10 ++ ([s3])) fun (xs11 : List Int) => (k1 (w64 (s3 + 1), xs11))) else none) else (if 0 ≤ s3 ∧ s3 < (off1.length : Int) then (if (gt off1 s3) = true then (k1 (w64 (s3 + 1), xs10)) else (if xs10.length + ([s3]).length ≤ lim then (lt (xs10 ++ ([s3])) fun (xs12 : List Int) => (k1 (w64 (s3 + 1), xs12))) else none)) else none)) else (some xs10)
def inst_Kept (off1 : List Bool) (n1 : Int) : Option (List Int) :=
  lp (inst_Kept_b1 off1 n1) big (0, ([] : List Int))

def inst_pick_int64_b1 (l1 : List Int) (atv1 : List Int) (k1 : (Int × (List Int)) → Option (List Int)) : (Int × (List Int)) → Option (List Int) := fun (s3, xs6) =>
  if s3 < (atv1.length : Int) then (if 0 ≤ s3 ∧ s3 < (atv1.length : Int) then (if 0 ≤ (gt atv1 s3) ∧ (gt atv1 s3) < (l1.length : Int) then (if xs6.length + ([(gt l1 (gt atv1 s3))]).length ≤ lim then (lt (xs6 ++ ([(gt l1 (gt atv1 s3))])) fun (xs7 : List Int) => (k1 (w64 (s3 + 1), xs7))) else none) else none) else none) else (some xs6)
def inst_pick_int64 (l1 : List Int) (atv1 : List Int) : Option (List Int) :=
  lp (inst_pick_int64_b1 l1 atv1) big (0, ([] : List Int))

def inst_pick_api_Arc_b1 (l1 : List Arc) (atv1 : List Int) (k1 : (Int × (List Arc)) → Option (List Arc)) : (Int × (List Arc)) → Option (List Arc) := fun (s3, xs6) =>
  if s3 < (atv1.length : Int) then (if 0 ≤ s3 ∧ s3 < (atv1.length : Int) then (if 0 ≤ (gt atv1 s3) ∧ (gt atv1 s3) < (l1.length : Int) then (if xs6.length + ([(gt l1 (gt atv1 s3))]).length ≤ lim then (lt (xs6 ++ ([(gt l1 (gt atv1 s3))])) fun (xs7 : List Arc) => (k1 (w64 (s3 + 1), xs7))) else none) else none) else none) else (some xs6)
def inst_pick_api_Arc (l1 : List Arc) (atv1 : List Int) : Option (List Arc) :=
  lp (inst_pick_api_Arc_b1 l1 atv1) big (0, ([] : List Arc))

def slices_Index_int_b1 (s1 : List Int) (v1 : Int) (k1 : Int → Option Int) : Int → Option Int := fun s3 =>
  if s3 < (s1.length : Int) then (if 0 ≤ s3 ∧ s3 < (s1.length : Int) then (if v1 = (gt s1 s3) then (some s3) else (k1 (w64 (s3 + 1)))) else none) else (some (-1))
def slices_Index_int (s1 : List Int) (v1 : Int) : Option Int :=
  lp (slices_Index_int_b1 s1 v1) big 0

def inst_Without_b1 (r1 : (List Int)) (r2 : (List Int)) (r4 : (List Arc)) (k1 : (Int × (List Arc)) → Option Inst) : (Int × (List Arc)) → Option Inst := fun (s3, xs5) =>
  if s3 < (r4.length : Int) then (if 0 ≤ s3 ∧ s3 < (r4.length : Int) then ((slices_Index_int r1 ((gt r4 s3).src)).bind fun r11 => ((slices_Index_int r1 ((gt r4 s3).dst)).bind fun r12 => (if 0 ≤ r11 then (if 0 ≤ r12 then (if xs5.length + ([(Arc.mk r11 r12 ((gt r4 s3).low) ((gt r4 s3).cap) ((gt r4 s3).cost))]).length ≤ lim then (lt (xs5 ++ ([(Arc.mk r11 r12 ((gt r4 s3).low) ((gt r4 s3).cap) ((gt r4 s3).cost))])) fun (xs6 : List Arc) => (k1 (w64 (s3 + 1), xs6))) else none) else (k1 (w64 (s3 + 1), xs5))) else (k1 (w64 (s3 + 1), xs5))))) else none) else (some (Inst.mk r2 xs5))
def inst_Without (i1 : Inst) (nodes1 : List Bool) (arcs1 : List Bool) : Option Inst :=
  (inst_Kept nodes1 (i1.supply.length : Int)).bind fun r1 => ((inst_pick_int64 i1.supply r1).bind fun r2 => ((inst_Kept arcs1 (i1.arcs.length : Int)).bind fun r3 => ((inst_pick_api_Arc i1.arcs r3).bind fun r4 => (lp (inst_Without_b1 r1 r2 r4) big (0, ([] : List Arc))))))

def two_series_2 (p1 : Pair) : Option Int :=
  some p1.s

def math_bits_Mul64 (x1 : Int) (y1 : Int) : Option (Int × Int) :=
  lt (bits .and .u64 x1 4294967295) fun (x01 : Int) => (lt (x1.fdiv (2 ^ (min (32 : Int).toNat (IntKind.bits .u64)))) fun (x11 : Int) => (lt (bits .and .u64 y1 4294967295) fun (y01 : Int) => (lt (y1.fdiv (2 ^ (min (32 : Int).toNat (IntKind.bits .u64)))) fun (y11 : Int) => (lt (IntKind.wrap .u64 (x01 * y01)) fun (w01 : Int) => (lt (IntKind.wrap .u64 ((IntKind.wrap .u64 (x11 * y01)) + (w01.fdiv (2 ^ (min (32 : Int).toNat (IntKind.bits .u64)))))) fun (t1 : Int) => (lt (bits .and .u64 t1 4294967295) fun (w11 : Int) => (lt (t1.fdiv (2 ^ (min (32 : Int).toNat (IntKind.bits .u64)))) fun (w21 : Int) => (lt (IntKind.wrap .u64 (w11 + (IntKind.wrap .u64 (x01 * y11)))) fun (w12 : Int) => (lt (IntKind.wrap .u64 ((IntKind.wrap .u64 ((IntKind.wrap .u64 (x11 * y11)) + w21)) + (w12.fdiv (2 ^ (min (32 : Int).toNat (IntKind.bits .u64)))))) fun (hi1 : Int) => (lt (IntKind.wrap .u64 (x1 * y1)) fun (lo1 : Int) => (some (hi1, lo1))))))))))))

def num_Times (a1 : Int) (b1 : Int) : Option Wide :=
  (math_bits_Mul64 (IntKind.wrap .u64 (a1)) (IntKind.wrap .u64 (b1))).bind fun r1 => (lt (IntKind.wrap .u64 (r1.1 - (bits .and .u64 (IntKind.wrap .u64 (a1.fdiv (2 ^ (min (63 : Int).toNat (IntKind.bits .i64))))) (IntKind.wrap .u64 (b1))))) fun (hi1 : Int) => (lt (IntKind.wrap .u64 (hi1 - (bits .and .u64 (IntKind.wrap .u64 (b1.fdiv (2 ^ (min (63 : Int).toNat (IntKind.bits .i64))))) (IntKind.wrap .u64 (a1))))) fun (hi2 : Int) => (some (Wide.mk (w64 (hi2)) r1.2))))

def two_shape_run_1_b1 (i1 : Inst) (r2 : Inst) (r3 : Inst) (k1 : Int → Option (Step × Int)) : Int → Option (Step × Int) := fun s2 =>
  if s2 < (i1.supply.length : Int) then ((two_shape_at_1 r3 i1 s2).bind fun r18 => (if r18.2.2 = true then ((inst_Copy i1).bind fun r19 => ((adj_Graph_Other r3 r18.1.b s2).bind fun r20 => (if 0 ≤ r20 ∧ r20 < (r19.supply.length : Int) then (lt (upd r19.supply r20 (w64 ((gt r19.supply r20) + r18.2.1.s))) fun (xs7 : List Int) => (if r19.arcs.length + ([r18.1.new]).length ≤ lim then (lt (r19.arcs ++ ([r18.1.new])) fun (xs8 : List Arc) => (if 0 ≤ (i1.supply.length : Int) ∧ (i1.supply.length : Int) ≤ (lim : Int) then (if 0 ≤ s2 ∧ s2 < ((List.replicate (i1.supply.length : Int).toNat false).length : Int) then (lt (upd (List.replicate (i1.supply.length : Int).toNat false) s2 true) fun (xs9 : List Bool) => ((inst_Without (Inst.mk xs7 xs8) xs9 ([] : List Bool)).bind fun r21 => ((inst_Right r21).bind fun r22 => (if ¬ r22 = 0 then (some ((Step.mk (Inst.mk ([]) ([])) (Rec.mk 0 (Inst.mk ([]) ([]))) (Wide.mk 0 0) false), 40)) else ((two_series_2 r18.2.1).bind fun r23 => ((num_Times r23 r18.2.1.y.cost).bind fun r24 => (some ((Step.mk (Inst.mk r21.supply r21.arcs) (Rec.mk 8 (Inst.mk r2.supply r2.arcs)) r24 true), 0)))))))) else none) else none)) else none)) else none))) else (k1 (w64 (s2 + 1))))) else (some ((Step.mk (Inst.mk r2.supply r2.arcs) (Rec.mk 0 (Inst.mk ([]) ([]))) (Wide.mk 0 0) false), 0))
def two_shape_run_1 (i1 : Inst) : Option (Step × Int) :=
  (inst_Right i1).bind fun r1 => (if ¬ r1 = 0 then (some ((Step.mk (Inst.mk ([]) ([])) (Rec.mk 0 (Inst.mk ([]) ([]))) (Wide.mk 0 0) false), r1)) else ((inst_Copy i1).bind fun r2 => ((adj_New i1).bind fun r3 => (lp (two_shape_run_1_b1 i1 r2 r3) big 0))))

def two_Series (i1 : Inst) : Option (Step × Int) :=
  (two_shape_run_1 i1).bind fun r1 => (some ((Step.mk (Inst.mk r1.1.inst.supply r1.1.inst.arcs) (Rec.mk r1.1.rcd.pass (Inst.mk r1.1.rcd.was.supply r1.1.rcd.was.arcs)) r1.1.off r1.1.did), r1.2))


def two_fork_1 (x1 : Arc) (y1 : Arc) (n1 : Int) : Option Bool :=
  some ((decide (x1.dst = n1)) == (decide (y1.dst = n1)))

def two_pair_both (p1 : Pair) : Option Int :=
  if p1.x.dst = p1.n then (some (w64 (0 - p1.s))) else (some p1.s)

def two_pair_split (d1 : Pair) : Option Arc :=
  (two_pair_both d1).bind fun r1 => (if d1.x.dst = d1.n then (if d1.y.cap = 4611686018427387904 then (some (Arc.mk d1.x.src d1.y.src d1.x.low (if (w64 (r1 - d1.y.low)) < d1.x.cap then w64 (r1 - d1.y.low) else d1.x.cap) (w64 (d1.x.cost - d1.y.cost)))) else (some (Arc.mk d1.x.src d1.y.src (if (w64 (r1 - d1.y.cap)) > d1.x.low then w64 (r1 - d1.y.cap) else d1.x.low) (if (w64 (r1 - d1.y.low)) < d1.x.cap then w64 (r1 - d1.y.low) else d1.x.cap) (w64 (d1.x.cost - d1.y.cost))))) else (if d1.y.cap = 4611686018427387904 then (some (Arc.mk d1.y.dst d1.x.dst d1.x.low (if (w64 (r1 - d1.y.low)) < d1.x.cap then w64 (r1 - d1.y.low) else d1.x.cap) (w64 (d1.x.cost - d1.y.cost)))) else (some (Arc.mk d1.y.dst d1.x.dst (if (w64 (r1 - d1.y.cap)) > d1.x.low then w64 (r1 - d1.y.cap) else d1.x.low) (if (w64 (r1 - d1.y.low)) < d1.x.cap then w64 (r1 - d1.y.low) else d1.x.cap) (w64 (d1.x.cost - d1.y.cost))))))

def two_shape_at_2 (i1 : Inst) (x1 : Inst) (x2 : Int) : Option (Spot × Pair × Bool) :=
  (adj_Graph_At i1 x2).bind fun r1 => (if ¬ (r1.length : Int) = 2 then (some ((Spot.mk 0 0 0 (Arc.mk 0 0 0 0 0)), (Pair.mk (Arc.mk 0 0 0 0 0) (Arc.mk 0 0 0 0 0) 0 0), false)) else ((adj_Graph_Loops i1 x2).bind fun r2 => (if 0 < r2 then (some ((Spot.mk 0 0 0 (Arc.mk 0 0 0 0 0)), (Pair.mk (Arc.mk 0 0 0 0 0) (Arc.mk 0 0 0 0 0) 0 0), false)) else (if 0 ≤ (0 : Int) ∧ (0 : Int) < (r1.length : Int) then (if 0 ≤ (1 : Int) ∧ (1 : Int) < (r1.length : Int) then (if 0 ≤ (gt r1 0) ∧ (gt r1 0) < (x1.arcs.length : Int) then (if 0 ≤ (gt r1 1) ∧ (gt r1 1) < (x1.arcs.length : Int) then ((two_fork_1 (gt x1.arcs (gt r1 0)) (gt x1.arcs (gt r1 1)) x2).bind fun r3 => (if r3 = true then ((two_fork_1 (gt x1.arcs (gt r1 0)) (gt x1.arcs (gt r1 1)) x2).bind fun r6 => (if r6 = true then (if 0 ≤ x2 ∧ x2 < (x1.supply.length : Int) then ((two_pair_split (Pair.mk (gt x1.arcs (gt r1 0)) (gt x1.arcs (gt r1 1)) x2 (gt x1.supply x2))).bind fun r7 => (if r7.cap < r7.low then (some ((Spot.mk 0 0 0 (Arc.mk 0 0 0 0 0)), (Pair.mk (Arc.mk 0 0 0 0 0) (Arc.mk 0 0 0 0 0) 0 0), false)) else (some ((Spot.mk x2 (gt r1 0) (gt r1 1) r7), (Pair.mk (gt x1.arcs (gt r1 0)) (gt x1.arcs (gt r1 1)) x2 (gt x1.supply x2)), true)))) else none) else (some ((Spot.mk 0 0 0 (Arc.mk 0 0 0 0 0)), (Pair.mk (Arc.mk 0 0 0 0 0) (Arc.mk 0 0 0 0 0) 0 0), false)))) else ((two_fork_1 (gt x1.arcs (gt r1 1)) (gt x1.arcs (gt r1 0)) x2).bind fun r4 => (if r4 = true then (if 0 ≤ x2 ∧ x2 < (x1.supply.length : Int) then ((two_pair_split (Pair.mk (gt x1.arcs (gt r1 1)) (gt x1.arcs (gt r1 0)) x2 (gt x1.supply x2))).bind fun r5 => (if r5.cap < r5.low then (some ((Spot.mk 0 0 0 (Arc.mk 0 0 0 0 0)), (Pair.mk (Arc.mk 0 0 0 0 0) (Arc.mk 0 0 0 0 0) 0 0), false)) else (some ((Spot.mk x2 (gt r1 1) (gt r1 0) r5), (Pair.mk (gt x1.arcs (gt r1 1)) (gt x1.arcs (gt r1 0)) x2 (gt x1.supply x2)), true)))) else none) else (some ((Spot.mk 0 0 0 (Arc.mk 0 0 0 0 0)), (Pair.mk (Arc.mk 0 0 0 0 0) (Arc.mk 0 0 0 0 0) 0 0), false)))))) else none) else none) else none) else none))))

def two_shape_run_2_b1 (i1 : Inst) (r2 : Inst) (r3 : Inst) (k1 : Int → Option (Step × Int)) : Int → Option (Step × Int) := fun s2 =>
  if s2 < (i1.supply.length : Int) then ((two_shape_at_2 r3 i1 s2).bind fun r18 => (if r18.2.2 = true then ((inst_Copy i1).bind fun r19 => ((adj_Graph_Other r3 r18.1.b s2).bind fun r20 => (if 0 ≤ r20 ∧ r20 < (r19.supply.length : Int) then (lt (upd r19.supply r20 (w64 ((gt r19.supply r20) + r18.2.1.s))) fun (xs7 : List Int) => (if r19.arcs.length + ([r18.1.new]).length ≤ lim then (lt (r19.arcs ++ ([r18.1.new])) fun (xs8 : List Arc) => (if 0 ≤ (i1.supply.length : Int) ∧ (i1.supply.length : Int) ≤ (lim : Int) then (if 0 ≤ s2 ∧ s2 < ((List.replicate (i1.supply.length : Int).toNat false).length : Int) then (lt (upd (List.replicate (i1.supply.length : Int).toNat false) s2 true) fun (xs9 : List Bool) => ((inst_Without (Inst.mk xs7 xs8) xs9 ([] : List Bool)).bind fun r21 => ((inst_Right r21).bind fun r22 => (if ¬ r22 = 0 then (some ((Step.mk (Inst.mk ([]) ([])) (Rec.mk 0 (Inst.mk ([]) ([]))) (Wide.mk 0 0) false), 40)) else ((two_pair_both r18.2.1).bind fun r23 => ((num_Times r23 r18.2.1.y.cost).bind fun r24 => (some ((Step.mk (Inst.mk r21.supply r21.arcs) (Rec.mk 9 (Inst.mk r2.supply r2.arcs)) r24 true), 0)))))))) else none) else none)) else none)) else none))) else (k1 (w64 (s2 + 1))))) else (some ((Step.mk (Inst.mk r2.supply r2.arcs) (Rec.mk 0 (Inst.mk ([]) ([]))) (Wide.mk 0 0) false), 0))
def two_shape_run_2 (i1 : Inst) : Option (Step × Int) :=
  (inst_Right i1).bind fun r1 => (if ¬ r1 = 0 then (some ((Step.mk (Inst.mk ([]) ([])) (Rec.mk 0 (Inst.mk ([]) ([]))) (Wide.mk 0 0) false), r1)) else ((inst_Copy i1).bind fun r2 => ((adj_New i1).bind fun r3 => (lp (two_shape_run_2_b1 i1 r2 r3) big 0))))

def two_Fork (i1 : Inst) : Option (Step × Int) :=
  (two_shape_run_2 i1).bind fun r1 => (some ((Step.mk (Inst.mk r1.1.inst.supply r1.1.inst.arcs) (Rec.mk r1.1.rcd.pass (Inst.mk r1.1.rcd.was.supply r1.1.rcd.was.arcs)) r1.1.off r1.1.did), r1.2))

def two_Chain (i1 : Inst) (n1 : Int) : Option (Spot × Bool) :=
  (adj_New i1).bind fun r1 => ((two_shape_at_1 r1 i1 n1).bind fun r2 => (some (r2.1, r2.2.2)))

def two_Split (i1 : Inst) (n1 : Int) : Option (Spot × Bool) :=
  (adj_New i1).bind fun r1 => ((two_shape_at_2 r1 i1 n1).bind fun r2 => (some (r2.1, r2.2.2)))

def law18_step_b1 (d1 : Inst) (i1 : Bool) (s1 : Int) (s2 : Int) (s3 : Int) (s4 : Int) (s5 : Bool) (xs1 : List Int) (xs2 : List Arc) (xs3 : List Int) (xs4 : List Arc) (k8 : Int → Option (Step × Spot × Bool)) : Int → Option (Step × Spot × Bool) := fun s29 =>
  lt (fun (s30 : Bool) => if s30 = true then (lt (fun ((s31, s32, s33, s34, s35, s36, s37, s38, s39) : Bool × Int × Int × Int × Int × Int × Int × Int × Int) => lt (fun (s40 : Bool) => if s40 = true then (some ((Step.mk (Inst.mk xs1 xs2) (Rec.mk s2 (Inst.mk xs3 xs4)) (Wide.mk s3 s4) s5), (Spot.mk s32 s33 s34 (Arc.mk s35 s36 s37 s38 s39)), true)) else (k8 (w64 (s29 + 1)))) fun (k11 : Bool → Option (Step × Spot × Bool)) => (if s31 = true then (if 0 ≤ s33 then (if s33 < (d1.arcs.length : Int) then (if 0 ≤ s34 then (k11 (decide (s34 < (d1.arcs.length : Int)))) else (k11 false)) else (k11 false)) else (k11 false)) else (k11 false))) fun (k10 : (Bool × Int × Int × Int × Int × Int × Int × Int × Int) → Option (Step × Spot × Bool)) => (if i1 = true then ((two_Chain d1 s29).bind fun r13 => (k10 (r13.2, r13.1.node, r13.1.a, r13.1.b, r13.1.new.src, r13.1.new.dst, r13.1.new.low, r13.1.new.cap, r13.1.new.cost))) else ((two_Split d1 s29).bind fun r14 => (k10 (r14.2, r14.1.node, r14.1.a, r14.1.b, r14.1.new.src, r14.1.new.dst, r14.1.new.low, r14.1.new.cap, r14.1.new.cost))))) else (if ¬ s1 = 0 then (some ((Step.mk (Inst.mk xs1 xs2) (Rec.mk s2 (Inst.mk xs3 xs4)) (Wide.mk s3 s4) s5), (Spot.mk 0 0 0 (Arc.mk 0 0 0 0 0)), true)) else (some ((Step.mk (Inst.mk xs1 xs2) (Rec.mk s2 (Inst.mk xs3 xs4)) (Wide.mk s3 s4) s5), (Spot.mk 0 0 0 (Arc.mk 0 0 0 0 0)), (!s5))))) fun (k9 : Bool → Option (Step × Spot × Bool)) => (if s29 < (d1.supply.length : Int) then (if s1 = 0 then (k9 s5) else (k9 false)) else (k9 false))
def law18_step (d1 : Inst) (i1 : Bool) : Option (Step × Spot × Bool) :=
  lt (fun ((s1, s2, s3, s4, s5, xs1, xs2, xs3, xs4) : Int × Int × Int × Int × Bool × (List Int) × (List Arc) × (List Int) × (List Arc)) => lp (law18_step_b1 d1 i1 s1 s2 s3 s4 s5 xs1 xs2 xs3 xs4) big 0) fun (k1 : (Int × Int × Int × Int × Bool × (List Int) × (List Arc) × (List Int) × (List Arc)) → Option (Step × Spot × Bool)) => (if i1 = true then ((two_Series d1).bind fun r15 => (k1 (r15.2, r15.1.rcd.pass, r15.1.off.hi, r15.1.off.lo, r15.1.did, r15.1.inst.supply, r15.1.inst.arcs, r15.1.rcd.was.supply, r15.1.rcd.was.arcs))) else ((two_Fork d1).bind fun r16 => (k1 (r16.2, r16.1.rcd.pass, r16.1.off.hi, r16.1.off.lo, r16.1.did, r16.1.inst.supply, r16.1.inst.arcs, r16.1.rcd.was.supply, r16.1.rcd.was.arcs))))

def ref03_Nums_b1 (a1 : List Int) (b1 : List Int) (k3 : Int → Option Bool) : Int → Option Bool := fun k2 =>
  if k2 < (a1.length : Int) then (if 0 ≤ k2 ∧ k2 < (a1.length : Int) then (if 0 ≤ k2 ∧ k2 < (b1.length : Int) then (if ¬ (gt a1 k2) = (gt b1 k2) then (some false) else (k3 (w64 (k2 + 1)))) else none) else none) else (some true)
def ref03_Nums (a1 : List Int) (b1 : List Int) : Option Bool :=
  if ¬ (a1.length : Int) = (b1.length : Int) then (some false) else (lp (ref03_Nums_b1 a1 b1) big 0)

def ref03_Same_b1 (a1 : Inst) (b1 : Inst) (k3 : Int → Option Bool) : Int → Option Bool := fun k2 =>
  if k2 < (a1.arcs.length : Int) then (if 0 ≤ k2 ∧ k2 < (a1.arcs.length : Int) then (if 0 ≤ k2 ∧ k2 < (b1.arcs.length : Int) then (if (gt a1.arcs k2) = (gt b1.arcs k2) then (k3 (w64 (k2 + 1))) else (some false)) else none) else none) else (some true)
def ref03_Same (a1 : Inst) (b1 : Inst) : Option Bool :=
  (ref03_Nums a1.supply b1.supply).bind fun r1 => (if r1 = true then (if ¬ (a1.arcs.length : Int) = (b1.arcs.length : Int) then (some false) else (lp (ref03_Same_b1 a1 b1) big 0)) else (some false))

def law18_known  : Option Bool :=
  if 0 ≤ (3 : Int) ∧ (3 : Int) ≤ (lim : Int) then ((two_Chain (Inst.mk (List.replicate (3 : Int).toNat 0) ([(Arc.mk 0 1 0 5 1), (Arc.mk 1 2 0 3 2)])) 1).bind fun r1 => ((two_Split (Inst.mk (List.replicate (3 : Int).toNat 0) ([(Arc.mk 0 1 0 5 1), (Arc.mk 1 2 0 3 2)])) 1).bind fun r2 => ((two_Series (Inst.mk (List.replicate (3 : Int).toNat 0) ([(Arc.mk 0 1 0 5 1), (Arc.mk 1 2 0 3 2)]))).bind fun r3 => (if r1.2 = true then (if r2.2 = true then (some false) else (if r1.1.a = 0 then (if r1.1.b = 1 then (if r1.1.new = (Arc.mk 0 2 0 3 3) then (if r3.2 = 0 then (if r3.1.did = true then (if 0 ≤ (2 : Int) ∧ (2 : Int) ≤ (lim : Int) then ((ref03_Same r3.1.inst (Inst.mk (List.replicate (2 : Int).toNat 0) ([(Arc.mk 0 1 0 3 3)]))).bind fun r4 => (some r4)) else none) else (some false)) else (some false)) else (some false)) else (some false)) else (some false))) else (some false))))) else none

def slices_Equal_int64_b1 (s11 : List Int) (s21 : List Int) (k1 : Int → Option Bool) : Int → Option Bool := fun s2 =>
  if s2 < (s11.length : Int) then (if 0 ≤ s2 ∧ s2 < (s11.length : Int) then (if 0 ≤ s2 ∧ s2 < (s21.length : Int) then (if ¬ (gt s11 s2) = (gt s21 s2) then (some false) else (k1 (w64 (s2 + 1)))) else none) else none) else (some true)
def slices_Equal_int64 (s11 : List Int) (s21 : List Int) : Option Bool :=
  if ¬ (s11.length : Int) = (s21.length : Int) then (some false) else (lp (slices_Equal_int64_b1 s11 s21) big 0)

def slices_Equal_api_Arc_b1 (s11 : List Arc) (s21 : List Arc) (k1 : Int → Option Bool) : Int → Option Bool := fun s2 =>
  if s2 < (s11.length : Int) then (if 0 ≤ s2 ∧ s2 < (s11.length : Int) then (if 0 ≤ s2 ∧ s2 < (s21.length : Int) then (if (gt s11 s2) = (gt s21 s2) then (k1 (w64 (s2 + 1))) else (some false)) else none) else none) else (some true)
def slices_Equal_api_Arc (s11 : List Arc) (s21 : List Arc) : Option Bool :=
  if ¬ (s11.length : Int) = (s21.length : Int) then (some false) else (lp (slices_Equal_api_Arc_b1 s11 s21) big 0)

def inst_Same (a1 : Inst) (b1 : Inst) : Option Bool :=
  (slices_Equal_int64 a1.supply b1.supply).bind fun r1 => (if r1 = true then ((slices_Equal_api_Arc a1.arcs b1.arcs).bind fun r2 => (some r2)) else (some false))

def num_Of (a1 : Int) : Option Wide :=
  some (Wide.mk (a1.fdiv (2 ^ (min (63 : Int).toNat (IntKind.bits .i64)))) (IntKind.wrap .u64 (a1)))

def inst_Span_1 (a1 : Arc) : Option Bool :=
  some (decide (¬ a1.low = 0))

def inst_count_api_Arc_1_b1 (l1 : List Arc) (k1 : (Int × Int) → Option Int) : (Int × Int) → Option Int := fun (n2, s2) =>
  if s2 < (l1.length : Int) then (if 0 ≤ s2 ∧ s2 < (l1.length : Int) then ((inst_Span_1 (gt l1 s2)).bind fun r3 => (if r3 = true then (k1 (w64 (n2 + 1), w64 (s2 + 1))) else (k1 (n2, w64 (s2 + 1))))) else none) else (some n2)
def inst_count_api_Arc_1 (l1 : List Arc) : Option Int :=
  lp (inst_count_api_Arc_1_b1 l1) big (0, 0)

def inst_Span (i1 : Inst) : Option Int :=
  (inst_count_api_Arc_1 i1.arcs).bind fun r1 => (some (w64 ((w64 ((i1.supply.length : Int) + (i1.arcs.length : Int))) + r1)))

def law18_TwoLess (d1 : List Int) (i1 : List Int) (x1 : Bool) : Option Bool :=
  (law18_Sparse d1 i1).bind fun r1 => ((law18_step r1 x1).bind fun r2 => (if r2.2.2 = true then (if r2.1.did = true then ((law18_known).bind fun r6 => (if r6 = true then (if (r2.1.inst.supply.length : Int) = (w64 ((r1.supply.length : Int) - 1)) then (if (r2.1.inst.arcs.length : Int) = (w64 ((r1.arcs.length : Int) - 1)) then ((inst_Span r2.1.inst).bind fun r7 => ((inst_Span r1).bind fun r8 => (if r7 < r8 then ((inst_Right r2.1.inst).bind fun r9 => (if r9 = 0 then (if 0 ≤ (w64 ((r2.1.inst.arcs.length : Int) - 1)) ∧ (w64 ((r2.1.inst.arcs.length : Int) - 1)) < (r2.1.inst.arcs.length : Int) then (if ((gt r2.1.inst.arcs (w64 ((r2.1.inst.arcs.length : Int) - 1))).cost) = r2.2.1.new.cost then (if ((gt r2.1.inst.arcs (w64 ((r2.1.inst.arcs.length : Int) - 1))).cap) = r2.2.1.new.cap then ((inst_Same r2.1.rcd.was r1).bind fun r10 => (some r10)) else (some false)) else (some false)) else none) else (some false))) else (some false)))) else (some false)) else (some false)) else (some false))) else ((law18_known).bind fun r3 => (if r3 = true then ((inst_Same r2.1.inst r1).bind fun r4 => (if r4 = true then ((num_Of 0).bind fun r5 => (some (decide (r2.1.off = r5)))) else (some false))) else (some false)))) else (some false)))
end Go.Proofs.Ytpnohbdfgmjdbaa
