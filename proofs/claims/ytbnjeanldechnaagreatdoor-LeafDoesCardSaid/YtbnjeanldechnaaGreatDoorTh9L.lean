/- Plain: the document's answers: wide numbers, instances, arcs of nodes. -/
import Derived.Test.YtbnjeanldechnaaGreatDoorLfT
namespace Go.Qe
open Go.RowKit
theorem xor_i64 {x : Int} (h : -9223372036854775808 ≤ x ∧ x ≤ 9223372036854775807) : bits .xor .i64 (-1) x = -1 - x := by
  have e1 : BitVec.ofInt 64 (-1) = BitVec.allOnes 64 := by decide
  show IntKind.wrap .i64 (((BitVec.ofInt 64 (-1) ^^^ BitVec.ofInt 64 x).toNat : Nat) : Int) = _
  rw [e1, BitVec.allOnes_xor, BitVec.toNat_not, BitVec.toNat_ofInt, IntKind.wrap_i64]
  have : (2 : Nat) ^ 64 = 18446744073709551616 := rfl
  rw [this]
  omega
theorem xor_u64 {x : Int} (h : 0 ≤ x ∧ x < 18446744073709551616) : bits .xor .u64 18446744073709551615 x = 18446744073709551615 - x := by
  have e1 : BitVec.ofInt 64 18446744073709551615 = BitVec.allOnes 64 := by decide
  show IntKind.wrap .u64 (((BitVec.ofInt 64 18446744073709551615 ^^^ BitVec.ofInt 64 x).toNat : Nat) : Int) = _
  rw [e1, BitVec.allOnes_xor, BitVec.toNat_not, BitVec.toNat_ofInt, u64_def]
  have : (2 : Nat) ^ 64 = 18446744073709551616 := rfl
  rw [this]
  omega
end Go.Qe
namespace Go.Proofs.YtbnjeanldechnaaGreatDoor
open Go.RowKit Go.Qe
theorem ref01_Plus_eq (x y : Int) : ref01_Plus (mkW x) (mkW y) = some (mkW (x + y)) := by
  unfold ref01_Plus mkW
  dsimp only
  simp only [u64_def, w64_def]
  split <;> simp only [Option.some.injEq, Wide.mk.injEq] <;> omega
theorem ref01_Less_eq (x : Int) : ref01_Less (mkW x) = some (mkW (-x)) := by
  unfold ref01_Less
  have h1 : ∀ z : Int, -9223372036854775808 ≤ w64 z ∧ w64 z ≤ 9223372036854775807 := fun z => by rw [w64_def]; omega
  have h3 : ∀ z : Int, 0 ≤ z % 18446744073709551616 ∧ z % 18446744073709551616 < 18446744073709551616 := fun z => ⟨Int.emod_nonneg _ (by decide), Int.emod_lt_of_pos _ (by decide)⟩
  have e1 : (⟨bits .xor .i64 (-1) (mkW x).hi, bits .xor .u64 18446744073709551615 (mkW x).lo⟩ : Wide) = mkW (-1 - x) := by
    unfold mkW
    dsimp only
    rw [xor_i64 (h1 _), xor_u64 (h3 _)]
    simp only [w64_def, Wide.mk.injEq]
    omega
  have e2 : (⟨0, 1⟩ : Wide) = mkW 1 := rfl
  rw [e1, e2, ref01_Plus_eq, Option.bind_some]
  congr 2; omega
theorem ref01_Minus_eq (x y : Int) : ref01_Minus (mkW x) (mkW y) = some (mkW (x - y)) := by
  unfold ref01_Minus
  rw [ref01_Less_eq, Option.bind_some, ref01_Plus_eq, Option.bind_some]
  congr 2
theorem ref01_Of_eq {a : Int} (h : -9223372036854775808 ≤ a ∧ a ≤ 9223372036854775807) : ref01_Of a = some (mkW a) := by
  unfold ref01_Of mkW
  simp only [u64_def, w64_def]
  split <;> simp only [Option.some.injEq, Wide.mk.injEq, and_true] <;> omega
theorem ref01_Twice_eq (x : Int) : ref01_Twice (mkW x) = some (mkW (x + x)) := by
  unfold ref01_Twice
  rw [ref01_Plus_eq, Option.bind_some]
def partW (a b : Int) (u i : Nat) : Int := if i ≤ 63 then a * ((u % 2 ^ i : Nat) : Int) else a * b
theorem ref01_Times_eq {a b : Int} (ha : -9223372036854775808 ≤ a ∧ a ≤ 9223372036854775807) (hb : -9223372036854775808 ≤ b ∧ b ≤ 9223372036854775807) : ref01_Times a b = some (mkW (a * b)) := by
  obtain ⟨u, hu⟩ := Int.eq_ofNat_of_zero_le (Int.emod_nonneg b (show (18446744073709551616 : Int) ≠ 0 by decide))
  have hul : u < 18446744073709551616 := by have := Int.emod_lt_of_pos b (show (0 : Int) < 18446744073709551616 by decide); omega
  unfold ref01_Times
  rw [ref01_Of_eq ha, Option.bind_some]
  have hpart : ∀ i, i < 63 → partW a b u (i + 1) = partW a b u i + (if u / 2 ^ i % 2 = 1 then a * ((2 ^ i : Nat) : Int) else 0) := fun i hi => by
    unfold partW
    rw [if_pos (by omega), if_pos (by omega), Nat.mod_pow_succ]
    rcases Nat.mod_two_eq_zero_or_one (u / 2 ^ i) with h | h
    · rw [h, if_neg (by decide), Nat.mul_zero]; simp
    · rw [h, if_pos rfl, Nat.mul_one, Int.natCast_add, Int.mul_add]
  have hlast : partW a b u 64 = if u / 2 ^ 63 % 2 = 1 then partW a b u 63 - a * ((2 ^ 63 : Nat) : Int) else partW a b u 63 := by
    unfold partW
    rw [if_neg (show ¬ (64 : Nat) ≤ 63 by omega), if_pos (show (63 : Nat) ≤ 63 by omega)]
    have e63 : (2 : Nat) ^ 63 = 9223372036854775808 := rfl
    rw [e63]
    by_cases h : u / 9223372036854775808 % 2 = 1
    · rw [if_pos h, ← Int.mul_sub]
      congr 1
      omega
    · rw [if_neg h]
      congr 1
      omega
  refine lp_eq (fun i => ((i : Int), (mkW (partW a b u i)).hi, (mkW (partW a b u i)).lo, (mkW (a * ((2 ^ i : Nat) : Int))).hi, (mkW (a * ((2 ^ i : Nat) : Int))).lo)) 64 ?_ (by omega) (fun k i hi => ?_) (fun k => ?_)
  · have e : partW a b u 0 = 0 := by unfold partW; rw [if_pos (by omega), Nat.pow_zero, Nat.mod_one]; simp
    rw [e, Nat.pow_zero]
    simp only [Int.cast_ofNat_Int, Int.mul_one]
    rfl
  · unfold ref01_Times_b1
    dsimp only
    have hw : IntKind.wrap .u64 (i : Int) = i := by rw [u64_def]; omega
    have hwb : IntKind.wrap .u64 b = (u : Int) := by rw [u64_def]; exact hu
    have hmin : min (i : Int).toNat (IntKind.bits .u64) = i := by
      rw [Int.toNat_natCast]; exact Nat.min_eq_left (by show i ≤ 64; omega)
    have hbit : (((u : Int).fdiv (2 ^ i)).tmod 2 = 1) ↔ (u / 2 ^ i % 2 = 1) := by
      have e1 : ((2 : Int) ^ i) = ((2 ^ i : Nat) : Int) := by simp
      have e3 : (u : Int).fdiv ((2 ^ i : Nat) : Int) = ((u / 2 ^ i : Nat) : Int) := by rw [Int.fdiv_eq_ediv_of_nonneg _ (Int.natCast_nonneg _), Int.natCast_ediv]
      rw [e1, e3, Int.tmod_eq_emod_of_nonneg (Int.natCast_nonneg _)]
      omega
    have e2 : ((2 ^ (i + 1) : Nat) : Int) = 2 * ((2 ^ i : Nat) : Int) := by rw [Nat.pow_succ]; omega
    have hx : a * ((2 ^ i : Nat) : Int) + a * ((2 ^ i : Nat) : Int) = a * ((2 ^ (i + 1) : Nat) : Int) := by rw [e2, Int.mul_left_comm]; omega
    have t1 : ref01_Twice ⟨(mkW (a * ((2 ^ i : Nat) : Int))).hi, (mkW (a * ((2 ^ i : Nat) : Int))).lo⟩ = some (mkW (a * ((2 ^ (i + 1) : Nat) : Int))) := by
      have := ref01_Twice_eq (a * ((2 ^ i : Nat) : Int))
      rw [hx] at this
      exact this
    have t2 : ref01_Plus ⟨(mkW (partW a b u i)).hi, (mkW (partW a b u i)).lo⟩ ⟨(mkW (a * ((2 ^ i : Nat) : Int))).hi, (mkW (a * ((2 ^ i : Nat) : Int))).lo⟩ = some (mkW (partW a b u i + a * ((2 ^ i : Nat) : Int))) := ref01_Plus_eq _ _
    have t3 : ref01_Minus ⟨(mkW (partW a b u i)).hi, (mkW (partW a b u i)).lo⟩ ⟨(mkW (a * ((2 ^ i : Nat) : Int))).hi, (mkW (a * ((2 ^ i : Nat) : Int))).lo⟩ = some (mkW (partW a b u i - a * ((2 ^ i : Nat) : Int))) := ref01_Minus_eq _ _
    rw [if_pos (by omega), hw, if_pos (by omega), hwb, hmin, t1, w64_succ (by omega)]
    by_cases h : u / 2 ^ i % 2 = 1
    · rw [if_pos (hbit.2 h)]
      by_cases h63 : i = 63
      · subst h63
        rw [if_pos (by rfl), t3, Option.bind_some, Option.bind_some, hlast, if_pos h]
      · rw [if_neg (by omega), t2, Option.bind_some, Option.bind_some, hpart i (by omega), if_pos h]
    · rw [if_neg (fun hh => h (hbit.1 hh)), Option.bind_some]
      by_cases h63 : i = 63
      · subst h63
        rw [hlast, if_neg h]
      · rw [hpart i (by omega), if_neg h, Int.add_zero]
  · unfold ref01_Times_b1
    dsimp only
    rw [if_neg (by omega)]
    unfold partW
    rw [if_neg (by omega)]
theorem ref03_in_eq (n : Int) : ref03_in n = some (inM n) := by
  unfold ref03_in inM
  by_cases h1 : -4398046511104 ≤ n <;> simp [h1]
theorem ref03_arc_eq (a : Arc) (n : Nat) : ref03_arc a n = some (wrongOf a n) := by
  rw [← inst_wrong_eq]
  unfold ref03_arc inst_wrong inst_wrong_1_1
  simp only [ref03_in_eq, inst_within_eq, Option.bind_some]
  by_cases h1 : a.src < 0
  · rw [if_pos h1, if_neg (show ¬ 0 ≤ a.src by omega)]; rfl
  rw [if_neg h1, if_pos (show 0 ≤ a.src by omega), Option.bind_some]
  by_cases h2 : (n : Int) ≤ a.src
  · rw [if_pos h2, decide_eq_false (show ¬ a.src < n by omega)]; rfl
  rw [if_neg h2, decide_eq_true (show a.src < n by omega), if_pos rfl]
  by_cases h3 : a.dst < 0
  · rw [if_pos h3, if_neg (show ¬ 0 ≤ a.dst by omega)]; rfl
  rw [if_neg h3, if_pos (show 0 ≤ a.dst by omega), Option.bind_some]
  by_cases h4 : (n : Int) ≤ a.dst
  · rw [if_pos h4, decide_eq_false (show ¬ a.dst < n by omega)]; rfl
  rw [if_neg h4, decide_eq_true (show a.dst < n by omega), if_pos rfl]
theorem ref03_Right_eq (i : Inst) : ref03_Right i = some (rightOf i) := by
  rw [← inst_Right_eq]
  unfold ref03_Right inst_Right
  have e2 : ref03_Right_b2 i = inst_Right_b2 i := by
    funext k s
    unfold ref03_Right_b2 inst_Right_b2
    simp only [ref03_in_eq, inst_within_eq]
  have e1 : ∀ k s, ref03_Right_b1 i k s = inst_Right_b1 i k s := fun k s => by
    unfold ref03_Right_b1 inst_Right_b1
    rw [e2, ref03_arc_eq, inst_wrong_eq]
  rw [show ref03_Right_b1 i = inst_Right_b1 i from funext fun k => funext fun s => e1 k s]
theorem ref03_Copy_eq {i : Inst} (h1 : i.supply.length ≤ lim) (h2 : i.arcs.length ≤ lim) : ref03_Copy i = some i := by
  unfold ref03_Copy
  simp only [lt_eq, List.nil_append, List.length_nil, Nat.zero_add]
  rw [if_pos h1, if_pos h2]
theorem ref03_Nums_eq {a b : List Int} (h : a.length ≤ lim) : ref03_Nums a b = some (decide (a = b)) := by
  simp only [lim] at h
  unfold ref03_Nums
  by_cases hl : a.length = b.length
  · rw [if_neg (by omega), lp_find (s0 := (0 : Int)) (fun j => (j : Int)) a.length (fun j => if gt a (j : Int) = gt b (j : Int) then none else some (some false)) (fin := some true) rfl (by omega)]
    · rw [scan_eq a b hl]
      by_cases he : a = b <;> simp [he]
    · intro k j hj
      unfold ref03_Nums_b1
      rw [if_pos (rng_of hj).2, if_pos (rng_of hj), if_pos (rng_of (hl ▸ hj)), w64_succ (by omega)]
      by_cases he : gt a (j : Int) = gt b (j : Int)
      · rw [if_neg (fun h => h he), if_pos he]
      · rw [if_pos he, if_neg he]
    · intro k
      unfold ref03_Nums_b1
      rw [if_neg (by omega)]
  · rw [if_pos (by omega), decide_eq_false (fun e => hl (by rw [e]))]
theorem ref03_Same_refl {a b : Inst} (h : a = b) (h1 : a.supply.length ≤ lim) (h2 : a.arcs.length ≤ lim) : ref03_Same a b = some true := by
  subst h
  simp only [lim] at h2
  unfold ref03_Same
  rw [ref03_Nums_eq h1, Option.bind_some, if_pos (by simp), if_neg (fun h => h rfl)]
  refine lp_eq (fun j => (j : Int)) a.arcs.length rfl (by omega) (fun k j hj => ?_) (fun k => ?_)
  · unfold ref03_Same_b1
    rw [if_pos (rng_of hj).2, if_pos (rng_of hj), if_pos (rng_of hj), if_pos rfl, w64_succ (by omega)]
  · unfold ref03_Same_b1
    rw [if_neg (by omega)]
theorem ref03_Kept_eq (off : List Bool) {n : Nat} (h : n ≤ 1000) (ho : off.length ≤ lim) : ref03_Kept off (n : Int) = some (keptL off n) := by
  simp only [lim] at ho
  unfold ref03_Kept
  refine lp_eq (fun j => ((j : Int), keptL off j)) n (by simp [keptL]) (by omega) (fun k j hj => ?_) (fun k => ?_)
  · unfold ref03_Kept_b1 ref03_Off
    dsimp only
    have hl : (keptL off j).length + [(j : Int)].length ≤ lim := by have := keptL_len off j; simp only [List.length_singleton, lim]; omega
    rw [if_pos (rng_of hj).2, if_pos (by omega), keptL_succ, w64_succ (by omega)]
    by_cases h1 : (j : Int) < (off.length : Int)
    · have e : off.getD j false = off[j]'(by omega) := by rw [List.getD, List.getElem?_eq_getElem (by omega)]; rfl
      rw [if_pos h1, if_pos ⟨by omega, h1⟩, Option.bind_some, gt_get (show j < off.length by omega), e]
      by_cases h2 : off[j]'(by omega) = true
      · rw [if_pos h2, if_pos h2, List.append_nil]
      · rw [if_neg h2, if_pos hl, if_neg h2]; rfl
    · rw [if_neg h1, Option.bind_some, if_neg (by simp), if_pos hl, if_neg (by rw [List.getD, List.getElem?_eq_none (by omega)]; simp)]
      rfl
  · unfold ref03_Kept_b1
    dsimp only
    rw [if_neg (by omega)]
theorem ref03_Place_eq {l : List Int} (h : l.length ≤ 1000) (v : Int) : ref03_Place l v = some (idx l v) := by
  rw [← slices_Index_int_eq h]
  unfold ref03_Place slices_Index_int
  rw [show ref03_Place_b1 l v = slices_Index_int_b1 l v from funext fun k => funext fun s => by
    unfold ref03_Place_b1 slices_Index_int_b1
    have : (gt l s = v) = (v = gt l s) := propext eq_comm
    simp only [this]]
theorem ref03_Without_eq {i : Inst} {nodes arcs : List Bool} (h1 : i.supply.length ≤ 1000) (h2 : i.arcs.length ≤ 1000) (h3 : nodes.length ≤ lim) (h4 : arcs.length ≤ lim) : ref03_Without i nodes arcs = some (withoutOf i nodes arcs) := by
  have l1 := keptL_len nodes i.supply.length
  have l2 := keptL_len arcs i.arcs.length
  have r1 : ∀ x ∈ keptL nodes i.supply.length, 0 ≤ x ∧ x < i.supply.length := fun x hx => keptL_rng hx
  have r2 : ∀ x ∈ keptL arcs i.arcs.length, 0 ≤ x ∧ x < i.arcs.length := fun x hx => keptL_rng hx
  unfold ref03_Without
  rw [ref03_Kept_eq _ h1 h3, Option.bind_some]
  unfold withoutOf
  generalize keptL nodes i.supply.length = K at *
  refine lp_eq (fun j => ((j : Int), (K.take j).map (gt i.supply))) K.length (by simp) (by omega) (fun k j hj => ?_) (fun k => ?_)
  · unfold ref03_Without_b1
    dsimp only
    rw [if_pos (rng_of hj).2, if_pos (rng_of hj), gt_get hj, if_pos (r1 _ (List.getElem_mem hj)), if_pos (by simp only [List.length_map, List.length_take, List.length_singleton, lim]; omega), w64_succ (by omega), List.take_add_one, List.getElem?_eq_getElem hj, Option.toList_some, List.map_append]
    rfl
  · unfold ref03_Without_b1
    dsimp only
    rw [if_neg (by omega), List.take_length, ref03_Kept_eq _ h2 h4, Option.bind_some]
    generalize keptL arcs i.arcs.length = A at *
    refine lp_eq (fun j => ((j : Int), ((A.take j).map (gt i.arcs)).filterMap (ren K))) A.length (by simp) (by omega) (fun k j hj => ?_) (fun k => ?_)
    · unfold ref03_Without_b2
      dsimp only
      rw [if_pos (rng_of hj).2, if_pos (rng_of hj), gt_get hj, if_pos (r2 _ (List.getElem_mem hj)), ref03_Place_eq (by omega), Option.bind_some, ref03_Place_eq (by omega), Option.bind_some, w64_succ (by omega), List.take_add_one, List.getElem?_eq_getElem hj, Option.toList_some, List.map_append, List.map_cons, List.map_nil, List.filterMap_append]
      have hl : (((A.take j).map (gt i.arcs)).filterMap (ren K)).length ≤ 1000 := Nat.le_trans (List.length_filterMap_le _ _) (by simp; omega)
      generalize gt i.arcs A[j] = a at *
      by_cases a1 : 0 ≤ idx K a.src
      · by_cases a2 : 0 ≤ idx K a.dst
        · rw [if_pos a1, if_pos a2, if_pos (by simp only [List.length_singleton, lim]; omega)]
          have : ren K a = some ⟨idx K a.src, idx K a.dst, a.low, a.cap, a.cost⟩ := if_pos ⟨a1, a2⟩
          simp only [lt_eq, List.map_cons, List.map_nil, List.filterMap_cons, this, List.filterMap_nil]
        · rw [if_pos a1, if_neg a2]
          have : ren K a = none := if_neg fun h => a2 h.2
          simp [List.filterMap_cons, this]
      · rw [if_neg a1]
        have : ren K a = none := if_neg fun h => a1 h.1
        simp [List.filterMap_cons, this]
    · unfold ref03_Without_b2
      dsimp only
      rw [if_neg (by omega), List.take_length]
theorem ref04_fit_eq (i : Inst) (k : Nat) : ref04_fit i (k : Int) = some (fitB i (k : Int)) := by
  unfold ref04_fit fitB wholeB
  rw [if_neg (by omega), Int.toNat_natCast]
  by_cases h1 : (i.arcs.length : Int) ≤ k
  · rw [if_pos h1, decide_eq_false (show ¬ (0 ≤ (k : Int) ∧ (k : Int) < i.arcs.length) by omega)]; rfl
  · rw [if_neg h1, if_pos ⟨by omega, by omega⟩, decide_eq_true (show 0 ≤ (k : Int) ∧ (k : Int) < i.arcs.length by omega), Bool.true_and, gt_arc]
    by_cases a1 : 0 ≤ (arcAt i.arcs k).src <;> by_cases a2 : (arcAt i.arcs k).src < i.supply.length <;> by_cases a3 : 0 ≤ (arcAt i.arcs k).dst <;> simp [a1, a2, a3]
theorem ref04_At_eq {i : Inst} (h : i.arcs.length ≤ lim) (n : Int) : ref04_At i n = some (someL i n true true) := by
  simp only [lim] at h
  unfold ref04_At ref04_some someL
  rw [show lp (ref04_some_b1 i n true true) big (0, []) = some (someTo i n true true i.arcs.length) from ?_, Option.bind_some]
  have hlen : ∀ j, (someTo i n true true j).length ≤ j := fun j => by
    unfold someTo
    rw [List.length_map]
    exact Nat.le_trans (List.length_filter_le _ _) (by simp)
  refine lp_eq (fun j => ((j : Int), someTo i n true true j)) i.arcs.length rfl (by omega) (fun k j hj => ?_) (fun k => ?_)
  · have hl := hlen j
    have hs : someTo i n true true (j + 1) = someTo i n true true j ++ (if pickB i n true true j = true then [(j : Int)] else []) := by
      unfold someTo
      rw [List.range_succ, List.filter_append, List.map_append]
      by_cases hp : pickB i n true true j = true
      · rw [if_pos hp, List.filter_cons_of_pos hp]; rfl
      · rw [if_neg hp, List.filter_cons_of_neg hp]; rfl
    unfold ref04_some_b1
    dsimp only
    rw [if_pos (rng_of hj).2, ref04_fit_eq, Option.bind_some, hs, w64_succ (by omega), if_pos (rng_of hj), gt_arc]
    unfold pickB
    simp only [Bool.true_and]
    have hcap : (someTo i n true true j).length + [(j : Int)].length ≤ lim := by simp only [List.length_singleton, lim]; omega
    simp only [hcap, if_true, lt_eq]
    by_cases h1 : fitB i (j : Int) = true
    · by_cases h2 : (arcAt i.arcs j).src = n <;> by_cases h3 : (arcAt i.arcs j).dst = n <;> simp [h1, h2, h3]
    · simp [h1]
  · unfold ref04_some_b1
    dsimp only
    rw [if_neg (by omega)]
theorem ref04_Loops_eq {i : Inst} (h : i.arcs.length ≤ lim) (n : Int) : ref04_Loops i n = some (loopsOf i n) := by
  simp only [lim] at h
  rw [loopsOf_eq]
  unfold ref04_Loops
  refine lp_eq (fun j => (((((List.range j).filter fun k => pickB i n true false k && pickB i n false true k).length : Nat) : Int), (j : Int))) i.arcs.length rfl (by omega) (fun k j hj => ?_) (fun k => ?_)
  · unfold ref04_Loops_b1
    dsimp only
    have hb : ((List.range j).filter fun k => pickB i n true false k && pickB i n false true k).length ≤ j := Nat.le_trans (List.length_filter_le _ _) (by simp)
    rw [if_pos (rng_of hj).2, ref04_fit_eq, Option.bind_some, w64_succ (show j < _ by omega), if_pos (rng_of hj), gt_arc, List.range_succ, List.filter_append, List.length_append, w64_succ (show ((List.range j).filter fun k => pickB i n true false k && pickB i n false true k).length < _ by omega)]
    unfold pickB
    by_cases h1 : fitB i (j : Int) = true <;> by_cases h2 : (arcAt i.arcs j).src = n <;> by_cases h3 : (arcAt i.arcs j).dst = n <;> simp [h1, h2, h3]
  · unfold ref04_Loops_b1
    dsimp only
    rw [if_neg (by omega)]
end Go.Proofs.YtbnjeanldechnaaGreatDoor
