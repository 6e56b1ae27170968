/- Plain: TwoDoes, TwoShapes. -/
import Derived.Test.YtpnohbdfgmjdbaaGreatTh4
import Derived.Test.YtpnohbdfgmjdbaaGreatTh5
import Derived.Test.YtpnohbdfgmjdbaaGreatTh9
import Derived.Test.YtpnohbdfgmjdbaaGreatTwoK
namespace Go.Proofs.YtpnohbdfgmjdbaaGreat
open Go.RowKit Go.Qe
theorem btt : (true == true) = true := rfl
theorem btf : (true == false) = false := rfl
theorem bft : (false == true) = false := rfl
theorem bff : (false == false) = true := rfl
theorem ref18_two_eq {i : Inst} (h : i.arcs.length ≤ lim) (n : Int) : ref18_two i n = some (someL i n true true, decide (0 ≤ n ∧ n < i.supply.length ∧ (someL i n true true).length = 2 ∧ loopsOf i n = 0)) := by
  unfold ref18_two
  rw [ref04_At_eq h, Option.bind_some]
  by_cases h1 : 0 ≤ n
  · by_cases h2 : n < i.supply.length
    · by_cases h3 : (someL i n true true).length = 2
      · rw [if_pos h1, if_pos h2, if_pos (by omega), ref04_Loops_eq h, Option.bind_some]
        simp [h1, h2, h3]
      · rw [if_pos h1, if_pos h2, if_neg (by omega)]
        simp [h3]
    · rw [if_pos h1, if_neg h2]; simp [h2]
  · rw [if_neg h1]; simp [h1]
theorem loops_nonneg {i : Inst} (n : Int) : 0 ≤ loopsOf i n := by rw [loopsOf_eq]; omega
abbrev spotPair (q : Spot × Pair × Bool) : Spot × Bool := (q.1, q.2.2)
theorem ref18_spot_eq (n a b : Int) (x : Arc) : ref18_spot n a b x = some (if x.cap < x.low then (noSpot, false) else (⟨n, a, b, x⟩, true)) := by
  unfold ref18_spot
  split <;> rfl
theorem less_eq (n s : Int) : ref18_less n s = some (if n = 4611686018427387904 then n else w64 (n - s)) := by
  unfold ref18_less
  split <;> rfl
/-- the least of two caps, of which the second is less by a number: bounds that are none -/
theorem least_eq {xc yc s : Int} (hx : xc = 4611686018427387904 ∨ xc ≤ 4398046511104) :
    (if (if yc = 4611686018427387904 then yc else w64 (yc - s)) < xc then (if yc = 4611686018427387904 then yc else w64 (yc - s)) else xc) = if yc = 4611686018427387904 then xc else if w64 (yc - s) < xc then w64 (yc - s) else xc := by
  by_cases h : yc = 4611686018427387904
  · simp only [h, if_true]
    rw [if_neg (by omega)]
  · simp only [h, if_false]
theorem ref18_Chain_eq {i : Inst} (hR : RightI i) {n : Nat} (hn : n < i.supply.length) : ref18_Chain i n = some (spotPair (spotAt true i n)) := by
  have hw := hR.whole
  have hl : i.arcs.length ≤ lim := by have := hR.many; simp only [lim]; omega
  unfold ref18_Chain spotAt
  rw [ref18_two_eq hl, Option.bind_some]
  have h0 := loops_nonneg (i := i) (n : Int)
  rcases hS : someL i n true true with _ | ⟨u, _ | ⟨v, _ | ⟨z, l⟩⟩⟩
  · simp [spotPair, noSpot]
  · simp [spotPair, noSpot]
  · dsimp only
    by_cases hlo : 0 < loopsOf i n
    · rw [if_neg (by simp; omega), if_pos hlo]; rfl
    rw [if_pos (by simp; omega), if_neg hlo]
    obtain ⟨a, b, rfl, rfl, hab, ht⟩ := twoAt_of hw hn hS hlo
    have ga : gt [(a : Int), (b : Int)] 0 = a := rfl
    have gb : gt [(a : Int), (b : Int)] 1 = b := rfl
    rw [ga, gb, if_pos (by simp), if_pos (rng_of ht.ha), if_pos (by simp), if_pos (rng_of ht.hb)]
    have ta := (ht.only a ht.ha).2 (.inl rfl)
    have tb := (ht.only b ht.hb).2 (.inr rfl)
    have la := ht.la
    have lb := ht.lb
    have ca := (hR.arcs _ (arcAt_mem ht.ha)).cap
    have cb := (hR.arcs _ (arcAt_mem ht.hb)).cap
    simp only [if_pos (rng_of hn), less_eq, ref18_spot_eq, Option.bind_some, standOf, if_true, liesOf, gt_arc, chainArc]
    generalize arcAt i.arcs a = x at *
    generalize arcAt i.arcs b = y at *
    rw [least_eq (by omega), least_eq (by omega)]
    by_cases h1 : x.dst = n <;> by_cases h2 : y.dst = n
    · have h3 : ¬ x.src = n := fun e => la ⟨e, h1⟩
      have h4 : ¬ y.src = n := fun e => lb ⟨e, h2⟩
      simp [h1, h2, h3, h4, spotPair, noSpot]
    · have h3 : ¬ x.src = n := fun e => la ⟨e, h1⟩
      have h4 : y.src = n := by rcases tb with e | e; exact e; exact absurd e h2
      simp only [h1, h2, h3, h4, decide_true, decide_false, if_true, if_false, and_self, btf, bft, btt, bff, Bool.false_eq_true]
      (repeat' split) <;> rfl
    · have h3 : x.src = n := by rcases ta with e | e; exact e; exact absurd e h1
      have h4 : ¬ y.src = n := fun e => lb ⟨e, h2⟩
      simp only [h1, h2, h3, h4, decide_true, decide_false, if_true, if_false, and_self, false_and, btf, bft, btt, bff, Bool.false_eq_true]
      (repeat' split) <;> rfl
    · have h3 : x.src = n := by rcases ta with e | e; exact e; exact absurd e h1
      have h4 : y.src = n := by rcases tb with e | e; exact e; exact absurd e h2
      simp [h1, h2, h3, h4, spotPair, noSpot]
  · dsimp only
    rw [if_neg (by simp)]; rfl
theorem ref18_Split_eq {i : Inst} (hR : RightI i) {n : Nat} (hn : n < i.supply.length) : ref18_Split i n = some (spotPair (spotAt false i n)) := by
  have hw := hR.whole
  have hl : i.arcs.length ≤ lim := by have := hR.many; simp only [lim]; omega
  unfold ref18_Split spotAt
  rw [ref18_two_eq hl, Option.bind_some]
  have h0 := loops_nonneg (i := i) (n : Int)
  rcases hS : someL i n true true with _ | ⟨u, _ | ⟨v, _ | ⟨z, l⟩⟩⟩
  · simp [spotPair, noSpot]
  · simp [spotPair, noSpot]
  · dsimp only
    by_cases hlo : 0 < loopsOf i n
    · rw [if_neg (by simp; omega), if_pos hlo]; rfl
    rw [if_pos (by simp; omega), if_neg hlo]
    obtain ⟨a, b, rfl, rfl, hab, ht⟩ := twoAt_of hw hn hS hlo
    have ga : gt [(a : Int), (b : Int)] 0 = a := rfl
    have gb : gt [(a : Int), (b : Int)] 1 = b := rfl
    rw [ga, gb, if_pos (by simp), if_pos (rng_of ht.ha), if_pos (by simp), if_pos (rng_of ht.hb)]
    simp only [if_pos (rng_of hn), ref18_spot_eq, Option.bind_some, standOf, if_false, liesOf, gt_arc, splitArc, forkMore, Bool.false_eq_true]
    generalize arcAt i.arcs a = x at *
    generalize arcAt i.arcs b = y at *
    by_cases h1 : x.dst = n <;> by_cases h2 : y.dst = n <;> by_cases h3 : y.cap = 4611686018427387904 <;> simp only [h1, h2, h3, decide_true, decide_false, if_true, if_false, iff_true, iff_false, not_true_eq_false, not_false_eq_true, iff_self, btt, btf, bft, bff, Bool.false_eq_true] <;>
      first | rfl | ((repeat' split) <;> rfl) | (simp [spotPair, noSpot]; done)
  · dsimp only
    rw [if_neg (by simp)]; rfl
theorem someL_far {i : Inst} (hw : Whole i) {n : Int} (hn : n < 0 ∨ (i.supply.length : Int) ≤ n) : someL i n true true = [] := by
  refine someL_none fun k hk => ?_
  have := wholeB_iff.1 (hw.at_ hk)
  cases hp : pickB i n true true k with
  | false => rfl
  | true =>
    rcases (pick_iff hw hk).1 hp with h | h <;> omega
theorem chain_far {i : Inst} (hR : RightI i) {n : Int} (hn : n < 0 ∨ (i.supply.length : Int) ≤ n) : two_Chain i n = some (noSpot, false) ∧ ref18_Chain i n = some (noSpot, false) ∧ two_Split i n = some (noSpot, false) ∧ ref18_Split i n = some (noSpot, false) := by
  have l1 : i.supply.length ≤ lim := by have := hR.nodes; simp only [lim]; omega
  have l2 : i.arcs.length ≤ lim := by have := hR.many; simp only [lim]; omega
  have hS := someL_far hR.whole hn
  have hA : adj_Graph_At i n = some [] := by unfold adj_Graph_At; rw [if_pos l2, hS]
  refine ⟨?_, ?_, ?_, ?_⟩
  · unfold two_Chain two_shape_at_1
    rw [show adj_New i = some i from if_pos ⟨l1, l2⟩, Option.bind_some, hA, Option.bind_some]; rfl
  · unfold ref18_Chain
    rw [ref18_two_eq l2, Option.bind_some, if_neg (by simp [hS])]; rfl
  · unfold two_Split two_shape_at_2
    rw [show adj_New i = some i from if_pos ⟨l1, l2⟩, Option.bind_some, hA, Option.bind_some]; rfl
  · unfold ref18_Split
    rw [ref18_two_eq l2, Option.bind_some, if_neg (by simp [hS])]; rfl
theorem two_Chain_eq' {i : Inst} (hR : RightI i) {n : Nat} (hn : n < i.supply.length) : two_Chain i n = some (spotPair (spotAt true i n)) := by
  have l1 : i.supply.length ≤ lim := by have := hR.nodes; simp only [lim]; omega
  have l2 : i.arcs.length ≤ lim := by have := hR.many; simp only [lim]; omega
  unfold two_Chain
  rw [show adj_New i = some i from if_pos ⟨l1, l2⟩, Option.bind_some, at_1_eq hR.whole l2 hn, Option.bind_some]
theorem two_Split_eq' {i : Inst} (hR : RightI i) {n : Nat} (hn : n < i.supply.length) : two_Split i n = some (spotPair (spotAt false i n)) := by
  have l1 : i.supply.length ≤ lim := by have := hR.nodes; simp only [lim]; omega
  have l2 : i.arcs.length ≤ lim := by have := hR.many; simp only [lim]; omega
  unfold two_Split
  rw [show adj_New i = some i from if_pos ⟨l1, l2⟩, Option.bind_some, at_2_eq hR.whole l2 hn, Option.bind_some]
theorem i64M {x : Int} (h : -4398046511104 ≤ x ∧ x ≤ 4398046511104) : -9223372036854775808 ≤ x ∧ x ≤ 9223372036854775807 := by omega
/-- what the document's answer leaves -/
theorem ref_done {series : Bool} {i : Inst} (hR : RightI i) {n : Nat} (hn : n < i.supply.length) (h : (spotAt series i n).2.2 = true) {d : Int} (hd : d = moreOf series (spotAt series i n).2.1.x n (spotAt series i n).2.1.s) {p : Int} (hp : p = if series then 8 else 9) :
    ref18_without p i (spotAt series i n).1 d = some (doneAt series i n) := by
  have hw := hR.whole
  have l1 : i.supply.length ≤ lim := by have := hR.nodes; simp only [lim]; omega
  have l2 : i.arcs.length ≤ lim := by have := hR.many; simp only [lim]; omega
  have hnodes := hR.nodes
  have hmany := hR.many
  obtain ⟨a, b, hq⟩ := spotAt_ok hw hn h
  have hf := hq.farb hw
  have hcost := hR.arcs _ (arcAt_mem hq.two.hb)
  have hsn := hR.sup _ (gt_mem hn)
  unfold ref18_without doneAt
  rw [hq.is] at hd ⊢
  dsimp only at hd ⊢
  rw [if_pos (rng_of hq.two.hb), ref03_Copy_eq l1 l2, Option.bind_some, gt_arc]
  have he : ref18_Ends (arcAt i.arcs b) n = some (farOf (arcAt i.arcs b) n) := by unfold ref18_Ends farOf; split <;> rfl
  rw [he, Option.bind_some, if_pos ⟨hf.1, hf.2.1⟩, if_pos (rng_of hn)]
  simp only [lt_eq, upd_len]
  rw [if_pos (by simp only [List.length_singleton, lim]; omega), if_pos ⟨by omega, Int.ofNat_le.2 l1⟩, if_pos ⟨by omega, by simp; omega⟩, Int.toNat_natCast, upd_nat, ← offOf]
  rw [ref03_Without_eq (by simp [upd]; omega) (by simp; omega) (by simp [offOf, lim]; omega) (by simp), Option.bind_some]
  have hd2 : -9223372036854775808 ≤ d ∧ d ≤ 9223372036854775807 := by
    rw [hd]
    unfold moreOf forkMore
    split
    · omega
    · split
      · rw [w64_id (by omega) (by omega)]; omega
      · omega
  have hc2 : -9223372036854775808 ≤ (arcAt i.arcs b).cost ∧ (arcAt i.arcs b).cost ≤ 9223372036854775807 := by have g0 := hcost.c0; have g1 := hcost.c1; omega
  rw [ref01_Times_eq hd2 hc2, Option.bind_some]
  unfold ref15_Done
  rw [if_pos rfl, ref03_Right_eq, Option.bind_some, Int.toNat_natCast]
  have ht : timesOf (moreOf series (arcAt i.arcs a) n (gt i.supply n)) (arcAt i.arcs b).cost = mkW (d * (arcAt i.arcs b).cost) := by
    unfold timesOf
    rw [← hd, num_Times_eq hd2 hc2]; rfl
  rw [ht]
  have el : withoutOf ⟨upd i.supply (farOf (arcAt i.arcs b) n) (w64 (gt i.supply (farOf (arcAt i.arcs b) n) + gt i.supply n)), i.arcs ++ [standOf series (arcAt i.arcs a) (arcAt i.arcs b) n (gt i.supply n)]⟩ (offOf i n) [] = leftOf i n b (standOf series (arcAt i.arcs a) (arcAt i.arcs b) n (gt i.supply n)) := rfl
  rw [el, hp]
  by_cases h0 : rightOf (leftOf i n b (standOf series (arcAt i.arcs a) (arcAt i.arcs b) n (gt i.supply n))) = 0
  · simp only [h0, not_true_eq_false, if_false, Option.bind_some]
  · simp only [h0, not_false_eq_true, if_true, Option.bind_some]; rfl
theorem ref18_Series_eq (i : Inst) : ref18_Series i = some (runOf true i) := by
  unfold ref18_Series runOf
  rw [ref03_Right_eq, Option.bind_some]
  by_cases h0 : rightOf i = 0
  · have hR := rightOf_zero.1 h0
    rw [if_neg (fun h => h h0), if_neg (fun h => h h0)]
    rw [lp_find (s0 := (0 : Int)) (fun j => (j : Int)) i.supply.length (fun n => (if (spotAt true i n).2.2 = true then some (doneAt true i n) else none).map some) (fin := some (⟨i, ⟨0, ⟨[], []⟩⟩, ⟨0, 0⟩, false⟩, 0)) rfl (by have := hR.nodes; omega)]
    · rw [findSome_map]
      cases (List.range i.supply.length).findSome? (fun n => if (spotAt true i n).2.2 = true then some (doneAt true i n) else none) <;> rfl
    · intro k j hj
      unfold ref18_Series_b1
      rw [if_pos (rng_of hj).2, ref18_Chain_eq hR hj, Option.bind_some]
      dsimp only [spotPair]
      by_cases h1 : (spotAt true i j).2.2 = true
      · obtain ⟨a, b, hq⟩ := spotAt_ok hR.whole hj h1
        rw [if_pos h1, if_pos h1, if_pos (rng_of hj), ref_done (series := true) (p := 8) (d := gt i.supply j) hR hj h1 (by rw [hq.is]; rfl) rfl, Option.bind_some]; rfl
      · rw [if_neg h1, if_neg h1, w64_succ (by have := hR.nodes; omega)]; rfl
    · intro k
      unfold ref18_Series_b1
      rw [if_neg (by omega)]
  · rw [if_pos h0, if_pos h0]; rfl
theorem ref18_Fork_eq (i : Inst) : ref18_Fork i = some (runOf false i) := by
  unfold ref18_Fork runOf
  rw [ref03_Right_eq, Option.bind_some]
  by_cases h0 : rightOf i = 0
  · have hR := rightOf_zero.1 h0
    rw [if_neg (fun h => h h0), if_neg (fun h => h h0)]
    rw [lp_find (s0 := (0 : Int)) (fun j => (j : Int)) i.supply.length (fun n => (if (spotAt false i n).2.2 = true then some (doneAt false i n) else none).map some) (fin := some (⟨i, ⟨0, ⟨[], []⟩⟩, ⟨0, 0⟩, false⟩, 0)) rfl (by have := hR.nodes; omega)]
    · rw [findSome_map]
      cases (List.range i.supply.length).findSome? (fun n => if (spotAt false i n).2.2 = true then some (doneAt false i n) else none) <;> rfl
    · intro k j hj
      unfold ref18_Fork_b1
      rw [if_pos (rng_of hj).2, ref18_Split_eq hR hj, Option.bind_some]
      dsimp only [spotPair]
      by_cases h1 : (spotAt false i j).2.2 = true
      · obtain ⟨a, b, hq⟩ := spotAt_ok hR.whole hj h1
        have hd : ∀ d, ref18_without 9 i (spotAt false i j).1 d = some (doneAt false i j) ∨ ¬ d = moreOf false (spotAt false i j).2.1.x j (spotAt false i j).2.1.s := fun d => by
          by_cases h : d = moreOf false (spotAt false i j).2.1.x j (spotAt false i j).2.1.s
          · exact .inl (ref_done hR hj h1 h rfl)
          · exact .inr h
        rw [if_pos h1, if_pos h1, if_pos (rng_of hj)]
        have ha : 0 ≤ (spotAt false i j).1.a ∧ (spotAt false i j).1.a < i.arcs.length := by rw [hq.is]; exact rng_of hq.two.ha
        have hx : gt i.arcs (spotAt false i j).1.a = (spotAt false i j).2.1.x := by rw [hq.is]; exact gt_arc _ _
        have hs : (spotAt false i j).2.1.s = gt i.supply j := by rw [hq.is]
        rw [if_pos ha, hx]
        by_cases h2 : (spotAt false i j).2.1.x.dst = j
        · rw [if_pos h2]
          rcases hd (w64 (0 - gt i.supply j)) with h3 | h3
          · simp only [lt_eq, h3, Option.bind_some]; rfl
          · exact absurd (by unfold moreOf forkMore; rw [if_neg (by simp), if_pos h2, hs]) h3
        · rw [if_neg h2]
          rcases hd (gt i.supply j) with h3 | h3
          · simp only [lt_eq, h3, Option.bind_some]; rfl
          · exact absurd (by unfold moreOf forkMore; rw [if_neg (by simp), if_neg h2, hs]) h3
      · rw [if_neg h1, if_neg h1, w64_succ (by have := hR.nodes; omega)]; rfl
    · intro k
      unfold ref18_Fork_b1
      rw [if_neg (by omega)]
  · rw [if_pos h0, if_pos h0]; rfl
/-- all calls of an instance -/
theorem does_true (i : Inst) (n : Int) : law18_does i n = some true := by
  have run_ok : ∀ s, -9223372036854775808 ≤ (runOf s i).2 ∧ (runOf s i).2 ≤ 9223372036854775807 ∧ (runOf s i).1.inst.supply.length ≤ 2000 ∧ (runOf s i).1.inst.arcs.length ≤ 2000 ∧ (runOf s i).1.rcd.was.supply.length ≤ 2000 ∧ (runOf s i).1.rcd.was.arcs.length ≤ 2000 := fun s => by
    have hro : -9223372036854775808 ≤ rightOf i ∧ rightOf i ≤ 9223372036854775807 := by
      unfold rightOf
      split
      · omega
      · split
        · rename_i e he
          obtain ⟨a, ha, h3⟩ := List.exists_of_findSome?_eq_some he
          split at h3
          · cases h3
          · cases h3
            unfold wrongOf
            repeat' split
            all_goals omega
        · repeat' split
          all_goals omega
    have hdone : ∀ n, n < i.supply.length → (spotAt s i n).2.2 = true → RightI i → -9223372036854775808 ≤ (doneAt s i n).2 ∧ (doneAt s i n).2 ≤ 9223372036854775807 ∧ (doneAt s i n).1.inst.supply.length ≤ 2000 ∧ (doneAt s i n).1.inst.arcs.length ≤ 2000 ∧ (doneAt s i n).1.rcd.was.supply.length ≤ 2000 ∧ (doneAt s i n).1.rcd.was.arcs.length ≤ 2000 := fun n hn hs hR => by
      obtain ⟨a, b, hq⟩ := spotAt_ok hR.whole hn hs
      have hL := hq.left hR.whole _ rfl
      have hb : (spotAt s i n).1.b.toNat = b := by rw [hq.is]; simp
      have hnew : (spotAt s i n).1.new = standOf s (arcAt i.arcs a) (arcAt i.arcs b) n (gt i.supply n) := by rw [hq.is]
      unfold doneAt
      dsimp only
      rw [hb, hnew]
      split
      · simp [stepNo]
      · have e1 := hL.sup
        have e2 := hL.arcs
        have h1 := hR.nodes
        have h2 := hR.many
        dsimp only
        omega
    unfold runOf
    split
    · simp only [stepNo]
      exact ⟨hro.1, hro.2, by simp, by simp, by simp, by simp⟩
    · rename_i h0
      have hR := rightOf_zero.1 (Classical.byContradiction h0)
      split
      · rename_i r hr
        obtain ⟨n, hn, h3⟩ := List.exists_of_findSome?_eq_some hr
        split at h3
        · rename_i hs
          cases h3
          exact hdone n (List.mem_range.1 hn) hs hR
        · cases h3
      · have h1 := hR.nodes
        have h2 := hR.many
        dsimp only
        simp; omega
  have hsame : ∀ s, ref15_Same (runOf s i).1 (runOf s i).1 = some true := fun s => by
    obtain ⟨_, _, a1, a2, a3, a4⟩ := run_ok s
    unfold ref15_Same
    rw [if_pos (by simp), if_pos rfl, if_pos rfl, ref03_Same_refl rfl (by simp only [lim]; omega) (by simp only [lim]; omega), Option.bind_some, if_pos rfl, ref03_Same_refl rfl (by simp only [lim]; omega) (by simp only [lim]; omega), Option.bind_some]
  have hrest : (if w64 (runOf true i).2 = (runOf true i).2 then ((ref15_Same (runOf true i).1 (runOf true i).1).bind fun r10 => (if r10 = true then (if w64 (runOf false i).2 = (runOf false i).2 then ((ref15_Same (runOf false i).1 (runOf false i).1).bind fun r11 => some r11) else some false) else some false)) else some false) = some true := by
    rw [if_pos (w64_id (run_ok true).1 (run_ok true).2.1), hsame, Option.bind_some, if_pos rfl, if_pos (w64_id (run_ok false).1 (run_ok false).2.1), hsame, Option.bind_some]
  unfold law18_does
  rw [two_Series_eq, Option.bind_some, ref18_Series_eq, Option.bind_some, two_Fork_eq, Option.bind_some, ref18_Fork_eq, Option.bind_some, ref03_Right_eq, Option.bind_some]
  simp only [lt_eq]
  by_cases h0 : rightOf i = 0
  · have hR := rightOf_zero.1 h0
    rw [if_pos h0]
    by_cases hn : n < 0 ∨ (i.supply.length : Int) ≤ n
    · obtain ⟨e1, e2, e3, e4⟩ := chain_far hR hn
      rw [e1, Option.bind_some, e2, Option.bind_some, e3, Option.bind_some, e4, Option.bind_some]
      simpa using hrest
    · obtain ⟨m, rfl⟩ := Int.eq_ofNat_of_zero_le (show 0 ≤ n by omega)
      have hm : m < i.supply.length := by omega
      rw [two_Chain_eq' hR hm, Option.bind_some, ref18_Chain_eq hR hm, Option.bind_some, two_Split_eq' hR hm, Option.bind_some, ref18_Split_eq hR hm, Option.bind_some]
      simpa using hrest
  · rw [if_neg h0]
    exact hrest
theorem known_t : law18_known = some true := by kernel_rfl
theorem tame_any (a : Arc) : ∃ r, law18_tame a = some r := by
  unfold law18_tame
  repeat' split
  all_goals exact ⟨_, rfl⟩
theorem one_any (d : Int) (a b : Arc) (s t c : Int) : ∃ i, law18_One d a b s t c = some i ∧ i.arcs.length = 5 := by
  unfold law18_One
  generalize d.tmod 3 = z
  generalize (IntKind.wrap .u8 (d.tdiv 3)).tmod 2 = y
  by_cases h1 : z = 1 <;> by_cases h2 : z = 2 <;> by_cases h3 : y = 1 <;> simp only [h1, h2, h3, Int.reduceEq, if_true, if_false] <;> first | omega | skip
  all_goals
    rw [if_pos (by simp [lim])]
    simp only [lt_eq]
    rw [if_pos (by simp [lim])]
    exact ⟨_, rfl, rfl⟩
theorem shapes_true (d : Int) (a b : Arc) (s t c : Int) : law18_TwoShapes d a b s t c = some true := by
  obtain ⟨i1, e1, l1⟩ := one_any d a b s t c
  obtain ⟨ra, ea⟩ := tame_any a
  obtain ⟨rb, eb⟩ := tame_any b
  obtain ⟨i2, e2, l2⟩ := one_any d ra rb (s.tmod 2000) (t.tmod 2000) c
  have hm : w64 ((4398046511104 : Int).tdiv 2) = 2199023255552 := by decide
  obtain ⟨i3, e3, l3⟩ := one_any d ra rb (s.tmod 2199023255552) (t.tmod 2199023255552) c
  unfold law18_TwoShapes
  rw [e1, Option.bind_some, ea, Option.bind_some, eb, Option.bind_some, e2, Option.bind_some, Option.bind_some, Option.bind_some, hm, if_pos (by decide), if_pos (by decide), e3, Option.bind_some, if_pos (by omega)]
  simp only [lt_eq, upd_len]
  rw [if_pos (by omega), if_pos (by omega), known_t, Option.bind_some, if_pos rfl, does_true, Option.bind_some, if_pos rfl, does_true, Option.bind_some, if_pos rfl, does_true, Option.bind_some]
end Go.Proofs.YtpnohbdfgmjdbaaGreat
