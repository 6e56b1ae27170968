/- Plain: TwoNode, TwoFlows. -/
import Derived.Test.YtpnohbdfgmjdbaaTh8
import Derived.Test.YtpnohbdfgmjdbaaTwoL
namespace Go.Proofs.Ytpnohbdfgmjdbaa
open Go.RowKit Go.Qe
structure Tame (a : Arc) : Prop where
  low : 0 ≤ a.low ∧ a.low ≤ 999
  cap : a.cap = 4611686018427387904 ∨ a.low ≤ a.cap ∧ a.cap ≤ a.low + 999
  cost : -999 ≤ a.cost ∧ a.cost ≤ 999
theorem tmod_any (x : Int) {m : Int} (hm : 0 < m) : -m < x.tmod m ∧ x.tmod m < m := ⟨Int.lt_tmod_of_pos x hm, Int.tmod_lt_of_pos x hm⟩
theorem tame_ok (a : Arc) : ∃ r, law18_tame a = some r ∧ Tame r := by
  have e1 := tmod_any a.low (show (0 : Int) < 1000 by omega)
  have e3 := tmod_any a.cap (show (0 : Int) < 1000 by omega)
  have e5 := tmod_any a.cost (show (0 : Int) < 1000 by omega)
  have w1 : w64 (0 - a.low.tmod 1000) = 0 - a.low.tmod 1000 := w64_id (by omega) (by omega)
  have w2 : w64 (0 - a.cap.tmod 1000) = 0 - a.cap.tmod 1000 := w64_id (by omega) (by omega)
  unfold law18_tame
  simp only [w1, w2]
  generalize a.low.tmod 1000 = x at *
  generalize a.cap.tmod 1000 = y at *
  generalize a.cap.tmod 5 = z at *
  generalize a.cost.tmod 1000 = u at *
  have w3 : ∀ u : Int, 0 ≤ u → u ≤ 999 → w64 (u + if 0 - y > y then 0 - y else y) = u + if 0 - y > y then 0 - y else y := fun u h1 h2 => by split <;> exact w64_id (by omega) (by omega)
  split
  · rw [w3 _ (by omega) (by omega)]
    split
    · exact ⟨_, rfl, by dsimp only; omega, .inl rfl, by dsimp only; omega⟩
    · exact ⟨_, rfl, by dsimp only; omega, .inr (by dsimp only; split <;> omega), by dsimp only; omega⟩
  · rw [w3 _ (by omega) (by omega)]
    split
    · exact ⟨_, rfl, by dsimp only; omega, .inl rfl, by dsimp only; omega⟩
    · exact ⟨_, rfl, by dsimp only; omega, .inr (by dsimp only; split <;> omega), by dsimp only; omega⟩
theorem small_five {u v w : Arc} {s t : Int} (hs : -2000 < s ∧ s < 2000) (ht : -2000 < t ∧ t < 2000) (hu : 0 ≤ u.src ∧ u.src < 3 ∧ 0 ≤ u.dst ∧ u.dst < 3) (hv : 0 ≤ v.src ∧ v.src < 3 ∧ 0 ≤ v.dst ∧ v.dst < 3) (hw : 0 ≤ w.src ∧ w.src < 3 ∧ 0 ≤ w.dst ∧ w.dst < 3)
    (tu : Tame u) (tv : Tame v) (tw : w.low = 0 ∧ w.cap = 4611686018427387904 ∧ 0 ≤ w.cost ∧ w.cost ≤ 255) : Small ⟨[t, s, w64 (w64 (0 - t) - s)], [u, v] ++ [w] ++ [⟨2, 0, 0, 40, 1⟩, ⟨0, 2, 0, 40, 1⟩]⟩ := by
  have e1 : w64 (0 - t) = -t := by rw [w64_id (by omega) (by omega)]; omega
  have e2 : w64 (-t - s) = -t - s := w64_id (by omega) (by omega)
  rw [e1, e2]
  obtain ⟨u1, u2, u3⟩ := tu
  obtain ⟨v1, v2, v3⟩ := tv
  obtain ⟨w1, w2, w3⟩ := tw
  have hin : ∀ a ∈ ([u, v] ++ [w] ++ [⟨2, 0, 0, 40, 1⟩, ⟨0, 2, 0, 40, 1⟩] : List Arc), a = u ∨ a = v ∨ a = w ∨ a = ⟨2, 0, 0, 40, 1⟩ ∨ a = ⟨0, 2, 0, 40, 1⟩ := fun a ha => by simpa using ha
  have hsu : ∀ x ∈ ([t, s, -t - s] : List Int), x = t ∨ x = s ∨ x = -t - s := fun x hx => by simpa using hx
  refine ⟨⟨by simp, by simp, fun a ha => ?_, fun x hx => ?_, by simp; omega⟩, fun a ha => ?_, fun x hx => ?_⟩
  · rcases hin a ha with rfl | rfl | rfl | rfl | rfl
    · exact ⟨hu.1, hu.2.1, hu.2.2.1, hu.2.2.2, u1.1, by omega, by omega, by omega, by omega⟩
    · exact ⟨hv.1, hv.2.1, hv.2.2.1, hv.2.2.2, v1.1, by omega, by omega, by omega, by omega⟩
    · exact ⟨hw.1, hw.2.1, hw.2.2.1, hw.2.2.2, by omega, by omega, by omega, by omega, by omega⟩
    · exact ⟨by simp, by simp, by simp, by simp, by simp, by simp, .inr (by simp), by simp, by simp⟩
    · exact ⟨by simp, by simp, by simp, by simp, by simp, by simp, .inr (by simp), by simp, by simp⟩
  · rcases hsu x hx with rfl | rfl | rfl <;> omega
  · rcases hin a ha with rfl | rfl | rfl | rfl | rfl
    · exact ⟨by omega, by omega, by omega, by omega⟩
    · exact ⟨by omega, by omega, by omega, by omega⟩
    · exact ⟨by omega, by omega, by omega, by omega⟩
    · exact ⟨by decide, .inr (by decide), by decide, by decide⟩
    · exact ⟨by decide, .inr (by decide), by decide, by decide⟩
  · rcases hsu x hx with rfl | rfl | rfl <;> omega
theorem one_ok {d s t c : Int} {a b : Arc} (hs : -2000 < s ∧ s < 2000) (ht : -2000 < t ∧ t < 2000) (hc : 0 ≤ c ∧ c ≤ 255) (ta : Tame a) (tb : Tame b) : ∃ i, law18_One d a b s t c = some i ∧ Small i := by
  have m2 := tmod_rng hc.1 (show (0 : Int) < 2 by omega)
  have d2 := tdiv_rng hc (show (0 : Int) < 2 by omega)
  have n2 := tmod_rng d2.1 (show (0 : Int) < 2 by omega)
  unfold law18_One
  rw [wrap8_id d2, w64_id (x := c.tmod 2) (by omega) (by omega), w64_id (x := (c.tdiv 2).tmod 2) (by omega) (by omega), w64_id (x := c.tmod 2 * 2) (by omega) (by omega), w64_id (x := (c.tdiv 2).tmod 2 * 2) (by omega) (by omega), w64_id (x := c) (by omega) (by omega)]
  generalize c.tmod 2 = p at *
  generalize (c.tdiv 2).tmod 2 = q at *
  generalize d.tmod 3 = z at *
  generalize (IntKind.wrap .u8 (d.tdiv 3)).tmod 2 = y at *
  have key : ∀ u v : Arc, (0 ≤ u.src ∧ u.src < 3 ∧ 0 ≤ u.dst ∧ u.dst < 3) → (0 ≤ v.src ∧ v.src < 3 ∧ 0 ≤ v.dst ∧ v.dst < 3) → Tame u → Tame v →
      ∃ i, (if [u, v].length + [(⟨p * 2, q * 2, 0, 4611686018427387904, c⟩ : Arc)].length ≤ lim then (lt ([u, v] ++ [(⟨p * 2, q * 2, 0, 4611686018427387904, c⟩ : Arc)]) fun xs1 => if xs1.length + [(⟨2, 0, 0, 40, 1⟩ : Arc), ⟨0, 2, 0, 40, 1⟩].length ≤ lim then (lt (xs1 ++ [(⟨2, 0, 0, 40, 1⟩ : Arc), ⟨0, 2, 0, 40, 1⟩]) fun xs2 => some (Inst.mk [t, s, w64 (w64 (0 - t) - s)] xs2)) else none) else none) = some i ∧ Small i := fun u v hu hv tu tv => by
    rw [if_pos (by simp [lim])]
    simp only [lt_eq]
    rw [if_pos (by simp [lim])]
    exact ⟨_, rfl, small_five hs ht hu hv ⟨by dsimp only; omega, by dsimp only; omega, by dsimp only; omega, by dsimp only; omega⟩ tu tv ⟨rfl, rfl, hc.1, hc.2⟩⟩
  have tm : ∀ (x : Arc) (f g : Int), Tame x → Tame ⟨f, g, x.low, x.cap, x.cost⟩ := fun x f g h => ⟨h.low, h.cap, h.cost⟩
  by_cases h1 : z = 1 <;> by_cases h2 : z = 2 <;> by_cases h3 : y = 1 <;> simp only [h1, h2, h3, if_true, if_false] <;> first | omega | skip
  all_goals (refine (key _ _ ?_ ?_ ?_ ?_) <;> first | exact tm _ _ _ ta | exact tm _ _ _ tb | simp)
theorem both_eq {i : Inst} (hs : Small i) {series : Bool} {n a b : Nat} {q : Spot × Pair × Bool} (h : SpotOk series i n a b q) {f : Int} (hf : -100000000 ≤ f ∧ f ≤ 100000000) : law18_both i q.1 series f = some (bothOf series (arcAt i.arcs a) n (gt i.supply n) f) := by
  have hsn := hs.sup _ (gt_mem h.two.hn)
  rw [h.is]
  unfold law18_both bothOf
  dsimp only
  rw [if_pos (rng_of h.two.hn), if_pos (rng_of h.two.ha), gt_arc]
  cases series with
  | true => simp only [if_true]; rw [w64_id (by omega) (by omega)]
  | false =>
    simp only [if_false, Bool.false_eq_true]
    split
    · rw [w64_id (x := 0 - gt i.supply n) (by omega) (by omega), w64_id (by omega) (by omega)]; congr 1; omega
    · rw [w64_id (by omega) (by omega)]
/-- what is done at the first node that fits -/
theorem done_at {i : Inst} (hs : Small i) {series : Bool} {n : Nat} (hf : firstOf series i n) : ∃ a b, SpotOk series i n a b (spotAt series i n) ∧ law18_step i series = some ((doneAt series i n).1, (spotAt series i n).1, true) ∧
    (doneAt series i n).1.inst = leftOf i n b (standOf series (arcAt i.arcs a) (arcAt i.arcs b) n (gt i.supply n)) ∧ (doneAt series i n).1.did = true ∧ (doneAt series i n).1.off = timesOf (moreOf series (arcAt i.arcs a) n (gt i.supply n)) (arcAt i.arcs b).cost ∧ RightI (leftOf i n b (standOf series (arcAt i.arcs a) (arcAt i.arcs b) n (gt i.supply n))) := by
  have hR := hs.right
  obtain ⟨a, b, hq⟩ := spotAt_ok hR.whole hf.1 hf.2.1
  have hLR := hq.right hs _ rfl
  have hsp := hq.is
  have hb : (spotAt series i n).1.b.toNat = b := by rw [hsp]; simp
  have hnew : (spotAt series i n).1.new = standOf series (arcAt i.arcs a) (arcAt i.arcs b) n (gt i.supply n) := by rw [hsp]
  have hl0 : rightOf (leftOf i n (spotAt series i n).1.b.toNat (spotAt series i n).1.new) = 0 := by rw [hb, hnew]; exact rightOf_zero.2 hLR
  refine ⟨a, b, hq, step_first hR hf hl0, ?_⟩
  unfold doneAt
  rw [if_neg (fun h => h hl0)]
  dsimp only
  rw [hb, hnew, hsp]
  exact ⟨rfl, rfl, rfl, hLR⟩
theorem known_t : law18_known = some true := by kernel_rfl
theorem gt_map_range {m k : Nat} (f : Nat → Int) (h : k < m) : gt ((List.range m).map f) (k : Int) = f k := by
  rw [gt_get (by simpa using h)]; simp
theorem upd_map_range {m k : Nat} (f g : Nat → Int) {y : Int} (h : k < m) (hy : g k = y) (hg : ∀ j, j ≠ k → g j = f j) : upd ((List.range m).map f) (k : Int) y = (List.range m).map g := by
  rw [upd_nat]
  apply List.ext_getElem (by simp)
  intro j h1 h2
  rw [List.getElem_set]
  by_cases hj : k = j
  · subst hj; simp [hy]
  · rw [if_neg hj]; simp [hg j (fun e => hj e.symm)]
theorem behind_to (x : List Int) (m a b j : Nat) : ((List.range (j + 1)).filter fun k => decide (k ≠ a ∧ k ≠ b)).map (fun k : Nat => gt x (k : Int)) = ((List.range j).filter fun k => decide (k ≠ a ∧ k ≠ b)).map (fun k : Nat => gt x (k : Int)) ++ (if j ≠ a ∧ j ≠ b then [gt x (j : Int)] else []) := by
  rw [List.range_succ, List.filter_append, List.map_append]
  by_cases h : j ≠ a ∧ j ≠ b
  · rw [if_pos h, List.filter_cons_of_pos (by simpa using h)]; rfl
  · rw [if_neg h, List.filter_cons_of_neg (by simpa using h)]; rfl
theorem node_true {d s t c : Int} {a b : Arc} {x : List Int} (hc : 0 ≤ c ∧ c ≤ 255) : law18_TwoNode d a b s t c x = some true := by
  obtain ⟨A, hA, tA⟩ := tame_ok a
  obtain ⟨B, hB, tB⟩ := tame_ok b
  obtain ⟨i, hi, hs⟩ := one_ok (d := d) (tmod_any s (show (0 : Int) < 2000 by omega)) (tmod_any t (show (0 : Int) < 2000 by omega)) hc tA tB
  have hR := hs.right
  have hm := hR.many
  unfold law18_TwoNode
  rw [hA, Option.bind_some, hB, Option.bind_some, hi, Option.bind_some]
  generalize hser : (decide (d.tmod 3 = 0)) = series
  generalize hyv : (fun k : Nat => if k < x.length then w64 ((gt i.arcs (k : Int)).low + (gt x (k : Int)).tmod 100) else (gt i.arcs (k : Int)).low) = yv
  have hyr : ∀ k, k < i.arcs.length → -2000000 ≤ yv k ∧ yv k ≤ 2000000 := fun k hk => by
    rw [← hyv]
    have h1 := hR.arcs _ (gt_mem hk)
    have h2 := hs.low _ (gt_mem hk)
    have h3 := tmod_any (gt x (k : Int)) (show (0 : Int) < 100 by omega)
    have h4 := h1.low0
    dsimp only
    split
    · rw [w64_id (by omega) (by omega)]; omega
    · omega
  have fill : ∀ (r4 : Step × Spot × Bool), r4.2.2 = true → (r4.1.did = false ∨ ∃ n a b, SpotOk series i n a b (r4.2.1, ⟨arcAt i.arcs a, arcAt i.arcs b, n, gt i.supply n⟩, true) ∧ r4.1.did = true ∧ r4.1.inst = leftOf i n b (standOf series (arcAt i.arcs a) (arcAt i.arcs b) n (gt i.supply n))) →
      lp (law18_TwoNode_b1 d x i r4) big (0, List.replicate i.arcs.length 0) = some true := fun r4 h4 hd => by
    refine lp_eq (fun j => ((j : Int), (List.range i.arcs.length).map fun k => if k < j then yv k else 0)) i.arcs.length ?_ (by omega) (fun k j hj => ?_) (fun k => ?_)
    · refine Prod.ext rfl ?_
      apply List.ext_getElem (by simp)
      intro k h1 h2
      simp
    · unfold law18_TwoNode_b1
      dsimp only
      have hjl : (j : Int) < (((List.range i.arcs.length).map fun k => if k < j then yv k else 0).length : Int) := by simp; omega
      rw [if_pos hjl, if_pos (rng_of hj), if_pos ⟨by omega, hjl⟩]
      simp only [lt_eq, upd_upd, upd_len]
      have e0 : ∀ y, gt (upd ((List.range i.arcs.length).map fun k => if k < j then yv k else 0) (j : Int) y) (j : Int) = y := fun y => gt_upd ⟨by omega, hjl⟩
      have e1 : ∀ y, y = yv j → upd ((List.range i.arcs.length).map fun k => if k < j then yv k else 0) (j : Int) y = (List.range i.arcs.length).map fun k => if k < j + 1 then yv k else 0 := fun y hy => upd_map_range _ _ hj (by rw [if_pos (by omega), hy]) fun k hk => by
        by_cases h : k < j
        · rw [if_pos h, if_pos (by omega)]
        · rw [if_neg h, if_neg (by omega)]
      by_cases h1 : (j : Int) < x.length
      · rw [if_pos h1, if_pos ⟨by omega, hjl⟩, if_pos ⟨by omega, h1⟩, e0, w64_succ (by omega), e1 _ (by rw [← hyv]; dsimp only; rw [if_pos (by omega)])]
      · rw [if_neg h1, w64_succ (by omega), e1 _ (by rw [← hyv]; dsimp only; rw [if_neg (by omega)])]
    · unfold law18_TwoNode_b1
      dsimp only
      have hfull : ((List.range i.arcs.length).map fun k => if k < i.arcs.length then yv k else 0) = (List.range i.arcs.length).map yv := List.map_congr_left fun k hk => if_pos (List.mem_range.1 hk)
      rw [if_neg (by simp), hfull]
      rcases hd with hd | ⟨n, a, b, hq, hd, hinst⟩
      · rw [hd, if_neg (by simp), known_t, Option.bind_some]
      · have hsp := hq.is
        have hsp1 := (Prod.mk.inj hsp).1
        have hna : r4.2.1.a = (a : Int) := by rw [hsp1]
        have hnb : r4.2.1.b = (b : Int) := by rw [hsp1]
        have hya := hyr a hq.two.ha
        have hbo := both_eq hs hq (f := yv a) (by omega)
        dsimp only at hbo
        rw [hd, if_pos rfl, hna, hnb, if_pos (by have := hq.two.ha; simp; omega), hser, gt_map_range yv hq.two.ha, hbo, Option.bind_some, if_pos (by have := hq.two.hb; simp; omega)]
        simp only [lt_eq]
        generalize hX : upd ((List.range i.arcs.length).map yv) (b : Int) (bothOf series (arcAt i.arcs a) n (gt i.supply n) (yv a)) = X
        have hXl : X.length = i.arcs.length := by rw [← hX, upd_len]; simp
        have hXb : gt X (b : Int) = bothOf series (arcAt i.arcs a) n (gt i.supply n) (yv a) := by rw [← hX]; exact gt_upd (by have := hq.two.hb; simp; omega)
        have hXa : gt X (a : Int) = yv a := by rw [← hX, gt_upd_ne (by have := hq.two.ne; omega) (by omega) (by omega), gt_map_range yv hq.two.ha]
        have hsn := hs.sup _ (gt_mem hq.two.hn)
        have hXr : ∀ v ∈ X, -10000000 ≤ v ∧ v ≤ 10000000 := fun v hv => by
          rw [← hX] at hv
          rcases mem_upd hv with h1 | h1
          · obtain ⟨k, hk, rfl⟩ := List.mem_map.1 h1
            have := hyr k (List.mem_range.1 hk)
            omega
          · rw [h1]; unfold bothOf
            split
            · omega
            · split <;> omega
        have hbl : ∀ j, j ≤ i.arcs.length → (((List.range j).filter fun k => decide (k ≠ a ∧ k ≠ b)).map (fun k : Nat => gt X (k : Int))).length ≤ i.arcs.length := fun j hj => by
          rw [List.length_map]
          exact Nat.le_trans (List.length_filter_le _ _) (by simpa using hj)
        refine lp_eq (fun j => ((j : Int), ((List.range j).filter fun k => decide (k ≠ a ∧ k ≠ b)).map (fun k : Nat => gt X (k : Int)))) X.length rfl (by omega) (fun k j hj => ?_) (fun k => ?_)
        · unfold law18_TwoNode_b2
          dsimp only
          rw [if_pos (rng_of hj).2, hna, hnb, behind_to X X.length a b j, w64_succ (by omega)]
          by_cases h1 : j = a
          · rw [if_neg (by omega), if_neg (by omega), List.append_nil]
          · rw [if_pos (by omega)]
            by_cases h2 : j = b
            · rw [if_neg (by omega), if_neg (by omega), List.append_nil]
            · rw [if_pos (by omega), if_pos (rng_of hj), if_pos (by have := hbl j (by omega); simp only [List.length_singleton, lim]; omega), if_pos ⟨h1, h2⟩]
              rfl
        · unfold law18_TwoNode_b2
          dsimp only
          rw [if_neg (by omega), hna, if_pos (by have := hq.two.ha; omega), if_pos (by have := hbl X.length (by omega); simp only [List.length_singleton, lim]; omega)]
          simp only [lt_eq]
          rw [known_t, Option.bind_some, if_pos rfl]
          have hbe : ((List.range X.length).filter fun k => decide (k ≠ a ∧ k ≠ b)).map (fun k : Nat => gt X (k : Int)) ++ [gt X (a : Int)] = behindOf X i.arcs.length a b := by rw [hXl]; rfl
          rw [hbe, hinst]
          obtain ⟨e1, h1, h2⟩ := flow_Fits_eq (i := i) (x := X) (fun v hv => by have := hXr v hv; exact ⟨by omega, by omega⟩)
          obtain ⟨e2, h3, h4⟩ := flow_Fits_eq (i := leftOf i n b (standOf series (arcAt i.arcs a) (arcAt i.arcs b) n (gt i.supply n))) (x := behindOf X i.arcs.length a b) (fun v hv => by
            have : v ∈ X := by
              unfold behindOf at hv
              rcases List.mem_append.1 hv with h1 | h1
              · obtain ⟨k, hk, rfl⟩ := List.mem_map.1 h1
                exact gt_mem (by have := (restOf_mem.1 hk).1; omega)
              · simp only [List.mem_singleton] at h1
                rw [h1]; exact gt_mem (by have := hq.two.ha; omega)
            have := hXr v this
            exact ⟨by omega, by omega⟩)
          rw [h1, Option.bind_some, h3, Option.bind_some]
          have hiff := fits_two hq hs _ rfl hXl (by rw [hXa]; omega) (by rw [hXb, hXa])
          have : (e1 = 0) ↔ (e2 = 0) := h2.trans (hiff.trans h4.symm)
          by_cases h5 : e1 = 0
          · have h6 := this.1 h5
            simp [h5, h6]
          · have h6 : ¬ e2 = 0 := fun e => h5 (this.2 e)
            simp [h5, h6]
  have hlen : (List.replicate (i.arcs.length : Int).toNat (0 : Int)) = List.replicate i.arcs.length 0 := by simp
  rcases first_or series i with ⟨n, hf⟩ | hn
  · obtain ⟨a, b, hq, hst, h1, h2, h3, h4⟩ := done_at hs hf
    rw [hst, Option.bind_some]
    dsimp only
    rw [if_pos rfl, if_pos ⟨by omega, by simp only [lim]; omega⟩, hlen]
    refine fill _ rfl (.inr ⟨n, a, b, ⟨hq.two, hq.lies, hq.low, ?_⟩, h2, h1⟩)
    rw [hq.is]
  · rw [step_none hR hn, Option.bind_some]
    dsimp only
    rw [if_pos rfl, if_pos ⟨by omega, by simp only [lim]; omega⟩, hlen]
    exact fill _ rfl (.inl rfl)
end Go.Proofs.Ytpnohbdfgmjdbaa
