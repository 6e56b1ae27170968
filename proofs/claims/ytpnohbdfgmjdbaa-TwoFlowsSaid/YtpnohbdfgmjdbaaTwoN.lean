/- Plain: TwoNode, TwoFlows. -/
import Derived.Test.YtpnohbdfgmjdbaaTh8
import Derived.Test.YtpnohbdfgmjdbaaTwoL
namespace Go.Proofs.Ytpnohbdfgmjdbaa
open Go.RowKit Go.Qe
structure Tame (a : Arc) : Prop where
  low : 0 ≤ a.low ∧ a.low ≤ 999
  cap : a.cap = 4611686018427387904 ∨ a.low ≤ a.cap ∧ a.cap ≤ a.low + 999
  cost : -999 ≤ a.cost ∧ a.cost ≤ 999
theorem tmod_any (x : Int) {m : Int} (hm : 0 < m) : -m < x.tmod m ∧ x.tmod m < m := ⟨Int.lt_tmod_of_pos x hm, Int.tmod_lt_of_pos x hm⟩
theorem tame_ok (a : Arc) : ∃ r, law18_tame a = some r ∧ Tame r := by
  have e1 := tmod_any a.low (show (0 : Int) < 1000 by omega)
  have e3 := tmod_any a.cap (show (0 : Int) < 1000 by omega)
  have e5 := tmod_any a.cost (show (0 : Int) < 1000 by omega)
  have w1 : w64 (0 - a.low.tmod 1000) = 0 - a.low.tmod 1000 := w64_id (by omega) (by omega)
  have w2 : w64 (0 - a.cap.tmod 1000) = 0 - a.cap.tmod 1000 := w64_id (by omega) (by omega)
  unfold law18_tame
  simp only [w1, w2]
  generalize a.low.tmod 1000 = x at *
  generalize a.cap.tmod 1000 = y at *
  generalize a.cap.tmod 5 = z at *
  generalize a.cost.tmod 1000 = u at *
  have w3 : ∀ u : Int, 0 ≤ u → u ≤ 999 → w64 (u + if 0 - y > y then 0 - y else y) = u + if 0 - y > y then 0 - y else y := fun u h1 h2 => by split <;> exact w64_id (by omega) (by omega)
  split
  · rw [w3 _ (by omega) (by omega)]
    split
    · exact ⟨_, rfl, by dsimp only; omega, .inl rfl, by dsimp only; omega⟩
    · exact ⟨_, rfl, by dsimp only; omega, .inr (by dsimp only; split <;> omega), by dsimp only; omega⟩
  · rw [w3 _ (by omega) (by omega)]
    split
    · exact ⟨_, rfl, by dsimp only; omega, .inl rfl, by dsimp only; omega⟩
    · exact ⟨_, rfl, by dsimp only; omega, .inr (by dsimp only; split <;> omega), by dsimp only; omega⟩
theorem small_five {u v w : Arc} {s t : Int} (hs : -2000 < s ∧ s < 2000) (ht : -2000 < t ∧ t < 2000) (hu : 0 ≤ u.src ∧ u.src < 3 ∧ 0 ≤ u.dst ∧ u.dst < 3) (hv : 0 ≤ v.src ∧ v.src < 3 ∧ 0 ≤ v.dst ∧ v.dst < 3) (hw : 0 ≤ w.src ∧ w.src < 3 ∧ 0 ≤ w.dst ∧ w.dst < 3)
    (tu : Tame u) (tv : Tame v) (tw : w.low = 0 ∧ w.cap = 4611686018427387904 ∧ 0 ≤ w.cost ∧ w.cost ≤ 255) : Small ⟨[t, s, w64 (w64 (0 - t) - s)], [u, v] ++ [w] ++ [⟨2, 0, 0, 40, 1⟩, ⟨0, 2, 0, 40, 1⟩]⟩ := by
  have e1 : w64 (0 - t) = -t := by rw [w64_id (by omega) (by omega)]; omega
  have e2 : w64 (-t - s) = -t - s := w64_id (by omega) (by omega)
  rw [e1, e2]
  obtain ⟨u1, u2, u3⟩ := tu
  obtain ⟨v1, v2, v3⟩ := tv
  obtain ⟨w1, w2, w3⟩ := tw
  have hin : ∀ a ∈ ([u, v] ++ [w] ++ [⟨2, 0, 0, 40, 1⟩, ⟨0, 2, 0, 40, 1⟩] : List Arc), a = u ∨ a = v ∨ a = w ∨ a = ⟨2, 0, 0, 40, 1⟩ ∨ a = ⟨0, 2, 0, 40, 1⟩ := fun a ha => by simpa using ha
  have hsu : ∀ x ∈ ([t, s, -t - s] : List Int), x = t ∨ x = s ∨ x = -t - s := fun x hx => by simpa using hx
  refine ⟨⟨by simp, by simp, fun a ha => ?_, fun x hx => ?_, by simp; omega⟩, fun a ha => ?_, fun x hx => ?_⟩
  · rcases hin a ha with rfl | rfl | rfl | rfl | rfl
    · exact ⟨hu.1, hu.2.1, hu.2.2.1, hu.2.2.2, u1.1, by omega, by omega, by omega, by omega⟩
    · exact ⟨hv.1, hv.2.1, hv.2.2.1, hv.2.2.2, v1.1, by omega, by omega, by omega, by omega⟩
    · exact ⟨hw.1, hw.2.1, hw.2.2.1, hw.2.2.2, by omega, by omega, by omega, by omega, by omega⟩
    · exact ⟨by simp, by simp, by simp, by simp, by simp, by simp, .inr (by simp), by simp, by simp⟩
    · exact ⟨by simp, by simp, by simp, by simp, by simp, by simp, .inr (by simp), by simp, by simp⟩
  · rcases hsu x hx with rfl | rfl | rfl <;> omega
  · rcases hin a ha with rfl | rfl | rfl | rfl | rfl
    · exact ⟨by omega, by omega, by omega, by omega⟩
    · exact ⟨by omega, by omega, by omega, by omega⟩
    · exact ⟨by omega, by omega, by omega, by omega⟩
    · exact ⟨by decide, .inr (by decide), by decide, by decide⟩
    · exact ⟨by decide, .inr (by decide), by decide, by decide⟩
  · rcases hsu x hx with rfl | rfl | rfl <;> omega
theorem one_ok {d s t c : Int} {a b : Arc} (hs : -2000 < s ∧ s < 2000) (ht : -2000 < t ∧ t < 2000) (hc : 0 ≤ c ∧ c ≤ 255) (ta : Tame a) (tb : Tame b) : ∃ i, law18_One d a b s t c = some i ∧ Small i := by
  have m2 := tmod_rng hc.1 (show (0 : Int) < 2 by omega)
  have d2 := tdiv_rng hc (show (0 : Int) < 2 by omega)
  have n2 := tmod_rng d2.1 (show (0 : Int) < 2 by omega)
  unfold law18_One
  rw [wrap8_id d2, w64_id (x := c.tmod 2) (by omega) (by omega), w64_id (x := (c.tdiv 2).tmod 2) (by omega) (by omega), w64_id (x := c.tmod 2 * 2) (by omega) (by omega), w64_id (x := (c.tdiv 2).tmod 2 * 2) (by omega) (by omega), w64_id (x := c) (by omega) (by omega)]
  generalize c.tmod 2 = p at *
  generalize (c.tdiv 2).tmod 2 = q at *
  generalize d.tmod 3 = z at *
  generalize (IntKind.wrap .u8 (d.tdiv 3)).tmod 2 = y at *
  have key : ∀ u v : Arc, (0 ≤ u.src ∧ u.src < 3 ∧ 0 ≤ u.dst ∧ u.dst < 3) → (0 ≤ v.src ∧ v.src < 3 ∧ 0 ≤ v.dst ∧ v.dst < 3) → Tame u → Tame v →
      ∃ i, (if [u, v].length + [(⟨p * 2, q * 2, 0, 4611686018427387904, c⟩ : Arc)].length ≤ lim then (lt ([u, v] ++ [(⟨p * 2, q * 2, 0, 4611686018427387904, c⟩ : Arc)]) fun xs1 => if xs1.length + [(⟨2, 0, 0, 40, 1⟩ : Arc), ⟨0, 2, 0, 40, 1⟩].length ≤ lim then (lt (xs1 ++ [(⟨2, 0, 0, 40, 1⟩ : Arc), ⟨0, 2, 0, 40, 1⟩]) fun xs2 => some (Inst.mk [t, s, w64 (w64 (0 - t) - s)] xs2)) else none) else none) = some i ∧ Small i := fun u v hu hv tu tv => by
    rw [if_pos (by simp [lim])]
    simp only [lt_eq]
    rw [if_pos (by simp [lim])]
    exact ⟨_, rfl, small_five hs ht hu hv ⟨by dsimp only; omega, by dsimp only; omega, by dsimp only; omega, by dsimp only; omega⟩ tu tv ⟨rfl, rfl, hc.1, hc.2⟩⟩
  have tm : ∀ (x : Arc) (f g : Int), Tame x → Tame ⟨f, g, x.low, x.cap, x.cost⟩ := fun x f g h => ⟨h.low, h.cap, h.cost⟩
  by_cases h1 : z = 1 <;> by_cases h2 : z = 2 <;> by_cases h3 : y = 1 <;> simp only [h1, h2, h3, if_true, if_false] <;> first | omega | skip
  all_goals (refine (key _ _ ?_ ?_ ?_ ?_) <;> first | exact tm _ _ _ ta | exact tm _ _ _ tb | simp)
theorem both_eq {i : Inst} (hs : Small i) {series : Bool} {n a b : Nat} {q : Spot × Pair × Bool} (h : SpotOk series i n a b q) {f : Int} (hf : -100000000 ≤ f ∧ f ≤ 100000000) : law18_both i q.1 series f = some (bothOf series (arcAt i.arcs a) n (gt i.supply n) f) := by
  have hsn := hs.sup _ (gt_mem h.two.hn)
  rw [h.is]
  unfold law18_both bothOf
  dsimp only
  rw [if_pos (rng_of h.two.hn), if_pos (rng_of h.two.ha), gt_arc]
  cases series with
  | true => simp only [if_true]; rw [w64_id (by omega) (by omega)]
  | false =>
    simp only [if_false, Bool.false_eq_true]
    split
    · rw [w64_id (x := 0 - gt i.supply n) (by omega) (by omega), w64_id (by omega) (by omega)]; congr 1; omega
    · rw [w64_id (by omega) (by omega)]
/-- what is done at the first node that fits -/
theorem done_at {i : Inst} (hs : Small i) {series : Bool} {n : Nat} (hf : firstOf series i n) : ∃ a b, SpotOk series i n a b (spotAt series i n) ∧ law18_step i series = some ((doneAt series i n).1, (spotAt series i n).1, true) ∧
    (doneAt series i n).1.inst = leftOf i n b (standOf series (arcAt i.arcs a) (arcAt i.arcs b) n (gt i.supply n)) ∧ (doneAt series i n).1.did = true ∧ (doneAt series i n).1.off = timesOf (moreOf series (arcAt i.arcs a) n (gt i.supply n)) (arcAt i.arcs b).cost ∧ RightI (leftOf i n b (standOf series (arcAt i.arcs a) (arcAt i.arcs b) n (gt i.supply n))) := by
  have hR := hs.right
  obtain ⟨a, b, hq⟩ := spotAt_ok hR.whole hf.1 hf.2.1
  have hLR := hq.right hs _ rfl
  have hsp := hq.is
  have hb : (spotAt series i n).1.b.toNat = b := by rw [hsp]; simp
  have hnew : (spotAt series i n).1.new = standOf series (arcAt i.arcs a) (arcAt i.arcs b) n (gt i.supply n) := by rw [hsp]
  have hl0 : rightOf (leftOf i n (spotAt series i n).1.b.toNat (spotAt series i n).1.new) = 0 := by rw [hb, hnew]; exact rightOf_zero.2 hLR
  refine ⟨a, b, hq, step_first hR hf hl0, ?_⟩
  unfold doneAt
  rw [if_neg (fun h => h hl0)]
  dsimp only
  rw [hb, hnew, hsp]
  exact ⟨rfl, rfl, rfl, hLR⟩
theorem known_t : law18_known = some true := by kernel_rfl
theorem gt_map_range {m k : Nat} (f : Nat → Int) (h : k < m) : gt ((List.range m).map f) (k : Int) = f k := by
  rw [gt_get (by simpa using h)]; simp
theorem upd_map_range {m k : Nat} (f g : Nat → Int) {y : Int} (h : k < m) (hy : g k = y) (hg : ∀ j, j ≠ k → g j = f j) : upd ((List.range m).map f) (k : Int) y = (List.range m).map g := by
  rw [upd_nat]
  apply List.ext_getElem (by simp)
  intro j h1 h2
  rw [List.getElem_set]
  by_cases hj : k = j
  · subst hj; simp [hy]
  · rw [if_neg hj]; simp [hg j (fun e => hj e.symm)]
def restTo (a b j : Nat) : List Nat := (List.range j).filter fun k => decide (k ≠ a ∧ k ≠ b)
theorem restTo_succ (a b j : Nat) : restTo a b (j + 1) = restTo a b j ++ (if j ≠ a ∧ j ≠ b then [j] else []) := by
  unfold restTo
  rw [List.range_succ, List.filter_append]
  by_cases h : j ≠ a ∧ j ≠ b
  · rw [if_pos h, List.filter_cons_of_pos (by simpa using h)]; rfl
  · rw [if_neg h, List.filter_cons_of_neg (by simpa using h)]; rfl
theorem restTo_lt {a b j k : Nat} (h : k ∈ restTo a b j) : k < j ∧ k ≠ a ∧ k ≠ b := by simpa [restTo] using h
theorem restTo_le (a b : Nat) {j m : Nat} (h : j ≤ m) : (restTo a b j).length ≤ (restTo a b m).length := by
  obtain ⟨d, rfl⟩ : ∃ d, m = j + d := ⟨m - j, by omega⟩
  clear h
  induction d with
  | zero => exact Nat.le_refl _
  | succ d ih =>
    rw [show j + (d + 1) = (j + d) + 1 by omega, restTo_succ, List.length_append]
    omega
theorem flows_true {d s t c : Int} {a b : Arc} {x : List Int} (hc : 0 ≤ c ∧ c ≤ 255) : law18_TwoFlows d a b s t c x = some true := by
  obtain ⟨A, hA, tA⟩ := tame_ok a
  obtain ⟨B, hB, tB⟩ := tame_ok b
  obtain ⟨i, hi, hs⟩ := one_ok (d := d) (tmod_any s (show (0 : Int) < 2000 by omega)) (tmod_any t (show (0 : Int) < 2000 by omega)) hc tA tB
  have hR := hs.right
  have hm := hR.many
  unfold law18_TwoFlows
  rw [hA, Option.bind_some, hB, Option.bind_some, hi, Option.bind_some]
  generalize hser : (decide (d.tmod 3 = 0)) = series
  rcases first_or series i with ⟨n, hf⟩ | hn
  · obtain ⟨a, b, hq, hst, hinst, hdid, hoff, hLR⟩ := done_at hs hf
    have hL := hq.left hR.whole _ rfl
    have hla := left_arcs hq hR.whole _ rfl
    have hsm := hq.small hs
    generalize hr : standOf series (arcAt i.arcs a) (arcAt i.arcs b) n (gt i.supply n) = r at *
    generalize hl : leftOf i n b r = l at *
    have hma := hq.two.ha
    have hmb := hq.two.hb
    have hne := hq.two.ne
    have hll : l.arcs.length = i.arcs.length - 1 := hL.arcs
    have hrest : (restTo a b i.arcs.length).length = i.arcs.length - 2 := by
      have := congrArg List.length hla
      rw [hll] at this
      simp only [List.length_append, List.length_map, List.length_singleton] at this
      have e : restTo a b i.arcs.length = restOf i.arcs.length a b := rfl
      rw [e]; omega
    rw [hst, Option.bind_some]
    dsimp only
    rw [if_pos rfl, hdid, if_pos rfl, hinst, if_neg (by omega)]
    -- what flows behind the pass
    generalize hyv : (fun k : Nat => if k < x.length then w64 ((gt l.arcs (k : Int)).low + (gt x (k : Int)).tmod 2000) else (gt l.arcs (k : Int)).low) = yv
    have hlow : ∀ k, k < l.arcs.length → 0 ≤ (gt l.arcs (k : Int)).low ∧ (gt l.arcs (k : Int)).low ≤ 4000000 := fun k hk => by
      have hg := gt_mem hk
      rw [hla] at hg
      have hg' : gt l.arcs (k : Int) ∈ (restOf i.arcs.length a b).map (fun k => renK (keptL (offOf i n) i.supply.length) (arcAt i.arcs k)) ++ [renK (keptL (offOf i n) i.supply.length) r] := by rw [← hla]; exact gt_mem hk
      rcases List.mem_append.1 hg' with h1 | h1
      · obtain ⟨j, hj, he⟩ := List.mem_map.1 h1
        have hj' := (restOf_mem.1 hj).1
        have g1 := hR.arcs _ (arcAt_mem hj')
        have g2 := hs.low _ (arcAt_mem hj')
        have g3 := g1.low0
        rw [← he]
        show 0 ≤ (arcAt i.arcs j).low ∧ (arcAt i.arcs j).low ≤ 4000000
        omega
      · simp only [List.mem_singleton] at h1
        rw [h1]
        show 0 ≤ r.low ∧ r.low ≤ 4000000
        exact ⟨hsm.1, hsm.2.1⟩
    have hyr : ∀ k, k < l.arcs.length → -5000000 ≤ yv k ∧ yv k ≤ 5000000 := fun k hk => by
      rw [← hyv]
      have h1 := hlow k hk
      have h3 := tmod_any (gt x (k : Int)) (show (0 : Int) < 2000 by omega)
      dsimp only
      split
      · rw [w64_id (by omega) (by omega)]; omega
      · omega
    refine lp_eq (fun j => ((j : Int), (List.range j).map yv)) l.arcs.length rfl (by omega) (fun k j hj => ?_) (fun k => ?_)
    · unfold law18_TwoFlows_b1
      dsimp only
      rw [hinst, if_pos (rng_of hj).2, if_pos (rng_of hj), w64_succ (by omega), List.range_succ, List.map_append]
      by_cases h1 : (j : Int) < x.length
      · rw [if_pos h1, if_pos ⟨by omega, h1⟩, if_pos (by simp [lim]; omega)]
        simp only [lt_eq, List.map_cons, List.map_nil]
        rw [← hyv]; dsimp only; rw [if_pos (show j < x.length by omega)]
      · rw [if_neg h1, if_pos (by simp [lim]; omega)]
        simp only [lt_eq, List.map_cons, List.map_nil]
        rw [← hyv]; dsimp only; rw [if_neg (show ¬ j < x.length by omega)]
    · unfold law18_TwoFlows_b1
      dsimp only
      rw [hinst, if_neg (by omega), if_pos ⟨by omega, by simp only [lim]; omega⟩]
      generalize hY : (List.range l.arcs.length).map yv = Y
      have hYl : Y.length = i.arcs.length - 1 := by rw [← hY]; simp [hll]
      have hYr : ∀ v ∈ Y, -5000000 ≤ v ∧ v ≤ 5000000 := fun v hv => by
        rw [← hY] at hv
        obtain ⟨k, hk, rfl⟩ := List.mem_map.1 hv
        exact hyr k (List.mem_range.1 hk)
      have hwl : w64 ((Y.length : Int) - 1) = ((i.arcs.length - 2 : Nat) : Int) := by rw [w64_id (by omega) (by omega)]; omega
      have hsp := hq.is
      have hna : (spotAt series i n).1.a = (a : Int) := by rw [hsp]
      have hnb : (spotAt series i n).1.b = (b : Int) := by rw [hsp]
      -- flows ahead of the pass
      refine lp_inv (T := (· = some true)) i.arcs.length (by omega) (fun j (z : Int × Int × List Int) => z.2.1 = (j : Int) ∧ z.1 = ((restTo a b j).length : Int) ∧ z.2.2.length = i.arcs.length ∧ (restTo a b j).map (fun k : Nat => gt z.2.2 (k : Int)) = Y.take (restTo a b j).length ∧ ∀ v ∈ z.2.2, -5000000 ≤ v ∧ v ≤ 5000000) 0 ⟨rfl, rfl, by simp, rfl, fun v hv => by rw [List.eq_of_mem_replicate hv]; omega⟩ (by omega) fun k j z hj hI hk => ?_
      obtain ⟨z1, z2, xs⟩ := z
      obtain ⟨h1, h2, h3, h4, h5⟩ := hI
      dsimp only at h1 h2 h3 h4 h5
      subst h1 h2
      have hle := restTo_le a b hj
      unfold law18_TwoFlows_b2
      dsimp only
      rw [hna, hnb]
      by_cases hjl : j < i.arcs.length
      · rw [if_pos (by omega), w64_succ (show j < _ by omega)]
        have hsucc := restTo_succ a b j
        by_cases ha : j = a
        · rw [if_neg (by omega)]
          rw [if_neg (by omega), List.append_nil] at hsucc
          exact hk hjl _ ⟨rfl, by rw [hsucc], h3, by rw [hsucc]; exact h4, h5⟩
        · rw [if_pos (by omega)]
          by_cases hb : j = b
          · rw [if_neg (by omega)]
            rw [if_neg (by omega), List.append_nil] at hsucc
            exact hk hjl _ ⟨rfl, by rw [hsucc], h3, by rw [hsucc]; exact h4, h5⟩
          · rw [if_pos ⟨ha, hb⟩] at hsucc
            have hle2 := restTo_le a b (show j + 1 ≤ i.arcs.length by omega)
            rw [hsucc, List.length_append, List.length_singleton] at hle2
            have hcl : (restTo a b j).length < Y.length := by omega
            rw [if_pos (by omega), if_pos (rng_of hcl).2, if_pos (rng_of hcl), if_pos ⟨by omega, by omega⟩, w64_succ (show (restTo a b j).length < _ by omega)]
            simp only [lt_eq]
            refine hk hjl _ ⟨rfl, by rw [hsucc]; simp, by rw [upd_len]; exact h3, ?_, fun v hv => ?_⟩
            · dsimp only
              rw [hsucc, List.map_append, List.length_append, List.length_singleton, List.take_add_one, List.getElem?_eq_getElem hcl, Option.toList_some, ← h4]
              congr 1
              · refine List.map_congr_left fun q hq2 => gt_upd_ne (by have := (restTo_lt hq2).1; omega) (by omega) (by omega)
              · rw [List.map_cons, List.map_nil, gt_upd ⟨by omega, by omega⟩, gt_get hcl]
            · rcases mem_upd hv with h6 | h6
              · exact h5 v h6
              · rw [h6]; exact hYr _ (gt_mem hcl)
      · have hje : j = i.arcs.length := by omega
        subst hje
        rw [if_neg (by omega), hwl, if_pos ⟨by omega, by omega⟩, if_pos (by omega)]
        simp only [lt_eq]
        rw [hrest] at h4
        have hcl : i.arcs.length - 2 < Y.length := by omega
        have hlast := hYr _ (gt_mem hcl)
        generalize hla2 : gt Y ((i.arcs.length - 2 : Nat) : Int) = last at *
        rw [hser, both_eq hs hq (by omega), Option.bind_some, if_pos (by rw [upd_len]; omega), known_t, Option.bind_some, if_pos rfl, if_pos (by omega)]
        generalize hX : upd (upd xs (a : Int) last) (b : Int) (bothOf series (arcAt i.arcs a) n (gt i.supply n) last) = X
        have hXl : X.length = i.arcs.length := by rw [← hX, upd_len, upd_len]; exact h3
        have hXb : gt X (b : Int) = bothOf series (arcAt i.arcs a) n (gt i.supply n) last := by rw [← hX]; exact gt_upd (by rw [upd_len]; omega)
        have hXa : gt X (a : Int) = last := by rw [← hX, gt_upd_ne (by omega) (by omega) (by omega)]; exact gt_upd (by omega)
        have hXo : ∀ k : Nat, k ≠ a → k ≠ b → gt X (k : Int) = gt xs (k : Int) := fun k h6 h7 => by rw [← hX, gt_upd_ne (by omega) (by omega) (by omega), gt_upd_ne (by omega) (by omega) (by omega)]
        have hsn := hs.sup _ (gt_mem hq.two.hn)
        have hXr : ∀ v ∈ X, -10000000 ≤ v ∧ v ≤ 10000000 := fun v hv => by
          rw [← hX] at hv
          rcases mem_upd hv with h6 | h6
          · rcases mem_upd h6 with h7 | h7
            · have := h5 v h7; omega
            · omega
          · rw [h6]; unfold bothOf
            split
            · omega
            · split <;> omega
        have hbe : behindOf X i.arcs.length a b = Y := by
          unfold behindOf
          have e1 : (restOf i.arcs.length a b).map (fun k : Nat => gt X (k : Int)) = Y.take (i.arcs.length - 2) := by
            rw [← h4]
            exact List.map_congr_left fun k hk2 => hXo k (restOf_mem.1 hk2).2.1 (restOf_mem.1 hk2).2.2
          rw [e1, hXa, ← hla2, gt_get hcl]
          have e2 : Y = Y.take (i.arcs.length - 2 + 1) := by rw [List.take_of_length_le (by omega)]
          conv => rhs; rw [e2]
          rw [List.take_add_one, List.getElem?_eq_getElem hcl]; rfl
        obtain ⟨e1, f1, f2⟩ := flow_Fits_eq (i := i) (x := X) (fun v hv => by have := hXr v hv; exact ⟨by omega, by omega⟩)
        obtain ⟨e2, f3, f4⟩ := flow_Fits_eq (i := l) (x := Y) (fun v hv => by have := hYr v hv; exact ⟨by omega, by omega⟩)
        have hiff := fits_two hq hs r (by rw [hr]) hXl (by rw [hXa]; omega) (by rw [hXb, hXa])
        have hcost := cost_two hq hs r (by rw [hr]) hXl (by rw [hXb, hXa])
        rw [hbe, hl] at hiff hcost
        rw [hinst, f1, Option.bind_some, f3, Option.bind_some]
        have h6 : (e1 = 0) ↔ (e2 = 0) := f2.trans (hiff.trans f4.symm)
        have h7 : (decide (e1 = 0) == decide (e2 = 0)) = true := by
          by_cases h8 : e1 = 0
          · simp [h8, h6.1 h8]
          · have h9 : ¬ e2 = 0 := fun e => h8 (h6.2 e)
            simp [h8, h9]
        have hca : ∀ a ∈ i.arcs, I64 a.cost := fun a ha => by have := hR.arcs a ha; have g1 := this.c0; have g2 := this.c1; exact ⟨by omega, by omega⟩
        have hcl2 : ∀ a ∈ l.arcs, I64 a.cost := fun a ha => by have := hLR.arcs a ha; have g1 := this.c0; have g2 := this.c1; exact ⟨by omega, by omega⟩
        rw [if_pos h7, flow_Cost_eq hXl (fun v hv => by have := hXr v hv; exact ⟨by omega, by omega⟩) hca (by omega), Option.bind_some, flow_Cost_eq (by omega) (fun v hv => by have := hYr v hv; exact ⟨by omega, by omega⟩) hcl2 (by omega), Option.bind_some, hoff]
        have sb := hs.low _ (arcAt_mem hmb)
        have hmo : I64 (moreOf series (arcAt i.arcs a) n (gt i.supply n)) := by
          unfold moreOf forkMore
          split
          · exact ⟨by omega, by omega⟩
          · split
            · rw [w64_id (by omega) (by omega)]; exact ⟨by omega, by omega⟩
            · exact ⟨by omega, by omega⟩
        have ht : timesOf (moreOf series (arcAt i.arcs a) n (gt i.supply n)) (arcAt i.arcs b).cost = mkW (moreOf series (arcAt i.arcs a) n (gt i.supply n) * (arcAt i.arcs b).cost) := by
          unfold timesOf
          rw [num_Times_eq hmo ⟨by omega, by omega⟩]; rfl
        rw [ht, num_Plus_eq, Option.bind_some, hcost]
        simp
  · rw [step_none hR hn, Option.bind_some]
    dsimp only
    rw [if_pos rfl, if_neg (by simp), known_t, Option.bind_some]
end Go.Proofs.Ytpnohbdfgmjdbaa
