/- Plain: flows. -/
import Derived.Test.YtbnjeanldechnaaGreatDoorTh2
import Derived.Test.YtbnjeanldechnaaGreatDoorTh6
namespace Go.Qe
open Go.RowKit
def I64 (x : Int) : Prop := -9223372036854775808 ≤ x ∧ x ≤ 9223372036854775807
def oneP (p : Arc × Int) (n : Int) : Int := (if p.1.src = n then p.2 else 0) - (if p.1.dst = n then p.2 else 0)
def netP (ps : List (Arc × Int)) (n : Int) : Int := (ps.map fun p => oneP p n).sum
def costP (ps : List (Arc × Int)) : Int := (ps.map fun p => p.1.cost * p.2).sum
def inA (a : Arc) (n : Int) : Prop := a.low ≤ n ∧ (a.cap = 4611686018427387904 ∨ n ≤ a.cap)
instance (a : Arc) (n : Int) : Decidable (inA a n) := by unfold inA; infer_instance
structure FitsP (i : Inst) (x : List Int) : Prop where
  right : RightI i
  len : x.length = i.arcs.length
  within : ∀ p ∈ i.arcs.zip x, inA p.1 p.2
  net : ∀ n : Nat, n < i.supply.length → netP (i.arcs.zip x) n = gt i.supply n
theorem netP_nil (n : Int) : netP [] n = 0 := rfl
theorem netP_cons (p : Arc × Int) (ps : List (Arc × Int)) (n : Int) : netP (p :: ps) n = oneP p n + netP ps n := by simp [netP]
theorem netP_app (ps qs : List (Arc × Int)) (n : Int) : netP (ps ++ qs) n = netP ps n + netP qs n := by simp [netP, List.sum_append]
theorem costP_nil : costP [] = 0 := rfl
theorem costP_cons (p : Arc × Int) (ps : List (Arc × Int)) : costP (p :: ps) = p.1.cost * p.2 + costP ps := by simp [costP]
theorem costP_app (ps qs : List (Arc × Int)) : costP (ps ++ qs) = costP ps + costP qs := by simp [costP, List.sum_append]
theorem oneP_rng {p : Arc × Int} {n : Int} (h : I64 p.2) : -18446744073709551616 ≤ oneP p n ∧ oneP p n ≤ 18446744073709551616 := by
  obtain ⟨h1, h2⟩ := h
  unfold oneP
  split <;> split <;> omega
theorem netP_rng : ∀ {ps : List (Arc × Int)} {n : Int}, (∀ p ∈ ps, I64 p.2) → -(18446744073709551616 * (ps.length : Int)) ≤ netP ps n ∧ netP ps n ≤ 18446744073709551616 * (ps.length : Int)
  | [], n, _ => by simp [netP_nil]
  | p :: ps, n, h => by
    have h1 := oneP_rng (n := n) (h p List.mem_cons_self)
    have h2 := netP_rng (n := n) fun q hq => h q (List.mem_cons_of_mem _ hq)
    rw [netP_cons]
    have e : ((p :: ps).length : Int) = (ps.length : Int) + 1 := by simp
    rw [e]
    omega
theorem zip_snd {xs : List Arc} {ys : List Int} {P : Int → Prop} (h : ∀ y ∈ ys, P y) : ∀ p ∈ xs.zip ys, P p.2 := fun p hp => h _ (List.of_mem_zip (a := p.1) (b := p.2) hp).2
theorem zip_take_succ {xs : List Arc} {ys : List Int} {j : Nat} (h1 : j < xs.length) (h2 : j < ys.length) : (xs.zip ys).take (j + 1) = (xs.zip ys).take j ++ [(xs[j], ys[j])] := by
  have hl : j < (xs.zip ys).length := by simp; omega
  rw [List.take_add_one, List.getElem?_eq_getElem hl]
  simp
theorem zip_mem {xs : List Arc} {ys : List Int} {j : Nat} (h1 : j < xs.length) (h2 : j < ys.length) : (xs[j], ys[j]) ∈ xs.zip ys := by
  have hl : j < (xs.zip ys).length := by simp; omega
  have := List.getElem_mem hl
  simpa using this
/-- a list of wide numbers, told by what each is -/
def wides (n : Nat) (f : Int → Int) : List Wide := (List.range n).map fun m : Nat => mkW (f m)
theorem wides_len (n : Nat) (f : Int → Int) : (wides n f).length = n := by simp [wides]
theorem wides_gt {n : Nat} {f : Int → Int} {j : Nat} (h : j < n) : gt (wides n f) (j : Int) = mkW (f j) := by
  rw [gt_get (by rw [wides_len]; exact h)]
  simp [wides]
theorem wides_upd {n : Nat} {f g : Int → Int} {j : Nat} {v : Int} (h : j < n) (hv : g j = v) (hg : ∀ m : Nat, m ≠ j → g m = f m) : upd (wides n f) (j : Int) (mkW v) = wides n g := by
  rw [upd_nat]
  apply List.ext_getElem (by simp [wides])
  intro k h1 h2
  rw [List.getElem_set]
  by_cases hk : j = k
  · subst hk; simp [wides, hv]
  · rw [if_neg hk]
    simp only [wides, List.getElem_map, List.getElem_range]
    rw [hg k (fun e => hk e.symm)]
theorem wides_congr {n : Nat} {f g : Int → Int} (h : ∀ m : Nat, m < n → f m = g m) : wides n f = wides n g := by
  unfold wides
  exact List.map_congr_left fun m hm => by rw [h m (List.mem_range.1 hm)]
theorem gt_el' {xs : List Int} {k : Nat} (h : k < xs.length) : gt xs (k : Int) = xs[k] := gt_get h
end Go.Qe
namespace Go.Proofs.YtbnjeanldechnaaGreatDoor
open Go.RowKit Go.Qe
theorem flow_at_eq {x : List Int} {k : Nat} (h : k < x.length) : flow_at x (k : Int) = some x[k] := by
  unfold flow_at
  rw [if_neg (by omega), if_neg (by omega), if_pos (rng_of h), gt_get h]
theorem flow_fits_eq (a : Arc) (n : Int) : flow_fits a n = some (decide (inA a n)) := by
  unfold flow_fits inA
  by_cases h1 : a.low ≤ n <;> by_cases h2 : a.cap = 4611686018427387904 <;> simp [h1, h2]
theorem flow_add_eq {n : Nat} {f : Int → Int} {j : Int} {v : Int} (h : 0 ≤ j ∧ j < n) : flow_sums_add (wides n f) j (mkW v) = some (wides n fun m => f m + if m = j then v else 0) := by
  obtain ⟨k, rfl⟩ := Int.eq_ofNat_of_zero_le h.1
  have hk : k < n := by omega
  unfold flow_sums_add
  rw [if_pos (by rw [wides_len]; exact h), wides_gt hk, num_Plus_eq, Option.bind_some]
  simp only [lt_eq, Option.some.injEq]
  exact wides_upd hk (by simp) fun m hm => by
    rw [if_neg (by omega)]; omega
theorem flow_put_eq {n : Nat} {f : Int → Int} {i : Inst} (hn : n = i.supply.length) {j : Nat} (hj : j < i.arcs.length) (hw : 0 ≤ i.arcs[j].src ∧ i.arcs[j].src < i.supply.length ∧ 0 ≤ i.arcs[j].dst ∧ i.arcs[j].dst < i.supply.length) {v : Int} (hv : I64 v) :
    flow_book_put (wides n f) i (j : Int) v = some (wides n fun m => f m + oneP (i.arcs[j], v) m) := by
  have hf : fitB i (j : Int) = true := by
    unfold fitB wholeB
    rw [Int.toNat_natCast, arcAt_eq hj]
    simp only [Bool.and_eq_true, decide_eq_true_eq]
    exact ⟨by omega, hw⟩
  have ha : arcGet i (j : Int) = i.arcs[j] := by unfold arcGet; rw [if_pos hf, Int.toNat_natCast, arcAt_eq hj]
  have hof := num_Of_eq hv
  unfold flow_book_put adj_Graph_Arc
  rw [Option.bind_some, if_pos hf, ha, hof, Option.bind_some, flow_add_eq (by dsimp only; omega), Option.bind_some, Option.bind_some]
  rw [show (Wide.mk 0 0) = mkW 0 from mkW_zero.symm, num_Minus_eq, Option.bind_some, flow_add_eq (by dsimp only; omega), Option.bind_some]
  congr 1
  refine wides_congr fun m hm => ?_
  unfold oneP
  dsimp only
  have e1 : ((m : Int) = i.arcs[j].src) ↔ (i.arcs[j].src = (m : Int)) := eq_comm
  have e2 : ((m : Int) = i.arcs[j].dst) ↔ (i.arcs[j].dst = (m : Int)) := eq_comm
  simp only [e1, e2]
  split <;> split <;> omega
theorem flow_Net_eq {i : Inst} {x : List Int} (hw : ∀ a ∈ i.arcs, 0 ≤ a.src ∧ a.src < i.supply.length ∧ 0 ≤ a.dst ∧ a.dst < i.supply.length) (hl : x.length = i.arcs.length) (hx : ∀ v ∈ x, I64 v) (h1 : i.supply.length ≤ 1000000) (h2 : i.arcs.length ≤ 1000000) :
    flow_Net i x = some (wides i.supply.length (netP (i.arcs.zip x))) := by
  unfold flow_Net
  have l1 : i.supply.length ≤ lim := by simp only [lim]; omega
  have l2 : i.arcs.length ≤ lim := by simp only [lim]; omega
  rw [if_pos ⟨by omega, Int.ofNat_le.2 l1⟩, show adj_New i = some i from if_pos ⟨l1, l2⟩, Option.bind_some]
  refine lp_eq (fun j => ((j : Int), wides i.supply.length (netP ((i.arcs.zip x).take j)))) i.arcs.length ?_ (by omega) (fun k j hj => ?_) (fun k => ?_)
  · refine Prod.ext rfl ?_
    simp only [List.take_zero, Int.toNat_natCast, wides, netP_nil]
    rw [show (Wide.mk 0 0) = mkW 0 from mkW_zero.symm]
    apply List.ext_getElem (by simp)
    intro k h1 h2
    simp
  · unfold flow_Net_b1
    have hj' : j < x.length := by omega
    dsimp only
    rw [if_pos (rng_of hj).2, flow_at_eq hj', Option.bind_some, flow_put_eq rfl hj (hw _ (List.getElem_mem hj)) (hx _ (List.getElem_mem hj')), Option.bind_some, w64_succ (by omega)]
    congr 2
    refine wides_congr fun m _ => ?_
    rw [zip_take_succ hj hj', netP_app, netP_cons, netP_nil]
    omega
  · unfold flow_Net_b1
    dsimp only
    rw [if_neg (by omega), List.take_of_length_le (by simp; omega)]
theorem flow_Fits_eq {i : Inst} {x : List Int} (hx : ∀ v ∈ x, I64 v) : ∃ e, flow_Fits i x = some e ∧ (e = 0 ↔ FitsP i x) := by
  unfold flow_Fits
  rw [inst_Right_eq, Option.bind_some]
  by_cases h0 : rightOf i = 0
  · have hR := rightOf_zero.1 h0
    have hnodes := hR.nodes
    have hmany := hR.many
    rw [if_neg (fun h => h h0)]
    by_cases hl : x.length = i.arcs.length
    · rw [if_neg (by omega)]
      rw [lp_find (s0 := (0 : Int)) (fun j => (j : Int)) x.length (fun j => if inA (gt i.arcs j) (gt x j) then none else some (some (31 : Int))) (fin := (flow_Net i x).bind fun r13 => lp (flow_Fits_b2 i r13) big 0) rfl (by omega)]
      · cases hs : (List.range x.length).findSome? (fun j : Nat => if inA (gt i.arcs j) (gt x j) then none else some (some (31 : Int))) with
        | some r =>
          obtain ⟨j, hj, h3⟩ := List.exists_of_findSome?_eq_some hs
          have hj := List.mem_range.1 hj
          split at h3
          · cases h3
          · rename_i hn
            cases h3
            refine ⟨31, rfl, ⟨fun h => (by cases h), fun h => ?_⟩⟩
            have := h.within _ (zip_mem (show j < i.arcs.length by omega) hj)
            rw [gt_get (show j < i.arcs.length by omega), gt_get hj] at hn
            exact absurd this hn
        | none =>
          have hin : ∀ p ∈ i.arcs.zip x, inA p.1 p.2 := fun p hp => by
            obtain ⟨j, hj, rfl⟩ := List.getElem_of_mem hp
            have hj1 : j < i.arcs.length := by simp at hj; omega
            have hj2 : j < x.length := by omega
            have := List.findSome?_eq_none_iff.1 hs j (List.mem_range.2 hj2)
            split at this
            · rename_i h3
              rw [gt_get hj1, gt_get hj2] at h3
              simpa using h3
            · cases this
          have hlen : (i.arcs.zip x).length ≤ 256 := by simp; omega
          dsimp only
          rw [flow_Net_eq (fun a ha => let g := hR.arcs a ha; ⟨g.s0, g.s1, g.d0, g.d1⟩) hl hx (by omega) (by omega), Option.bind_some]
          have heq : ∀ n : Nat, n < i.supply.length → (mkW (netP (i.arcs.zip x) n) = mkW (gt i.supply n) ↔ netP (i.arcs.zip x) n = gt i.supply n) := fun n hn => by
            have r1 := netP_rng (ps := i.arcs.zip x) (n := (n : Int)) (zip_snd hx)
            have r2 := hR.sup _ (by rw [gt_get hn]; exact List.getElem_mem hn : gt i.supply (n : Int) ∈ i.supply)
            exact ⟨fun h => mkW_inj h (by omega) (by omega) (by omega) (by omega), fun h => by rw [h]⟩
          rw [lp_find (s0 := (0 : Int)) (fun j => (j : Int)) i.supply.length (fun j => if mkW (netP (i.arcs.zip x) j) = mkW (gt i.supply j) then none else some (some (32 : Int))) (fin := some 0) rfl (by omega)]
          · cases hs2 : (List.range i.supply.length).findSome? (fun j : Nat => if mkW (netP (i.arcs.zip x) j) = mkW (gt i.supply j) then none else some (some (32 : Int))) with
            | some r =>
              obtain ⟨j, hj, h3⟩ := List.exists_of_findSome?_eq_some hs2
              have hj := List.mem_range.1 hj
              split at h3
              · cases h3
              · rename_i hn
                cases h3
                refine ⟨32, rfl, ⟨fun h => (by cases h), fun h => absurd ((heq j hj).2 (h.net j hj)) hn⟩⟩
            | none =>
              refine ⟨0, rfl, ⟨fun _ => ⟨hR, hl, hin, fun n hn => ?_⟩, fun _ => rfl⟩⟩
              have := List.findSome?_eq_none_iff.1 hs2 n (List.mem_range.2 hn)
              split at this
              · rename_i h3; exact (heq n hn).1 h3
              · cases this
          · intro k j hj
            unfold flow_Fits_b2
            have r2 := hR.sup _ (by rw [gt_get hj]; exact List.getElem_mem hj : gt i.supply (j : Int) ∈ i.supply)
            rw [wides_len, if_pos (rng_of hj).2, if_pos (rng_of hj), if_pos (rng_of hj), num_Of_eq ⟨by omega, by omega⟩, Option.bind_some, wides_gt hj, w64_succ (by omega)]
            split <;> rfl
          · intro k
            unfold flow_Fits_b2
            rw [wides_len, if_neg (by omega)]
      · intro k j hj
        unfold flow_Fits_b1
        rw [if_pos (rng_of hj).2, if_pos (rng_of hj), if_pos (rng_of (hl ▸ hj)), flow_fits_eq, Option.bind_some, w64_succ (by omega)]
        by_cases h3 : inA (gt i.arcs (j : Int)) (gt x (j : Int))
        · rw [if_pos (by simpa using h3), if_pos h3]
        · rw [if_neg (by simpa using h3), if_neg h3]
      · intro k
        unfold flow_Fits_b1
        rw [if_neg (by omega)]
    · rw [if_pos (by omega)]
      exact ⟨30, rfl, ⟨fun h => (by cases h), fun h => absurd h.len hl⟩⟩
  · rw [if_pos h0]
    exact ⟨_, rfl, ⟨fun h => absurd h h0, fun h => absurd (rightOf_zero.2 h.right) h0⟩⟩
end Go.Proofs.YtbnjeanldechnaaGreatDoor
