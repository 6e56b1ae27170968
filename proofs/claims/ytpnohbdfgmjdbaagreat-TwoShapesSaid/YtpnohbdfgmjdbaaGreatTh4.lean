/- Plain: what a pass over a node of two arcs leaves. -/
import Derived.Test.YtpnohbdfgmjdbaaGreatTh3
namespace Go.Proofs.YtpnohbdfgmjdbaaGreat
open Go.RowKit Go.Qe
/-- an instance of small numbers -/
structure Small (i : Inst) : Prop where
  right : RightI i
  low : ∀ a ∈ i.arcs, a.low ≤ 1000000 ∧ (a.cap = 4611686018427387904 ∨ a.cap ≤ 1000000) ∧ -1000000 ≤ a.cost ∧ a.cost ≤ 1000000
  sup : ∀ s ∈ i.supply, -1000000 ≤ s ∧ s ≤ 1000000
def nextOf (i : Inst) (n b : Nat) (r : Arc) : Inst := ⟨upd i.supply (farOf (arcAt i.arcs b) n) (w64 (gt i.supply (farOf (arcAt i.arcs b) n) + gt i.supply n)), i.arcs ++ [r]⟩
def offOf (i : Inst) (n : Nat) : List Bool := (List.replicate i.supply.length false).set n true
def leftOf (i : Inst) (n b : Nat) (r : Arc) : Inst := withoutOf (nextOf i n b r) (offOf i n) []
theorem next_sup (i : Inst) (n b : Nat) (r : Arc) : (nextOf i n b r).supply.length = i.supply.length := by simp [nextOf, upd]
theorem left_eq {i : Inst} {n b : Nat} {r : Arc} (hn : n < i.supply.length) : leftOf i n b r = ⟨(nextOf i n b r).supply.take n ++ (nextOf i n b r).supply.drop (n + 1), (i.arcs ++ [r]).filterMap (ren (keptL (offOf i n) i.supply.length))⟩ := by
  unfold leftOf withoutOf
  have e : offOf i n = (List.replicate (nextOf i n b r).supply.length false).set n true := by rw [next_sup]; rfl
  rw [map_gt_all, e, map_one _ (by rw [next_sup]; exact hn), next_sup]
  rfl
theorem ren_some {K : List Int} {a a' : Arc} (h : ren K a = some a') : a.src ∈ K ∧ a.dst ∈ K ∧ a' = ⟨idx K a.src, idx K a.dst, a.low, a.cap, a.cost⟩ := by
  unfold ren at h
  split at h
  · rename_i h1
    cases h
    exact ⟨idx_nonneg.1 h1.1, idx_nonneg.1 h1.2, rfl⟩
  · cases h
theorem ren_in {K : List Int} {a : Arc} (h1 : a.src ∈ K) (h2 : a.dst ∈ K) : ren K a = some ⟨idx K a.src, idx K a.dst, a.low, a.cap, a.cost⟩ := if_pos ⟨idx_nonneg.2 h1, idx_nonneg.2 h2⟩
theorem ren_not {K : List Int} {a : Arc} (h : ¬ (a.src ∈ K ∧ a.dst ∈ K)) : ren K a = none := if_neg fun h1 => h ⟨idx_nonneg.1 h1.1, idx_nonneg.1 h1.2⟩
theorem fmap_len {K : List Int} (l : List Arc) : (l.filterMap (ren K)).length = l.countP fun a => decide (a.src ∈ K ∧ a.dst ∈ K) := by
  induction l with
  | nil => rfl
  | cons a l ih =>
    by_cases h : a.src ∈ K ∧ a.dst ∈ K
    · rw [List.filterMap_cons, ren_in h.1 h.2, List.countP_cons_of_pos (by simp [h])]
      simp [ih]
    · rw [List.filterMap_cons, ren_not h, List.countP_cons_of_neg (by simpa using h)]
      exact ih
theorem fmap_low {K : List Int} (l : List Arc) : (l.filterMap (ren K)).countP (fun a => decide (¬ a.low = 0)) ≤ l.countP fun a => decide (¬ a.low = 0) := by
  induction l with
  | nil => exact Nat.le_refl _
  | cons a l ih =>
    by_cases h : a.src ∈ K ∧ a.dst ∈ K
    · rw [List.filterMap_cons, ren_in h.1 h.2]
      simp only [List.countP_cons]
      omega
    · rw [List.filterMap_cons, ren_not h]
      simp only [List.countP_cons]
      omega
theorem countP_not {α : Type} (p : α → Bool) (l : List α) : l.countP p + l.countP (fun a => !p a) = l.length := by
  induction l with
  | nil => rfl
  | cons a l ih => cases h : p a <;> simp [List.countP_cons, h] <;> omega
section
variable {series : Bool} {i : Inst} {n a b : Nat} {q : Spot × Pair × Bool}
/-- ends of what stands for two -/
theorem SpotOk.ends (h : SpotOk series i n a b q) (hw : Whole i) : let r := standOf series (arcAt i.arcs a) (arcAt i.arcs b) n (gt i.supply n)
    0 ≤ r.src ∧ r.src < i.supply.length ∧ ¬ r.src = n ∧ 0 ≤ r.dst ∧ r.dst < i.supply.length ∧ ¬ r.dst = n := by
  have ha := wholeB_iff.1 (hw.at_ h.two.ha)
  have hb := wholeB_iff.1 (hw.at_ h.two.hb)
  have ta := (h.two.only a h.two.ha).2 (.inl rfl)
  have tb := (h.two.only b h.two.hb).2 (.inr rfl)
  have la := h.two.la
  have lb := h.two.lb
  have hl := h.lies
  generalize arcAt i.arcs a = x at *
  generalize arcAt i.arcs b = y at *
  unfold standOf chainArc splitArc
  unfold liesOf at hl
  cases series with
  | true =>
    simp only [if_true] at hl ⊢
    exact ⟨ha.1, ha.2.1, fun h => la ⟨h, hl.1⟩, hb.2.2.1, hb.2.2.2, fun h => lb ⟨hl.2, h⟩⟩
  | false =>
    simp only [if_false, Bool.false_eq_true] at hl ⊢
    by_cases h1 : x.dst = n
    · have h2 := hl.1 h1
      simp only [h1, if_true]
      exact ⟨ha.1, ha.2.1, fun h => la ⟨h, h1⟩, hb.1, hb.2.1, fun h => lb ⟨h, h2⟩⟩
    · have h2 : ¬ y.dst = n := fun h => h1 (hl.2 h)
      simp only [h1, if_false]
      exact ⟨hb.2.2.1, hb.2.2.2, h2, ha.2.2.1, ha.2.2.2, by first | exact h1 | exact fun h => h⟩
theorem gt_mem {α : Type} [Inhabited α] {xs : List α} {k : Nat} (h : k < xs.length) : gt xs (k : Int) ∈ xs := by rw [gt_get h]; exact List.getElem_mem h
theorem SpotOk.small (h : SpotOk series i n a b q) (hs : Small i) : let r := standOf series (arcAt i.arcs a) (arcAt i.arcs b) n (gt i.supply n)
    0 ≤ r.low ∧ r.low ≤ 4000000 ∧ (r.cap = 4611686018427387904 ∨ r.low ≤ r.cap ∧ r.cap ≤ 4000000) ∧ -4000000 ≤ r.cost ∧ r.cost ≤ 4000000 := by
  have ha := hs.low _ (arcAt_mem h.two.ha)
  have hb := hs.low _ (arcAt_mem h.two.hb)
  have ra := hs.right.arcs _ (arcAt_mem h.two.ha)
  have rb := hs.right.arcs _ (arcAt_mem h.two.hb)
  have ha0 := ra.low0
  have hb0 := rb.low0
  have hac := ra.cap
  have hbc := rb.cap
  have hsn := hs.sup _ (gt_mem h.two.hn)
  have hlc := h.low
  clear ra rb
  generalize arcAt i.arcs a = x at *
  generalize arcAt i.arcs b = y at *
  generalize gt i.supply (n : Int) = s at *
  unfold standOf chainArc splitArc forkMore at *
  cases series with
  | true =>
    simp only [if_true] at hlc ⊢
    rw [w64_id (x := y.low - s) (by omega) (by omega), w64_id (x := x.cost + y.cost) (by omega) (by omega)] at *
    refine ⟨by split <;> omega, by split <;> omega, ?_, by omega, by omega⟩
    by_cases h1 : y.cap = 4611686018427387904
    · simp only [h1, if_true] at hlc ⊢
      omega
    · simp only [h1, if_false] at hlc ⊢
      rw [w64_id (x := y.cap - s) (by omega) (by omega)] at *
      have hy : y.cap ≤ 1000000 := by omega
      right
      refine ⟨hlc, ?_⟩
      split <;> omega
  | false =>
    simp only [if_false, Bool.false_eq_true] at hlc ⊢
    have hd : ∃ d : Int, (if x.dst = n then w64 (0 - s) else s) = d ∧ -1000000 ≤ d ∧ d ≤ 1000000 := by
      by_cases h1 : x.dst = n
      · exact ⟨_, rfl, by rw [if_pos h1, w64_id (by omega) (by omega)]; omega, by rw [if_pos h1, w64_id (by omega) (by omega)]; omega⟩
      · exact ⟨_, rfl, by rw [if_neg h1]; omega, by rw [if_neg h1]; omega⟩
    obtain ⟨d, hd, d1, d2⟩ := hd
    have e1 : w64 (d - y.low) = d - y.low := w64_id (by omega) (by omega)
    have e2 : w64 (x.cost - y.cost) = x.cost - y.cost := w64_id (by omega) (by omega)
    simp only [hd, e1, e2] at hlc ⊢
    have hc1 : (if d - y.low < x.cap then d - y.low else x.cap) ≤ 1000000 := by split <;> omega
    refine ⟨?_, by omega, .inr ⟨hlc, by omega⟩, by omega, by omega⟩
    by_cases h1 : y.cap = 4611686018427387904
    · simp only [h1, if_true]; omega
    · simp only [h1, if_false]
      rw [w64_id (x := d - y.cap) (by omega) (by omega)]
      split <;> omega
theorem upd_mem {xs : List Int} {j : Int} {y x : Int} (h : x ∈ upd xs j y) : x ∈ xs ∨ x = y := by
  unfold upd at h
  exact List.mem_or_eq_of_mem_set h
theorem sum_set {xs : List Int} {k : Nat} (h : k < xs.length) (y : Int) : (xs.set k y).sum = xs.sum - xs[k] + y := by
  have e1 := sum_one (xs := xs.set k y) (m := k) (by simpa using h)
  have e2 := sum_one h
  have e3 : (xs.set k y).take k ++ (xs.set k y).drop (k + 1) = xs.take k ++ xs.drop (k + 1) := by
    congr 1
    · rw [List.take_set, List.set_eq_of_length_le (by simp; omega)]
    · rw [List.drop_set, if_pos (by omega)]
  rw [e3, e2] at e1
  simp only [List.getElem_set_self] at e1
  omega
theorem SpotOk.farb (h : SpotOk series i n a b q) (hw : Whole i) : 0 ≤ farOf (arcAt i.arcs b) n ∧ farOf (arcAt i.arcs b) n < i.supply.length ∧ ¬ farOf (arcAt i.arcs b) n = n := far_ok hw h.two.hb ((h.two.only b h.two.hb).2 (.inr rfl)) h.two.lb
theorem kept_mem (hn : n < i.supply.length) {x : Int} : x ∈ keptL (offOf i n) i.supply.length ↔ 0 ≤ x ∧ x < i.supply.length ∧ ¬ x = n := mem_one hn
/-- what is left: how much, and that it may be -/
structure LeftOk (i l : Inst) (r : Arc) : Prop where
  sup : l.supply.length = i.supply.length - 1
  arcs : l.arcs.length = i.arcs.length - 1
  low : l.arcs.countP (fun a => decide (¬ a.low = 0)) ≤ i.arcs.countP (fun a => decide (¬ a.low = 0)) + 1
  last : ∃ u v, gt l.arcs ((l.arcs.length - 1 : Nat) : Int) = ⟨u, v, r.low, r.cap, r.cost⟩
theorem SpotOk.left (h : SpotOk series i n a b q) (hw : Whole i) (r : Arc) (hr : r = standOf series (arcAt i.arcs a) (arcAt i.arcs b) n (gt i.supply n)) : LeftOk i (leftOf i n b r) r := by
  have he := h.ends hw
  rw [← hr] at he
  have hn := h.two.hn
  have hk := @kept_mem i n hn
  have hren : ren (keptL (offOf i n) i.supply.length) r = some ⟨idx (keptL (offOf i n) i.supply.length) r.src, idx (keptL (offOf i n) i.supply.length) r.dst, r.low, r.cap, r.cost⟩ := ren_in (hk.2 ⟨he.1, he.2.1, he.2.2.1⟩) (hk.2 ⟨he.2.2.2.1, he.2.2.2.2.1, he.2.2.2.2.2⟩)
  rw [left_eq hn]
  generalize keptL (offOf i n) i.supply.length = K at *
  have hfm : (i.arcs ++ [r]).filterMap (ren K) = i.arcs.filterMap (ren K) ++ [⟨idx K r.src, idx K r.dst, r.low, r.cap, r.cost⟩] := by rw [List.filterMap_append]; simp [List.filterMap_cons, hren]
  have hcount : (i.arcs.filterMap (ren K)).length = i.arcs.length - 2 := by
    rw [fmap_len]
    have h1 : (i.arcs.countP fun a => decide (a.src ∈ K ∧ a.dst ∈ K)) = i.arcs.countP fun a => !decide (a.src = (n : Int) ∨ a.dst = (n : Int)) := List.countP_congr fun x hx => by
      have := hw x hx
      simp only [hk, decide_eq_true_eq, Bool.not_eq_true', decide_eq_false_iff_not]
      constructor
      · rintro ⟨h1, h2⟩ (h3 | h3)
        · exact h1.2.2 h3
        · exact h2.2.2 h3
      · intro h1
        exact ⟨⟨this.1, this.2.1, fun e => h1 (.inl e)⟩, this.2.2.1, this.2.2.2, fun e => h1 (.inr e)⟩
    have h2 := countP_not (fun a => decide (a.src = (n : Int) ∨ a.dst = (n : Int))) i.arcs
    rw [h1]
    have h3 := someL_count hw n
    have h4 := h.two.two
    omega
  have h2 : 2 ≤ i.arcs.length := by
    have := h.two.ha; have := h.two.hb; have := h.two.ne; omega
  refine ⟨?_, ?_, ?_, ?_⟩
  · have := next_sup i n b r
    simp only [List.length_append, List.length_take, List.length_drop]
    omega
  · dsimp only
    rw [hfm, List.length_append, hcount]
    simp; omega
  · dsimp only
    rw [hfm, List.countP_append]
    have := fmap_low (K := K) i.arcs
    have h5 : [(⟨idx K r.src, idx K r.dst, r.low, r.cap, r.cost⟩ : Arc)].countP (fun a => decide (¬ a.low = 0)) ≤ 1 := List.countP_le_length
    omega
  · dsimp only
    rw [hfm]
    refine ⟨idx K r.src, idx K r.dst, ?_⟩
    rw [gt_get (by simp)]
    simp
theorem SpotOk.right (h : SpotOk series i n a b q) (hs : Small i) (r : Arc) (hr : r = standOf series (arcAt i.arcs a) (arcAt i.arcs b) n (gt i.supply n)) : RightI (leftOf i n b r) := by
  have hw := hs.right.whole
  have hL := h.left hw r hr
  have hf := h.farb hw
  have he := h.ends hw
  have hsm := h.small hs
  rw [← hr] at he hsm
  have hn := h.two.hn
  have hk := @kept_mem i n hn
  have hKl : (keptL (offOf i n) i.supply.length).length = i.supply.length - 1 := len_one hn
  have hnodes := hs.right.nodes
  have hmany := hs.right.many
  have hsn := hs.sup _ (gt_mem hn)
  obtain ⟨o, ho⟩ := Int.eq_ofNat_of_zero_le hf.1
  have ho1 : o < i.supply.length := by omega
  have ho2 : ¬ o = n := by omega
  have hso := hs.sup _ (gt_mem ho1)
  have hsum : (nextOf i n b r).supply = i.supply.set o (gt i.supply (o : Int) + gt i.supply (n : Int)) := by
    unfold nextOf
    dsimp only
    rw [ho, upd_nat, w64_id (by omega) (by omega)]
  have e := left_eq (b := b) (r := r) hn
  refine ⟨by rw [hL.sup]; omega, by rw [hL.arcs]; omega, fun x hx => ?_, fun x hx => ?_, ?_⟩
  · rw [hL.sup]
    rw [e] at hx
    obtain ⟨y, hy, hxy⟩ := List.mem_filterMap.1 hx
    obtain ⟨h1, h2, rfl⟩ := ren_some hxy
    have i1 := idx_mem h1
    have i2 := idx_mem h2
    rw [hKl] at i1 i2
    rcases List.mem_append.1 hy with hy | hy
    · have g := hs.right.arcs y hy
      exact ⟨i1.1, i1.2.1, i2.1, i2.2.1, g.low0, g.low1, g.cap, g.c0, g.c1⟩
    · have : y = r := by simpa using hy
      subst this
      exact ⟨i1.1, i1.2.1, i2.1, i2.2.1, hsm.1, by dsimp only; omega, by dsimp only; omega, by dsimp only; omega, by dsimp only; omega⟩
  · rw [e] at hx
    dsimp only at hx
    have : x ∈ (nextOf i n b r).supply := by
      rcases List.mem_append.1 hx with h1 | h1
      · exact List.mem_of_mem_take h1
      · exact List.mem_of_mem_drop h1
    rw [hsum] at this
    rcases List.mem_or_eq_of_mem_set this with h1 | h1
    · exact hs.right.sup x h1
    · omega
  · rw [e]
    dsimp only
    rw [sum_one (by rw [next_sup]; exact hn)]
    simp only [hsum]
    rw [sum_set ho1, List.getElem_set_ne ho2]
    have h0 := hs.right.sum
    have g1 := gt_get ho1
    have g2 := gt_get hn
    omega
end
def stepNo : Step := ⟨⟨[], []⟩, ⟨0, ⟨[], []⟩⟩, ⟨0, 0⟩, false⟩
theorem times_some (a b : Int) : ∃ w, num_Times a b = some w := ⟨_, rfl⟩
def timesOf (a b : Int) : Wide := (num_Times a b).getD ⟨0, 0⟩
theorem times_eq (a b : Int) : num_Times a b = some (timesOf a b) := by
  obtain ⟨w, h⟩ := times_some a b
  unfold timesOf
  rw [h]; rfl
/-- what a pass does at a node -/
def doneAt (series : Bool) (i : Inst) (n : Nat) : Step × Int :=
  let q := spotAt series i n
  let l := leftOf i n q.1.b.toNat q.1.new
  if ¬ rightOf l = 0 then (stepNo, 40) else (⟨l, ⟨if series then 8 else 9, i⟩, timesOf (moreOf series q.2.1.x n q.2.1.s) q.2.1.y.cost, true⟩, 0)
def runOf (series : Bool) (i : Inst) : Step × Int :=
  if ¬ rightOf i = 0 then (stepNo, rightOf i) else
    match (List.range i.supply.length).findSome? (fun n => if (spotAt series i n).2.2 = true then some (doneAt series i n) else none) with
    | some r => r
    | none => (⟨i, ⟨0, ⟨[], []⟩⟩, ⟨0, 0⟩, false⟩, 0)
theorem findSome_map {α β γ : Type} (f : β → γ) (g : α → Option β) (l : List α) : l.findSome? (fun a => (g a).map f) = (l.findSome? g).map f := by
  induction l with
  | nil => rfl
  | cons a l ih =>
    simp only [List.findSome?_cons]
    cases g a <;> simp [ih]
theorem run_body {series : Bool} {i : Inst} (hR : RightI i) {n : Nat} (hn : n < i.supply.length) (h : (spotAt series i n).2.2 = true) :
    ∃ o : Int, adj_Graph_Other i (spotAt series i n).1.b n = some o ∧ (0 ≤ o ∧ o < i.supply.length) ∧
      inst_Without ⟨upd i.supply o (w64 (gt i.supply o + (spotAt series i n).2.1.s)), i.arcs ++ [(spotAt series i n).1.new]⟩ (offOf i n) [] = some (leftOf i n (spotAt series i n).1.b.toNat (spotAt series i n).1.new) := by
  have hw := hR.whole
  obtain ⟨a, b, hq⟩ := spotAt_ok hw hn h
  rw [hq.is]
  dsimp only
  have ht := (hq.two.only b hq.two.hb).2 (.inr rfl)
  have ho := otherOf_eq hw hq.two.hb ht
  have hf := hq.farb hw
  refine ⟨farOf (arcAt i.arcs b) n, by unfold adj_Graph_Other; rw [ho], ⟨hf.1, hf.2.1⟩, ?_⟩
  have h1 := hR.nodes
  have h2 := hR.many
  rw [inst_Without_eq (by simp [upd]; omega) (by simp; omega) (by simp [offOf, lim]; omega) (by simp)]
  rfl
theorem two_Series_eq (i : Inst) : two_Series i = some (runOf true i) := by
  unfold two_Series two_shape_run_1 runOf
  rw [inst_Right_eq, Option.bind_some]
  by_cases h0 : rightOf i = 0
  · have hR := rightOf_zero.1 h0
    have l1 : i.supply.length ≤ lim := by have := hR.nodes; simp only [lim]; omega
    have l2 : i.arcs.length ≤ lim := by have := hR.many; simp only [lim]; omega
    rw [if_neg (fun h => h h0), if_neg (fun h => h h0), inst_Copy_eq l1 l2, Option.bind_some, show adj_New i = some i from if_pos ⟨l1, l2⟩, Option.bind_some]
    rw [lp_find (s0 := (0 : Int)) (fun j => (j : Int)) i.supply.length (fun n => (if (spotAt true i n).2.2 = true then some (doneAt true i n) else none).map some) (fin := some (⟨i, ⟨0, ⟨[], []⟩⟩, ⟨0, 0⟩, false⟩, 0)) rfl (by have := hR.nodes; omega)]
    · rw [findSome_map]
      cases (List.range i.supply.length).findSome? (fun n => if (spotAt true i n).2.2 = true then some (doneAt true i n) else none) <;> rfl
    · intro k j hj
      unfold two_shape_run_1_b1
      rw [if_pos (rng_of hj).2, at_1_eq hR.whole l2 hj, Option.bind_some]
      by_cases h1 : (spotAt true i j).2.2 = true
      · obtain ⟨o, ho, hr, hwo⟩ := run_body hR hj h1
        rw [if_pos h1, if_pos h1, inst_Copy_eq l1 l2, Option.bind_some, ho, Option.bind_some, if_pos hr]
        simp only [lt_eq]
        rw [if_pos (by have := hR.many; simp only [List.length_singleton, lim]; omega), if_pos ⟨by omega, Int.ofNat_le.2 l1⟩, if_pos ⟨by omega, by simp; omega⟩, Int.toNat_natCast, upd_nat, ← offOf, hwo, Option.bind_some, inst_Right_eq, Option.bind_some]
        unfold two_series_2
        simp only [Option.bind_some, times_eq]
        unfold doneAt
        by_cases h2 : rightOf (leftOf i j (spotAt true i j).1.b.toNat (spotAt true i j).1.new) = 0
        · simp [h2, moreOf]
        · simp [h2, stepNo]
      · rw [if_neg h1, if_neg h1, w64_succ (by have := hR.nodes; omega)]
        rfl
    · intro k
      unfold two_shape_run_1_b1
      rw [if_neg (by omega)]
  · rw [if_pos h0, if_pos h0]
    rfl
theorem two_Fork_eq (i : Inst) : two_Fork i = some (runOf false i) := by
  unfold two_Fork two_shape_run_2 runOf
  rw [inst_Right_eq, Option.bind_some]
  by_cases h0 : rightOf i = 0
  · have hR := rightOf_zero.1 h0
    have l1 : i.supply.length ≤ lim := by have := hR.nodes; simp only [lim]; omega
    have l2 : i.arcs.length ≤ lim := by have := hR.many; simp only [lim]; omega
    rw [if_neg (fun h => h h0), if_neg (fun h => h h0), inst_Copy_eq l1 l2, Option.bind_some, show adj_New i = some i from if_pos ⟨l1, l2⟩, Option.bind_some]
    rw [lp_find (s0 := (0 : Int)) (fun j => (j : Int)) i.supply.length (fun n => (if (spotAt false i n).2.2 = true then some (doneAt false i n) else none).map some) (fin := some (⟨i, ⟨0, ⟨[], []⟩⟩, ⟨0, 0⟩, false⟩, 0)) rfl (by have := hR.nodes; omega)]
    · rw [findSome_map]
      cases (List.range i.supply.length).findSome? (fun n => if (spotAt false i n).2.2 = true then some (doneAt false i n) else none) <;> rfl
    · intro k j hj
      unfold two_shape_run_2_b1
      rw [if_pos (rng_of hj).2, at_2_eq hR.whole l2 hj, Option.bind_some]
      by_cases h1 : (spotAt false i j).2.2 = true
      · obtain ⟨o, ho, hr, hwo⟩ := run_body hR hj h1
        obtain ⟨a, b, hq⟩ := spotAt_ok hR.whole hj h1
        rw [if_pos h1, if_pos h1, inst_Copy_eq l1 l2, Option.bind_some, ho, Option.bind_some, if_pos hr]
        simp only [lt_eq]
        rw [if_pos (by have := hR.many; simp only [List.length_singleton, lim]; omega), if_pos ⟨by omega, Int.ofNat_le.2 l1⟩, if_pos ⟨by omega, by simp; omega⟩, Int.toNat_natCast, upd_nat, ← offOf, hwo, Option.bind_some, inst_Right_eq, Option.bind_some]
        have hb : two_pair_both (spotAt false i j).2.1 = some (forkMore (spotAt false i j).2.1.x j (spotAt false i j).2.1.s) := by
          rw [hq.is]
          unfold two_pair_both forkMore
          dsimp only
          split <;> rfl
        rw [hb]
        simp only [Option.bind_some, times_eq]
        unfold doneAt
        by_cases h2 : rightOf (leftOf i j (spotAt false i j).1.b.toNat (spotAt false i j).1.new) = 0
        · simp [h2, moreOf]
        · simp [h2, stepNo]
      · rw [if_neg h1, if_neg h1, w64_succ (by have := hR.nodes; omega)]
        rfl
    · intro k
      unfold two_shape_run_2_b1
      rw [if_neg (by omega)]
  · rw [if_pos h0, if_pos h0]
    rfl
end Go.Proofs.YtpnohbdfgmjdbaaGreat
