/- Plain: TwoLess. -/
import Derived.Test.YtpnohbdfgmjdbaaTh4
import Derived.Test.YtpnohbdfgmjdbaaTh5
namespace Go.Proofs.Ytpnohbdfgmjdbaa
open Go.RowKit Go.Qe
def OkA (m : Int) (a : Arc) : Prop := (0 ≤ a.src ∧ a.src < m ∧ 0 ≤ a.dst ∧ a.dst < m) ∧ (0 ≤ a.low ∧ a.low ≤ 1) ∧ (a.cap = 4611686018427387904 ∨ a.low ≤ a.cap ∧ a.cap ≤ 5) ∧ -6 ≤ a.cost ∧ a.cost ≤ 19
structure SpI (m L : Nat) (j : Nat) (s : Int × List Int × List Arc) : Prop where
  at_ : s.1 = (j : Int)
  sl : s.2.1.length = m
  al : s.2.2.length = L
  arcs : ∀ a ∈ s.2.2, OkA m a
  sup : ∀ x ∈ s.2.1, -(2 * (j : Int)) ≤ x ∧ x ≤ 2 * (j : Int)
  sum : s.2.1.sum = 0
theorem spI_small {m L j : Nat} {s : Int × List Int × List Arc} (h : SpI m L j s) (hm : m ≤ 10) (hL : L ≤ 19) (hj : j ≤ L) : Small ⟨s.2.1, s.2.2⟩ := by
  refine ⟨⟨by have := h.sl; dsimp only; omega, by have := h.al; dsimp only; omega, fun a ha => ?_, fun x hx => ?_, h.sum⟩, fun a ha => ?_, fun x hx => ?_⟩
  · have := h.arcs a ha
    have e : (⟨s.2.1, s.2.2⟩ : Inst).supply.length = m := h.sl
    rw [e]
    obtain ⟨⟨h1, h2, h3, h4⟩, h5, h6, h7⟩ := this
    exact ⟨h1, h2, h3, h4, h5.1, by omega, by omega, by omega, by omega⟩
  · have := h.sup x hx; omega
  · obtain ⟨_, h5, h6, h7⟩ := h.arcs a ha
    omega
  · have := h.sup x hx; omega
/-- the first node that fits -/
def firstOf (series : Bool) (i : Inst) (n : Nat) : Prop := n < i.supply.length ∧ (spotAt series i n).2.2 = true ∧ ∀ m, m < n → (spotAt series i m).2.2 = false
theorem first_or (series : Bool) (i : Inst) : (∃ n, firstOf series i n) ∨ ∀ n, n < i.supply.length → (spotAt series i n).2.2 = false := by
  by_cases h : ∃ n, n < i.supply.length ∧ (spotAt series i n).2.2 = true
  · left
    obtain ⟨n, h1, h2⟩ := h
    induction n using Nat.strongRecOn with
    | ind n ih =>
      by_cases hm : ∃ m, m < n ∧ (spotAt series i m).2.2 = true
      · obtain ⟨m, h3, h4⟩ := hm
        exact ih m h3 (by omega) h4
      · exact ⟨n, h1, h2, fun m hlt => by
          cases h5 : (spotAt series i m).2.2 with
          | false => rfl
          | true => exact absurd ⟨m, hlt, h5⟩ hm⟩
  · right
    intro n hn
    cases h5 : (spotAt series i n).2.2 with
    | false => rfl
    | true => exact absurd ⟨n, hn, h5⟩ h
theorem run_first {series : Bool} {i : Inst} (hR : RightI i) {n : Nat} (h : firstOf series i n) : runOf series i = doneAt series i n := by
  obtain ⟨h1, h2, h3⟩ := h
  unfold runOf
  rw [if_neg (fun h => h (rightOf_zero.2 hR)), show i.supply.length = n + (i.supply.length - n) by omega, List.range_add, List.findSome?_append, List.findSome?_eq_none_iff.2 (fun x hx => by rw [if_neg (by rw [h3 x (List.mem_range.1 hx)]; simp)]), Option.none_or]
  obtain ⟨d, hd⟩ : ∃ d, i.supply.length - n = d + 1 := ⟨i.supply.length - n - 1, by omega⟩
  rw [hd, List.range_succ_eq_map, List.map_cons, List.findSome?_cons, Nat.add_zero, if_pos h2]
theorem run_none {series : Bool} {i : Inst} (hR : RightI i) (h : ∀ n, n < i.supply.length → (spotAt series i n).2.2 = false) : runOf series i = (⟨i, ⟨0, ⟨[], []⟩⟩, ⟨0, 0⟩, false⟩, 0) := by
  unfold runOf
  rw [if_neg (fun h => h (rightOf_zero.2 hR)), List.findSome?_eq_none_iff.2 (fun x hx => by rw [if_neg (by rw [h x (List.mem_range.1 hx)]; simp)])]
theorem two_Chain_eq {i : Inst} (hR : RightI i) {n : Nat} (hn : n < i.supply.length) : two_Chain i n = some ((spotAt true i n).1, (spotAt true i n).2.2) := by
  have l1 : i.supply.length ≤ lim := by have := hR.nodes; simp only [lim]; omega
  have l2 : i.arcs.length ≤ lim := by have := hR.many; simp only [lim]; omega
  unfold two_Chain
  rw [show adj_New i = some i from if_pos ⟨l1, l2⟩, Option.bind_some, at_1_eq hR.whole l2 hn, Option.bind_some]
theorem two_Split_eq {i : Inst} (hR : RightI i) {n : Nat} (hn : n < i.supply.length) : two_Split i n = some ((spotAt false i n).1, (spotAt false i n).2.2) := by
  have l1 : i.supply.length ≤ lim := by have := hR.nodes; simp only [lim]; omega
  have l2 : i.arcs.length ≤ lim := by have := hR.many; simp only [lim]; omega
  unfold two_Split
  rw [show adj_New i = some i from if_pos ⟨l1, l2⟩, Option.bind_some, at_2_eq hR.whole l2 hn, Option.bind_some]
/-- the step of a shape, and its spot -/
theorem step_eq {i : Inst} (hR : RightI i) (series : Bool) : law18_step i series = lp (law18_step_b1 i series (runOf series i).2 (runOf series i).1.rcd.pass (runOf series i).1.off.hi (runOf series i).1.off.lo (runOf series i).1.did (runOf series i).1.inst.supply (runOf series i).1.inst.arcs (runOf series i).1.rcd.was.supply (runOf series i).1.rcd.was.arcs) big 0 := by
  unfold law18_step
  simp only [lt_eq]
  cases series with
  | true => rw [if_pos rfl, two_Series_eq, Option.bind_some]
  | false => rw [if_neg (by simp), two_Fork_eq, Option.bind_some]
theorem step_b1 {i : Inst} (hR : RightI i) (series : Bool) (r : Step) (k : Int → Option (Step × Spot × Bool)) {j : Nat} (hj : j < i.supply.length) (hd : r.did = true) :
    law18_step_b1 i series 0 r.rcd.pass r.off.hi r.off.lo r.did r.inst.supply r.inst.arcs r.rcd.was.supply r.rcd.was.arcs k (j : Int) = if (spotAt series i j).2.2 = true then some (r, (spotAt series i j).1, true) else k ((j + 1 : Nat) : Int) := by
  unfold law18_step_b1
  have hw := w64_succ (show j < 4611686018427387904 by have := hR.nodes; omega)
  obtain ⟨ins, rc, off, did⟩ := r
  dsimp only at hd
  subst hd
  have key : ∀ (q : Spot × Pair × Bool) (X : Option (Spot × Bool)), X = some (q.1, q.2.2) → (q.2.2 = true → ∃ a b, SpotOk series i j a b q) → (X.bind fun r13 => if r13.2 = true then (if 0 ≤ r13.1.a then (if r13.1.a < (i.arcs.length : Int) then (if 0 ≤ r13.1.b then (if decide (r13.1.b < (i.arcs.length : Int)) = true then some ((⟨⟨ins.supply, ins.arcs⟩, ⟨rc.pass, ⟨rc.was.supply, rc.was.arcs⟩⟩, ⟨off.hi, off.lo⟩, true⟩, ⟨r13.1.node, r13.1.a, r13.1.b, ⟨r13.1.new.src, r13.1.new.dst, r13.1.new.low, r13.1.new.cap, r13.1.new.cost⟩⟩, true) : Step × Spot × Bool) else k ((j + 1 : Nat) : Int)) else k ((j + 1 : Nat) : Int)) else k ((j + 1 : Nat) : Int)) else k ((j + 1 : Nat) : Int)) else k ((j + 1 : Nat) : Int)) =
      if q.2.2 = true then some (⟨ins, rc, off, true⟩, q.1, true) else k ((j + 1 : Nat) : Int) := by
    intro q X hX hq
    rw [hX, Option.bind_some]
    dsimp only
    by_cases hf : q.2.2 = true
    · obtain ⟨a, b, hq⟩ := hq hf
      rw [if_pos hf, if_pos hf, hq.is]
      dsimp only
      rw [if_pos (by omega), if_pos (by have := hq.two.ha; omega), if_pos (by omega), if_pos (by have := hq.two.hb; simp; omega)]
    · rw [if_neg hf, if_neg hf]
  cases series with
  | true =>
    have := key _ _ (two_Chain_eq hR hj) (spotAt_ok hR.whole hj)
    simp only [lt_eq, if_pos (rng_of hj).2, if_true, hw, Bool.false_eq_true, if_false] at this ⊢
    exact this
  | false =>
    have := key _ _ (two_Split_eq hR hj) (spotAt_ok hR.whole hj)
    simp only [lt_eq, if_pos (rng_of hj).2, if_true, hw, Bool.false_eq_true, if_false] at this ⊢
    exact this
theorem step_first {i : Inst} (hR : RightI i) {series : Bool} {n : Nat} (h : firstOf series i n) (hl : rightOf (leftOf i n (spotAt series i n).1.b.toNat (spotAt series i n).1.new) = 0) : law18_step i series = some ((doneAt series i n).1, (spotAt series i n).1, true) := by
  rw [step_eq hR, run_first hR h]
  have e : (doneAt series i n).2 = 0 ∧ (doneAt series i n).1.did = true := by
    unfold doneAt
    simp [hl]
  rw [e.1]
  refine lp_eq (fun j => (j : Int)) n rfl (by have := h.1; have := hR.nodes; omega) (fun k j hj => ?_) (fun k => ?_)
  · rw [step_b1 hR series _ k (Nat.lt_trans hj h.1) e.2, if_neg (by rw [h.2.2 j hj]; simp)]
  · rw [step_b1 hR series _ k h.1 e.2, if_pos h.2.1]
theorem step_none {i : Inst} (hR : RightI i) {series : Bool} (h : ∀ n, n < i.supply.length → (spotAt series i n).2.2 = false) : law18_step i series = some (⟨i, ⟨0, ⟨[], []⟩⟩, ⟨0, 0⟩, false⟩, ⟨0, 0, 0, ⟨0, 0, 0, 0, 0⟩⟩, true) := by
  rw [step_eq hR, run_none hR h]
  refine lp_eq (fun j => (j : Int)) 0 rfl (by omega) (fun k j hj => by omega) (fun k => ?_)
  unfold law18_step_b1
  simp only [lt_eq, if_true, Bool.false_eq_true, if_false, not_true_eq_false, Bool.not_false]
  split <;> rfl
end Go.Proofs.Ytpnohbdfgmjdbaa
