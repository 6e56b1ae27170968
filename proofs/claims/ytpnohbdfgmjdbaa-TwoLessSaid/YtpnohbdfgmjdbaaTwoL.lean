/- Plain: TwoLess. -/
import Derived.Test.YtpnohbdfgmjdbaaTh4
import Derived.Test.YtpnohbdfgmjdbaaTh5
namespace Go.Proofs.Ytpnohbdfgmjdbaa
open Go.RowKit Go.Qe
def OkA (m : Int) (a : Arc) : Prop := (0 ≤ a.src ∧ a.src < m ∧ 0 ≤ a.dst ∧ a.dst < m) ∧ (0 ≤ a.low ∧ a.low ≤ 1) ∧ (a.cap = 4611686018427387904 ∨ a.low ≤ a.cap ∧ a.cap ≤ 5) ∧ -6 ≤ a.cost ∧ a.cost ≤ 19
structure SpI (m L : Nat) (j : Nat) (s : Int × List Int × List Arc) : Prop where
  at_ : s.1 = (j : Int)
  sl : s.2.1.length = m
  al : s.2.2.length = L
  arcs : ∀ a ∈ s.2.2, OkA m a
  sup : ∀ x ∈ s.2.1, -(2 * (j : Int)) ≤ x ∧ x ≤ 2 * (j : Int)
  sum : s.2.1.sum = 0
theorem spI_small {m L j : Nat} {s : Int × List Int × List Arc} (h : SpI m L j s) (hm : m ≤ 10) (hL : L ≤ 19) (hj : j ≤ L) : Small ⟨s.2.1, s.2.2⟩ := by
  refine ⟨⟨by have := h.sl; dsimp only; omega, by have := h.al; dsimp only; omega, fun a ha => ?_, fun x hx => ?_, h.sum⟩, fun a ha => ?_, fun x hx => ?_⟩
  · have := h.arcs a ha
    have e : (⟨s.2.1, s.2.2⟩ : Inst).supply.length = m := h.sl
    rw [e]
    obtain ⟨⟨h1, h2, h3, h4⟩, h5, h6, h7⟩ := this
    exact ⟨h1, h2, h3, h4, h5.1, by omega, by omega, by omega, by omega⟩
  · have := h.sup x hx; omega
  · obtain ⟨_, h5, h6, h7⟩ := h.arcs a ha
    omega
  · have := h.sup x hx; omega
theorem sparse_ok {c d : List Int} (hc : Byt c) (hd : Byt d) : ∃ i, law18_Sparse c d = some i ∧ Small i := by
  obtain ⟨t, ht, hT⟩ := thin_ok hc
  unfold law18_Sparse
  rw [ht, Option.bind_some]
  generalize hm : t.supply.length = m
  generalize hL : t.arcs.length = L
  have hm1 := hT.n1
  have hL1 := hT.many
  refine lp_inv (T := fun o => ∃ i, o = some i ∧ Small i) L (by omega) (fun j s => SpI m L j s) 0 ⟨rfl, hm, hL, fun a ha => ?_, fun x hx => by have := hT.sup x hx; omega, ?_⟩ (by omega) fun k j s hj hI hk => ?_
  · obtain ⟨h1, h2, h3, h4⟩ := hT.arcs a ha
    rw [hm] at h1
    exact ⟨h1, by omega, .inr (by omega), by omega⟩
  · have : ∀ l : List Int, (∀ s ∈ l, s = 0) → l.sum = 0 := fun l => by
      induction l with
      | nil => intro _; rfl
      | cons a l ih =>
        intro h
        rw [List.sum_cons, h a List.mem_cons_self, ih fun s hs => h s (List.mem_cons_of_mem _ hs)]; rfl
    exact this _ hT.sup
  · obtain ⟨s1, xs, ys⟩ := s
    have hfin : ∃ i, some (Inst.mk xs ys) = some i ∧ Small i := ⟨_, rfl, spI_small (s := (s1, xs, ys)) hI (by omega) (by omega) hj⟩
    obtain ⟨e1, e2, e3, e4, e5, e6⟩ := hI
    dsimp only at e1 e2 e3 e4 e5 e6
    subst e1
    unfold law18_Sparse_b1
    dsimp only
    by_cases c1 : (j : Int) < ys.length
    · rw [if_pos c1]
      by_cases c2 : (j : Int) < d.length
      · have hr : 0 ≤ (j : Int) ∧ (j : Int) < ys.length := ⟨by omega, c1⟩
        have hb := hd.at_ (j : Int)
        have ha := e4 _ (gt_in hr)
        rw [if_pos c2, if_pos ⟨by omega, c2⟩, if_pos hr]
        generalize gt d (j : Int) = z at *
        have t3 := tdiv_rng hb (show (0 : Int) < 3 by omega)
        have t6 := tdiv_rng hb (show (0 : Int) < 6 by omega)
        rw [wrap8_id t3, wrap8_id t6]
        have m2 := tmod_rng t3.1 (show (0 : Int) < 2 by omega)
        have m5 := tmod_rng t6.1 (show (0 : Int) < 5 by omega)
        have m3 := tmod_rng hb.1 (show (0 : Int) < 3 by omega)
        have m17 := tmod_rng hb.1 (show (0 : Int) < 17 by omega)
        generalize (z.tdiv 3).tmod 2 = lo at *
        generalize (z.tdiv 6).tmod 5 = wi at *
        generalize z.tmod 3 = n at *
        generalize z.tmod 17 = co at *
        generalize z.tmod 13 = q at *
        rw [w64_id (x := lo) (by omega) (by omega), w64_id (x := wi) (by omega) (by omega), w64_id (x := n) (by omega) (by omega), w64_id (x := co) (by omega) (by omega), w64_id (x := co - 6) (by omega) (by omega)]
        have hlen : ∀ y, 0 ≤ (j : Int) ∧ (j : Int) < (upd ys (j : Int) y).length := fun y => by rw [upd_len]; exact hr
        have gself : ∀ y, gt (upd ys (j : Int) y) (j : Int) = y := fun y => gt_upd hr
        simp only [lt_eq, gself, upd_upd, upd_len, if_pos hr]
        rw [w64_id (x := lo + wi) (by omega) (by omega)]
        generalize gt ys (j : Int) = a at *
        obtain ⟨⟨a1, a2, a3, a4⟩, a5, a6, a7⟩ := ha
        have ms : 0 ≤ a.src ∧ a.src < xs.length := by omega
        have md : 0 ≤ a.dst ∧ a.dst < xs.length := by omega
        have s1 := e5 _ (gt_in ms)
        have hw1 : w64 (gt xs a.src + n) = gt xs a.src + n := w64_id (by omega) (by omega)
        have hX : ∀ x ∈ upd xs a.src (gt xs a.src + n), -(2 * (j : Int)) ≤ x ∧ x ≤ 2 * (j : Int) + 2 := fun x hx => by
          rcases mem_upd hx with h | h
          · have := e5 x h; omega
          · omega
        have mdl : 0 ≤ a.dst ∧ a.dst < (upd xs a.src (gt xs a.src + n)).length := by rw [upd_len]; exact md
        have s2 := hX _ (gt_in mdl)
        have hw2 : w64 (gt (upd xs a.src (gt xs a.src + n)) a.dst - n) = gt (upd xs a.src (gt xs a.src + n)) a.dst - n := w64_id (by omega) (by omega)
        simp only [if_pos ms, hw1, if_pos md, hw2, w64_succ (show j < 4611686018427387904 by omega)]
        have hsup : ∀ x ∈ upd (upd xs a.src (gt xs a.src + n)) a.dst (gt (upd xs a.src (gt xs a.src + n)) a.dst - n), -(2 * ((j + 1 : Nat) : Int)) ≤ x ∧ x ≤ 2 * ((j + 1 : Nat) : Int) := fun x hx => by
          rcases mem_upd hx with h | h
          · have := hX x h; omega
          · omega
        have hsum : (upd (upd xs a.src (gt xs a.src + n)) a.dst (gt (upd xs a.src (gt xs a.src + n)) a.dst - n)).sum = 0 := by
          rw [sum_upd mdl, sum_upd ms]; omega
        have harc : ∀ b : Arc, OkA m b → ∀ y ∈ upd ys (j : Int) b, OkA m y := fun b hb y hy => by
          rcases mem_upd hy with h | h
          · exact e4 y h
          · exact h ▸ hb
        by_cases hq : q = 0
        · rw [if_pos hq]
          exact hk (by omega) _ ⟨rfl, by dsimp only; rw [upd_len, upd_len]; exact e2, by dsimp only; rw [upd_len]; exact e3, harc _ ⟨⟨a1, a2, a3, a4⟩, by dsimp only; omega, .inl rfl, by dsimp only; omega⟩, hsup, hsum⟩
        · rw [if_neg hq]
          exact hk (by omega) _ ⟨rfl, by dsimp only; rw [upd_len, upd_len]; exact e2, by dsimp only; rw [upd_len]; exact e3, harc _ ⟨⟨a1, a2, a3, a4⟩, by dsimp only; omega, .inr (by dsimp only; omega), by dsimp only; omega⟩, hsup, hsum⟩
      · rw [if_neg c2]; exact hfin
    · rw [if_neg c1]; exact hfin
/-- the first node that fits -/
def firstOf (series : Bool) (i : Inst) (n : Nat) : Prop := n < i.supply.length ∧ (spotAt series i n).2.2 = true ∧ ∀ m, m < n → (spotAt series i m).2.2 = false
theorem first_or (series : Bool) (i : Inst) : (∃ n, firstOf series i n) ∨ ∀ n, n < i.supply.length → (spotAt series i n).2.2 = false := by
  by_cases h : ∃ n, n < i.supply.length ∧ (spotAt series i n).2.2 = true
  · left
    obtain ⟨n, h1, h2⟩ := h
    induction n using Nat.strongRecOn with
    | ind n ih =>
      by_cases hm : ∃ m, m < n ∧ (spotAt series i m).2.2 = true
      · obtain ⟨m, h3, h4⟩ := hm
        exact ih m h3 (by omega) h4
      · exact ⟨n, h1, h2, fun m hlt => by
          cases h5 : (spotAt series i m).2.2 with
          | false => rfl
          | true => exact absurd ⟨m, hlt, h5⟩ hm⟩
  · right
    intro n hn
    cases h5 : (spotAt series i n).2.2 with
    | false => rfl
    | true => exact absurd ⟨n, hn, h5⟩ h
theorem run_first {series : Bool} {i : Inst} (hR : RightI i) {n : Nat} (h : firstOf series i n) : runOf series i = doneAt series i n := by
  obtain ⟨h1, h2, h3⟩ := h
  unfold runOf
  rw [if_neg (fun h => h (rightOf_zero.2 hR)), show i.supply.length = n + (i.supply.length - n) by omega, List.range_add, List.findSome?_append, List.findSome?_eq_none_iff.2 (fun x hx => by rw [if_neg (by rw [h3 x (List.mem_range.1 hx)]; simp)]), Option.none_or]
  obtain ⟨d, hd⟩ : ∃ d, i.supply.length - n = d + 1 := ⟨i.supply.length - n - 1, by omega⟩
  rw [hd, List.range_succ_eq_map, List.map_cons, List.findSome?_cons, Nat.add_zero, if_pos h2]
theorem run_none {series : Bool} {i : Inst} (hR : RightI i) (h : ∀ n, n < i.supply.length → (spotAt series i n).2.2 = false) : runOf series i = (⟨i, ⟨0, ⟨[], []⟩⟩, ⟨0, 0⟩, false⟩, 0) := by
  unfold runOf
  rw [if_neg (fun h => h (rightOf_zero.2 hR)), List.findSome?_eq_none_iff.2 (fun x hx => by rw [if_neg (by rw [h x (List.mem_range.1 hx)]; simp)])]
theorem two_Chain_eq {i : Inst} (hR : RightI i) {n : Nat} (hn : n < i.supply.length) : two_Chain i n = some ((spotAt true i n).1, (spotAt true i n).2.2) := by
  have l1 : i.supply.length ≤ lim := by have := hR.nodes; simp only [lim]; omega
  have l2 : i.arcs.length ≤ lim := by have := hR.many; simp only [lim]; omega
  unfold two_Chain
  rw [show adj_New i = some i from if_pos ⟨l1, l2⟩, Option.bind_some, at_1_eq hR.whole l2 hn, Option.bind_some]
theorem two_Split_eq {i : Inst} (hR : RightI i) {n : Nat} (hn : n < i.supply.length) : two_Split i n = some ((spotAt false i n).1, (spotAt false i n).2.2) := by
  have l1 : i.supply.length ≤ lim := by have := hR.nodes; simp only [lim]; omega
  have l2 : i.arcs.length ≤ lim := by have := hR.many; simp only [lim]; omega
  unfold two_Split
  rw [show adj_New i = some i from if_pos ⟨l1, l2⟩, Option.bind_some, at_2_eq hR.whole l2 hn, Option.bind_some]
/-- the step of a shape, and its spot -/
theorem step_eq {i : Inst} (hR : RightI i) (series : Bool) : law18_step i series = lp (law18_step_b1 i series (runOf series i).2 (runOf series i).1.rcd.pass (runOf series i).1.off.hi (runOf series i).1.off.lo (runOf series i).1.did (runOf series i).1.inst.supply (runOf series i).1.inst.arcs (runOf series i).1.rcd.was.supply (runOf series i).1.rcd.was.arcs) big 0 := by
  unfold law18_step
  simp only [lt_eq]
  cases series with
  | true => rw [if_pos rfl, two_Series_eq, Option.bind_some]
  | false => rw [if_neg (by simp), two_Fork_eq, Option.bind_some]
theorem step_b1 {i : Inst} (hR : RightI i) (series : Bool) (r : Step) (k : Int → Option (Step × Spot × Bool)) {j : Nat} (hj : j < i.supply.length) (hd : r.did = true) :
    law18_step_b1 i series 0 r.rcd.pass r.off.hi r.off.lo r.did r.inst.supply r.inst.arcs r.rcd.was.supply r.rcd.was.arcs k (j : Int) = if (spotAt series i j).2.2 = true then some (r, (spotAt series i j).1, true) else k ((j + 1 : Nat) : Int) := by
  unfold law18_step_b1
  have hw := w64_succ (show j < 4611686018427387904 by have := hR.nodes; omega)
  obtain ⟨ins, rc, off, did⟩ := r
  dsimp only at hd
  subst hd
  have key : ∀ (q : Spot × Pair × Bool) (X : Option (Spot × Bool)), X = some (q.1, q.2.2) → (q.2.2 = true → ∃ a b, SpotOk series i j a b q) → (X.bind fun r13 => if r13.2 = true then (if 0 ≤ r13.1.a then (if r13.1.a < (i.arcs.length : Int) then (if 0 ≤ r13.1.b then (if decide (r13.1.b < (i.arcs.length : Int)) = true then some ((⟨⟨ins.supply, ins.arcs⟩, ⟨rc.pass, ⟨rc.was.supply, rc.was.arcs⟩⟩, ⟨off.hi, off.lo⟩, true⟩, ⟨r13.1.node, r13.1.a, r13.1.b, ⟨r13.1.new.src, r13.1.new.dst, r13.1.new.low, r13.1.new.cap, r13.1.new.cost⟩⟩, true) : Step × Spot × Bool) else k ((j + 1 : Nat) : Int)) else k ((j + 1 : Nat) : Int)) else k ((j + 1 : Nat) : Int)) else k ((j + 1 : Nat) : Int)) else k ((j + 1 : Nat) : Int)) =
      if q.2.2 = true then some (⟨ins, rc, off, true⟩, q.1, true) else k ((j + 1 : Nat) : Int) := by
    intro q X hX hq
    rw [hX, Option.bind_some]
    dsimp only
    by_cases hf : q.2.2 = true
    · obtain ⟨a, b, hq⟩ := hq hf
      rw [if_pos hf, if_pos hf, hq.is]
      dsimp only
      rw [if_pos (by omega), if_pos (by have := hq.two.ha; omega), if_pos (by omega), if_pos (by have := hq.two.hb; simp; omega)]
    · rw [if_neg hf, if_neg hf]
  cases series with
  | true =>
    have := key _ _ (two_Chain_eq hR hj) (spotAt_ok hR.whole hj)
    simp only [lt_eq, if_pos (rng_of hj).2, if_true, hw, Bool.false_eq_true, if_false] at this ⊢
    exact this
  | false =>
    have := key _ _ (two_Split_eq hR hj) (spotAt_ok hR.whole hj)
    simp only [lt_eq, if_pos (rng_of hj).2, if_true, hw, Bool.false_eq_true, if_false] at this ⊢
    exact this
theorem step_first {i : Inst} (hR : RightI i) {series : Bool} {n : Nat} (h : firstOf series i n) (hl : rightOf (leftOf i n (spotAt series i n).1.b.toNat (spotAt series i n).1.new) = 0) : law18_step i series = some ((doneAt series i n).1, (spotAt series i n).1, true) := by
  rw [step_eq hR, run_first hR h]
  have e : (doneAt series i n).2 = 0 ∧ (doneAt series i n).1.did = true := by
    unfold doneAt
    simp [hl]
  rw [e.1]
  refine lp_eq (fun j => (j : Int)) n rfl (by have := h.1; have := hR.nodes; omega) (fun k j hj => ?_) (fun k => ?_)
  · rw [step_b1 hR series _ k (Nat.lt_trans hj h.1) e.2, if_neg (by rw [h.2.2 j hj]; simp)]
  · rw [step_b1 hR series _ k h.1 e.2, if_pos h.2.1]
theorem step_none {i : Inst} (hR : RightI i) {series : Bool} (h : ∀ n, n < i.supply.length → (spotAt series i n).2.2 = false) : law18_step i series = some (⟨i, ⟨0, ⟨[], []⟩⟩, ⟨0, 0⟩, false⟩, ⟨0, 0, 0, ⟨0, 0, 0, 0, 0⟩⟩, true) := by
  rw [step_eq hR, run_none hR h]
  refine lp_eq (fun j => (j : Int)) 0 rfl (by omega) (fun k j hj => by omega) (fun k => ?_)
  unfold law18_step_b1
  simp only [lt_eq, if_true, Bool.false_eq_true, if_false, not_true_eq_false, Bool.not_false]
  split <;> rfl
theorem less_true {c d : List Int} (hc : Byt c) (hd : Byt d) (series : Bool) : law18_TwoLess c d series = some true := by
  obtain ⟨i, hi, hs⟩ := sparse_ok hc hd
  have hk : law18_known = some true := by kernel_rfl
  have hR := hs.right
  have l1 : i.supply.length ≤ lim := by have := hR.nodes; simp only [lim]; omega
  have l2 : i.arcs.length ≤ lim := by have := hR.many; simp only [lim]; omega
  unfold law18_TwoLess
  rw [hi, Option.bind_some]
  rcases first_or series i with ⟨n, hf⟩ | hn
  · obtain ⟨a, b, hq⟩ := spotAt_ok hR.whole hf.1 hf.2.1
    generalize hr : standOf series (arcAt i.arcs a) (arcAt i.arcs b) n (gt i.supply n) = r at *
    have hL := hq.left hR.whole r (by rw [hr])
    have hLR := hq.right hs r (by rw [hr])
    have hsp := hq.is
    have hb : (spotAt series i n).1.b.toNat = b := by rw [hsp]; simp
    have hnew : (spotAt series i n).1.new = r := by rw [hsp, hr]
    have hl0 : rightOf (leftOf i n (spotAt series i n).1.b.toNat (spotAt series i n).1.new) = 0 := by rw [hb, hnew]; exact rightOf_zero.2 hLR
    rw [step_first hR hf hl0, Option.bind_some]
    have hdone : (doneAt series i n).1.inst = leftOf i n b r ∧ (doneAt series i n).1.rcd.was = i ∧ (doneAt series i n).1.did = true := by
      unfold doneAt
      rw [if_neg (fun h => h hl0)]
      dsimp only
      rw [hb, hnew]
      exact ⟨rfl, rfl, rfl⟩
    have h2 : 2 ≤ i.arcs.length := by have := hq.two.ha; have := hq.two.hb; have := hq.two.ne; omega
    have hn0 := hf.1
    have hnodes := hR.nodes
    have hmany := hR.many
    dsimp only
    rw [if_pos rfl, hdone.1, hdone.2.1, hdone.2.2, if_pos rfl, hk, Option.bind_some, if_pos rfl, hL.sup, w64_id (x := (i.supply.length : Int) - 1) (by omega) (by omega), if_pos (by omega), w64_id (x := (i.arcs.length : Int) - 1) (by omega) (by omega), w64_id (x := ((leftOf i n b r).arcs.length : Int) - 1) (by have := hL.arcs; omega) (by have := hL.arcs; omega),
      if_pos (show ((leftOf i n b r).arcs.length : Int) = (i.arcs.length : Int) - 1 by have := hL.arcs; omega), inst_Span_eq (by have := hL.sup; omega) (by have := hL.arcs; omega), Option.bind_some, inst_Span_eq (by omega) (by omega), Option.bind_some,
      if_pos (by have := hL.low; have := hL.sup; have := hL.arcs; omega), inst_Right_ok hLR, Option.bind_some, if_pos rfl, if_pos (by have := hL.arcs; omega)]
    obtain ⟨u, v, hg⟩ := hL.last
    have e : ((leftOf i n b r).arcs.length : Int) - 1 = (((leftOf i n b r).arcs.length - 1 : Nat) : Int) := by have := hL.arcs; omega
    rw [e, hg, hnew, if_pos rfl, if_pos rfl, inst_Same_refl rfl l1 l2, Option.bind_some]
  · rw [step_none hR hn, Option.bind_some]
    dsimp only
    rw [if_pos rfl, if_neg (by simp), hk, Option.bind_some, if_pos rfl, inst_Same_refl rfl l1 l2, Option.bind_some, if_pos rfl]
    rfl
end Go.Proofs.Ytpnohbdfgmjdbaa
