/- Plain: nodes of two arcs, and what a pass over them leaves. -/
import Derived.Test.YtpnohbdfgmjdbaaGreatTh2
namespace Go.Proofs.YtpnohbdfgmjdbaaGreat
open Go.RowKit Go.Qe
theorem fitB_nat {i : Inst} {k : Nat} : fitB i (k : Int) = true ↔ k < i.arcs.length ∧ wholeB i.supply.length (arcAt i.arcs k) = true := by
  unfold fitB
  simp only [Bool.and_eq_true, decide_eq_true_eq, Int.toNat_natCast]
  exact ⟨fun h => ⟨by omega, h.2⟩, fun h => ⟨by omega, h.2⟩⟩
theorem wholeB_iff {n : Nat} {a : Arc} : wholeB n a = true ↔ 0 ≤ a.src ∧ a.src < n ∧ 0 ≤ a.dst ∧ a.dst < n := by simp [wholeB]
/-- all ends are nodes -/
def Whole (i : Inst) : Prop := ∀ a ∈ i.arcs, 0 ≤ a.src ∧ a.src < i.supply.length ∧ 0 ≤ a.dst ∧ a.dst < i.supply.length
theorem _root_.Go.Qe.RightI.whole {i : Inst} (h : RightI i) : Whole i := fun a ha => let g := h.arcs a ha; ⟨g.s0, g.s1, g.d0, g.d1⟩
theorem arcAt_mem {xs : List Arc} {k : Nat} (h : k < xs.length) : arcAt xs k ∈ xs := by rw [arcAt_eq h]; exact List.getElem_mem h
theorem Whole.at_ {i : Inst} (h : Whole i) {k : Nat} (hk : k < i.arcs.length) : wholeB i.supply.length (arcAt i.arcs k) = true := wholeB_iff.2 (h _ (arcAt_mem hk))
theorem pick_iff {i : Inst} (h : Whole i) {n : Int} {o e : Bool} {k : Nat} (hk : k < i.arcs.length) : pickB i n o e k = true ↔ (o = true ∧ (arcAt i.arcs k).src = n) ∨ (e = true ∧ (arcAt i.arcs k).dst = n) := by
  unfold pickB
  rw [fitB_nat.2 ⟨hk, h.at_ hk⟩]
  simp
theorem countP_split {α : Type} (p q : α → Bool) (l : List α) : (l.filter p).length + (l.filter q).length = (l.filter fun x => p x || q x).length + (l.filter fun x => p x && q x).length := by
  induction l with
  | nil => rfl
  | cons a l ih =>
    simp only [List.filter_cons]
    cases p a <;> cases q a <;> simp <;> omega
theorem loopsOf_eq {i : Inst} (n : Int) : loopsOf i n = (((List.range i.arcs.length).filter fun k => pickB i n true false k && pickB i n false true k).length : Nat) := by
  have e : ∀ k, pickB i n true true k = (pickB i n true false k || pickB i n false true k) := fun k => by
    unfold pickB
    cases fitB i k <;> simp
  have := countP_split (pickB i n true false) (pickB i n false true) (List.range i.arcs.length)
  unfold loopsOf someL someTo
  simp only [List.length_map]
  have e2 : (List.range i.arcs.length).filter (pickB i n true true) = (List.range i.arcs.length).filter fun x => pickB i n true false x || pickB i n false true x := List.filter_congr fun k _ => e k
  rw [e2]
  omega
theorem noLoop {i : Inst} (h : Whole i) {n : Int} (hl : ¬ 0 < loopsOf i n) {k : Nat} (hk : k < i.arcs.length) : ¬ ((arcAt i.arcs k).src = n ∧ (arcAt i.arcs k).dst = n) := by
  intro hh
  rw [loopsOf_eq] at hl
  have : k ∈ (List.range i.arcs.length).filter fun k => pickB i n true false k && pickB i n false true k := by
    rw [List.mem_filter]
    refine ⟨List.mem_range.2 hk, ?_⟩
    rw [Bool.and_eq_true]
    exact ⟨(pick_iff h hk).2 (.inl ⟨rfl, hh.1⟩), (pick_iff h hk).2 (.inr ⟨rfl, hh.2⟩)⟩
  have := List.length_pos_of_mem this
  omega
/-- how many arcs touch a node -/
theorem someL_count {i : Inst} (h : Whole i) (n : Int) : (someL i n true true).length = i.arcs.countP fun a => decide (a.src = n ∨ a.dst = n) := by
  unfold someL someTo
  rw [List.length_map, ← List.countP_eq_length_filter]
  have : i.arcs = (List.range i.arcs.length).map (arcAt i.arcs) := by
    apply List.ext_getElem (by simp)
    intro k h1 h2
    simp [arcAt_eq h1]
  conv => rhs; rw [this]
  rw [List.countP_map]
  refine List.countP_congr fun k hk => ?_
  rw [pick_iff h (List.mem_range.1 hk)]
  simp
/-- a node of two arcs: none a loop, and nothing else touches it -/
structure TwoAt (i : Inst) (n a b : Nat) : Prop where
  hn : n < i.supply.length
  ha : a < i.arcs.length
  hb : b < i.arcs.length
  ne : a ≠ b
  only : ∀ k, k < i.arcs.length → ((arcAt i.arcs k).src = n ∨ (arcAt i.arcs k).dst = n ↔ k = a ∨ k = b)
  la : ¬ ((arcAt i.arcs a).src = n ∧ (arcAt i.arcs a).dst = n)
  lb : ¬ ((arcAt i.arcs b).src = n ∧ (arcAt i.arcs b).dst = n)
  two : (someL i n true true).length = 2
theorem TwoAt.swap {i : Inst} {n a b : Nat} (h : TwoAt i n a b) : TwoAt i n b a := ⟨h.hn, h.hb, h.ha, h.ne.symm, fun k hk => (h.only k hk).trans or_comm, h.lb, h.la, h.two⟩
theorem twoAt_of {i : Inst} (h : Whole i) {n : Nat} (hn : n < i.supply.length) {u v : Int} (hl : someL i n true true = [u, v]) (h0 : ¬ 0 < loopsOf i n) : ∃ a b : Nat, u = a ∧ v = b ∧ a < b ∧ TwoAt i n a b := by
  have hu : u ∈ someL i n true true := by rw [hl]; simp
  have hv : v ∈ someL i n true true := by rw [hl]; simp
  obtain ⟨a, ha, pa, rfl⟩ := (someL_mem i n true true u).1 hu
  obtain ⟨b, hb, pb, rfl⟩ := (someL_mem i n true true v).1 hv
  have hr := someL_rise i n true true
  rw [hl] at hr
  have hab : (a : Int) < (b : Int) := by simpa using hr
  refine ⟨a, b, rfl, rfl, by omega, hn, ha, hb, by omega, fun k hk => ?_, noLoop h h0 ha, noLoop h h0 hb, by rw [hl]; rfl⟩
  have e := someL_mem i n true true (k : Int)
  rw [hl] at e
  constructor
  · intro ht
    have : (k : Int) ∈ [(a : Int), (b : Int)] := e.2 ⟨k, hk, (pick_iff h hk).2 (by simpa using ht), rfl⟩
    simp at this
    omega
  · intro ht
    have : (k : Int) ∈ [(a : Int), (b : Int)] := by simp; omega
    obtain ⟨m, hm, hp, he⟩ := e.1 this
    have : k = m := by omega
    subst this
    simpa using (pick_iff h hm).1 hp
theorem TwoAt.wa {i : Inst} {n a b : Nat} (h : TwoAt i n a b) (hw : Whole i) : wholeB i.supply.length (arcAt i.arcs a) = true := hw.at_ h.ha
/-- the other end of an arc that touches a node -/
def farOf (a : Arc) (n : Int) : Int := if a.src = n then a.dst else a.src
theorem otherOf_eq {i : Inst} (hw : Whole i) {n a : Nat} (ha : a < i.arcs.length) (ht : (arcAt i.arcs a).src = n ∨ (arcAt i.arcs a).dst = n) : otherOf i a n = farOf (arcAt i.arcs a) n := by
  have hf : fitB i (a : Int) = true := fitB_nat.2 ⟨ha, hw.at_ ha⟩
  have hg : arcGet i (a : Int) = arcAt i.arcs a := by unfold arcGet; rw [if_pos hf, Int.toNat_natCast]
  unfold otherOf farOf
  rw [hg]
  by_cases h1 : (arcAt i.arcs a).src = n
  · rw [if_pos ⟨hf, h1⟩, if_pos h1]
  · rw [if_neg (fun h => h1 h.2), if_neg h1]
    rcases ht with ht | ht
    · exact absurd ht h1
    · rw [if_pos ⟨hf, ht⟩]
theorem far_ok {i : Inst} (hw : Whole i) {n a : Nat} (ha : a < i.arcs.length) (ht : (arcAt i.arcs a).src = n ∨ (arcAt i.arcs a).dst = n) (hl : ¬ ((arcAt i.arcs a).src = n ∧ (arcAt i.arcs a).dst = n)) :
    0 ≤ farOf (arcAt i.arcs a) n ∧ farOf (arcAt i.arcs a) n < i.supply.length ∧ ¬ farOf (arcAt i.arcs a) n = n := by
  have := wholeB_iff.1 (hw.at_ ha)
  unfold farOf
  by_cases h1 : (arcAt i.arcs a).src = n
  · rw [if_pos h1]; exact ⟨this.2.2.1, this.2.2.2, fun h => hl ⟨h1, h⟩⟩
  · rw [if_neg h1]; exact ⟨this.1, this.2.1, h1⟩
def chainArc (x y : Arc) (s : Int) : Arc := ⟨x.src, y.dst, if w64 (y.low - s) > x.low then w64 (y.low - s) else x.low,
    if y.cap = 4611686018427387904 then x.cap else if w64 (y.cap - s) < x.cap then w64 (y.cap - s) else x.cap, w64 (x.cost + y.cost)⟩
def forkMore (x : Arc) (n s : Int) : Int := if x.dst = n then w64 (0 - s) else s
def splitArc (x y : Arc) (n s : Int) : Arc :=
  let d := forkMore x n s
  ⟨if x.dst = n then x.src else y.dst, if x.dst = n then y.src else x.dst, if y.cap = 4611686018427387904 then x.low else if w64 (d - y.cap) > x.low then w64 (d - y.cap) else x.low,
    if w64 (d - y.low) < x.cap then w64 (d - y.low) else x.cap, w64 (x.cost - y.cost)⟩
/-- the arc that stands for two: series, fork -/
def standOf (series : Bool) (x y : Arc) (n s : Int) : Arc := if series then chainArc x y s else splitArc x y n s
def moreOf (series : Bool) (x : Arc) (n s : Int) : Int := if series then s else forkMore x n s
def liesOf (series : Bool) (x y : Arc) (n : Int) : Prop := if series then x.dst = n ∧ y.src = n else (x.dst = n ↔ y.dst = n)
instance (s : Bool) (x y : Arc) (n : Int) : Decidable (liesOf s x y n) := by unfold liesOf; cases s <;> simp <;> infer_instance
def noSpot : Spot := ⟨0, 0, 0, ⟨0, 0, 0, 0, 0⟩⟩
def noPair : Pair := ⟨⟨0, 0, 0, 0, 0⟩, ⟨0, 0, 0, 0, 0⟩, 0, 0⟩
/-- the spot of a node, by a shape -/
def spotAt (series : Bool) (i : Inst) (n : Nat) : Spot × Pair × Bool :=
  match someL i n true true with
  | [u, v] => if 0 < loopsOf i n then (noSpot, noPair, false) else
      let s := gt i.supply n
      let mk := fun (a b : Int) => let x := gt i.arcs a; let y := gt i.arcs b; if (standOf series x y n s).cap < (standOf series x y n s).low then (noSpot, noPair, false) else (⟨n, a, b, standOf series x y n s⟩, ⟨x, y, n, s⟩, true)
      if liesOf series (gt i.arcs u) (gt i.arcs v) n then mk u v
      else if liesOf series (gt i.arcs v) (gt i.arcs u) n then mk v u else (noSpot, noPair, false)
  | _ => (noSpot, noPair, false)
/-- what is known where there is one -/
structure SpotOk (series : Bool) (i : Inst) (n a b : Nat) (r : Spot × Pair × Bool) : Prop where
  two : TwoAt i n a b
  lies : liesOf series (arcAt i.arcs a) (arcAt i.arcs b) n
  low : (standOf series (arcAt i.arcs a) (arcAt i.arcs b) n (gt i.supply n)).low ≤ (standOf series (arcAt i.arcs a) (arcAt i.arcs b) n (gt i.supply n)).cap
  is : r = (⟨n, a, b, standOf series (arcAt i.arcs a) (arcAt i.arcs b) n (gt i.supply n)⟩, ⟨arcAt i.arcs a, arcAt i.arcs b, n, gt i.supply n⟩, true)
theorem spotAt_ok {series : Bool} {i : Inst} (hw : Whole i) {n : Nat} (hn : n < i.supply.length) (h : (spotAt series i n).2.2 = true) : ∃ a b, SpotOk series i n a b (spotAt series i n) := by
  unfold spotAt at h ⊢
  split at h
  · rename_i u v hl
    split at h
    · cases h
    rename_i h0
    obtain ⟨a, b, rfl, rfl, hab, ht⟩ := twoAt_of hw hn hl h0
    dsimp only at h ⊢
    rw [if_neg h0]
    simp only [gt_arc] at h ⊢
    split at h
    · rename_i h1
      rw [if_pos h1]
      split at h
      · cases h
      · rename_i h2
        rw [if_neg h2]
        exact ⟨a, b, ht, h1, by omega, rfl⟩
    · rename_i h1
      rw [if_neg h1]
      split at h
      · rename_i h3
        rw [if_pos h3]
        split at h
        · cases h
        · rename_i h2
          rw [if_neg h2]
          exact ⟨b, a, ht.swap, h3, by omega, rfl⟩
      · cases h
  · cases h
theorem two_pair_chain_eq (d : Pair) : two_pair_chain d = some (chainArc d.x d.y d.s) := by
  unfold two_pair_chain two_least chainArc
  by_cases h : d.y.cap = 4611686018427387904 <;> simp only [h, if_true, if_false, Option.bind_some]
theorem two_pair_split_eq (d : Pair) : two_pair_split d = some (splitArc d.x d.y d.n d.s) := by
  unfold two_pair_split two_pair_both splitArc forkMore
  by_cases h : d.x.dst = d.n <;> by_cases h2 : d.y.cap = 4611686018427387904 <;> simp only [h, h2, if_true, if_false, Option.bind_some]
theorem at_1_eq {i : Inst} (hw : Whole i) (hl : i.arcs.length ≤ lim) {n : Nat} (hn : n < i.supply.length) : two_shape_at_1 i i n = some (spotAt true i n) := by
  unfold two_shape_at_1 spotAt adj_Graph_At adj_Graph_Loops two_series_1
  rw [if_pos hl, Option.bind_some]
  rcases hS : someL i n true true with _ | ⟨u, _ | ⟨v, _ | ⟨z, l⟩⟩⟩
  · rfl
  · rfl
  · dsimp only
    rw [if_neg (by simp), if_pos hl, Option.bind_some]
    by_cases h0 : 0 < loopsOf i n
    · rw [if_pos h0, if_pos h0]; rfl
    rw [if_neg h0, if_neg h0]
    obtain ⟨a, b, rfl, rfl, hab, ht⟩ := twoAt_of hw hn hS h0
    have ga : gt [(a : Int), (b : Int)] 0 = a := rfl
    have gb : gt [(a : Int), (b : Int)] 1 = b := rfl
    rw [ga, gb, if_pos (by simp), if_pos (by simp), if_pos (rng_of ht.ha), if_pos (rng_of ht.hb)]
    simp only [if_pos (rng_of hn), two_pair_chain_eq, Option.bind_some, standOf, if_true, liesOf]
    generalize gt i.arcs a = x
    generalize gt i.arcs b = y
    by_cases h1 : x.dst = n <;> by_cases h2 : y.src = n <;> by_cases h3 : y.dst = n <;> by_cases h4 : x.src = n <;> simp only [h1, h2, h3, h4, if_true, if_false, Option.bind_some, decide_true, decide_false, Bool.false_eq_true, and_true, and_self, and_false, false_and] <;>
      first | rfl | (split <;> rfl)
  · dsimp only
    rw [if_pos (by simp only [List.length_cons]; omega)]; rfl
theorem at_2_eq {i : Inst} (hw : Whole i) (hl : i.arcs.length ≤ lim) {n : Nat} (hn : n < i.supply.length) : two_shape_at_2 i i n = some (spotAt false i n) := by
  unfold two_shape_at_2 spotAt adj_Graph_At adj_Graph_Loops two_fork_1
  rw [if_pos hl, Option.bind_some]
  rcases hS : someL i n true true with _ | ⟨u, _ | ⟨v, _ | ⟨z, l⟩⟩⟩
  · rfl
  · rfl
  · dsimp only
    rw [if_neg (by simp), if_pos hl, Option.bind_some]
    by_cases h0 : 0 < loopsOf i n
    · rw [if_pos h0, if_pos h0]; rfl
    rw [if_neg h0, if_neg h0]
    obtain ⟨a, b, rfl, rfl, hab, ht⟩ := twoAt_of hw hn hS h0
    have ga : gt [(a : Int), (b : Int)] 0 = a := rfl
    have gb : gt [(a : Int), (b : Int)] 1 = b := rfl
    rw [ga, gb, if_pos (by simp), if_pos (by simp), if_pos (rng_of ht.ha), if_pos (rng_of ht.hb)]
    simp only [if_pos (rng_of hn), two_pair_split_eq, Option.bind_some, standOf, if_false, liesOf, Bool.false_eq_true]
    generalize gt i.arcs a = x
    generalize gt i.arcs b = y
    by_cases h1 : x.dst = n <;> by_cases h3 : y.dst = n <;> simp only [h1, h3, if_true, if_false, decide_true, decide_false, Bool.false_eq_true, iff_true, iff_false, not_true_eq_false, not_false_eq_true, iff_self] <;>
      first | rfl | (simp <;> split <;> rfl) | (simp <;> rfl)
  · dsimp only
    rw [if_pos (by simp only [List.length_cons]; omega)]; rfl
end Go.Proofs.YtpnohbdfgmjdbaaGreat
