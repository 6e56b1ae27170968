/- Plain: loops of the printed functions, and what instances' functions compute. -/
import Derived.Test.YtbnjeanldechnaaGreatDoorGD
import Derived.Test.YtbnjeanldechnaaGreatDoorPl
namespace Go.Qe
open Go.RowKit
theorem lp_eqN {σ ρ : Type} {body : (σ → Option ρ) → σ → Option ρ} (f : Nat → σ) (n : Nat) {r : Option ρ} (hs : ∀ k j, j < n → body k (f j) = k (f (j + 1))) (he : ∀ k, body k (f n) = r) :
    ∀ d j, j + d = n → ∀ N, d < N → lp body N (f j) = r
  | 0, j, hj, N, hN => by
    obtain ⟨N, rfl⟩ : ∃ M, N = M + 1 := ⟨N - 1, by omega⟩
    have : j = n := by omega
    subst this
    exact he _
  | d + 1, j, hj, N, hN => by
    obtain ⟨N, rfl⟩ : ∃ M, N = M + 1 := ⟨N - 1, by omega⟩
    show body (lp body N) (f j) = r
    rw [hs _ j (by omega)]
    exact lp_eqN f n hs he d (j + 1) (by omega) N (by omega)
/-- a loop that goes on up to its end -/
theorem lp_eq {σ ρ : Type} {body : (σ → Option ρ) → σ → Option ρ} (f : Nat → σ) (n : Nat) {r : Option ρ} {s0 : σ} (h0 : s0 = f 0) (hn : n < 4611686018427387904) (hs : ∀ k j, j < n → body k (f j) = k (f (j + 1))) (he : ∀ k, body k (f n) = r) : lp body big s0 = r := by
  subst h0
  exact lp_eqN f n hs he n 0 (by omega) big (by simpa [big] using hn)
/-- a loop that may end ahead -/
theorem lp_find {σ ρ : Type} {body : (σ → Option ρ) → σ → Option ρ} (f : Nat → σ) (n : Nat) (e : Nat → Option (Option ρ)) {fin : Option ρ} {s0 : σ} (h0 : s0 = f 0) (hn : n < 4611686018427387904)
    (hs : ∀ k j, j < n → body k (f j) = match e j with | some r => r | none => k (f (j + 1))) (he : ∀ k, body k (f n) = fin) : lp body big s0 = match (List.range n).findSome? e with | some r => r | none => fin := by
  by_cases hx : ∃ j, j < n ∧ (e j).isSome
  · obtain ⟨j, hj, hj2, hmin⟩ : ∃ j, j < n ∧ (e j).isSome ∧ ∀ i, i < j → e i = none := by
      obtain ⟨j, hj⟩ := hx
      induction j using Nat.strongRecOn with
      | ind j ih =>
        by_cases h : ∃ i, i < j ∧ (e i).isSome
        · obtain ⟨i, h1, h2⟩ := h
          exact ih i h1 ⟨by omega, h2⟩
        · exact ⟨j, hj.1, hj.2, fun i hi => by
            cases h3 : e i with
            | none => rfl
            | some r => exact absurd ⟨i, hi, by rw [h3]; rfl⟩ h⟩
    obtain ⟨r, hr⟩ := Option.isSome_iff_exists.1 hj2
    have h2 : (List.range n).findSome? e = some r := by
      rw [show n = j + (n - j) by omega, List.range_add, List.findSome?_append, List.findSome?_eq_none_iff.2 (fun x hx => hmin x (List.mem_range.1 hx)), Option.none_or]
      obtain ⟨d, hd⟩ : ∃ d, n - j = d + 1 := ⟨n - j - 1, by omega⟩
      rw [hd, List.range_succ_eq_map, List.map_cons, List.findSome?_cons, Nat.add_zero, hr]
    rw [h2]
    exact lp_eq f j h0 (by omega) (fun k i hi => by rw [hs k i (by omega), hmin i hi]) (fun k => by rw [hs k j hj, hr])
  · have hno : ∀ j, j < n → e j = none := fun j hj => by
      cases h : e j with
      | none => rfl
      | some r => exact absurd ⟨j, hj, by rw [h]; rfl⟩ hx
    rw [List.findSome?_eq_none_iff.2 (fun x hx => hno x (List.mem_range.1 hx))]
    exact lp_eq f n h0 hn (fun k j hj => by rw [hs k j hj, hno j hj]) he
theorem gt_get {α : Type} [Inhabited α] {xs : List α} {k : Nat} (h : k < xs.length) : gt xs (k : Int) = xs[k] := by simp [gt, List.getD, List.getElem?_eq_getElem h]
theorem findSome_range {α β : Type} [Inhabited α] (xs : List α) (g : α → Option β) : (List.range xs.length).findSome? (fun j : Nat => g (gt xs (j : Int))) = xs.findSome? g := by
  have : xs = (List.range xs.length).map (fun j : Nat => gt xs (j : Int)) := by
    apply List.ext_getElem (by simp)
    intro k h1 h2
    simp [gt_get h1]
  conv => rhs; rw [this]
  rw [List.findSome?_map]
  rfl
theorem rng_of {j n : Nat} (h : j < n) : 0 ≤ (j : Int) ∧ (j : Int) < (n : Int) := ⟨by omega, by omega⟩
theorem w64_succ {j : Nat} (h : j < 4611686018427387904) : w64 ((j : Int) + 1) = ((j + 1 : Nat) : Int) := by rw [w64_id (by omega) (by omega)]; rfl
theorem ins_ext {i j : Inst} (h1 : i.supply = j.supply) (h2 : i.arcs = j.arcs) : i = j := by cases i; cases j; simp_all
/-- what is wrong with an arc -/
def wrongOf (a : Arc) (n : Nat) : Int :=
  if 0 ≤ a.src ∧ a.src < n ∧ 0 ≤ a.dst ∧ a.dst < n then
    if 0 ≤ a.low ∧ a.low ≤ 4398046511104 ∧ (a.cap = 4611686018427387904 ∨ a.low ≤ a.cap ∧ a.cap ≤ 4398046511104) then
      if -4398046511104 ≤ a.cost ∧ a.cost ≤ 4398046511104 then 0 else 23
    else 22
  else 21
def inM (n : Int) : Bool := decide (-4398046511104 ≤ n ∧ n ≤ 4398046511104)
def wsum (l : List Int) : Int := l.foldl (fun s x => w64 (s + x)) 0
def rightOf (i : Inst) : Int :=
  if 64 < i.supply.length ∨ 256 < i.arcs.length then 20 else
    match i.arcs.findSome? (fun a => if wrongOf a i.supply.length = 0 then none else some (wrongOf a i.supply.length)) with
    | some e => e
    | none => if i.supply.all inM then if wsum i.supply = 0 then 0 else 25 else 24
structure RightA (n : Nat) (a : Arc) : Prop where
  s0 : 0 ≤ a.src
  s1 : a.src < n
  d0 : 0 ≤ a.dst
  d1 : a.dst < n
  low0 : 0 ≤ a.low
  low1 : a.low ≤ 4398046511104
  cap : a.cap = 4611686018427387904 ∨ a.low ≤ a.cap ∧ a.cap ≤ 4398046511104
  c0 : -4398046511104 ≤ a.cost
  c1 : a.cost ≤ 4398046511104
structure RightI (i : Inst) : Prop where
  nodes : i.supply.length ≤ 64
  many : i.arcs.length ≤ 256
  arcs : ∀ a ∈ i.arcs, RightA i.supply.length a
  sup : ∀ s ∈ i.supply, -4398046511104 ≤ s ∧ s ≤ 4398046511104
  sum : i.supply.sum = 0
theorem wrongOf_zero {a : Arc} {n : Nat} : wrongOf a n = 0 ↔ RightA n a := by
  unfold wrongOf
  constructor
  · intro h
    repeat' split at h
    all_goals first | (cases h; done) | skip
    rename_i h1 h2 h3
    exact ⟨h1.1, h1.2.1, h1.2.2.1, h1.2.2.2, h2.1, h2.2.1, h2.2.2, h3.1, h3.2⟩
  · intro h
    rw [if_pos ⟨h.s0, h.s1, h.d0, h.d1⟩, if_pos ⟨h.low0, h.low1, h.cap⟩, if_pos ⟨h.c0, h.c1⟩]
theorem wsum_run : ∀ (l : List Int) (s : Int), (∀ x ∈ l, -4398046511104 ≤ x ∧ x ≤ 4398046511104) → -9000000000000000000 ≤ s - 4398046511104 * (l.length : Int) → s + 4398046511104 * (l.length : Int) ≤ 9000000000000000000 → l.foldl (fun s x => w64 (s + x)) s = s + l.sum
  | [], s, _, _, _ => by simp
  | x :: l, s, h, h1, h2 => by
    have hx := h x List.mem_cons_self
    have hc : ((x :: l).length : Int) = (l.length : Int) + 1 := by simp
    rw [hc] at h1 h2
    rw [List.foldl_cons, List.sum_cons, w64_id (by omega) (by omega), wsum_run l (s + x) (fun y hy => h y (List.mem_cons_of_mem _ hy)) (by omega) (by omega)]
    omega
theorem wsum_eq {l : List Int} (h : ∀ x ∈ l, -4398046511104 ≤ x ∧ x ≤ 4398046511104) (hl : l.length ≤ 64) : wsum l = l.sum := by
  have := wsum_run l 0 h (by omega) (by omega)
  simpa [wsum] using this
theorem rightOf_zero {i : Inst} : rightOf i = 0 ↔ RightI i := by
  unfold rightOf
  constructor
  · intro h
    split at h
    · cases h
    rename_i hn
    split at h
    · rename_i e he
      obtain ⟨a, ha, h2⟩ := List.exists_of_findSome?_eq_some he
      split at h2
      · cases h2
      · rename_i h3; cases h2; exact absurd h h3
    · rename_i he
      have harc : ∀ a ∈ i.arcs, RightA i.supply.length a := fun a ha => by
        have := List.findSome?_eq_none_iff.1 he a ha
        split at this
        · rename_i h3; exact wrongOf_zero.1 h3
        · cases this
      split at h
      · rename_i hs
        have hsup : ∀ s ∈ i.supply, -4398046511104 ≤ s ∧ s ≤ 4398046511104 := fun s h0 => by
          have := List.all_eq_true.1 hs s h0
          simpa [inM] using this
        split at h
        · rename_i h0
          exact ⟨by omega, by omega, harc, hsup, by rw [← h0, wsum_eq hsup (by omega)]⟩
        · cases h
      · cases h
  · intro h
    rw [if_neg (by have := h.nodes; have := h.many; omega), List.findSome?_eq_none_iff.2 (fun a ha => if_pos (wrongOf_zero.2 (h.arcs a ha)))]
    dsimp only
    rw [if_pos (List.all_eq_true.2 fun s hs => by simpa [inM] using h.sup s hs), if_pos (by rw [wsum_eq h.sup h.nodes, h.sum])]
theorem wsum_take {l : List Int} {j : Nat} (h : j < l.length) : wsum (l.take (j + 1)) = w64 (wsum (l.take j) + l[j]) := by
  unfold wsum
  rw [List.take_add_one, List.getElem?_eq_getElem h, Option.toList_some, List.foldl_append]
  rfl
end Go.Qe
namespace Go.Proofs.YtbnjeanldechnaaGreatDoor
open Go.RowKit Go.Qe
theorem inst_within_eq (n : Int) : inst_within n = some (inM n) := by
  unfold inst_within inM
  by_cases h1 : -4398046511104 ≤ n <;> simp [h1]
theorem inst_wrong_eq (a : Arc) (n : Nat) : inst_wrong a n = some (wrongOf a n) := by
  unfold inst_wrong inst_wrong_1_1 wrongOf
  simp only [inst_within_eq, Option.bind_some, inM]
  by_cases h1 : 0 ≤ a.src <;> by_cases h2 : a.src < n <;> by_cases h3 : 0 ≤ a.dst <;> by_cases h4 : a.dst < n <;> simp only [h1, h2, h3, h4, if_true, if_false, Option.bind_some, decide_true, decide_false, Bool.false_eq_true, and_true, true_and, and_false, false_and]
  by_cases h5 : a.low < 0
  · rw [if_pos h5, if_neg (show ¬ (0 ≤ a.low ∧ _) by omega)]
  · rw [if_neg h5]
    by_cases h6 : 4398046511104 < a.low
    · rw [if_pos h6, if_neg (show ¬ (0 ≤ a.low ∧ _) by omega)]
    · rw [if_neg h6]
      by_cases h7 : a.cap = 4611686018427387904
      · have c : 0 ≤ a.low ∧ a.low ≤ 4398046511104 ∧ (a.cap = 4611686018427387904 ∨ a.low ≤ a.cap ∧ a.cap ≤ 4398046511104) := ⟨by omega, by omega, .inl h7⟩
        rw [if_pos c, if_neg (show ¬ ¬ a.cap = 4611686018427387904 from fun h => h h7)]
        by_cases h8 : -4398046511104 ≤ a.cost ∧ a.cost ≤ 4398046511104 <;> simp [h8]
      · rw [if_pos h7]
        by_cases h9 : a.cap < a.low
        · rw [if_pos h9, if_neg (show ¬ (0 ≤ a.low ∧ _) by omega)]
        · rw [if_neg h9]
          by_cases h10 : 4398046511104 < a.cap
          · rw [if_pos h10, if_neg (show ¬ (0 ≤ a.low ∧ _) by omega)]
          · have c : 0 ≤ a.low ∧ a.low ≤ 4398046511104 ∧ (a.cap = 4611686018427387904 ∨ a.low ≤ a.cap ∧ a.cap ≤ 4398046511104) := ⟨by omega, by omega, .inr ⟨by omega, by omega⟩⟩
            rw [if_neg h10, if_pos c]
            by_cases h8 : -4398046511104 ≤ a.cost ∧ a.cost ≤ 4398046511104 <;> simp [h8]
theorem inst_Right_eq (i : Inst) : inst_Right i = some (rightOf i) := by
  unfold inst_Right rightOf
  by_cases h1 : 64 < i.supply.length
  · rw [if_pos (by omega), if_pos (.inl h1)]
  by_cases h2 : 256 < i.arcs.length
  · rw [if_neg (by omega), if_pos (by omega), if_pos (.inr h2)]
  rw [if_neg (by omega), if_neg (by omega), if_neg (by omega)]
  have hb : lp (inst_Right_b2 i) big (0, 0) = some (if i.supply.all inM then if wsum i.supply = 0 then 0 else 25 else 24) := by
    rw [lp_find (fun j => (wsum (i.supply.take j), (j : Int))) i.supply.length (fun j => if inM (gt i.supply j) = true then none else some (some 24)) (fin := if ¬ wsum i.supply = 0 then some 25 else some 0) (by simp [wsum]) (by omega)]
    · rw [findSome_range i.supply (fun x => if inM x = true then none else some (some 24))]
      by_cases hs : i.supply.all inM = true
      · rw [if_pos hs, List.findSome?_eq_none_iff.2 (fun x hx => if_pos (List.all_eq_true.1 hs x hx))]
        by_cases h0 : wsum i.supply = 0 <;> simp [h0]
      · rw [if_neg hs]
        cases h0 : i.supply.findSome? (fun x => if inM x = true then none else some (some (24 : Int))) with
        | none =>
          exfalso
          refine hs (List.all_eq_true.2 fun x hx => ?_)
          have := List.findSome?_eq_none_iff.1 h0 x hx
          split at this
          · assumption
          · cases this
        | some r =>
          obtain ⟨a, ha, h3⟩ := List.exists_of_findSome?_eq_some h0
          split at h3
          · cases h3
          · cases h3; rfl
    · intro k j hj
      unfold inst_Right_b2
      dsimp only
      rw [if_pos (rng_of hj).2, if_pos (rng_of hj), inst_within_eq, Option.bind_some]
      by_cases h3 : inM (gt i.supply (j : Int)) = true
      · rw [if_pos h3, if_pos h3]
        simp only [lt_eq]
        rw [gt_get hj, ← wsum_take hj, w64_succ (by omega)]
      · rw [if_neg h3, if_neg h3]
    · intro k
      unfold inst_Right_b2
      dsimp only
      rw [if_neg (by omega), List.take_length]
  rw [lp_find (fun j => (j : Int)) i.arcs.length (fun j => if wrongOf (gt i.arcs j) i.supply.length = 0 then none else some (some (wrongOf (gt i.arcs j) i.supply.length))) (fin := lp (inst_Right_b2 i) big (0, 0)) (s0 := (0 : Int)) rfl (by omega)]
  · rw [findSome_range i.arcs (fun a => if wrongOf a i.supply.length = 0 then none else some (some (wrongOf a i.supply.length))), hb]
    have e : ∀ l : List Arc, l.findSome? (fun a => if wrongOf a i.supply.length = 0 then none else some (some (wrongOf a i.supply.length))) = (l.findSome? (fun a => if wrongOf a i.supply.length = 0 then none else some (wrongOf a i.supply.length))).map some := fun l => by
      induction l with
      | nil => rfl
      | cons a l ih =>
        simp only [List.findSome?_cons]
        by_cases h : wrongOf a i.supply.length = 0 <;> simp [h, ih]
    rw [e]
    cases i.arcs.findSome? (fun a => if wrongOf a i.supply.length = 0 then none else some (wrongOf a i.supply.length)) <;> rfl
  · intro k j hj
    unfold inst_Right_b1
    rw [if_pos (rng_of hj).2, if_pos (rng_of hj), inst_wrong_eq, Option.bind_some]
    by_cases h3 : wrongOf (gt i.arcs (j : Int)) i.supply.length = 0
    · rw [if_neg (by omega), if_pos h3, w64_succ (by omega)]
    · rw [if_pos h3, if_neg h3]
  · intro k
    unfold inst_Right_b1
    rw [if_neg (by omega)]
theorem inst_Right_ok {i : Inst} (h : RightI i) : inst_Right i = some 0 := by rw [inst_Right_eq, rightOf_zero.2 h]
end Go.Proofs.YtbnjeanldechnaaGreatDoor
