/- Adj: what the sort by counts keeps (plain). -/
import Derived.Test.YtbnjeanldechnaaGreatDoorA9
namespace Go.Proofs.YtbnjeanldechnaaGreatDoor
open Go.RowKit Go.Qe
/-- of the first k arcs: those between nodes whose end 'by' is node m -/
def bkt (i : Inst) (by_ : Arc → Int) (k m : Nat) : List Int := ((List.range k).filter fun j : Nat => fitB i (j : Int) && decide (by_ (arcAt i.arcs j) = (m : Int))).map fun k : Nat => (k : Int)
theorem bkt_succ (i : Inst) (by_ : Arc → Int) (k m : Nat) : bkt i by_ (k + 1) m = bkt i by_ k m ++ (if fitB i k = true ∧ by_ (arcAt i.arcs k) = (m : Int) then [(k : Int)] else []) := by
  simp only [bkt, List.range_succ, List.filter_append, List.map_append]
  congr 1
  by_cases h1 : fitB i k = true <;> by_cases h2 : by_ (arcAt i.arcs k) = (m : Int) <;> simp [h1, h2]
theorem bkt_yes {i : Inst} {by_ : Arc → Int} {k m : Nat} (h1 : fitB i k = true) (h2 : by_ (arcAt i.arcs k) = (m : Int)) : bkt i by_ (k + 1) m = bkt i by_ k m ++ [(k : Int)] := by
  rw [bkt_succ, if_pos ⟨h1, h2⟩]
theorem bkt_no {i : Inst} {by_ : Arc → Int} {k m : Nat} (h : ¬ (fitB i k = true ∧ by_ (arcAt i.arcs k) = (m : Int))) : bkt i by_ (k + 1) m = bkt i by_ k m := by
  rw [bkt_succ, if_neg h, List.append_nil]
theorem bkt_pre (i : Inst) (by_ : Arc → Int) (m : Nat) {k k' : Nat} (h : k ≤ k') : ∃ t, bkt i by_ k' m = bkt i by_ k m ++ t := by
  induction k' with
  | zero => have : k = 0 := by omega
            subst this; exact ⟨[], by simp⟩
  | succ n ih =>
    rcases Nat.lt_or_ge k (n + 1) with h' | h'
    · obtain ⟨t, ht⟩ := ih (by omega)
      exact ⟨t ++ _, by rw [bkt_succ, ht, List.append_assoc]⟩
    · have : k = n + 1 := by omega
      subst this; exact ⟨[], by simp⟩
theorem bkt_le (i : Inst) (by_ : Arc → Int) (m : Nat) {k k' : Nat} (h : k ≤ k') : (bkt i by_ k m).length ≤ (bkt i by_ k' m).length := by
  obtain ⟨t, ht⟩ := bkt_pre i by_ m h
  rw [ht, List.length_append]; omega
theorem bkt_lt {i : Inst} {by_ : Arc → Int} {k k' m : Nat} (h1 : fitB i k = true) (h2 : by_ (arcAt i.arcs k) = (m : Int)) (h : k < k') : (bkt i by_ k m).length < (bkt i by_ k' m).length := by
  have := bkt_le i by_ m (show k + 1 ≤ k' by omega)
  rw [bkt_yes h1 h2, List.length_append] at this
  simp at this
  omega
theorem bkt_zero (i : Inst) (by_ : Arc → Int) (m : Nat) : bkt i by_ 0 m = [] := rfl
theorem startAt_congr {B B' : Nat → List Int} {N : Nat} (h : ∀ m, m < N → (B m).length = (B' m).length) : startAt B N = startAt B' N := by
  induction N with
  | zero => rfl
  | succ n ih => simp only [startAt]; rw [ih (fun m hm => h m (by omega)), h n (by omega)]
theorem startAt_one {B B' : Nat → List Int} {m0 : Nat} (h0 : (B' m0).length = (B m0).length + 1) (h : ∀ m, m ≠ m0 → (B' m).length = (B m).length) (N : Nat) : startAt B' N = startAt B N + (if m0 < N then 1 else 0) := by
  induction N with
  | zero => rfl
  | succ n ih =>
    simp only [startAt]
    rw [ih]
    by_cases hn : n = m0
    · subst hn; rw [h0, if_neg (by omega), if_pos (by omega)]; omega
    · rw [h n hn]
      by_cases h1 : m0 < n
      · rw [if_pos h1, if_pos (by omega)]; omega
      · rw [if_neg h1, if_neg (by omega)]; omega
theorem startAt_bkt_le (i : Inst) (by_ : Arc → Int) (N k : Nat) : startAt (bkt i by_ k) N ≤ k := by
  induction k with
  | zero =>
    have : ∀ N, startAt (bkt i by_ 0) N = 0 := fun N => by
      induction N with
      | zero => rfl
      | succ n ih => simp only [startAt, ih, bkt_zero, List.length_nil]
    rw [this]; omega
  | succ k ih =>
    by_cases h : fitB i k = true ∧ ∃ m : Nat, by_ (arcAt i.arcs k) = (m : Int)
    · obtain ⟨h1, m, h2⟩ := h
      have := startAt_one (B := bkt i by_ k) (B' := bkt i by_ (k + 1)) (m0 := m) (by rw [bkt_yes h1 h2]; simp) (fun m' hm => by
        rw [bkt_no (fun h => hm ?_)]
        have := h.2
        omega) N
      rw [this]
      split <;> omega
    · have : startAt (bkt i by_ (k + 1)) N = startAt (bkt i by_ k) N := startAt_congr fun m _ => by
        rw [bkt_no fun h' => h ⟨h'.1, m, h'.2⟩]
      omega
theorem bkt_src (i : Inst) (m : Nat) : bkt i Arc.src i.arcs.length m = outB i m := by
  simp only [bkt, outB, someL, someTo]
  congr 2
  funext j
  simp [pickB]
theorem bkt_dst (i : Inst) (m : Nat) : bkt i Arc.dst i.arcs.length m = inB i m := by
  simp only [bkt, inB, someL, someTo]
  congr 2
/-- phase 1: counts -/
structure Cnt (i : Inst) (by_ : Arc → Int) (k : Nat) (xs : List Int) : Prop where
  len : xs.length = i.supply.length + 1
  zero : el xs 0 = 0
  cnt : ∀ m, m < i.supply.length → el xs (m + 1) = (bkt i by_ k m).length
theorem Cnt.start (i : Inst) (by_ : Arc → Int) : Cnt i by_ 0 (List.replicate (i.supply.length + 1) 0) :=
  ⟨by simp, el_replicate _ _, fun m _ => by rw [el_replicate, bkt_zero]; rfl⟩
theorem Cnt.yes {i : Inst} {by_ : Arc → Int} {k m : Nat} {xs : List Int} (h : Cnt i by_ k xs) (h1 : fitB i k = true) (h2 : by_ (arcAt i.arcs k) = (m : Int)) (hm : m < i.supply.length) : Cnt i by_ (k + 1) (xs.set (m + 1) (el xs (m + 1) + 1)) := by
  refine ⟨by simp [h.len], ?_, fun m' hm' => ?_⟩
  · rw [el_set (by rw [h.len]; omega), if_neg (by omega), h.zero]
  · rw [el_set (by rw [h.len]; omega)]
    by_cases e : m' = m
    · subst e; rw [if_pos rfl, h.cnt _ hm', bkt_yes h1 h2]; simp
    · rw [if_neg (by omega), h.cnt _ hm', bkt_no (fun h => e (by have := h.2; omega))]
theorem Cnt.no {i : Inst} {by_ : Arc → Int} {k : Nat} {xs : List Int} (h : Cnt i by_ k xs) (h1 : fitB i k = false) : Cnt i by_ (k + 1) xs :=
  ⟨h.len, h.zero, fun m hm => by rw [bkt_no (by simp [h1]), h.cnt m hm]⟩
/-- phase 2: sums -/
structure Sums (i : Inst) (by_ : Arc → Int) (n : Nat) (xs : List Int) : Prop where
  len : xs.length = i.supply.length + 1
  sum : ∀ m, m ≤ n → el xs m = startAt (bkt i by_ i.arcs.length) m
  cnt : ∀ m, n ≤ m → m < i.supply.length → el xs (m + 1) = (bkt i by_ i.arcs.length m).length
theorem Cnt.sums {i : Inst} {by_ : Arc → Int} {xs : List Int} (h : Cnt i by_ i.arcs.length xs) : Sums i by_ 0 xs :=
  ⟨h.len, fun m hm => by have : m = 0 := by omega
                         subst this; rw [h.zero]; rfl, fun m _ hm => h.cnt m hm⟩
theorem Sums.next {i : Inst} {by_ : Arc → Int} {n : Nat} {xs : List Int} (h : Sums i by_ n xs) (hn : n < i.supply.length) : Sums i by_ (n + 1) (xs.set (n + 1) (el xs (n + 1) + el xs n)) := by
  refine ⟨by simp [h.len], fun m hm => ?_, fun m h1 h2 => ?_⟩
  · rw [el_set (by rw [h.len]; omega)]
    by_cases e : m = n + 1
    · subst e
      rw [if_pos rfl, h.cnt n (Nat.le_refl _) hn, h.sum n (Nat.le_refl _)]
      simp only [startAt]; omega
    · rw [if_neg e, h.sum m (by omega)]
  · rw [el_set (by rw [h.len]; omega), if_neg (by omega), h.cnt m (by omega) h2]
/-- phase 3: places -/
structure Put (i : Inst) (by_ : Arc → Int) (k : Nat) (zs ys : List Int) : Prop where
  len : zs.length = i.supply.length + 1
  next : ∀ m, m < i.supply.length → el zs m = (startAt (bkt i by_ i.arcs.length) m + (bkt i by_ k m).length : Nat)
  row : ys.length = startAt (bkt i by_ i.arcs.length) i.supply.length
  put : ∀ m j, m < i.supply.length → j < (bkt i by_ k m).length → el ys (startAt (bkt i by_ i.arcs.length) m + j) = el (bkt i by_ k m) j
theorem Put.start {i : Inst} {by_ : Arc → Int} {zs : List Int} (h : Sums i by_ i.supply.length zs) : Put i by_ 0 zs (List.replicate (startAt (bkt i by_ i.arcs.length) i.supply.length) 0) :=
  ⟨h.len, fun m hm => by rw [h.sum m (by omega), bkt_zero]; simp, by simp, fun m j _ hj => by simp [bkt_zero] at hj⟩
theorem Put.no {i : Inst} {by_ : Arc → Int} {k : Nat} {zs ys : List Int} (h : Put i by_ k zs ys) (h1 : fitB i k = false) : Put i by_ (k + 1) zs ys := by
  have e : ∀ m, bkt i by_ (k + 1) m = bkt i by_ k m := fun m => bkt_no (by simp [h1])
  exact ⟨h.len, fun m hm => by rw [e, h.next m hm], h.row, fun m j hm hj => by rw [e] at hj ⊢; exact h.put m j hm hj⟩
/-- the place of the next one of node m -/
def placeOf (i : Inst) (by_ : Arc → Int) (k m : Nat) : Nat := startAt (bkt i by_ i.arcs.length) m + (bkt i by_ k m).length
theorem placeOf_lt {i : Inst} {by_ : Arc → Int} {k m : Nat} (h1 : fitB i k = true) (h2 : by_ (arcAt i.arcs k) = (m : Int)) (hm : m < i.supply.length) (hk : k < i.arcs.length) : placeOf i by_ k m < startAt (bkt i by_ i.arcs.length) i.supply.length := by
  have h3 := bkt_lt h1 h2 hk
  have h4 := startAt_mono (bkt i by_ i.arcs.length) (show m + 1 ≤ i.supply.length by omega)
  simp only [startAt] at h4
  simp only [placeOf]
  omega
theorem Put.yes {i : Inst} {by_ : Arc → Int} {k m : Nat} {zs ys : List Int} (h : Put i by_ k zs ys) (h1 : fitB i k = true) (h2 : by_ (arcAt i.arcs k) = (m : Int)) (hm : m < i.supply.length) (hk : k < i.arcs.length) :
    Put i by_ (k + 1) (zs.set m (placeOf i by_ k m + 1)) (ys.set (placeOf i by_ k m) k) := by
  have hp := placeOf_lt h1 h2 hm hk
  have hne : ∀ m', m' ≠ m → bkt i by_ (k + 1) m' = bkt i by_ k m' := fun m' e => bkt_no (fun h => e (by have := h.2; omega))
  refine ⟨by simp [h.len], fun m' hm' => ?_, by simp [h.row], fun m' j hm' hj => ?_⟩
  · rw [el_set (by rw [h.len]; omega)]
    by_cases e : m' = m
    · subst e; rw [if_pos rfl, bkt_yes h1 h2]; simp [placeOf]; omega
    · rw [if_neg e, hne m' e, h.next m' hm']
  · rw [el_set (by rw [h.row]; exact hp)]
    by_cases e : m' = m
    · subst e
      rw [bkt_yes h1 h2] at hj ⊢
      simp only [List.length_append, List.length_cons, List.length_nil] at hj
      by_cases e2 : j = (bkt i by_ k m').length
      · subst e2
        rw [if_pos (by simp only [placeOf])]
        simp [el, List.getD]
      · rw [if_neg (by simp only [placeOf]; omega), h.put m' j hm (by omega)]
        simp only [el, List.getD]
        rw [List.getElem?_append_left (by omega)]
    · rw [hne m' e] at hj ⊢
      have hj2 : j < (bkt i by_ i.arcs.length m').length := Nat.lt_of_lt_of_le hj (bkt_le i by_ m' (by omega))
      rw [if_neg ?_, h.put m' j hm' hj]
      have h3 := bkt_lt h1 h2 hk
      simp only [placeOf]
      rcases Nat.lt_or_ge m' m with hlt | hge
      · have := startAt_mono (bkt i by_ i.arcs.length) (show m' + 1 ≤ m by omega)
        simp only [startAt] at this
        omega
      · have := startAt_mono (bkt i by_ i.arcs.length) (show m + 1 ≤ m' by omega)
        simp only [startAt] at this
        omega
theorem Put.done {i : Inst} {by_ : Arc → Int} {zs ys xs : List Int} {Z : PH} {vr va : Value} (h : Put i by_ i.arcs.length zs ys) (hx : Sums i by_ i.supply.length xs) (h1 : IntsZ Z vr ys) (h2 : IntsZ Z va xs) : RowZ Z vr va (bkt i by_ i.arcs.length) i.supply.length :=
  ⟨ys, xs, h1, h2, hx.len, hx.sum, h.row, h.put⟩
end Go.Proofs.YtbnjeanldechnaaGreatDoor
