/- Plain: copies, what is the same, how much there is, what is kept, what is left without some. -/
import Derived.Test.YtbnjeanldechnaaGreatDoorTh1
namespace Go.Qe
open Go.RowKit
/-- two lists gone through place by place -/
theorem scan_eq {α ρ : Type} [Inhabited α] [DecidableEq α] (a b : List α) (hl : a.length = b.length) (x : Option ρ) :
    (List.range a.length).findSome? (fun j : Nat => if gt a (j : Int) = gt b (j : Int) then none else some x) = if a = b then none else some x := by
  by_cases h : a = b
  · subst h
    rw [if_pos rfl]
    exact List.findSome?_eq_none_iff.2 fun j _ => if_pos rfl
  · rw [if_neg h]
    cases h0 : (List.range a.length).findSome? (fun j : Nat => if gt a (j : Int) = gt b (j : Int) then none else some x) with
    | none =>
      exfalso
      refine h (List.ext_getElem hl fun k h1 h2 => ?_)
      have := List.findSome?_eq_none_iff.1 h0 k (List.mem_range.2 h1)
      split at this
      · rename_i he; rwa [gt_get h1, gt_get h2] at he
      · cases this
    | some r =>
      obtain ⟨j, _, h3⟩ := List.exists_of_findSome?_eq_some h0
      split at h3
      · cases h3
      · cases h3; rfl
def keptL (off : List Bool) (n : Nat) : List Int := ((List.range n).filter (fun k => !(off.getD k false))).map fun k : Nat => (k : Int)
theorem keptL_succ (off : List Bool) (n : Nat) : keptL off (n + 1) = keptL off n ++ (if off.getD n false = true then [] else [(n : Int)]) := by
  unfold keptL
  rw [List.range_succ, List.filter_append, List.map_append]
  by_cases h : off.getD n false = true <;> simp only [List.getD] at h <;> simp [h]
theorem keptL_len (off : List Bool) (n : Nat) : (keptL off n).length ≤ n := by
  unfold keptL
  rw [List.length_map]
  exact Nat.le_trans (List.length_filter_le _ _) (by simp)
theorem keptL_mem {off : List Bool} {n : Nat} {x : Int} : x ∈ keptL off n ↔ ∃ k : Nat, k < n ∧ off.getD k false = false ∧ x = (k : Int) := by
  unfold keptL
  simp only [List.mem_map, List.mem_filter, List.mem_range, Bool.not_eq_true']
  constructor
  · rintro ⟨k, ⟨h1, h2⟩, rfl⟩; exact ⟨k, h1, h2, rfl⟩
  · rintro ⟨k, h1, h2, rfl⟩; exact ⟨k, ⟨h1, h2⟩, rfl⟩
theorem keptL_rng {off : List Bool} {n : Nat} {x : Int} (h : x ∈ keptL off n) : 0 ≤ x ∧ x < n := by
  obtain ⟨k, h1, _, rfl⟩ := keptL_mem.1 h; omega
theorem keptL_nil (n : Nat) : keptL [] n = (List.range n).map fun k : Nat => (k : Int) := by
  unfold keptL
  rw [List.filter_eq_self.2 (fun k _ => by simp)]
theorem keptL_nodup (off : List Bool) (n : Nat) : (keptL off n).Nodup := by
  unfold keptL
  refine List.Pairwise.map _ (fun a b h e => h (by omega)) (List.Pairwise.filter _ List.nodup_range)
/-- where a number stands -/
def idx (l : List Int) (v : Int) : Int := match l.findIdx? (fun x => decide (x = v)) with
  | some k => k
  | none => -1
theorem idx_mem {l : List Int} {v : Int} (h : v ∈ l) : 0 ≤ idx l v ∧ idx l v < l.length ∧ gt l (idx l v) = v := by
  unfold idx
  cases hk : l.findIdx? (fun x => decide (x = v)) with
  | none => have := List.findIdx?_eq_none_iff.1 hk v h; simp at this
  | some k =>
    obtain ⟨h1, h2, _⟩ := List.findIdx?_eq_some_iff_getElem.1 hk
    refine ⟨by show (0 : Int) ≤ (k : Int); omega, by show (k : Int) < _; omega, ?_⟩
    show gt l (k : Int) = v
    rw [gt_get h1]
    simpa using h2
theorem idx_not {l : List Int} {v : Int} (h : ¬ v ∈ l) : idx l v = -1 := by
  unfold idx
  rw [List.findIdx?_eq_none_iff.2 fun x hx => decide_eq_false fun (e : x = v) => h (e ▸ hx)]
theorem idx_nonneg {l : List Int} {v : Int} : 0 ≤ idx l v ↔ v ∈ l := by
  by_cases h : v ∈ l
  · exact ⟨fun _ => h, fun _ => (idx_mem h).1⟩
  · rw [idx_not h]; exact ⟨fun h1 => by omega, fun h1 => absurd h1 h⟩
theorem idx_at {l : List Int} (hn : l.Nodup) {k : Nat} (h : k < l.length) : idx l l[k] = k := by
  have h1 := idx_mem (List.getElem_mem h)
  obtain ⟨m, hm⟩ := Int.eq_ofNat_of_zero_le h1.1
  have h2 : m < l.length := by omega
  have h3 := h1.2.2
  rw [hm, gt_get h2] at h3
  have h4 : m = k := by
    rcases Nat.lt_trichotomy m k with h5 | h5 | h5
    · exact absurd h3 (List.pairwise_iff_getElem.1 hn m k h2 h h5)
    · exact h5
    · exact absurd h3.symm (List.pairwise_iff_getElem.1 hn k m h h2 h5)
  rw [hm, h4]
/-- an arc by the new numbers of its ends -/
def ren (l : List Int) (a : Arc) : Option Arc := if 0 ≤ idx l a.src ∧ 0 ≤ idx l a.dst then some ⟨idx l a.src, idx l a.dst, a.low, a.cap, a.cost⟩ else none
def withoutOf (i : Inst) (nodes arcs : List Bool) : Inst := ⟨(keptL nodes i.supply.length).map (gt i.supply), ((keptL arcs i.arcs.length).map (gt i.arcs)).filterMap (ren (keptL nodes i.supply.length))⟩
theorem map_gt_all {α : Type} [Inhabited α] (xs : List α) : (keptL [] xs.length).map (gt xs) = xs := by
  rw [keptL_nil]
  apply List.ext_getElem (by simp)
  intro k h1 h2
  simp [gt_get h2]
/-- one node is off -/
theorem keptL_one {n m : Nat} (h : m < n) : keptL ((List.replicate n false).set m true) n = ((List.range m) ++ (List.range' (m + 1) (n - m - 1))).map fun k : Nat => (k : Int) := by
  unfold keptL
  congr 1
  have e : List.range n = List.range m ++ (m :: List.range' (m + 1) (n - m - 1)) := by
    have h0 := List.range'_append_1 (s := 0) (m := m) (n := n - m - 1 + 1)
    rw [Nat.zero_add] at h0
    rw [List.range_eq_range', List.range_eq_range', ← List.range'_succ, h0]
    congr 1; omega
  have hg : ∀ k, ((List.replicate n false).set m true).getD k false = decide (k = m) := fun k => by
    rw [List.getD, List.getElem?_set]
    by_cases hk : k = m
    · subst hk; simp [h]
    · have : ¬ m = k := fun e => hk e.symm
      simp only [this, if_false, hk, decide_false]
      by_cases h2 : k < n
      · simp [List.getElem?_replicate, h2]
      · simp [List.getElem?_replicate, h2]
  simp only [hg]
  rw [e, List.filter_append, List.filter_cons]
  rw [List.filter_eq_self.2 (fun k hk => by have := List.mem_range.1 hk; simp; omega), List.filter_eq_self.2 (fun k hk => by have := List.mem_range'_1.1 hk; simp; omega)]
  simp
theorem map_one {α : Type} [Inhabited α] (xs : List α) {m : Nat} (h : m < xs.length) : (keptL ((List.replicate xs.length false).set m true) xs.length).map (gt xs) = xs.take m ++ xs.drop (m + 1) := by
  rw [keptL_one h, List.map_map, List.map_append]
  congr 1
  · apply List.ext_getElem (by simp; omega)
    intro k h1 h2
    simp at h1
    simp [gt_get (show k < xs.length by omega)]
  · apply List.ext_getElem (by simp; omega)
    intro k h1 h2
    simp at h1
    have := gt_get (show m + 1 + k < xs.length by omega)
    simp only [Int.natCast_add, Int.cast_ofNat_Int] at this
    simpa using this
theorem sum_one {xs : List Int} {m : Nat} (h : m < xs.length) : (xs.take m ++ xs.drop (m + 1)).sum = xs.sum - xs[m] := by
  have : xs = xs.take m ++ (xs[m] :: xs.drop (m + 1)) := by rw [List.getElem_cons_drop]; simp
  have hs : xs.sum = (xs.take m).sum + (xs[m] + (xs.drop (m + 1)).sum) := by
    conv => lhs; rw [this]
    rw [List.sum_append, List.sum_cons]
  rw [hs, List.sum_append]
  omega
theorem mem_one {n m : Nat} (h : m < n) {x : Int} : x ∈ keptL ((List.replicate n false).set m true) n ↔ 0 ≤ x ∧ x < n ∧ ¬ x = m := by
  rw [keptL_one h]
  simp only [List.mem_map, List.mem_append, List.mem_range, List.mem_range'_1]
  constructor
  · rintro ⟨k, h1, rfl⟩; omega
  · rintro ⟨h1, h2, h3⟩; exact ⟨x.toNat, by omega, by omega⟩
theorem len_one {n m : Nat} (h : m < n) : (keptL ((List.replicate n false).set m true) n).length = n - 1 := by
  rw [keptL_one h]; simp; omega
end Go.Qe
namespace Go.Proofs.YtbnjeanldechnaaGreatDoor
open Go.RowKit Go.Qe
theorem inst_Copy_eq {i : Inst} (h1 : i.supply.length ≤ lim) (h2 : i.arcs.length ≤ lim) : inst_Copy i = some i := by
  unfold inst_Copy slices_Clone_int64 slices_Clone_api_Arc
  rw [if_pos h1, Option.bind_some, if_pos h2, Option.bind_some]
theorem inst_Kept_eq (off : List Bool) {n : Nat} (h : n ≤ 1000) (ho : off.length ≤ lim) : inst_Kept off (n : Int) = some (keptL off n) := by
  have hn : (if (1000 : Int) < (n : Int) then (1000 : Int) else (n : Int)) = (n : Int) := if_neg (by omega)
  simp only [lim] at ho
  unfold inst_Kept
  refine lp_eq (fun j => ((j : Int), keptL off j)) n (by simp [keptL]) (by omega) (fun k j hj => ?_) (fun k => ?_)
  · unfold inst_Kept_b1
    dsimp only
    have hl : (keptL off j).length + [(j : Int)].length ≤ lim := by have := keptL_len off j; simp only [List.length_singleton, lim]; omega
    rw [hn, if_pos (rng_of hj).2, keptL_succ, w64_succ (by omega)]
    by_cases h1 : (off.length : Int) ≤ (j : Int)
    · rw [if_pos h1, if_pos hl, if_neg (by rw [List.getD, List.getElem?_eq_none (by omega)]; simp)]
      rfl
    · rw [if_neg h1, if_pos ⟨by omega, by omega⟩, gt_get (show j < off.length by omega)]
      have e : off.getD j false = off[j]'(by omega) := by rw [List.getD, List.getElem?_eq_getElem (by omega)]; rfl
      rw [e]
      by_cases h2 : off[j]'(by omega) = true
      · rw [if_pos h2, if_pos h2, List.append_nil]
      · rw [if_neg h2, if_pos hl, if_neg h2]; rfl
  · unfold inst_Kept_b1
    dsimp only
    rw [hn, if_neg (by omega)]
theorem inst_pick_int64_eq {l at_ : List Int} (h : at_.length ≤ 1000) (hr : ∀ x ∈ at_, 0 ≤ x ∧ x < l.length) : inst_pick_int64 l at_ = some (at_.map (gt l)) := by
  unfold inst_pick_int64
  refine lp_eq (fun j => ((j : Int), (at_.take j).map (gt l))) at_.length (by simp) (by omega) (fun k j hj => ?_) (fun k => ?_)
  · unfold inst_pick_int64_b1
    dsimp only
    rw [if_pos (rng_of hj).2, if_pos (rng_of hj), gt_get hj, if_pos (hr _ (List.getElem_mem hj)), if_pos (by simp only [List.length_map, List.length_take, List.length_singleton, lim]; omega), w64_succ (by omega), List.take_add_one, List.getElem?_eq_getElem hj, Option.toList_some, List.map_append]
    rfl
  · unfold inst_pick_int64_b1
    dsimp only
    rw [if_neg (by omega), List.take_length]
theorem inst_pick_api_Arc_eq {l : List Arc} {at_ : List Int} (h : at_.length ≤ 1000) (hr : ∀ x ∈ at_, 0 ≤ x ∧ x < l.length) : inst_pick_api_Arc l at_ = some (at_.map (gt l)) := by
  unfold inst_pick_api_Arc
  refine lp_eq (fun j => ((j : Int), (at_.take j).map (gt l))) at_.length (by simp) (by omega) (fun k j hj => ?_) (fun k => ?_)
  · unfold inst_pick_api_Arc_b1
    dsimp only
    rw [if_pos (rng_of hj).2, if_pos (rng_of hj), gt_get hj, if_pos (hr _ (List.getElem_mem hj)), if_pos (by simp only [List.length_map, List.length_take, List.length_singleton, lim]; omega), w64_succ (by omega), List.take_add_one, List.getElem?_eq_getElem hj, Option.toList_some, List.map_append]
    rfl
  · unfold inst_pick_api_Arc_b1
    dsimp only
    rw [if_neg (by omega), List.take_length]
theorem slices_Index_int_eq {l : List Int} (h : l.length ≤ 1000) (v : Int) : slices_Index_int l v = some (idx l v) := by
  unfold slices_Index_int
  rw [lp_find (s0 := (0 : Int)) (fun j => (j : Int)) l.length (fun j => if v = gt l (j : Int) then some (some (j : Int)) else none) (fin := some (-1)) rfl (by omega)]
  · by_cases hm : v ∈ l
    · cases hk : l.findIdx? (fun x => decide (x = v)) with
      | none => have := List.findIdx?_eq_none_iff.1 hk v hm; simp at this
      | some k =>
        obtain ⟨h1, h2, h3⟩ := List.findIdx?_eq_some_iff_getElem.1 hk
        have e : (List.range l.length).findSome? (fun j : Nat => if v = gt l (j : Int) then some (some (j : Int)) else none) = some (some (k : Int)) := by
          rw [show l.length = k + (l.length - k) by omega, List.range_add, List.findSome?_append, List.findSome?_eq_none_iff.2 (fun x hx => ?_), Option.none_or]
          · obtain ⟨d, hd⟩ : ∃ d, l.length - k = d + 1 := ⟨l.length - k - 1, by omega⟩
            rw [hd, List.range_succ_eq_map, List.map_cons, List.findSome?_cons, Nat.add_zero, if_pos (by rw [gt_get h1]; simpa using (by simpa using h2 : l[k] = v).symm)]
          · have hx' := List.mem_range.1 hx
            have := h3 x hx'
            rw [if_neg (fun hh => this (by rw [gt_get (by omega)] at hh; simpa using hh.symm))]
        rw [e]
        simp [idx, hk]
    · rw [List.findSome?_eq_none_iff.2 (fun x hx => if_neg fun hh => hm (by rw [hh, gt_get (List.mem_range.1 hx)]; exact List.getElem_mem _)), idx_not hm]
  · intro k j hj
    unfold slices_Index_int_b1
    rw [if_pos (rng_of hj).2, if_pos (rng_of hj), w64_succ (by omega)]
    by_cases he : v = gt l (j : Int)
    · rw [if_pos he, if_pos he]
    · rw [if_neg he, if_neg he]
  · intro k
    unfold slices_Index_int_b1
    rw [if_neg (by omega)]
theorem inst_Without_eq {i : Inst} {nodes arcs : List Bool} (h1 : i.supply.length ≤ 1000) (h2 : i.arcs.length ≤ 1000) (h3 : nodes.length ≤ lim) (h4 : arcs.length ≤ lim) : inst_Without i nodes arcs = some (withoutOf i nodes arcs) := by
  have l1 := keptL_len nodes i.supply.length
  have l2 := keptL_len arcs i.arcs.length
  unfold inst_Without
  rw [inst_Kept_eq _ h1 h3, Option.bind_some, inst_pick_int64_eq (by omega) (fun x hx => keptL_rng hx), Option.bind_some, inst_Kept_eq _ h2 h4, Option.bind_some, inst_pick_api_Arc_eq (by omega) (fun x hx => keptL_rng hx), Option.bind_some]
  unfold withoutOf
  generalize hA : (keptL arcs i.arcs.length).map (gt i.arcs) = A
  have hAl : A.length ≤ 1000 := by rw [← hA, List.length_map]; omega
  generalize keptL nodes i.supply.length = K at *
  refine lp_eq (fun j => ((j : Int), (A.take j).filterMap (ren K))) A.length (by simp) (by omega) (fun k j hj => ?_) (fun k => ?_)
  · unfold inst_Without_b1
    dsimp only
    rw [if_pos (rng_of hj).2, if_pos (rng_of hj), gt_get hj, slices_Index_int_eq (by omega), Option.bind_some, slices_Index_int_eq (by omega), Option.bind_some, w64_succ (by omega), List.take_add_one, List.getElem?_eq_getElem hj, Option.toList_some, List.filterMap_append]
    have hl : ((A.take j).filterMap (ren K)).length ≤ 1000 := Nat.le_trans (List.length_filterMap_le _ _) (by simp; omega)
    by_cases a1 : 0 ≤ idx K A[j].src
    · by_cases a2 : 0 ≤ idx K A[j].dst
      · rw [if_pos a1, if_pos a2, if_pos (by simp only [List.length_singleton, lim]; omega)]
        have : ren K A[j] = some ⟨idx K A[j].src, idx K A[j].dst, A[j].low, A[j].cap, A[j].cost⟩ := if_pos ⟨a1, a2⟩
        simp only [lt_eq, List.filterMap_cons, this, List.filterMap_nil]
      · rw [if_pos a1, if_neg a2]
        have : ren K A[j] = none := if_neg fun h => a2 h.2
        simp [List.filterMap_cons, this]
    · rw [if_neg a1]
      have : ren K A[j] = none := if_neg fun h => a1 h.1
      simp [List.filterMap_cons, this]
  · unfold inst_Without_b1
    dsimp only
    rw [if_neg (by omega), List.take_length]
end Go.Proofs.YtbnjeanldechnaaGreatDoor
