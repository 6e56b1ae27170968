/- Plain: flows over what a pass over a node of two arcs leaves. -/
import Derived.Test.YtpnohbdfgmjdbaaTh4
import Derived.Test.YtpnohbdfgmjdbaaTh5
import Derived.Test.YtpnohbdfgmjdbaaTh7
namespace Go.Proofs.Ytpnohbdfgmjdbaa
open Go.RowKit Go.Qe
theorem sum_out {f : Nat → Int} : ∀ (l : List Nat) (a : Nat), l.Nodup → a ∈ l → (l.map f).sum = ((l.filter fun k => decide (k ≠ a)).map f).sum + f a
  | [], a, _, h => by cases h
  | x :: l, a, hn, h => by
    have hn' := List.nodup_cons.1 hn
    by_cases hx : x = a
    · subst hx
      have e : l.filter (fun k => decide (k ≠ x)) = l := List.filter_eq_self.2 fun k hk => decide_eq_true fun e => hn'.1 (e ▸ hk)
      rw [List.filter_cons_of_neg (by simp), e, List.map_cons, List.sum_cons]
      omega
    · have h' : a ∈ l := by
        rcases List.mem_cons.1 h with h | h
        · exact absurd h.symm hx
        · exact h
      have ih := sum_out (f := f) l a hn'.2 h'
      rw [List.filter_cons_of_pos (by simpa using hx), List.map_cons, List.map_cons, List.sum_cons, List.sum_cons, ih]
      omega
def restOf (m a b : Nat) : List Nat := (List.range m).filter fun k => decide (k ≠ a ∧ k ≠ b)
theorem restOf_mem {m a b k : Nat} : k ∈ restOf m a b ↔ k < m ∧ k ≠ a ∧ k ≠ b := by simp [restOf]
theorem sum_two {f : Nat → Int} {m a b : Nat} (ha : a < m) (hb : b < m) (ne : a ≠ b) : ((List.range m).map f).sum = ((restOf m a b).map f).sum + f a + f b := by
  rw [sum_out (f := f) (List.range m) a List.nodup_range (List.mem_range.2 ha), sum_out (f := f) ((List.range m).filter fun k => decide (k ≠ a)) b (List.Pairwise.filter _ List.nodup_range) (by rw [List.mem_filter]; exact ⟨List.mem_range.2 hb, by simpa using ne.symm⟩)]
  have e : (((List.range m).filter fun k => decide (k ≠ a)).filter fun k => decide (k ≠ b)) = restOf m a b := by
    unfold restOf
    rw [List.filter_filter]
    exact List.filter_congr fun k _ => by simp [Bool.and_comm]
  rw [e]
  omega
theorem fmap_filter {α β : Type} {f : α → Option β} {p : α → Bool} {g : α → β} : ∀ (l : List α), (∀ x ∈ l, f x = if p x = true then some (g x) else none) → l.filterMap f = (l.filter p).map g
  | [], _ => rfl
  | x :: l, h => by
    have ih := fmap_filter l fun y hy => h y (List.mem_cons_of_mem _ hy)
    have h1 := h x List.mem_cons_self
    by_cases hp : p x = true
    · rw [if_pos hp] at h1
      rw [List.filterMap_cons, h1, List.filter_cons_of_pos hp, List.map_cons, ih]
    · rw [if_neg hp] at h1
      rw [List.filterMap_cons, h1, List.filter_cons_of_neg hp, ih]
def renK (K : List Int) (a : Arc) : Arc := ⟨idx K a.src, idx K a.dst, a.low, a.cap, a.cost⟩
def pairAt (i : Inst) (x : List Int) (k : Nat) : Arc × Int := (arcAt i.arcs k, gt x k)
theorem zip_pairs {i : Inst} {x : List Int} (h : x.length = i.arcs.length) : i.arcs.zip x = (List.range i.arcs.length).map (pairAt i x) := by
  apply List.ext_getElem (by simp; omega)
  intro k h1 h2
  have hk : k < i.arcs.length := by simp at h2; omega
  simp [pairAt, arcAt_eq hk, gt_get (show k < x.length by omega)]
/-- ends told anew: what flows out of a node is the same -/
theorem one_ren {K : List Int} {a : Arc} {f m : Int} (h1 : a.src ∈ K) (h2 : a.dst ∈ K) (hm : m ∈ K) : oneP (renK K a, f) (idx K m) = oneP (a, f) m := by
  have inj : ∀ u v : Int, u ∈ K → v ∈ K → (idx K u = idx K v ↔ u = v) := fun u v hu hv => ⟨fun h => by rw [← (idx_mem hu).2.2, ← (idx_mem hv).2.2, h], fun h => by rw [h]⟩
  unfold oneP renK
  simp only [inj _ _ h1 hm, inj _ _ h2 hm]
section
variable {series : Bool} {i : Inst} {n a b : Nat} {q : Spot × Pair × Bool}
/-- what flows along the second arc -/
def bothOf (series : Bool) (x : Arc) (n s f : Int) : Int := if series then f + s else if x.dst = n then -s - f else s - f
theorem left_arcs (h : SpotOk series i n a b q) (hw : Whole i) (r : Arc) (hr : r = standOf series (arcAt i.arcs a) (arcAt i.arcs b) n (gt i.supply n)) :
    (leftOf i n b r).arcs = (restOf i.arcs.length a b).map (fun k => renK (keptL (offOf i n) i.supply.length) (arcAt i.arcs k)) ++ [renK (keptL (offOf i n) i.supply.length) r] := by
  have he := h.ends hw
  rw [← hr] at he
  have hk := @kept_mem i n h.two.hn
  rw [left_eq h.two.hn]
  dsimp only
  generalize keptL (offOf i n) i.supply.length = K at *
  have hren : ren K r = some (renK K r) := ren_in (hk.2 ⟨he.1, he.2.1, he.2.2.1⟩) (hk.2 ⟨he.2.2.2.1, he.2.2.2.2.1, he.2.2.2.2.2⟩)
  rw [List.filterMap_append, List.filterMap_cons, hren, List.filterMap_nil]
  congr 1
  have e : i.arcs = (List.range i.arcs.length).map (arcAt i.arcs) := by
    apply List.ext_getElem (by simp)
    intro k h1 h2
    simp [arcAt_eq h1]
  conv => lhs; rw [e]
  rw [List.filterMap_map]
  refine fmap_filter _ fun k hk2 => ?_
  have hkl := List.mem_range.1 hk2
  have hon := h.two.only k hkl
  have hwk := wholeB_iff.1 (hw.at_ hkl)
  by_cases hab : k ≠ a ∧ k ≠ b
  · rw [if_pos (by simpa using hab)]
    have hno : ¬ ((arcAt i.arcs k).src = n ∨ (arcAt i.arcs k).dst = n) := fun ht => by
      rcases hon.1 ht with h1 | h1
      · exact hab.1 h1
      · exact hab.2 h1
    exact ren_in (hk.2 ⟨hwk.1, hwk.2.1, fun e => hno (.inl e)⟩) (hk.2 ⟨hwk.2.2.1, hwk.2.2.2, fun e => hno (.inr e)⟩)
  · rw [if_neg (by simpa using hab)]
    have ht : (arcAt i.arcs k).src = n ∨ (arcAt i.arcs k).dst = n := hon.2 (by omega)
    exact ren_not fun h1 => by
      rcases ht with ht | ht
      · exact (hk.1 h1.1).2.2 ht
      · exact (hk.1 h1.2).2.2 ht
theorem stand_in {x y : Arc} {s f : Int} (hx : 0 ≤ x.low ∧ x.low ≤ 1000000) (hxc : x.cap = 4611686018427387904 ∨ x.low ≤ x.cap ∧ x.cap ≤ 1000000) (hy : 0 ≤ y.low ∧ y.low ≤ 1000000) (hyc : y.cap = 4611686018427387904 ∨ y.low ≤ y.cap ∧ y.cap ≤ 1000000)
    (hs : -1000000 ≤ s ∧ s ≤ 1000000) (hf : -100000000 ≤ f ∧ f ≤ 100000000) (hlc : (standOf series x y n s).low ≤ (standOf series x y n s).cap) : (inA x f ∧ inA y (bothOf series x n s f)) ↔ inA (standOf series x y n s) f := by
  unfold standOf chainArc splitArc forkMore at *
  unfold inA bothOf
  cases series with
  | true =>
    simp only [if_true] at hlc ⊢
    have e1 : w64 (y.low - s) = y.low - s := w64_id (by omega) (by omega)
    simp only [e1] at hlc ⊢
    by_cases h1 : y.cap = 4611686018427387904
    · simp only [h1, if_true] at hlc ⊢
      split at hlc <;> rename_i h2
      · rw [if_pos h2]; omega
      · rw [if_neg h2]; omega
    · have e2 : w64 (y.cap - s) = y.cap - s := w64_id (by omega) (by omega)
      simp only [h1, if_false, e2, false_or] at hlc ⊢
      by_cases h2 : y.low - s > x.low <;> by_cases h3 : y.cap - s < x.cap <;> simp only [h2, h3, if_true, if_false] at hlc ⊢ <;> omega
  | false =>
    simp only [if_false, Bool.false_eq_true] at hlc ⊢
    obtain ⟨d, hd, d1, d2, hb⟩ : ∃ d : Int, (if x.dst = n then w64 (0 - s) else s) = d ∧ -1000000 ≤ d ∧ d ≤ 1000000 ∧ (if x.dst = n then -s - f else s - f) = d - f := by
      by_cases h1 : x.dst = n
      · exact ⟨-s, by rw [if_pos h1, w64_id (by omega) (by omega)]; omega, by omega, by omega, by rw [if_pos h1]⟩
      · exact ⟨s, by rw [if_neg h1], by omega, by omega, by rw [if_neg h1]⟩
    have e1 : w64 (d - y.low) = d - y.low := w64_id (by omega) (by omega)
    simp only [hd, hb, e1] at hlc ⊢
    by_cases h1 : y.cap = 4611686018427387904
    · simp only [h1, if_true] at hlc ⊢
      by_cases h3 : d - y.low < x.cap <;> simp only [h3, if_true, if_false] at hlc ⊢ <;> omega
    · have e2 : w64 (d - y.cap) = d - y.cap := w64_id (by omega) (by omega)
      simp only [h1, if_false, e2, false_or] at hlc ⊢
      by_cases h2 : d - y.cap > x.low <;> by_cases h3 : d - y.low < x.cap <;> simp only [h2, h3, if_true, if_false] at hlc ⊢ <;> omega
/-- the arc that stands for two sends what both send, but for what the node itself has -/
theorem one_stand (h : SpotOk series i n a b q) (hw : Whole i) (s f m : Int) (hm : ¬ m = n) :
    oneP (arcAt i.arcs a, f) m + oneP (arcAt i.arcs b, bothOf series (arcAt i.arcs a) n s f) m = oneP (standOf series (arcAt i.arcs a) (arcAt i.arcs b) n s, f) m - (if m = farOf (arcAt i.arcs b) n then s else 0) := by
  have ta := (h.two.only a h.two.ha).2 (.inl rfl)
  have tb := (h.two.only b h.two.hb).2 (.inr rfl)
  have la := h.two.la
  have lb := h.two.lb
  have hl := h.lies
  generalize arcAt i.arcs a = x at *
  generalize arcAt i.arcs b = y at *
  unfold oneP standOf chainArc splitArc bothOf farOf
  unfold liesOf at hl
  cases series with
  | true =>
    simp only [if_true] at hl ⊢
    obtain ⟨h1, h2⟩ := hl
    have h3 : ¬ (n : Int) = m := fun e => hm e.symm
    have e1 : (m = y.dst) ↔ (y.dst = m) := eq_comm
    simp only [h1, h2, h3, if_true, if_false, e1]
    split <;> split <;> omega
  | false =>
    simp only [if_false, Bool.false_eq_true] at hl ⊢
    have h3 : ¬ (n : Int) = m := fun e => hm e.symm
    by_cases h1 : x.dst = n
    · have h2 := hl.1 h1
      have h4 : ¬ y.src = n := fun e => lb ⟨e, h2⟩
      have e1 : (m = y.src) ↔ (y.src = m) := eq_comm
      simp only [h1, h2, h3, h4, if_true, if_false, e1]
      split <;> split <;> omega
    · have h2 : ¬ y.dst = n := fun e => h1 (hl.2 e)
      have h4 : x.src = n := by rcases ta with e | e; exact e; exact absurd e h1
      have h5 : y.src = n := by rcases tb with e | e; exact e; exact absurd e h2
      have e1 : (m = y.dst) ↔ (y.dst = m) := eq_comm
      simp only [h1, h3, h4, h5, if_true, if_false, e1]
      split <;> split <;> omega
theorem one_node (h : SpotOk series i n a b q) (s f : Int) : oneP (arcAt i.arcs a, f) n + oneP (arcAt i.arcs b, bothOf series (arcAt i.arcs a) n s f) n = s := by
  have ta := (h.two.only a h.two.ha).2 (.inl rfl)
  have tb := (h.two.only b h.two.hb).2 (.inr rfl)
  have la := h.two.la
  have lb := h.two.lb
  have hl := h.lies
  generalize arcAt i.arcs a = x at *
  generalize arcAt i.arcs b = y at *
  unfold oneP bothOf
  unfold liesOf at hl
  cases series with
  | true =>
    simp only [if_true] at hl ⊢
    obtain ⟨h1, h2⟩ := hl
    have h3 : ¬ x.src = n := fun e => la ⟨e, h1⟩
    have h4 : ¬ y.dst = n := fun e => lb ⟨h2, e⟩
    simp only [h1, h2, h3, h4, if_true, if_false]
    omega
  | false =>
    simp only [if_false, Bool.false_eq_true] at hl ⊢
    by_cases h1 : x.dst = n
    · have h2 := hl.1 h1
      have h3 : ¬ x.src = n := fun e => la ⟨e, h1⟩
      have h4 : ¬ y.src = n := fun e => lb ⟨e, h2⟩
      simp only [h1, h2, h3, h4, if_true, if_false]
      omega
    · have h2 : ¬ y.dst = n := fun e => h1 (hl.2 e)
      have h4 : x.src = n := by rcases ta with e | e; exact e; exact absurd e h1
      have h5 : y.src = n := by rcases tb with e | e; exact e; exact absurd e h2
      simp only [h1, h2, h4, h5, if_true, if_false]
      omega
/-- flows behind the pass, of flows ahead of it -/
def behindOf (x : List Int) (m a b : Nat) : List Int := (restOf m a b).map (fun k : Nat => gt x (k : Int)) ++ [gt x (a : Int)]
theorem left_zip (h : SpotOk series i n a b q) (hw : Whole i) (r : Arc) (hr : r = standOf series (arcAt i.arcs a) (arcAt i.arcs b) n (gt i.supply n)) (x : List Int) :
    (leftOf i n b r).arcs.zip (behindOf x i.arcs.length a b) = (restOf i.arcs.length a b).map (fun k => (renK (keptL (offOf i n) i.supply.length) (arcAt i.arcs k), gt x (k : Int))) ++ [(renK (keptL (offOf i n) i.supply.length) r, gt x (a : Int))] := by
  rw [left_arcs h hw r hr]
  unfold behindOf
  rw [List.zip_append (by simp), List.zip_map']
  rfl
theorem fits_two (h : SpotOk series i n a b q) (hs : Small i) (r : Arc) (hr : r = standOf series (arcAt i.arcs a) (arcAt i.arcs b) n (gt i.supply n)) {x : List Int} (hl : x.length = i.arcs.length)
    (hf : -100000000 ≤ gt x (a : Int) ∧ gt x (a : Int) ≤ 100000000) (hb : gt x (b : Int) = bothOf series (arcAt i.arcs a) n (gt i.supply n) (gt x (a : Int))) : FitsP i x ↔ FitsP (leftOf i n b r) (behindOf x i.arcs.length a b) := by
  have hR := hs.right
  have hw := hR.whole
  have hLR := h.right hs r hr
  have hL := h.left hw r hr
  have hk := @kept_mem i n h.two.hn
  have hlc := h.low
  have hfar := h.farb hw
  have he := h.ends hw
  rw [← hr] at he hlc
  have hz := left_zip h hw r hr x
  have hzi := zip_pairs hl
  have sa := hs.low _ (arcAt_mem h.two.ha)
  have sb := hs.low _ (arcAt_mem h.two.hb)
  have ra := hR.arcs _ (arcAt_mem h.two.ha)
  have rb := hR.arcs _ (arcAt_mem h.two.hb)
  have hsn := hs.sup _ (gt_mem h.two.hn)
  have ra0 := ra.low0
  have rb0 := rb.low0
  have rac := ra.cap
  have rbc := rb.cap
  have hin : (inA (arcAt i.arcs a) (gt x (a : Int)) ∧ inA (arcAt i.arcs b) (gt x (b : Int))) ↔ inA r (gt x (a : Int)) := by
    rw [hb, hr]
    exact stand_in ⟨ra0, sa.1⟩ (by omega) ⟨rb0, sb.1⟩ (by omega) hsn hf (by rw [← hr]; exact hlc)
  -- all that flows
  have hall : (∀ p ∈ i.arcs.zip x, inA p.1 p.2) ↔ (∀ p ∈ (leftOf i n b r).arcs.zip (behindOf x i.arcs.length a b), inA p.1 p.2) := by
    rw [hz, hzi]
    constructor
    · intro h1 p hp
      rcases List.mem_append.1 hp with hp | hp
      · obtain ⟨k, hk1, rfl⟩ := List.mem_map.1 hp
        exact h1 (pairAt i x k) (List.mem_map.2 ⟨k, List.mem_range.2 (restOf_mem.1 hk1).1, rfl⟩)
      · simp only [List.mem_singleton] at hp
        subst hp
        exact hin.1 ⟨h1 (pairAt i x a) (List.mem_map.2 ⟨a, List.mem_range.2 h.two.ha, rfl⟩), h1 (pairAt i x b) (List.mem_map.2 ⟨b, List.mem_range.2 h.two.hb, rfl⟩)⟩
    · intro h1 p hp
      obtain ⟨k, hk1, rfl⟩ := List.mem_map.1 hp
      have hk2 := List.mem_range.1 hk1
      have hab := hin.2 (h1 (renK (keptL (offOf i n) i.supply.length) r, gt x (a : Int)) (List.mem_append.2 (.inr (by simp))))
      by_cases e1 : k = a
      · subst e1; exact hab.1
      by_cases e2 : k = b
      · subst e2; exact hab.2
      exact h1 (renK (keptL (offOf i n) i.supply.length) (arcAt i.arcs k), gt x (k : Int)) (List.mem_append.2 (.inl (List.mem_map.2 ⟨k, restOf_mem.2 ⟨hk2, e1, e2⟩, rfl⟩)))
  -- what each node sends
  have hKl : (keptL (offOf i n) i.supply.length).length = i.supply.length - 1 := len_one h.two.hn
  have hnd := keptL_nodup (offOf i n) i.supply.length
  have hnet0 : ∀ m : Int, netP (i.arcs.zip x) m = ((restOf i.arcs.length a b).map fun k => oneP (pairAt i x k) m).sum + oneP (pairAt i x a) m + oneP (pairAt i x b) m := fun m => by
    rw [hzi]
    unfold netP
    rw [List.map_map]
    exact sum_two h.two.ha h.two.hb h.two.ne
  have hnet1 : ∀ m : Int, m ∈ keptL (offOf i n) i.supply.length → netP ((leftOf i n b r).arcs.zip (behindOf x i.arcs.length a b)) (idx (keptL (offOf i n) i.supply.length) m) = netP (i.arcs.zip x) m + (if m = farOf (arcAt i.arcs b) n then gt i.supply n else 0) := fun m hm => by
    have hmn := (hk.1 hm).2.2
    rw [hz, netP_app, netP_cons, netP_nil, hnet0 m]
    have h1 : netP ((restOf i.arcs.length a b).map (fun k => (renK (keptL (offOf i n) i.supply.length) (arcAt i.arcs k), gt x (k : Int)))) (idx (keptL (offOf i n) i.supply.length) m) = ((restOf i.arcs.length a b).map fun k => oneP (pairAt i x k) m).sum := by
      unfold netP
      rw [List.map_map]
      congr 1
      refine List.map_congr_left fun k hk1 => ?_
      obtain ⟨hk2, hka, hkb⟩ := restOf_mem.1 hk1
      have hwk := wholeB_iff.1 (hw.at_ hk2)
      have hno : ¬ ((arcAt i.arcs k).src = n ∨ (arcAt i.arcs k).dst = n) := fun ht => by
        rcases (h.two.only k hk2).1 ht with h1 | h1
        · exact hka h1
        · exact hkb h1
      exact one_ren (hk.2 ⟨hwk.1, hwk.2.1, fun e => hno (.inl e)⟩) (hk.2 ⟨hwk.2.2.1, hwk.2.2.2, fun e => hno (.inr e)⟩) hm
    rw [h1, one_ren (hk.2 ⟨he.1, he.2.1, he.2.2.1⟩) (hk.2 ⟨he.2.2.2.1, he.2.2.2.2.1, he.2.2.2.2.2⟩) hm]
    have h2 := one_stand h hw (gt i.supply n) (gt x (a : Int)) m hmn
    rw [← hb, ← hr] at h2
    unfold pairAt at *
    omega
  have hnode : netP (i.arcs.zip x) n = gt i.supply n := by
    rw [hnet0]
    have h1 := one_node h (gt i.supply n) (gt x (a : Int))
    rw [← hb] at h1
    have h2 : ((restOf i.arcs.length a b).map fun k => oneP (pairAt i x k) (n : Int)).sum = 0 := by
      have : ∀ l : List Nat, (∀ k ∈ l, oneP (pairAt i x k) (n : Int) = 0) → (l.map fun k => oneP (pairAt i x k) (n : Int)).sum = 0 := fun l => by
        induction l with
        | nil => intro _; rfl
        | cons y l ih => intro hh; rw [List.map_cons, List.sum_cons, hh y List.mem_cons_self, ih fun k hk => hh k (List.mem_cons_of_mem _ hk)]; rfl
      refine this _ fun k hk1 => ?_
      obtain ⟨hk2, hka, hkb⟩ := restOf_mem.1 hk1
      have hno : ¬ ((arcAt i.arcs k).src = n ∨ (arcAt i.arcs k).dst = n) := fun ht => by
        rcases (h.two.only k hk2).1 ht with h1 | h1
        · exact hka h1
        · exact hkb h1
      unfold oneP pairAt
      rw [if_neg (fun e => hno (.inl e)), if_neg (fun e => hno (.inr e))]; rfl
    unfold pairAt at *
    omega
  have hsup : ∀ k : Nat, k < i.supply.length - 1 → gt (leftOf i n b r).supply (k : Int) = gt i.supply (gt (keptL (offOf i n) i.supply.length) (k : Int)) + (if gt (keptL (offOf i n) i.supply.length) (k : Int) = farOf (arcAt i.arcs b) n then gt i.supply n else 0) := fun k hk1 => by
    have hkK : k < (keptL (offOf i n) i.supply.length).length := by omega
    have e1 : (leftOf i n b r).supply = (keptL (offOf i n) i.supply.length).map (gt (nextOf i n b r).supply) := by
      unfold leftOf withoutOf
      dsimp only
      rw [next_sup]
    rw [e1, gt_get (by simpa using hkK), List.getElem_map, gt_get hkK]
    have hm := List.getElem_mem hkK
    generalize (keptL (offOf i n) i.supply.length)[k] = m at *
    have hm' := hk.1 hm
    obtain ⟨o, ho⟩ := Int.eq_ofNat_of_zero_le hfar.1
    have hso := hs.sup _ (gt_in (xs := i.supply) ⟨hfar.1, hfar.2.1⟩)
    unfold nextOf
    dsimp only
    rw [w64_id (by omega) (by omega)]
    by_cases e : m = farOf (arcAt i.arcs b) n
    · subst e
      rw [gt_upd ⟨hfar.1, hfar.2.1⟩, if_pos rfl]
    · rw [gt_upd_ne (fun h => e h.symm) hfar.1 hm'.1, if_neg e]; omega
  constructor
  · intro hF
    refine ⟨hLR, ?_, hall.1 hF.within, fun k hk1 => ?_⟩
    · have := left_arcs h hw r hr
      rw [this]; simp [behindOf]
    · rw [hL.sup] at hk1
      have hkK : k < (keptL (offOf i n) i.supply.length).length := by omega
      have hm := List.getElem_mem hkK
      have hi := idx_at hnd hkK
      rw [hsup k hk1, gt_get hkK, ← hi, hnet1 _ hm]
      have hm' := hk.1 hm
      generalize (keptL (offOf i n) i.supply.length)[k] = m at *
      obtain ⟨mm, rfl⟩ := Int.eq_ofNat_of_zero_le hm'.1
      rw [hF.net mm (by omega)]
  · intro hF
    refine ⟨hR, hl, hall.2 hF.within, fun m hm => ?_⟩
    by_cases e : m = n
    · subst e; exact hnode
    · have hmK : (m : Int) ∈ keptL (offOf i n) i.supply.length := hk.2 ⟨by omega, by omega, by omega⟩
      have hi := idx_mem hmK
      obtain ⟨k, hk1⟩ := Int.eq_ofNat_of_zero_le hi.1
      have h1 := hnet1 _ hmK
      have h2 := hF.net k (by rw [hL.sup]; omega)
      rw [hsup k (by omega), ← hk1, hi.2.2, h1] at h2
      omega
theorem cost_two (h : SpotOk series i n a b q) (hs : Small i) (r : Arc) (hr : r = standOf series (arcAt i.arcs a) (arcAt i.arcs b) n (gt i.supply n)) {x : List Int} (hl : x.length = i.arcs.length)
    (hb : gt x (b : Int) = bothOf series (arcAt i.arcs a) n (gt i.supply n) (gt x (a : Int))) : costP (i.arcs.zip x) = costP ((leftOf i n b r).arcs.zip (behindOf x i.arcs.length a b)) + moreOf series (arcAt i.arcs a) n (gt i.supply n) * (arcAt i.arcs b).cost := by
  have hw := hs.right.whole
  rw [left_zip h hw r hr x, zip_pairs hl, costP_app, costP_cons, costP_nil]
  unfold costP
  rw [List.map_map, List.map_map]
  have e : ((List.range i.arcs.length).map ((fun p : Arc × Int => p.1.cost * p.2) ∘ pairAt i x)).sum = _ := sum_two h.two.ha h.two.hb h.two.ne
  rw [e]
  have e2 : ((restOf i.arcs.length a b).map ((fun p : Arc × Int => p.1.cost * p.2) ∘ pairAt i x)).sum = ((restOf i.arcs.length a b).map ((fun p : Arc × Int => p.1.cost * p.2) ∘ fun k => (renK (keptL (offOf i n) i.supply.length) (arcAt i.arcs k), gt x (k : Int)))).sum := rfl
  rw [e2]
  have sa := hs.low _ (arcAt_mem h.two.ha)
  have sb := hs.low _ (arcAt_mem h.two.hb)
  have hsn := hs.sup _ (gt_mem h.two.hn)
  have key : (arcAt i.arcs a).cost * gt x (a : Int) + (arcAt i.arcs b).cost * gt x (b : Int) = r.cost * gt x (a : Int) + moreOf series (arcAt i.arcs a) n (gt i.supply n) * (arcAt i.arcs b).cost := by
    rw [hb, hr]
    clear e e2 hb hr
    generalize arcAt i.arcs a = u at *
    generalize arcAt i.arcs b = v at *
    generalize gt x (a : Int) = f at *
    generalize gt i.supply n = s at *
    unfold bothOf standOf moreOf chainArc splitArc forkMore
    cases series with
    | true =>
      simp only [if_true]
      rw [w64_id (x := u.cost + v.cost) (by omega) (by omega), Int.add_mul, Int.mul_add, Int.mul_comm s v.cost]
      omega
    | false =>
      simp only [if_false, Bool.false_eq_true]
      rw [w64_id (x := u.cost - v.cost) (by omega) (by omega), Int.sub_mul]
      split
      · rw [w64_id (x := 0 - s) (by omega) (by omega), Int.mul_sub, Int.mul_comm (0 - s) v.cost, Int.mul_sub, Int.mul_zero, Int.mul_neg]
        omega
      · rw [Int.mul_sub, Int.mul_comm s v.cost]
        omega
  have k1 : (renK (keptL (offOf i n) i.supply.length) r).cost = r.cost := rfl
  simp only [Function.comp, pairAt, k1] at key ⊢
  omega
end
end Go.Proofs.Ytpnohbdfgmjdbaa
