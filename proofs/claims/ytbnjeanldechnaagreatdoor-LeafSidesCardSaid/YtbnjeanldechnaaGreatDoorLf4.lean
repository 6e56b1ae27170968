/- Plain: LeafSides. -/
import Derived.Test.YtbnjeanldechnaaGreatDoorTh5
import Derived.Test.YtbnjeanldechnaaGreatDoorTh7
namespace Go.Proofs.YtbnjeanldechnaaGreatDoor
open Go.RowKit Go.Qe
theorem fitB_nat {i : Inst} {k : Nat} : fitB i (k : Int) = true ↔ k < i.arcs.length ∧ wholeB i.supply.length (arcAt i.arcs k) = true := by
  unfold fitB
  simp only [Bool.and_eq_true, decide_eq_true_eq, Int.toNat_natCast]
  exact ⟨fun h => ⟨by omega, h.2⟩, fun h => ⟨by omega, h.2⟩⟩
theorem wholeB_iff {n : Nat} {a : Arc} : wholeB n a = true ↔ 0 ≤ a.src ∧ a.src < n ∧ 0 ≤ a.dst ∧ a.dst < n := by simp [wholeB]
/-- all ends are nodes -/
def Whole (i : Inst) : Prop := ∀ a ∈ i.arcs, 0 ≤ a.src ∧ a.src < i.supply.length ∧ 0 ≤ a.dst ∧ a.dst < i.supply.length
theorem _root_.Go.Qe.RightI.whole {i : Inst} (h : RightI i) : Whole i := fun a ha => let g := h.arcs a ha; ⟨g.s0, g.s1, g.d0, g.d1⟩
theorem arcAt_mem {xs : List Arc} {k : Nat} (h : k < xs.length) : arcAt xs k ∈ xs := by rw [arcAt_eq h]; exact List.getElem_mem h
theorem Whole.at_ {i : Inst} (h : Whole i) {k : Nat} (hk : k < i.arcs.length) : wholeB i.supply.length (arcAt i.arcs k) = true := wholeB_iff.2 (h _ (arcAt_mem hk))
theorem pick_iff {i : Inst} (h : Whole i) {n : Int} {o e : Bool} {k : Nat} (hk : k < i.arcs.length) : pickB i n o e k = true ↔ (o = true ∧ (arcAt i.arcs k).src = n) ∨ (e = true ∧ (arcAt i.arcs k).dst = n) := by
  unfold pickB
  rw [fitB_nat.2 ⟨hk, h.at_ hk⟩]
  simp
theorem countP_split {α : Type} (p q : α → Bool) (l : List α) : (l.filter p).length + (l.filter q).length = (l.filter fun x => p x || q x).length + (l.filter fun x => p x && q x).length := by
  induction l with
  | nil => rfl
  | cons a l ih =>
    simp only [List.filter_cons]
    cases p a <;> cases q a <;> simp <;> omega
theorem loopsOf_eq {i : Inst} (n : Int) : loopsOf i n = (((List.range i.arcs.length).filter fun k => pickB i n true false k && pickB i n false true k).length : Nat) := by
  have e : ∀ k, pickB i n true true k = (pickB i n true false k || pickB i n false true k) := fun k => by
    unfold pickB
    cases fitB i k <;> simp
  have := countP_split (pickB i n true false) (pickB i n false true) (List.range i.arcs.length)
  unfold loopsOf someL someTo
  simp only [List.length_map]
  have e2 : (List.range i.arcs.length).filter (pickB i n true true) = (List.range i.arcs.length).filter fun x => pickB i n true false x || pickB i n false true x := List.filter_congr fun k _ => e k
  rw [e2]
  omega
theorem noLoop {i : Inst} (h : Whole i) {n : Int} (hl : ¬ 0 < loopsOf i n) {k : Nat} (hk : k < i.arcs.length) : ¬ ((arcAt i.arcs k).src = n ∧ (arcAt i.arcs k).dst = n) := by
  intro hh
  rw [loopsOf_eq] at hl
  have : k ∈ (List.range i.arcs.length).filter fun k => pickB i n true false k && pickB i n false true k := by
    rw [List.mem_filter]
    refine ⟨List.mem_range.2 hk, ?_⟩
    rw [Bool.and_eq_true]
    exact ⟨(pick_iff h hk).2 (.inl ⟨rfl, hh.1⟩), (pick_iff h hk).2 (.inr ⟨rfl, hh.2⟩)⟩
  have := List.length_pos_of_mem this
  omega
theorem gt_mem {α : Type} [Inhabited α] {xs : List α} {k : Nat} (h : k < xs.length) : gt xs (k : Int) ∈ xs := by rw [gt_get h]; exact List.getElem_mem h
theorem gt_arc (xs : List Arc) (k : Nat) : gt xs (k : Int) = arcAt xs k := rfl
theorem ren_in {K : List Int} {a : Arc} (h1 : a.src ∈ K) (h2 : a.dst ∈ K) : ren K a = some ⟨idx K a.src, idx K a.dst, a.low, a.cap, a.cost⟩ := if_pos ⟨idx_nonneg.2 h1, idx_nonneg.2 h2⟩
theorem ren_not {K : List Int} {a : Arc} (h : ¬ (a.src ∈ K ∧ a.dst ∈ K)) : ren K a = none := if_neg fun h1 => h ⟨idx_nonneg.1 h1.1, idx_nonneg.1 h1.2⟩
theorem fmap_filter {α β : Type} {f : α → Option β} {p : α → Bool} {g : α → β} : ∀ (l : List α), (∀ x ∈ l, f x = if p x = true then some (g x) else none) → l.filterMap f = (l.filter p).map g
  | [], _ => rfl
  | x :: l, h => by
    have ih := fmap_filter l fun y hy => h y (List.mem_cons_of_mem _ hy)
    have h1 := h x List.mem_cons_self
    by_cases hp : p x = true
    · rw [if_pos hp] at h1
      rw [List.filterMap_cons, h1, List.filter_cons_of_pos hp, List.map_cons, ih]
    · rw [if_neg hp] at h1
      rw [List.filterMap_cons, h1, List.filter_cons_of_neg hp, ih]
def renK (K : List Int) (a : Arc) : Arc := ⟨idx K a.src, idx K a.dst, a.low, a.cap, a.cost⟩
def pairAt (i : Inst) (x : List Int) (k : Nat) : Arc × Int := (arcAt i.arcs k, gt x k)
theorem zip_pairs {i : Inst} {x : List Int} (h : x.length = i.arcs.length) : i.arcs.zip x = (List.range i.arcs.length).map (pairAt i x) := by
  apply List.ext_getElem (by simp; omega)
  intro k h1 h2
  have hk : k < i.arcs.length := by simp at h2; omega
  simp [pairAt, arcAt_eq hk, gt_get (show k < x.length by omega)]
/-- ends told anew: what flows out of a node is the same -/
theorem one_ren {K : List Int} {a : Arc} {f m : Int} (h1 : a.src ∈ K) (h2 : a.dst ∈ K) (hm : m ∈ K) : oneP (renK K a, f) (idx K m) = oneP (a, f) m := by
  have inj : ∀ u v : Int, u ∈ K → v ∈ K → (idx K u = idx K v ↔ u = v) := fun u v hu hv => ⟨fun h => by rw [← (idx_mem hu).2.2, ← (idx_mem hv).2.2, h], fun h => by rw [h]⟩
  unfold oneP renK
  simp only [inj _ _ h1 hm, inj _ _ h2 hm]
theorem sum_part {f : Nat → Int} (p : Nat → Bool) : ∀ l : List Nat, (l.map f).sum = ((l.filter fun k => !p k).map f).sum + ((l.filter p).map f).sum
  | [] => rfl
  | x :: l => by
    have ih := sum_part (f := f) p l
    by_cases h : p x = true
    · rw [List.filter_cons_of_neg (by simp [h]), List.filter_cons_of_pos h, List.map_cons, List.map_cons, List.sum_cons, List.sum_cons]; omega
    · rw [List.filter_cons_of_pos (by simpa using h), List.filter_cons_of_neg h, List.map_cons, List.map_cons, List.sum_cons, List.sum_cons]; omega
theorem sum_zero' {f : Nat → Int} : ∀ l : List Nat, (∀ k ∈ l, f k = 0) → (l.map f).sum = 0
  | [], _ => rfl
  | x :: l, h => by rw [List.map_cons, List.sum_cons, h x List.mem_cons_self, sum_zero' l fun k hk => h k (List.mem_cons_of_mem _ hk)]; rfl
def offOf (i : Inst) (n : Nat) : List Bool := (List.replicate i.supply.length false).set n true
def touchB (i : Inst) (n k : Nat) : Bool := decide ((arcAt i.arcs k).src = n ∨ (arcAt i.arcs k).dst = n)
theorem touch_t {i : Inst} {n k : Nat} (h : (arcAt i.arcs k).src = n ∨ (arcAt i.arcs k).dst = n) : touchB i n k = true := decide_eq_true h
theorem touch_f {i : Inst} {n k : Nat} (h : ¬ ((arcAt i.arcs k).src = n ∨ (arcAt i.arcs k).dst = n)) : touchB i n k = false := decide_eq_false h
def farL (i : Inst) (n : Nat) : List Nat := (List.range i.arcs.length).filter fun k => !touchB i n k
def nearL (i : Inst) (n : Nat) : List Nat := (List.range i.arcs.length).filter (touchB i n)
theorem farL_mem {i : Inst} {n k : Nat} : k ∈ farL i n ↔ k < i.arcs.length ∧ ¬ ((arcAt i.arcs k).src = n ∨ (arcAt i.arcs k).dst = n) := by simp [farL, touchB]
theorem nearL_mem {i : Inst} {n k : Nat} : k ∈ nearL i n ↔ k < i.arcs.length ∧ ((arcAt i.arcs k).src = n ∨ (arcAt i.arcs k).dst = n) := by simp [nearL, touchB]
def keptK (i : Inst) (n : Nat) : List Int := keptL (offOf i n) i.supply.length
theorem kept_mem {i : Inst} {n : Nat} (hn : n < i.supply.length) {x : Int} : x ∈ keptK i n ↔ 0 ≤ x ∧ x < i.supply.length ∧ ¬ x = n := mem_one hn
/-- an instance with other supplies, without a node -/
def outOf (S : List Int) (i : Inst) (n : Nat) : Inst := withoutOf ⟨S, i.arcs⟩ (offOf i n) []
section
variable {S : List Int} {i : Inst} {n : Nat}
theorem out_sup (hn : n < i.supply.length) (hS : S.length = i.supply.length) : (outOf S i n).supply = S.take n ++ S.drop (n + 1) := by
  unfold outOf withoutOf offOf
  dsimp only
  rw [← hS]
  exact map_one S (by omega)
theorem out_gt (hS : S.length = i.supply.length) {k : Nat} (hk : k < (keptK i n).length) : gt (outOf S i n).supply (k : Int) = gt S (keptK i n)[k] := by
  unfold outOf withoutOf
  dsimp only
  rw [hS, gt_get (by simpa [keptK] using hk), List.getElem_map]
  rfl
theorem out_len (hn : n < i.supply.length) (hS : S.length = i.supply.length) : (outOf S i n).supply.length = i.supply.length - 1 := by
  rw [out_sup hn hS]; simp; omega
theorem kept_len (hn : n < i.supply.length) : (keptK i n).length = i.supply.length - 1 := len_one hn
theorem out_arcs (hw : Whole i) (hn : n < i.supply.length) (hS : S.length = i.supply.length) : (outOf S i n).arcs = (farL i n).map fun k => renK (keptK i n) (arcAt i.arcs k) := by
  have hk := @kept_mem i n hn
  unfold outOf withoutOf
  dsimp only
  rw [map_gt_all, hS]
  show i.arcs.filterMap (ren (keptK i n)) = _
  have e : i.arcs = (List.range i.arcs.length).map (arcAt i.arcs) := by
    apply List.ext_getElem (by simp)
    intro k h1 h2
    simp [arcAt_eq h1]
  conv => lhs; rw [e]
  rw [List.filterMap_map]
  refine fmap_filter _ fun k hk2 => ?_
  have hkl := List.mem_range.1 hk2
  have hwk := wholeB_iff.1 (hw.at_ hkl)
  by_cases ht : (arcAt i.arcs k).src = n ∨ (arcAt i.arcs k).dst = n
  · rw [if_neg (by rw [touch_t ht]; decide)]
    exact ren_not fun h1 => by
      rcases ht with ht | ht
      · exact (hk.1 h1.1).2.2 ht
      · exact (hk.1 h1.2).2.2 ht
  · rw [if_pos (by rw [touch_f ht]; rfl)]
    exact ren_in (hk.2 ⟨hwk.1, hwk.2.1, fun e => ht (.inl e)⟩) (hk.2 ⟨hwk.2.2.1, hwk.2.2.2, fun e => ht (.inr e)⟩)
theorem out_right (hR : RightI i) (hn : n < i.supply.length) (hS : S.length = i.supply.length) (hb : ∀ s ∈ S, -4398046511104 ≤ s ∧ s ≤ 4398046511104) (hs : S.sum = gt S (n : Int)) : RightI (outOf S i n) := by
  have hw := hR.whole
  have hk := @kept_mem i n hn
  have hl := out_len hn hS
  have ha := out_arcs hw hn hS
  have hnodes := hR.nodes
  have hmany := hR.many
  have hkl := @kept_len i n hn
  refine ⟨by omega, ?_, fun a h => ?_, fun s h => ?_, ?_⟩
  · rw [ha, List.length_map]
    have : (farL i n).length ≤ (List.range i.arcs.length).length := List.length_filter_le _ _
    simp at this; omega
  · rw [ha] at h
    obtain ⟨k, hk1, rfl⟩ := List.mem_map.1 h
    obtain ⟨hk2, hno⟩ := farL_mem.1 hk1
    have hA := hR.arcs _ (arcAt_mem hk2)
    have g1 := idx_mem (hk.2 ⟨hA.s0, hA.s1, fun e => hno (.inl e)⟩)
    have g2 := idx_mem (hk.2 ⟨hA.d0, hA.d1, fun e => hno (.inr e)⟩)
    rw [hl]
    exact ⟨g1.1, by have := g1.2.1; show idx _ _ < _; omega, g2.1, by have := g2.2.1; show idx _ _ < _; omega, hA.low0, hA.low1, hA.cap, hA.c0, hA.c1⟩
  · rw [out_sup hn hS] at h
    rcases List.mem_append.1 h with h | h
    · exact hb s (List.mem_of_mem_take h)
    · exact hb s (List.mem_of_mem_drop h)
  · have hn' : n < S.length := by omega
    rw [out_sup hn hS, sum_one hn', hs, gt_get hn']; omega
theorem net_out (hw : Whole i) (hn : n < i.supply.length) (hS : S.length = i.supply.length) {x : List Int} (hl : x.length = i.arcs.length) {m : Int} (hm : m ∈ keptK i n) :
    netP ((outOf S i n).arcs.zip ((farL i n).map fun k : Nat => gt x (k : Int))) (idx (keptK i n) m) = netP (i.arcs.zip x) m - ((nearL i n).map fun k => oneP (pairAt i x k) m).sum := by
  have hk := @kept_mem i n hn
  rw [out_arcs hw hn hS, List.zip_map', zip_pairs hl]
  unfold netP
  rw [List.map_map, List.map_map]
  have e := sum_part (f := ((fun p => oneP p m) ∘ pairAt i x)) (touchB i n) (List.range i.arcs.length)
  rw [e]
  have e2 : ((farL i n).map ((fun p => oneP p (idx (keptK i n) m)) ∘ fun k : Nat => (renK (keptK i n) (arcAt i.arcs k), gt x (k : Int)))) = (((List.range i.arcs.length).filter fun k => !touchB i n k).map ((fun p => oneP p m) ∘ pairAt i x)) := by
    refine List.map_congr_left fun k hk1 => ?_
    obtain ⟨hk2, hno⟩ := farL_mem.1 hk1
    have hwk := wholeB_iff.1 (hw.at_ hk2)
    exact one_ren (hk.2 ⟨hwk.1, hwk.2.1, fun e => hno (.inl e)⟩) (hk.2 ⟨hwk.2.2.1, hwk.2.2.2, fun e => hno (.inr e)⟩) hm
  rw [e2]
  have e3 : ((List.range i.arcs.length).filter (touchB i n)).map ((fun p => oneP p m) ∘ pairAt i x) = (nearL i n).map fun k => oneP (pairAt i x k) m := rfl
  rw [e3]
  omega
theorem cost_out (hw : Whole i) (hn : n < i.supply.length) (hS : S.length = i.supply.length) {x : List Int} (hl : x.length = i.arcs.length) :
    costP (i.arcs.zip x) = costP ((outOf S i n).arcs.zip ((farL i n).map fun k : Nat => gt x (k : Int))) + ((nearL i n).map fun k : Nat => (arcAt i.arcs k).cost * gt x (k : Int)).sum := by
  rw [out_arcs hw hn hS, List.zip_map', zip_pairs hl]
  unfold costP
  rw [List.map_map, List.map_map, sum_part (touchB i n) (List.range i.arcs.length)]
  rfl
theorem fits_out (hR : RightI i) (hn : n < i.supply.length) (hS : S.length = i.supply.length) (hO : RightI (outOf S i n)) {x : List Int} (hl : x.length = i.arcs.length)
    (hin : ∀ k ∈ nearL i n, inA (arcAt i.arcs k) (gt x (k : Int))) (hnode : netP (i.arcs.zip x) n = gt i.supply n)
    (hs : ∀ m : Nat, m < i.supply.length → m ≠ n → gt S (m : Int) = gt i.supply (m : Int) - ((nearL i n).map fun k => oneP (pairAt i x k) m).sum) :
    FitsP i x ↔ FitsP (outOf S i n) ((farL i n).map fun k : Nat => gt x (k : Int)) := by
  have hw := hR.whole
  have hk := @kept_mem i n hn
  have hkl := @kept_len i n hn
  have hol := out_len hn hS
  have hoa := out_arcs hw hn hS
  have hnd : (keptK i n).Nodup := keptL_nodup (offOf i n) i.supply.length
  have hall : (∀ p ∈ i.arcs.zip x, inA p.1 p.2) ↔ ∀ p ∈ (outOf S i n).arcs.zip ((farL i n).map fun k : Nat => gt x (k : Int)), inA p.1 p.2 := by
    rw [hoa, List.zip_map', zip_pairs hl]
    constructor
    · intro h p hp
      obtain ⟨k, hk1, rfl⟩ := List.mem_map.1 hp
      exact h (pairAt i x k) (List.mem_map.2 ⟨k, List.mem_range.2 (farL_mem.1 hk1).1, rfl⟩)
    · intro h p hp
      obtain ⟨k, hk1, rfl⟩ := List.mem_map.1 hp
      have hk2 := List.mem_range.1 hk1
      by_cases ht : (arcAt i.arcs k).src = n ∨ (arcAt i.arcs k).dst = n
      · exact hin k (nearL_mem.2 ⟨hk2, ht⟩)
      · exact h (renK (keptK i n) (arcAt i.arcs k), gt x (k : Int)) (List.mem_map.2 ⟨k, farL_mem.2 ⟨hk2, ht⟩, rfl⟩)
  constructor
  · intro hF
    refine ⟨hO, by rw [hoa]; simp, hall.1 hF.within, fun k hk1 => ?_⟩
    rw [hol] at hk1
    have hkK : k < (keptK i n).length := by omega
    have hm := List.getElem_mem hkK
    have hi := idx_at hnd hkK
    rw [out_gt hS hkK, ← hi, net_out hw hn hS hl hm]
    have hm' := hk.1 hm
    generalize (keptK i n)[k] = m at *
    obtain ⟨mm, rfl⟩ := Int.eq_ofNat_of_zero_le hm'.1
    rw [hF.net mm (by omega), hs mm (by omega) (by omega)]
  · intro hF
    refine ⟨hR, hl, hall.2 hF.within, fun m hm => ?_⟩
    by_cases e : m = n
    · subst e; exact hnode
    · have hmK : (m : Int) ∈ keptK i n := hk.2 ⟨by omega, by omega, by omega⟩
      have hi := idx_mem hmK
      obtain ⟨k, hk1⟩ := Int.eq_ofNat_of_zero_le hi.1
      have hkK : k < (keptK i n).length := by omega
      have h1 := net_out hw hn hS hl hmK
      have h2 := hF.net k (by rw [hol]; omega)
      have h3 : (keptK i n)[k] = (m : Int) := by have := hi.2.2; rw [hk1, gt_get hkK] at this; exact this
      rw [out_gt hS hkK, h3, hs m hm e, ← hk1, h1] at h2
      omega
end
end Go.Proofs.YtbnjeanldechnaaGreatDoor
namespace Go.Qe
theorem find_some {α β : Type} (p : α → Bool) (f : α → β) (l : List α) : l.findSome? (fun a => if p a = true then some (f a) else none) = (l.find? p).map f := by
  induction l with
  | nil => rfl
  | cons a l ih =>
    rw [List.findSome?_cons, List.find?_cons]
    by_cases h : p a = true
    · rw [if_pos h, h]; rfl
    · rw [if_neg h, ih]
      have : p a = false := by simpa using h
      rw [this]
def stepNo : Step := ⟨⟨[], []⟩, ⟨0, ⟨[], []⟩⟩, ⟨0, 0⟩, false⟩
def stepAs (i : Inst) : Step := ⟨i, ⟨0, ⟨[], []⟩⟩, ⟨0, 0⟩, false⟩
end Go.Qe
namespace Go.Proofs.YtbnjeanldechnaaGreatDoor
open Go.RowKit Go.Qe
def outStep (pass : Int) (was : Inst) (o : Inst) (off : Wide) : Step × Int := if rightOf o = 0 then (⟨o, ⟨pass, was⟩, off, true⟩, 0) else (stepNo, 40)
theorem someL_rng {i : Inst} {n : Int} {o e : Bool} {a : Int} (h : a ∈ someL i n o e) : 0 ≤ a ∧ a < i.arcs.length := by
  obtain ⟨k, hk, _, rfl⟩ := (someL_mem i n o e a).1 h
  omega
def shutB (i : Inst) (n : Nat) : Bool :=
  decide (¬ (someL i n true true).length = 0) && decide (¬ 0 < loopsOf i n) && decide (gt i.supply (n : Int) = 0) && ((someL i n true true).all fun a => decide ((gt i.arcs a).low = 0)) && (decide ((someL i n true false).length = 0) || decide ((someL i n false true).length = 0))
/-- what is known of a node that nothing comes through -/
structure ShutAt (i : Inst) (n : Nat) : Prop where
  sup : gt i.supply (n : Int) = 0
  low : ∀ k ∈ nearL i n, (arcAt i.arcs k).low = 0
theorem shutAt_of {i : Inst} (hw : Whole i) {n : Nat} (h : shutB i n = true) : ShutAt i n := by
  unfold shutB at h
  simp only [Bool.and_eq_true, decide_eq_true_eq, List.all_eq_true] at h
  refine ⟨h.1.1.2, fun k hk => ?_⟩
  obtain ⟨h1, h2⟩ := nearL_mem.1 hk
  exact h.1.2 (k : Int) ((someL_mem i n true true k).2 ⟨k, h1, (pick_iff hw h1).2 (by simpa using h2), rfl⟩)
theorem leaf_shut_eq {i : Inst} (hl : i.arcs.length ≤ lim) {n : Nat} (hn : n < i.supply.length) : leaf_shut i i n = some (shutB i n) := by
  have hat : ∀ m : Int, adj_Graph_At i m = some (someL i m true true) := fun m => if_pos hl
  have hout : ∀ m : Int, adj_Graph_Out i m = some (someL i m true false) := fun m => if_pos hl
  have hin : ∀ m : Int, adj_Graph_In i m = some (someL i m false true) := fun m => if_pos hl
  have hlo : ∀ m : Int, adj_Graph_Loops i m = some (loopsOf i m) := fun m => if_pos hl
  unfold leaf_shut shutB
  rw [hat, Option.bind_some, hlo]
  by_cases h1 : ((someL i n true true).length : Int) = 0
  · rw [if_pos h1, decide_eq_false (fun h => h (by omega))]; rfl
  · rw [if_neg h1, decide_eq_true (show ¬ (someL i n true true).length = 0 by omega), Option.bind_some]
    by_cases h2 : 0 < loopsOf i n
    · rw [if_pos h2, decide_eq_false (fun h => h h2)]; rfl
    · rw [if_neg h2, decide_eq_true h2, if_pos (rng_of hn)]
      by_cases h3 : gt i.supply (n : Int) = 0
      · rw [if_neg (fun h => h h3), decide_eq_true h3]
        have hlen : (someL i n true true).length ≤ i.arcs.length := by
          unfold someL someTo
          rw [List.length_map]
          have := List.length_filter_le (pickB i n true true) (List.range i.arcs.length)
          simpa using this
        simp only [lim] at hl
        rw [lp_find (s0 := (0 : Int)) (fun j => (j : Int)) (someL i n true true).length (fun j => if (gt i.arcs (gt (someL i n true true) (j : Int))).low = 0 then none else some (some false)) (fin := some (decide ((someL i n true false).length = 0) || decide ((someL i n false true).length = 0))) rfl (by omega)]
        · rw [findSome_range (someL i n true true) (fun a => if (gt i.arcs a).low = 0 then none else some (some false))]
          cases hs : (someL i n true true).findSome? (fun a => if (gt i.arcs a).low = 0 then none else some (some false)) with
          | none =>
            have : ((someL i n true true).all fun a => decide ((gt i.arcs a).low = 0)) = true := List.all_eq_true.2 fun a ha => by
              have := List.findSome?_eq_none_iff.1 hs a ha
              split at this
              · rename_i h; simpa using h
              · cases this
            rw [this]; rfl
          | some r =>
            obtain ⟨a, ha, h4⟩ := List.exists_of_findSome?_eq_some hs
            split at h4
            · cases h4
            · rename_i h5
              cases h4
              have : ((someL i n true true).all fun a => decide ((gt i.arcs a).low = 0)) = false := List.all_eq_false.2 ⟨a, ha, by simpa using h5⟩
              rw [this]; rfl
        · intro k j hj
          have hr := someL_rng (List.getElem_mem hj)
          unfold leaf_shut_b1
          rw [if_pos (rng_of hj).2, if_pos (rng_of hj), gt_get hj, if_pos hr]
          by_cases h4 : (gt i.arcs ((someL i n true true)[j])).low = 0
          · rw [if_neg (fun h => h h4), if_pos h4, w64_succ (by omega)]
          · rw [if_pos h4, if_neg h4]
        · intro k
          unfold leaf_shut_b1
          rw [if_neg (by omega), hout, Option.bind_some]
          by_cases h5 : ((someL i n true false).length : Int) = 0
          · rw [if_pos h5, decide_eq_true (show (someL i n true false).length = 0 by omega)]; rfl
          · rw [if_neg h5, hin, Option.bind_some, decide_eq_false (show ¬ (someL i n true false).length = 0 by omega)]
            simp
      · rw [if_pos h3, decide_eq_false h3]; rfl
theorem leaf_Shut_eq {i : Inst} (h1 : i.supply.length ≤ lim) (h2 : i.arcs.length ≤ lim) {n : Nat} (hn : n < i.supply.length) : leaf_Shut i n = some (shutB i n) := by
  unfold leaf_Shut
  rw [show adj_New i = some i from if_pos ⟨h1, h2⟩, Option.bind_some, leaf_shut_eq h2 hn, Option.bind_some]
theorem leaf_without_eq {S : List Int} {i : Inst} (hS : S.length = i.supply.length) (h1 : i.supply.length ≤ 64) (h2 : i.arcs.length ≤ 256) {n : Nat} (hn : n < i.supply.length) (pass : Int) (was : Inst) (off : Wide) :
    leaf_without pass was ⟨S, i.arcs⟩ n off = some (if rightOf (outOf S i n) = 0 then (⟨outOf S i n, ⟨pass, was⟩, off, true⟩, none) else (stepNo, some 40)) := by
  unfold leaf_without
  dsimp only
  rw [hS, if_pos ⟨by omega, by simp only [lim]; omega⟩, if_pos ⟨by omega, by simp; omega⟩]
  simp only [lt_eq]
  have e : upd (List.replicate (i.supply.length : Int).toNat false) (n : Int) true = offOf i n := by
    unfold offOf; rw [upd_nat, Int.toNat_natCast]
  rw [e, inst_Without_eq (by dsimp only; omega) (by dsimp only; omega) (by simp only [offOf, List.length_set, List.length_replicate, lim]; omega) (by simp), Option.bind_some]
  rw [inst_Right_eq, Option.bind_some]
  show (if ¬ rightOf (outOf S i n) = 0 then _ else _) = _
  by_cases h : rightOf (outOf S i n) = 0
  · rw [if_neg (fun h' => h' h), if_pos h]; rfl
  · rw [if_pos h, if_neg h]; rfl
end Go.Proofs.YtbnjeanldechnaaGreatDoor
namespace Go.Proofs.YtbnjeanldechnaaGreatDoor
open Go.RowKit Go.Qe
theorem near_some {i : Inst} (hw : Whole i) (n : Nat) : someL i n true true = (nearL i n).map fun k : Nat => (k : Int) := by
  have e : (List.range i.arcs.length).filter (pickB i n true true) = nearL i n := List.filter_congr fun k hk => by
    have h1 := pick_iff hw (n := (n : Int)) (o := true) (e := true) (List.mem_range.1 hk)
    by_cases ht : (arcAt i.arcs k).src = n ∨ (arcAt i.arcs k).dst = n
    · rw [touch_t ht, h1.2 (by simpa using ht)]
    · rw [touch_f ht]
      cases hp : pickB i n true true k with
      | false => rfl
      | true => exact absurd (by simpa using h1.1 hp) ht
  rw [← e]; rfl
def noTip : Tip × Bool := (⟨0, 0⟩, false)
def tipM (i : Inst) (n : Nat) (a : Int) : Int := if (gt i.arcs a).dst = n then w64 (0 - gt i.supply (n : Int)) else gt i.supply (n : Int)
def tipB (i : Inst) (n : Nat) : Tip × Bool :=
  match someL i n true true with
  | [a] => if 0 < loopsOf i n then noTip else if tipM i n a < (gt i.arcs a).low then noTip else if (gt i.arcs a).cap < tipM i n a then noTip else (⟨a, tipM i n a⟩, true)
  | _ => noTip
/-- a leaf, its arc, what flows along it -/
structure TipAt (i : Inst) (n a : Nat) (m : Int) : Prop where
  ha : a < i.arcs.length
  near : nearL i n = [a]
  noloop : ¬ ((arcAt i.arcs a).src = n ∧ (arcAt i.arcs a).dst = n)
  touch : (arcAt i.arcs a).src = n ∨ (arcAt i.arcs a).dst = n
  is : m = if (arcAt i.arcs a).dst = n then -gt i.supply (n : Int) else gt i.supply (n : Int)
  low : (arcAt i.arcs a).low ≤ m
  cap : m ≤ (arcAt i.arcs a).cap
theorem tipAt_of {i : Inst} (hR : RightI i) {n : Nat} (hn : n < i.supply.length) (h : (tipB i n).2 = true) : ∃ a m, tipB i n = (⟨(a : Nat), m⟩, true) ∧ TipAt i n a m := by
  have hw := hR.whole
  unfold tipB at h ⊢
  split at h
  · rename_i u hu
    split at h
    · cases h
    rename_i h0
    split at h
    · cases h
    rename_i h1
    split at h
    · cases h
    rename_i h2
    have hne := near_some hw n
    rw [hu] at hne
    obtain ⟨a, hna, hau⟩ : ∃ a, nearL i n = [a] ∧ u = (a : Int) := by
      rcases hl : nearL i n with _ | ⟨a, _ | ⟨b, l⟩⟩
      · rw [hl] at hne; simp at hne
      · rw [hl] at hne; exact ⟨a, rfl, by simpa using hne⟩
      · rw [hl] at hne; simp at hne
    subst hau
    have hm := nearL_mem.1 (show a ∈ nearL i n by rw [hna]; simp)
    have hs := hR.sup _ (gt_mem hn)
    have hl2 := noLoop hw h0 hm.1
    rw [if_neg h0, if_neg h1, if_neg h2]
    refine ⟨a, _, rfl, hm.1, hna, hl2, hm.2, ?_, by rw [gt_arc] at h1; omega, by rw [gt_arc] at h2; omega⟩
    unfold tipM
    rw [gt_arc, w64_id (by omega) (by omega)]
    split <;> omega
  · cases h
theorem tip_rng {i : Inst} (hR : RightI i) {n a : Nat} {m : Int} (hn : n < i.supply.length) (h : TipAt i n a m) : -4398046511104 ≤ m ∧ m ≤ 4398046511104 := by
  have hs := hR.sup _ (gt_mem hn)
  rw [h.is]
  split <;> omega
theorem leaf_tipOf_eq {i : Inst} (hl : i.arcs.length ≤ lim) {n : Nat} (hn : n < i.supply.length) : leaf_tipOf i i n = some (tipB i n) := by
  have hat : adj_Graph_At i n = some (someL i n true true) := if_pos hl
  have hlo : adj_Graph_Loops i n = some (loopsOf i n) := if_pos hl
  unfold leaf_tipOf tipB
  rw [hat, Option.bind_some, hlo]
  rcases hu : someL i n true true with _ | ⟨u, _ | ⟨v, l⟩⟩
  · rfl
  · have hr := someL_rng (i := i) (n := n) (o := true) (e := true) (a := u) (by rw [hu]; simp)
    have g0 : gt [u] 0 = u := rfl
    rw [if_neg (by simp), Option.bind_some]
    dsimp only
    by_cases h0 : 0 < loopsOf i n
    · rw [if_pos h0, if_pos h0]; rfl
    · rw [if_neg h0, if_neg h0, if_pos (by simp), g0, if_pos hr, if_pos (rng_of hn)]
      unfold tipM
      by_cases h1 : (gt i.arcs u).dst = n
      · simp only [h1, if_true]; repeat' split
        all_goals rfl
      · simp only [h1, if_false]; repeat' split
        all_goals rfl
  · rw [if_pos (by simp only [List.length_cons]; omega)]; rfl
theorem leaf_Tip_eq {i : Inst} (h1 : i.supply.length ≤ lim) (h2 : i.arcs.length ≤ lim) {n : Nat} (hn : n < i.supply.length) : leaf_Tip i n = some ((tipB i n).1.a, (tipB i n).1.n, (tipB i n).2) := by
  unfold leaf_Tip
  rw [show adj_New i = some i from if_pos ⟨h1, h2⟩, Option.bind_some, leaf_tipOf_eq h2 hn, Option.bind_some]
/-- supplies, what flows along an arc taken from them -/
def tipSup (i : Inst) (a : Nat) (m : Int) : List Int := upd (upd i.supply (arcAt i.arcs a).src (w64 (gt i.supply (arcAt i.arcs a).src - m))) (arcAt i.arcs a).dst (w64 (gt (upd i.supply (arcAt i.arcs a).src (w64 (gt i.supply (arcAt i.arcs a).src - m))) (arcAt i.arcs a).dst + m))
theorem tipSup_len (i : Inst) (a : Nat) (m : Int) : (tipSup i a m).length = i.supply.length := by simp [tipSup, upd_len]
structure SupOk (i : Inst) (n a : Nat) (m : Int) : Prop where
  node : gt (tipSup i a m) (n : Int) = 0
  sum : (tipSup i a m).sum = 0
  far : ∀ k : Nat, k < i.supply.length → k ≠ n → gt (tipSup i a m) (k : Int) = gt i.supply (k : Int) - oneP (arcAt i.arcs a, m) k
theorem tipSup_ok {i : Inst} (hR : RightI i) {n a : Nat} {m : Int} (hn : n < i.supply.length) (h : TipAt i n a m) : SupOk i n a m := by
  have hA := hR.arcs _ (arcAt_mem h.ha)
  have hm := tip_rng hR hn h
  have hsn := hR.sup _ (gt_mem hn)
  have his := h.is
  have hss := hR.sup _ (gt_in (xs := i.supply) ⟨hA.s0, hA.s1⟩)
  have hds := hR.sup _ (gt_in (xs := i.supply) ⟨hA.d0, hA.d1⟩)
  have hne : ¬ (arcAt i.arcs a).src = (arcAt i.arcs a).dst := fun e => h.noloop (by rcases h.touch with t | t; exact ⟨t, e ▸ t⟩; exact ⟨e ▸ t, t⟩)
  have hsum := hR.sum
  have ht := h.touch
  have hnl := h.noloop
  have hT : tipSup i a m = upd (upd i.supply (arcAt i.arcs a).src (gt i.supply (arcAt i.arcs a).src - m)) (arcAt i.arcs a).dst (gt i.supply (arcAt i.arcs a).dst + m) := by
    unfold tipSup
    rw [w64_id (x := gt i.supply (arcAt i.arcs a).src - m) (by omega) (by omega), gt_upd_ne hne hA.s0 hA.d0, w64_id (by omega) (by omega)]
  have hs0 := hA.s0
  have hs1 := hA.s1
  have hd0 := hA.d0
  have hd1 := hA.d1
  clear hA
  refine ⟨?_, ?_, fun k hk hkn => ?_⟩ <;> rw [hT] <;> clear hT
  · generalize arcAt i.arcs a = x at *
    rcases ht with t | t
    · have td : ¬ x.dst = n := fun e => hnl ⟨t, e⟩
      rw [if_neg td] at his
      rw [gt_upd_ne td hd0 (by omega), t, gt_upd (by omega)]; omega
    · rw [if_pos t] at his
      rw [t, gt_upd (by rw [upd_len]; omega)]; omega
  · rw [sum_upd (by rw [upd_len]; omega), sum_upd (by omega), gt_upd_ne hne hs0 hd0]; omega
  · generalize arcAt i.arcs a = x at *
    unfold oneP
    dsimp only
    by_cases e1 : x.dst = k
    · have e2 : ¬ x.src = k := fun e => hne (e.trans e1.symm)
      rw [if_neg e2, if_pos e1, e1, gt_upd (by rw [upd_len]; omega)]; omega
    · rw [gt_upd_ne e1 hd0 (by omega)]
      by_cases e2 : x.src = k
      · rw [if_pos e2, if_neg e1, e2, gt_upd (by omega)]; omega
      · rw [if_neg e2, if_neg e1, gt_upd_ne e2 hs0 (by omega)]; omega
def leafOf (i : Inst) : Step × Int :=
  if ¬ rightOf i = 0 then (stepNo, rightOf i) else match (List.range i.supply.length).find? (fun n => (tipB i n).2) with
    | some n => outStep 6 i (outOf (tipSup i (tipB i n).1.a.toNat (tipB i n).1.n) i n) (mkW ((tipB i n).1.n * (arcAt i.arcs (tipB i n).1.a.toNat).cost))
    | none => (stepAs i, 0)
theorem leafOf_wrong {i : Inst} (h : ¬ rightOf i = 0) : leafOf i = (stepNo, rightOf i) := by unfold leafOf; rw [if_pos h]
theorem leafOf_none {i : Inst} (h : rightOf i = 0) (hs : (List.range i.supply.length).find? (fun n => (tipB i n).2) = none) : leafOf i = (⟨i, ⟨0, ⟨[], []⟩⟩, ⟨0, 0⟩, false⟩, 0) := by
  unfold leafOf
  rw [if_neg (fun h' => h' h), hs]
  rfl
theorem leafOf_some {i : Inst} (h : rightOf i = 0) {n a : Nat} {m : Int} (hs : (List.range i.supply.length).find? (fun n => (tipB i n).2) = some n) (ht : tipB i n = (⟨(a : Nat), m⟩, true)) : leafOf i = outStep 6 i (outOf (tipSup i a m) i n) (mkW (m * (arcAt i.arcs a).cost)) := by
  unfold leafOf
  rw [if_neg (fun h' => h' h), hs]
  dsimp only
  rw [ht]
  dsimp only
  rw [Int.toNat_natCast]
theorem leaf_Leaf_eq (i : Inst) : leaf_Leaf i = some (leafOf i) := by
  have hrun : ∀ X : Option (Step × Int), X = some (leafOf i) → (X.bind fun r1 => (some ((Step.mk (Inst.mk r1.1.inst.supply r1.1.inst.arcs) (Rec.mk r1.1.rcd.pass (Inst.mk r1.1.rcd.was.supply r1.1.rcd.was.arcs)) r1.1.off r1.1.did), r1.2))) = some (leafOf i) := fun X h => by rw [h]; rfl
  unfold leaf_Leaf
  refine hrun _ ?_
  first | unfold leaf_run_2 | unfold leaf_run_1
  rw [inst_Right_eq, Option.bind_some]
  by_cases h0 : rightOf i = 0
  · have hR := rightOf_zero.1 h0
    have hnodes := hR.nodes
    have hmany := hR.many
    have l1 : i.supply.length ≤ lim := by simp only [lim]; omega
    have l2 : i.arcs.length ≤ lim := by simp only [lim]; omega
    rw [if_neg (fun h => h h0)]
    have hf : leaf_first_leaf_tip_1 (i.supply.length : Int) i i = some (match (List.range i.supply.length).find? (fun n => (tipB i n).2) with | some n => ((n : Int), (tipB i n).1, true) | none => (0, ⟨0, 0⟩, false)) := by
      unfold leaf_first_leaf_tip_1
      rw [lp_find (s0 := (0 : Int)) (fun j => (j : Int)) i.supply.length (fun j => if (tipB i j).2 = true then some (some ((j : Int), (tipB i j).1, true)) else none) (fin := some (0, ⟨0, 0⟩, false)) rfl (by omega), find_some (p := fun n => (tipB i n).2)]
      · cases (List.range i.supply.length).find? (fun n => (tipB i n).2) <;> rfl
      · intro k j hj
        unfold leaf_first_leaf_tip_1_b1 leaf_leaf_1_1
        rw [if_pos (rng_of hj).2, leaf_tipOf_eq l2 hj, Option.bind_some, Option.bind_some]
        dsimp only
        by_cases h : (tipB i j).2 = true
        · rw [if_pos h, if_pos h]
        · rw [if_neg h, if_neg h, w64_succ (by omega)]
      · intro k
        unfold leaf_first_leaf_tip_1_b1
        rw [if_neg (by omega)]
    unfold leaf_leaf
    rw [show adj_New i = some i from if_pos ⟨l1, l2⟩, Option.bind_some]
    cases hs : (List.range i.supply.length).find? (fun n => (tipB i n).2) with
    | none =>
      rw [hs] at hf
      dsimp only at hf
      rw [hf, Option.bind_some, leafOf_none h0 hs]
      dsimp only
      rw [if_neg (by simp), inst_Copy_eq l1 l2, Option.bind_some, Option.bind_some]
      rfl
    | some n =>
      have hn := List.mem_range.1 (List.mem_of_find?_eq_some hs)
      obtain ⟨a, m, htb, hT⟩ := tipAt_of hR hn (List.find?_some (p := fun n => (tipB i n).2) hs)
      have hA := hR.arcs _ (arcAt_mem hT.ha)
      have hm := tip_rng hR hn hT
      have hc0 := hA.c0
      have hc1 := hA.c1
      rw [hs] at hf
      dsimp only at hf
      rw [htb] at hf
      dsimp only at hf
      rw [hf, Option.bind_some, leafOf_some h0 hs htb]
      dsimp only
      rw [if_pos rfl, inst_Copy_eq l1 l2, Option.bind_some, if_pos (rng_of hT.ha), gt_arc, if_pos ⟨hA.s0, hA.s1⟩]
      simp only [lt_eq, upd_len]
      rw [if_pos ⟨hA.d0, hA.d1⟩, Option.bind_some, num_Times_eq (by omega) (by omega), Option.bind_some]
      have hw := leaf_without_eq (S := tipSup i a m) (i := i) (tipSup_len i a m) hnodes hmany hn 6 i (mkW (m * (arcAt i.arcs a).cost))
      have e : (⟨upd (upd i.supply (arcAt i.arcs a).src (w64 (gt i.supply (arcAt i.arcs a).src - m))) (arcAt i.arcs a).dst (w64 (gt (upd i.supply (arcAt i.arcs a).src (w64 (gt i.supply (arcAt i.arcs a).src - m))) (arcAt i.arcs a).dst + m)), i.arcs⟩ : Inst) = ⟨tipSup i a m, i.arcs⟩ := rfl
      rw [e, hw, Option.bind_some]
      unfold outStep
      by_cases h : rightOf (outOf (tipSup i a m) i n) = 0
      · rw [if_pos h, if_pos h]; rfl
      · rw [if_neg h, if_neg h]; rfl
  · rw [if_pos h0, leafOf_wrong h0]; rfl
theorem known_t : law17_known = some true := by kernel_rfl
structure TreeOk (i : Inst) : Prop where
  right : RightI i
  low : ∀ a ∈ i.arcs, 0 ≤ a.low ∧ a.low ≤ 1 ∧ (a.cap = 3 ∨ a.cap = 4611686018427387904)
  n0 : 2 ≤ i.supply.length
  many : i.arcs.length ≤ 19
theorem mv_ok {xs : List Int} {u v q B : Int} (hu : 0 ≤ u ∧ u < xs.length) (hv : 0 ≤ v ∧ v < xs.length) (hq : 0 ≤ q ∧ q ≤ 3) (hB : 0 ≤ B ∧ B ≤ 1000) (hx : ∀ x ∈ xs, -B ≤ x ∧ x ≤ B) (h0 : xs.sum = 0) :
    w64 (gt xs u + q) = gt xs u + q ∧ w64 (gt (upd xs u (gt xs u + q)) v - q) = gt (upd xs u (gt xs u + q)) v - q ∧
    (upd (upd xs u (gt xs u + q)) v (gt (upd xs u (gt xs u + q)) v - q)).sum = 0 ∧ (∀ x ∈ upd (upd xs u (gt xs u + q)) v (gt (upd xs u (gt xs u + q)) v - q), -(B + 3) ≤ x ∧ x ≤ B + 3) := by
  have s1 := hx _ (gt_in hu)
  have hX : ∀ x ∈ upd xs u (gt xs u + q), -B ≤ x ∧ x ≤ B + 3 := fun x h => by
    rcases mem_upd h with h | h
    · have := hx x h; omega
    · omega
  have hv' : 0 ≤ v ∧ v < (upd xs u (gt xs u + q)).length := by rw [upd_len]; exact hv
  have s2 := hX _ (gt_in hv')
  refine ⟨w64_id (by omega) (by omega), w64_id (by omega) (by omega), by rw [sum_upd hv', sum_upd hu]; omega, fun x h => ?_⟩
  rcases mem_upd h with h | h
  · have := hX x h; omega
  · omega
theorem sum_none {xs : List Int} (h : ∀ s ∈ xs, s = 0) : xs.sum = 0 := by
  induction xs with
  | nil => rfl
  | cons a l ih => rw [List.sum_cons, h a List.mem_cons_self, ih fun s hs => h s (List.mem_cons_of_mem _ hs)]; rfl
theorem tree_ok {c d : List Int} (hc : Byt c) (hd : Byt d) : ∃ i, law17_Tree c d = some i ∧ TreeOk i := by
  obtain ⟨r, er, hr⟩ := thin_ok hc
  have hn0 := hr.n0
  have hn1 := hr.n1
  have hmany := hr.many
  unfold law17_Tree
  rw [er, Option.bind_some]
  refine lp_inv (T := fun o => ∃ i, o = some i ∧ TreeOk i) r.arcs.length (by omega) (fun j (s : Int × List Int × List Arc) => s.1 = (j : Int) ∧ s.2.1.length = r.supply.length ∧ s.2.2.length = r.arcs.length ∧ s.2.1.sum = 0 ∧ (∀ x ∈ s.2.1, -(3 * (j : Int)) ≤ x ∧ x ≤ 3 * (j : Int)) ∧ ∀ a ∈ s.2.2, (0 ≤ a.src ∧ a.src < r.supply.length ∧ 0 ≤ a.dst ∧ a.dst < r.supply.length) ∧ 0 ≤ a.low ∧ a.low ≤ 1 ∧ (a.cap = 3 ∨ a.cap = 4611686018427387904) ∧ 0 ≤ a.cost ∧ a.cost ≤ 19) 0
    ⟨rfl, rfl, rfl, sum_none hr.sup, fun x hx => by rw [hr.sup x hx]; omega, fun a ha => by
      obtain ⟨g1, g2, g3, g4, g5⟩ := hr.arcs a ha
      exact ⟨g1, by omega, by omega, .inl g3, g4, g5⟩⟩ (by omega) fun k j s hj hI hk => ?_
  obtain ⟨s1, S, xs⟩ := s
  obtain ⟨h1, h2, h3, h4, h5, h6⟩ := hI
  dsimp only at h1 h2 h3 h4 h5 h6
  subst h1
  unfold law17_Tree_b1
  dsimp only
  by_cases hjl : j < r.arcs.length
  · have hjx : j < xs.length := by omega
    rw [if_pos (show (j : Int) < (xs.length : Int) by omega), w64_succ (by omega)]
    -- what moves
    have step : ∀ (ys : List Arc) (q : Int), ys.length = r.arcs.length → (∀ a ∈ ys, (0 ≤ a.src ∧ a.src < r.supply.length ∧ 0 ≤ a.dst ∧ a.dst < r.supply.length) ∧ 0 ≤ a.low ∧ a.low ≤ 1 ∧ (a.cap = 3 ∨ a.cap = 4611686018427387904) ∧ 0 ≤ a.cost ∧ a.cost ≤ 19) → 0 ≤ q ∧ q ≤ 3 →
        ∃ i, (if 0 ≤ (j : Int) ∧ (j : Int) < (ys.length : Int) then (if 0 ≤ ((gt ys (j : Int)).src) ∧ ((gt ys (j : Int)).src) < (S.length : Int) then (lt (upd S ((gt ys (j : Int)).src) (w64 ((gt S ((gt ys (j : Int)).src)) + q))) fun (xs33 : List Int) => (if 0 ≤ ((gt ys (j : Int)).dst) ∧ ((gt ys (j : Int)).dst) < (xs33.length : Int) then (lt (upd xs33 ((gt ys (j : Int)).dst) (w64 ((gt xs33 ((gt ys (j : Int)).dst)) - q))) fun (xs34 : List Int) => (k (((j + 1 : Nat) : Int), xs34, ys))) else none)) else none) else none) = some i ∧ TreeOk i := fun ys q hl ha hq => by
      have g := ha _ (gt_mem (show j < ys.length by omega))
      obtain ⟨e1, e2, e3, e4⟩ := mv_ok (xs := S) (u := (gt ys (j : Int)).src) (v := (gt ys (j : Int)).dst) (by omega) (by omega) hq (B := 3 * (j : Int)) (by omega) h5 h4
      rw [if_pos ⟨by omega, by omega⟩, if_pos (by omega)]
      simp only [lt_eq, upd_len]
      rw [if_pos (by omega), e1, e2]
      exact hk hjl _ ⟨rfl, by dsimp only; rw [upd_len, upd_len]; exact h2, hl, e3, fun x hx => by have := e4 x hx; omega, ha⟩
    by_cases c1 : (j : Int) < d.length
    · have hb := hd.at_ (j : Int)
      have t4 := tdiv_rng hb (show (0 : Int) < 4 by omega)
      have m2 := tmod_rng t4.1 (show (0 : Int) < 2 by omega)
      have m4 := tmod_rng hb.1 (show (0 : Int) < 4 by omega)
      rw [if_pos c1, if_pos ⟨by omega, c1⟩, if_pos ⟨by omega, by omega⟩, wrap8_id t4]
      generalize (gt d (j : Int)).tmod 4 = z at *
      generalize ((gt d (j : Int)).tdiv 4).tmod 2 = y at *
      have wz : w64 z = z := w64_id (by omega) (by omega)
      have wy : w64 y = y := w64_id (by omega) (by omega)
      have g := h6 (gt xs (j : Int)) (gt_mem hjx)
      rw [wz, wy]
      simp only [lt_eq]
      have gu : gt (upd xs (j : Int) (⟨(gt xs (j : Int)).src, (gt xs (j : Int)).dst, y, (gt xs (j : Int)).cap, (gt xs (j : Int)).cost⟩ : Arc)) (j : Int) = ⟨(gt xs (j : Int)).src, (gt xs (j : Int)).dst, y, (gt xs (j : Int)).cap, (gt xs (j : Int)).cost⟩ := gt_upd ⟨by omega, by omega⟩
      by_cases c2 : (gt d (j : Int)).tmod 16 = 15
      · rw [if_pos c2, if_pos ⟨by omega, by rw [upd_len]; omega⟩, upd_upd, gu]
        refine step _ z (by rw [upd_len]; exact h3) (fun a ha => ?_) (by omega)
        rcases mem_upd ha with ha | ha
        · exact h6 a ha
        · rw [ha]; exact ⟨g.1, by dsimp only; omega, by dsimp only; omega, .inr rfl, g.2.2.2.2⟩
      · rw [if_neg c2]
        refine step _ z (by rw [upd_len]; exact h3) (fun a ha => ?_) (by omega)
        rcases mem_upd ha with ha | ha
        · exact h6 a ha
        · rw [ha]; exact ⟨g.1, by dsimp only; omega, by dsimp only; omega, g.2.2.2.1, g.2.2.2.2⟩
    · rw [if_neg c1]
      exact step xs 0 h3 h6 (by omega)
  · rw [if_neg (by omega)]
    refine ⟨_, rfl, ⟨by dsimp only; omega, by dsimp only; omega, fun a ha => ?_, fun x hx => by have := h5 x hx; omega, h4⟩, fun a ha => by have := h6 a ha; exact ⟨this.2.1, this.2.2.1, this.2.2.2.1⟩, by dsimp only; omega, by dsimp only; omega⟩
    obtain ⟨⟨g1, g2, g3, g4⟩, g5, g6, g7, g8, g9⟩ := h6 a ha
    exact ⟨g1, by dsimp only; omega, g3, by dsimp only; omega, g5, by omega, by omega, by omega, by omega⟩
end Go.Proofs.YtbnjeanldechnaaGreatDoor
namespace Go.Qe
/-- what a side has of a list -/
def msum (b : List Bool) (xs : List Int) : Int := ((b.zip xs).map fun p => if p.1 = true then p.2 else 0).sum
theorem msum_set : ∀ (b : List Bool) (xs : List Int) (j : Nat) (y : Int) (h1 : j < b.length) (h2 : j < xs.length), msum b (xs.set j y) = msum b xs - (if b[j] = true then xs[j] else 0) + (if b[j] = true then y else 0)
  | [], _, j, _, h1, _ => by simp at h1
  | _ :: _, [], j, _, _, h2 => by simp at h2
  | c :: b, x :: xs, 0, y, _, _ => by
    simp only [msum, List.set_cons_zero, List.zip_cons_cons, List.map_cons, List.sum_cons, List.getElem_cons_zero]
    omega
  | c :: b, x :: xs, j + 1, y, h1, h2 => by
    have ih := msum_set b xs j y (by simpa using h1) (by simpa using h2)
    simp only [msum, List.set_cons_succ, List.zip_cons_cons, List.map_cons, List.sum_cons, List.getElem_cons_succ] at ih ⊢
    omega
theorem msum_one {b : List Bool} {xs : List Int} {n : Nat} (h1 : n < b.length) (hl : b.length = xs.length) : msum (b.take n ++ b.drop (n + 1)) (xs.take n ++ xs.drop (n + 1)) = msum b xs - (if b[n] = true then xs[n] else 0) := by
  have e1 : b.zip xs = (b.take n).zip (xs.take n) ++ ((b[n], xs[n]) :: (b.drop (n + 1)).zip (xs.drop (n + 1))) := by
    conv => lhs; rw [← List.take_append_drop n b, ← List.take_append_drop n xs]
    rw [List.zip_append (by simp; omega), ← List.getElem_cons_drop h1, ← List.getElem_cons_drop (show n < xs.length by omega), List.zip_cons_cons]
  unfold msum
  rw [List.zip_append (by simp; omega), e1]
  simp only [List.map_append, List.map_cons, List.sum_append, List.sum_cons]
  omega
theorem fmap_congr {α β : Type} {f g : α → Option β} : ∀ l : List α, (∀ x ∈ l, f x = g x) → l.filterMap f = l.filterMap g
  | [], _ => rfl
  | x :: l, h => by rw [List.filterMap_cons, List.filterMap_cons, h x List.mem_cons_self, fmap_congr l fun y hy => h y (List.mem_cons_of_mem _ hy)]
theorem fmap_part {α β : Type} {f : α → Option β} {p : α → Bool} : ∀ l : List α, (∀ x ∈ l, p x = false → f x = none) → l.filterMap f = (l.filter p).filterMap f
  | [], _ => rfl
  | x :: l, h => by
    have ih := fmap_part l fun y hy => h y (List.mem_cons_of_mem _ hy)
    cases hp : p x with
    | true => rw [List.filter_cons_of_pos hp, List.filterMap_cons, List.filterMap_cons, ih]
    | false => rw [List.filter_cons_of_neg (by rw [hp]; decide), List.filterMap_cons, h x List.mem_cons_self hp, ih]
theorem prt_0 {α : Type} (xs : List α) (a : Nat) : prt xs (0 : Int) (a : Int) = xs.take a := by
  unfold prt; simp
theorem prt_1 {α : Type} (xs : List α) (a : Nat) : prt xs ((a + 1 : Nat) : Int) (xs.length : Int) = xs.drop (a + 1) := by
  unfold prt
  rw [Int.toNat_natCast]
  exact List.take_of_length_le (by rw [List.length_drop]; omega)
end Go.Qe
namespace Go.Proofs.YtbnjeanldechnaaGreatDoor
open Go.RowKit Go.Qe
theorem marks_ok (c : List Int) {n : Nat} (hn : n ≤ 1000) : ∃ l, law03_Marks c (n : Int) = some l := by
  unfold law03_Marks
  refine lp_inv (T := fun o => ∃ l : List Bool, o = some l) n (by omega) (fun j (s : Int × List Bool) => s.1 = (j : Int) ∧ s.2.length = j) 0 ⟨rfl, rfl⟩ (by omega) fun k j s hj hI hk => ?_
  obtain ⟨s1, xs⟩ := s
  obtain ⟨h1, h2⟩ := hI
  dsimp only at h1 h2
  subst h1
  unfold law03_Marks_b1
  dsimp only
  by_cases c1 : j < n
  · rw [if_pos (by omega)]
    by_cases c2 : (j : Int) < c.length
    · rw [if_pos c2, if_pos ⟨by omega, c2⟩, if_pos (by simp only [List.length_singleton, lim]; omega), w64_succ (by omega)]
      exact hk c1 _ ⟨rfl, by simp; omega⟩
    · rw [if_neg c2]; exact ⟨_, rfl⟩
  · rw [if_neg (by omega)]; exact ⟨_, rfl⟩
def crossB (b : List Bool) (a : Arc) : Option (Arc × Bool) := if (gt b a.src == gt b a.dst) = true then none else some (a, gt b a.src)
theorem on_eq {b : List Bool} {n : Int} (h : 0 ≤ n ∧ n < b.length) : cut_on b n = some (gt b n) := by
  unfold cut_on
  rw [if_pos h.2, if_pos h]
theorem over_eq {i : Inst} (hw : Whole i) {b : List Bool} (hb : b.length = i.supply.length) (hm : i.arcs.length ≤ 1000) : cut_over_1 i b = some (i.arcs.filterMap (crossB b)) := by
  have key : ∀ d j, j + d = i.arcs.length → ∀ N, d < N → lp (cut_over_1_b1 i b) N (j : Int) = some ((i.arcs.drop j).filterMap (crossB b)) := by
    intro d
    induction d with
    | zero =>
      intro j hj N hN
      obtain ⟨N, rfl⟩ : ∃ M, N = M + 1 := ⟨N - 1, by omega⟩
      show cut_over_1_b1 i b (lp (cut_over_1_b1 i b) N) (j : Int) = _
      unfold cut_over_1_b1
      rw [if_neg (by omega), List.drop_eq_nil_of_le (by omega)]
      rfl
    | succ d ih =>
      intro j hj N hN
      obtain ⟨N, rfl⟩ : ∃ M, N = M + 1 := ⟨N - 1, by omega⟩
      have hjl : j < i.arcs.length := by omega
      have hA := hw _ (List.getElem_mem hjl)
      have ih' := ih (j + 1) (by omega) N (by omega)
      show cut_over_1_b1 i b (lp (cut_over_1_b1 i b) N) (j : Int) = _
      generalize lp (cut_over_1_b1 i b) N = K at *
      have nd : ∀ n : Int, 0 ≤ n ∧ n < i.supply.length → cut_over_1_1_1 n i = some true := fun n hn => by
        unfold cut_over_1_1_1
        rw [if_pos hn.1, decide_eq_true hn.2]
      rw [← List.getElem_cons_drop hjl, List.filterMap_cons]
      unfold cut_over_1_b1
      rw [if_pos (rng_of hjl).2, if_pos (rng_of hjl), gt_get hjl, nd _ ⟨hA.1, hA.2.1⟩, Option.bind_some, if_pos rfl, nd _ ⟨hA.2.2.1, hA.2.2.2⟩, Option.bind_some, if_pos rfl, on_eq ⟨hA.1, by omega⟩, Option.bind_some, on_eq ⟨hA.2.2.1, by omega⟩, Option.bind_some, Option.bind_some, w64_succ (by omega), ih']
      unfold crossB
      by_cases c : (gt b i.arcs[j].src == gt b i.arcs[j].dst) = true
      · rw [if_pos c, if_pos c]
      · rw [if_neg c, if_neg c]; rfl
  exact key i.arcs.length 0 (by omega) big (by simp only [big]; omega)
theorem room_ok (kd : Int × Int → Option (Wide × Bool)) (hkd : ∀ v : Int, kd ((mkW v).hi, (mkW v).lo) = some (mkW v, true)) : ∀ (xs : List (Arc × Bool)) (v : Int), (∀ p ∈ xs, I64 p.1.low ∧ I64 p.1.cap) → ∃ r, fe cut_Room_r1 xs kd ((mkW v).hi, (mkW v).lo) = some r ∧ ∃ u, r.1 = mkW u
  | [], v, _ => ⟨_, hkd v, v, rfl⟩
  | (a, o) :: xs, v, h => by
    have h1 := h (a, o) List.mem_cons_self
    have ih := fun u => room_ok kd hkd xs u fun p hp => h p (List.mem_cons_of_mem _ hp)
    show ∃ r, cut_Room_r1 (a, o) (fun s' => fe cut_Room_r1 xs kd s') ((mkW v).hi, (mkW v).lo) = some r ∧ ∃ u, r.1 = mkW u
    unfold cut_Room_r1
    dsimp only
    have e0 : (⟨(mkW v).hi, (mkW v).lo⟩ : Wide) = mkW v := rfl
    rw [e0]
    cases o with
    | true =>
      rw [if_pos rfl]
      by_cases hc : a.cap = 4611686018427387904
      · rw [if_pos hc]; exact ⟨_, rfl, 0, rfl⟩
      · rw [if_neg hc, num_Of_eq h1.2, Option.bind_some, num_Plus_eq, Option.bind_some]; exact ih _
    | false =>
      rw [if_neg (by decide), num_Of_eq h1.1, Option.bind_some, num_Minus_eq, Option.bind_some]; exact ih _
theorem room_map (K : List Int) (kd : Int × Int → Option (Wide × Bool)) : ∀ (xs : List (Arc × Bool)) (s : Int × Int), fe cut_Room_r1 (xs.map fun p => (renK K p.1, p.2)) kd s = fe cut_Room_r1 xs kd s
  | [], _ => rfl
  | (a, o) :: xs, s => by
    have ih := room_map K kd xs
    show cut_Room_r1 (renK K a, o) (fun s' => fe cut_Room_r1 (xs.map fun p => (renK K p.1, p.2)) kd s') s = cut_Room_r1 (a, o) (fun s' => fe cut_Room_r1 xs kd s') s
    have e : (fun s' => fe cut_Room_r1 (xs.map fun p => (renK K p.1, p.2)) kd s') = fun s' => fe cut_Room_r1 xs kd s' := funext ih
    rw [e]
    rfl
theorem sum_eq {l : List Int} (h : ∀ x ∈ l, I64 x) (hl : l.length ≤ 1000) : num_Sum l = some (mkW l.sum) := by
  unfold num_Sum
  refine lp_eq (fun j => ((j : Int), (mkW (l.take j).sum).hi, (mkW (l.take j).sum).lo)) l.length (by simp; decide) (by omega) (fun k j hj => ?_) (fun k => ?_)
  · unfold num_Sum_b1
    dsimp only
    have e : (⟨(mkW (l.take j).sum).hi, (mkW (l.take j).sum).lo⟩ : Wide) = mkW (l.take j).sum := rfl
    have e2 : (l.take (j + 1)).sum = (l.take j).sum + l[j] := by rw [List.take_add_one, List.getElem?_eq_getElem hj, Option.toList_some, List.sum_append]; simp
    rw [if_pos (rng_of hj).2, if_pos (rng_of hj), gt_get hj, num_Of_eq (h _ (List.getElem_mem hj)), Option.bind_some, e, num_Plus_eq, Option.bind_some, w64_succ (by omega), e2]
  · unfold num_Sum_b1
    dsimp only
    rw [if_neg (by omega), List.take_length]
theorem sel_sum : ∀ l : List (Bool × Int), (l.filterMap fun p => if p.1 = true then some p.2 else none).sum = (l.map fun p => if p.1 = true then p.2 else 0).sum
  | [] => rfl
  | (b, x) :: l => by
    have ih := sel_sum l
    cases b with
    | true => simp only [List.filterMap_cons, List.map_cons, List.sum_cons, if_true, ih]
    | false => simp only [List.filterMap_cons, List.map_cons, List.sum_cons, Bool.false_eq_true, if_false, ih]; omega
theorem need_eq {i : Inst} {b : List Bool} (hb : b.length = i.supply.length) (hs : ∀ s ∈ i.supply, I64 s) (hn : i.supply.length ≤ 1000) : cut_Need i b = some (mkW (msum b i.supply)) := by
  unfold cut_Need
  refine lp_eq (fun j => ((j : Int), ((b.zip i.supply).take j).filterMap fun p => if p.1 = true then some p.2 else none)) i.supply.length (by simp) (by omega) (fun k j hj => ?_) (fun k => ?_)
  · unfold cut_Need_b1
    dsimp only
    have hjb : j < b.length := by omega
    have hjz : j < (b.zip i.supply).length := by simp; omega
    have hll : (((b.zip i.supply).take j).filterMap fun p => if p.1 = true then some p.2 else none).length ≤ j := Nat.le_trans (List.length_filterMap_le _ _) (by simp; omega)
    rw [if_pos (rng_of hj).2, if_pos (rng_of hj), on_eq (rng_of hjb), Option.bind_some, gt_get hjb, gt_get hj, w64_succ (by omega), List.take_add_one, List.getElem?_eq_getElem hjz, Option.toList_some, List.filterMap_append, List.getElem_zip]
    by_cases c : b[j] = true
    · rw [if_pos c, if_pos (by simp only [List.length_singleton, lim]; omega)]
      simp only [lt_eq, List.filterMap_cons, c, if_true, List.filterMap_nil]
    · rw [if_neg c]
      simp [c]
  · unfold cut_Need_b1
    dsimp only
    rw [if_neg (by omega), List.take_of_length_le (by simp; omega)]
    have hm : ∀ x ∈ (b.zip i.supply).filterMap (fun p => if p.1 = true then some p.2 else none), I64 x := fun x hx => by
      obtain ⟨p, hp, hq⟩ := List.mem_filterMap.1 hx
      split at hq
      · cases hq; exact hs _ (List.of_mem_zip (a := p.1) (b := p.2) hp).2
      · cases hq
    rw [sum_eq hm (Nat.le_trans (List.length_filterMap_le _ _) (by simp; omega)), Option.bind_some, sel_sum]
    rfl
/-- the first one, from behind -/
def lastD (d : Int) (p : Nat → Bool) (n j : Nat) : Int := match (List.range' (n - j) j).find? p with
  | some k => k
  | none => d
theorem lastD_succ {d : Int} {p : Nat → Bool} {n j : Nat} (h : j < n) : lastD d p n (j + 1) = if p (n - (j + 1)) = true then ((n - (j + 1) : Nat) : Int) else lastD d p n j := by
  unfold lastD
  rw [List.range'_succ, List.find?_cons, show n - (j + 1) + 1 = n - j by omega]
  by_cases h : p (n - (j + 1)) = true
  · rw [h, if_pos rfl]
  · rw [if_neg h]
    have : p (n - (j + 1)) = false := by simpa using h
    rw [this]
theorem lastD_all {d : Int} {p : Nat → Bool} {n : Nat} : lastD d p n n = match (List.range n).find? p with | some k => (k : Int) | none => d := by
  unfold lastD
  rw [Nat.sub_self, List.range_eq_range']
/-- a side without the leaf -/
theorem sides_eq {i : Inst} (hR : RightI i) {n a : Nat} {m : Int} (hn : n < i.supply.length) (hT : TipAt i n a m) (hO : RightI (outOf (tipSup i a m) i n)) {b : List Bool} (hb : b.length = i.supply.length)
    (hs : gt b (arcAt i.arcs a).src = gt b (arcAt i.arcs a).dst) :
    cut_Room (outOf (tipSup i a m) i n) (b.take n ++ b.drop (n + 1)) = cut_Room i b ∧ cut_Need (outOf (tipSup i a m) i n) (b.take n ++ b.drop (n + 1)) = cut_Need i b ∧ (∃ r, cut_Room i b = some r ∧ ∃ u, r.1 = mkW u) ∧ cut_Need i b = some (mkW (msum b i.supply)) := by
  have hw := hR.whole
  have hnodes := hR.nodes
  have hmany := hR.many
  have hSl := tipSup_len i a m
  have hoa := out_arcs (S := tipSup i a m) hw hn hSl
  have hol := out_len (S := tipSup i a m) hn hSl
  have hos := out_sup (S := tipSup i a m) hn hSl
  have hk := @kept_mem i n hn
  have hbl : (b.take n ++ b.drop (n + 1)).length = (outOf (tipSup i a m) i n).supply.length := by rw [hol]; simp; omega
  have hless : b.take n ++ b.drop (n + 1) = (keptK i n).map (gt b) := by
    have := map_one b (m := n) (by omega)
    rw [hb] at this
    exact this.symm
  have hg : ∀ x ∈ keptK i n, gt (b.take n ++ b.drop (n + 1)) (idx (keptK i n) x) = gt b x := fun x hx => by
    have h1 := idx_mem hx
    obtain ⟨q, hq⟩ := Int.eq_ofNat_of_zero_le h1.1
    have hql : q < (keptK i n).length := by omega
    have h3 := h1.2.2
    rw [hq, gt_get hql] at h3
    rw [hless, hq, gt_get (by simpa using hql), List.getElem_map, h3]
  have hov : (outOf (tipSup i a m) i n).arcs.filterMap (crossB (b.take n ++ b.drop (n + 1))) = (i.arcs.filterMap (crossB b)).map fun p => (renK (keptK i n) p.1, p.2) := by
    have e : i.arcs = (List.range i.arcs.length).map (arcAt i.arcs) := by
      apply List.ext_getElem (by simp)
      intro k h1 h2
      simp [arcAt_eq h1]
    rw [hoa, List.filterMap_map]
    conv => rhs; rw [e, List.filterMap_map]
    rw [fmap_part (p := fun k => !touchB i n k) (List.range i.arcs.length) fun k hk1 hk2 => ?_]
    · rw [List.map_filterMap]
      refine fmap_congr _ fun k hk1 => ?_
      obtain ⟨hk2, hno⟩ := farL_mem.1 hk1
      have hwk := wholeB_iff.1 (hw.at_ hk2)
      have h1 := hg _ (hk.2 ⟨hwk.1, hwk.2.1, fun e => hno (.inl e)⟩)
      have h2 := hg _ (hk.2 ⟨hwk.2.2.1, hwk.2.2.2, fun e => hno (.inr e)⟩)
      simp only [Function.comp, crossB, renK, h1, h2]
      split <;> rfl
    · have hkl := List.mem_range.1 hk1
      have ht : k ∈ nearL i n := by
        unfold nearL
        rw [List.mem_filter]
        exact ⟨hk1, by simpa using hk2⟩
      rw [hT.near] at ht
      simp only [List.mem_singleton] at ht
      subst ht
      simp only [Function.comp, crossB, hs]
      simp
  have hroom : cut_Room (outOf (tipSup i a m) i n) (b.take n ++ b.drop (n + 1)) = cut_Room i b := by
    unfold cut_Room
    have hOm := hO.many
    rw [over_eq hO.whole hbl (by omega), over_eq hw hb (by omega), Option.bind_some, Option.bind_some, hov]
    simp only [lt_eq]
    exact room_map _ _ _ _
  have hneed : cut_Need i b = some (mkW (msum b i.supply)) := need_eq hb (fun s hs => by have := hR.sup s hs; exact ⟨by omega, by omega⟩) (by omega)
  refine ⟨hroom, ?_, ?_, hneed⟩
  · rw [hneed, need_eq hbl (fun s hs => by have := hO.sup s hs; exact ⟨by omega, by omega⟩) (by omega), hos, msum_one (by omega) (by omega)]
    congr 2
    have hSo := tipSup_ok hR hn hT
    have hA := hR.arcs _ (arcAt_mem hT.ha)
    have hm := tip_rng hR hn hT
    have hss := hR.sup _ (gt_in (xs := i.supply) ⟨hA.s0, hA.s1⟩)
    have hds := hR.sup _ (gt_in (xs := i.supply) ⟨hA.d0, hA.d1⟩)
    have hne : ¬ (arcAt i.arcs a).src = (arcAt i.arcs a).dst := fun e => hT.noloop (by rcases hT.touch with t | t; exact ⟨t, e ▸ t⟩; exact ⟨e ▸ t, t⟩)
    have hnode := hSo.node
    rw [gt_get (show n < (tipSup i a m).length by omega)] at hnode
    have e0 : (if b[n] = true then (tipSup i a m)[n] else 0) = 0 := by rw [hnode]; simp
    rw [e0, Int.sub_zero]
    obtain ⟨u, hu⟩ := Int.eq_ofNat_of_zero_le hA.s0
    obtain ⟨v, hv⟩ := Int.eq_ofNat_of_zero_le hA.d0
    have hs1 := hA.s1
    have hd1 := hA.d1
    unfold tipSup
    rw [w64_id (x := gt i.supply (arcAt i.arcs a).src - m) (by omega) (by omega), gt_upd_ne hne hA.s0 hA.d0, w64_id (by omega) (by omega)]
    rw [hu] at hs1 hne hss
    rw [hv] at hd1 hne hds
    rw [hu, hv] at hs
    rw [hu, hv]
    have hul : u < i.supply.length := by omega
    have hvl : v < i.supply.length := by omega
    rw [gt_get (show u < b.length by omega), gt_get (show v < b.length by omega)] at hs
    rw [upd_nat, upd_nat, msum_set _ _ _ _ (by omega) (by simp; omega), msum_set _ _ _ _ (by omega) (by omega), gt_get hul, gt_get hvl, List.getElem_set, if_neg (show ¬ u = v by omega), hs]
    split <;> omega
  · unfold cut_Room
    rw [over_eq hw hb (by omega), Option.bind_some]
    simp only [lt_eq]
    refine room_ok _ (fun v => rfl) _ 0 fun p hp => ?_
    obtain ⟨c, hc, hq⟩ := List.mem_filterMap.1 hp
    have hC := hR.arcs c hc
    have l0 := hC.low0
    have l1 := hC.low1
    have cc := hC.cap
    unfold crossB at hq
    split at hq
    · cases hq
    · cases hq
      exact ⟨⟨by dsimp only; omega, by dsimp only; omega⟩, ⟨by dsimp only; omega, by dsimp only; omega⟩⟩
theorem sides_true {c d e : List Int} (hc : Byt c) (hd : Byt d) : law17_LeafSides c d e = some true := by
  obtain ⟨i, hi, hs⟩ := tree_ok hc hd
  have hR := hs.right
  have hw := hR.whole
  have hnodes := hR.nodes
  have hmany := hR.many
  have l1 : i.supply.length ≤ lim := by simp only [lim]; omega
  have l2 : i.arcs.length ≤ lim := by simp only [lim]; omega
  have h0 : rightOf i = 0 := rightOf_zero.2 hR
  unfold law17_LeafSides
  rw [hi, Option.bind_some, leaf_Leaf_eq, Option.bind_some]
  cases hf : (List.range i.supply.length).find? (fun n => (tipB i n).2) with
  | none =>
    rw [leafOf_none h0 hf]
    dsimp only
    rw [if_neg (fun h => h rfl), if_neg (show ¬ (false = true) by decide), known_t, Option.bind_some]
  | some n =>
    have hn := List.mem_range.1 (List.mem_of_find?_eq_some hf)
    obtain ⟨a, m, htb, hT⟩ := tipAt_of hR hn (List.find?_some (p := fun n => (tipB i n).2) hf)
    have hA := hR.arcs _ (arcAt_mem hT.ha)
    have ha := hT.ha
    have hs0 := hA.s0
    have hs1 := hA.s1
    have hd0 := hA.d0
    have hd1 := hA.d1
    rw [leafOf_some h0 hf htb]
    unfold outStep
    by_cases hO : rightOf (outOf (tipSup i a m) i n) = 0
    · have hOR := rightOf_zero.1 hO
      rw [if_pos hO]
      dsimp only
      rw [if_neg (fun h => h rfl), if_pos rfl]
      refine lp_eq (fun j => (lastD (i.supply.length : Int) (fun n => (tipB i n).2) i.supply.length j, (i.supply.length : Int) - 1 - j)) i.supply.length ?_ (by omega) (fun k j hj => ?_) (fun k => ?_)
      · rw [w64_id (by omega) (by omega)]
        simp [lastD]
      · unfold law17_LeafSides_b1
        dsimp only
        have e1 : (i.supply.length : Int) - 1 - (j : Int) = ((i.supply.length - (j + 1) : Nat) : Int) := by omega
        rw [if_pos (by omega), e1, leaf_Tip_eq l1 l2 (show i.supply.length - (j + 1) < i.supply.length by omega), Option.bind_some, lastD_succ hj, w64_id (by omega) (by omega)]
        have e2 : ((i.supply.length - (j + 1) : Nat) : Int) - 1 = (i.supply.length : Int) - 1 - ((j + 1 : Nat) : Int) := by omega
        rw [e2]
        dsimp only
        split <;> rfl
      · unfold law17_LeafSides_b1
        dsimp only
        rw [if_neg (by omega), lastD_all, hf]
        dsimp only
        rw [leaf_Tip_eq l1 l2 hn, Option.bind_some, htb]
        dsimp only
        obtain ⟨mk, hmk⟩ := marks_ok e (n := i.supply.length) (by omega)
        have hrl : (List.replicate i.supply.length false).length = i.supply.length := by simp
        rw [if_pos rfl, if_neg (by omega), if_neg (by omega), if_pos ⟨by omega, Int.ofNat_le.2 l1⟩, Int.toNat_natCast, hrl, hmk, Option.bind_some]
        simp only [lt_eq]
        have hcl : (cpy (List.replicate i.supply.length false) mk).length = i.supply.length := by rw [cpy_len, hrl]
        generalize cpy (List.replicate i.supply.length false) mk = X at *
        rw [if_pos (rng_of ha), gt_arc, w64_succ (show n < 4611686018427387904 by omega)]
        have hne : ¬ (arcAt i.arcs a).src = (arcAt i.arcs a).dst := fun e => hT.noloop (by rcases hT.touch with t | t; exact ⟨t, e ▸ t⟩; exact ⟨e ▸ t, t⟩)
        have fin : ∀ b : List Bool, b.length = i.supply.length → gt b (arcAt i.arcs a).src = gt b (arcAt i.arcs a).dst →
            (if 0 ≤ (0 : Int) ∧ (0 : Int) ≤ (n : Int) ∧ (n : Int) ≤ (b.length : Int) then (if ([] : List Bool).length + (prt b (0 : Int) (n : Int)).length ≤ lim then (if 0 ≤ ((n + 1 : Nat) : Int) ∧ ((n + 1 : Nat) : Int) ≤ (b.length : Int) ∧ (b.length : Int) ≤ (b.length : Int) then (if (([] : List Bool) ++ (prt b (0 : Int) (n : Int))).length + (prt b ((n + 1 : Nat) : Int) (b.length : Int)).length ≤ lim then ((cut_Room i b).bind fun r42 => ((cut_Room (outOf (tipSup i a m) i n) ((([] : List Bool) ++ (prt b (0 : Int) (n : Int))) ++ (prt b ((n + 1 : Nat) : Int) (b.length : Int)))).bind fun r43 => ((law17_known).bind fun r44 => (if r44 = true then (if (r42.2 == r43.2) = true then (if r42.2 = true then ((cut_Need i b).bind fun r45 => ((num_Minus r42.1 r45).bind fun r46 => ((cut_Need (outOf (tipSup i a m) i n) ((([] : List Bool) ++ (prt b (0 : Int) (n : Int))) ++ (prt b ((n + 1 : Nat) : Int) (b.length : Int)))).bind fun r47 => ((num_Minus r43.1 r47).bind fun r48 => (some (decide (r46 = r48))))))) else (some true)) else (some false)) else (some false))))) else none) else none) else none) else none) = some true := fun b hb hsd => by
          obtain ⟨g1, g2, ⟨r, g3, u, g5⟩, g4⟩ := sides_eq hR hn hT hOR hb hsd
          rw [if_pos (by rw [hb]; omega), prt_0, if_pos (by rw [List.length_take]; simp only [List.length_nil, lim]; omega), if_pos (by rw [hb]; omega), List.nil_append, prt_1, if_pos (by rw [List.length_take, List.length_drop, hb]; simp only [lim]; omega), g1, g2, g3, Option.bind_some, Option.bind_some, known_t, Option.bind_some, if_pos rfl, if_pos (by simp)]
          by_cases hr : r.2 = true
          · rw [if_pos hr, g4, Option.bind_some, g5, num_Minus_eq, Option.bind_some, Option.bind_some, num_Minus_eq, Option.bind_some]
            simp
          · rw [if_neg hr]
        by_cases t : (arcAt i.arcs a).src = n
        · have td : ¬ (arcAt i.arcs a).dst = n := fun e => hne (t.trans e.symm)
          rw [if_pos t, if_pos (by omega), if_pos (by omega)]
          refine fin _ (by rw [upd_len]; exact hcl) ?_
          rw [t, gt_upd (by omega), gt_upd_ne (fun e => td e.symm) (by omega) hd0]
        · have td : (arcAt i.arcs a).dst = n := by rcases hT.touch with h | h; exact absurd h t; exact h
          rw [if_neg t, if_pos (by omega), if_pos (by omega)]
          refine fin _ (by rw [upd_len]; exact hcl) ?_
          rw [td, gt_upd (by omega), gt_upd_ne (fun e => t e.symm) (by omega) hs0]
    · rw [if_neg hO]
      dsimp only
      rw [if_pos (by decide), known_t, Option.bind_some]
end Go.Proofs.YtbnjeanldechnaaGreatDoor
