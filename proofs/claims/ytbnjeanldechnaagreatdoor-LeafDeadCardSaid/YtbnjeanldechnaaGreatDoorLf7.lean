/- Plain: LeafDead. -/
import Derived.Test.YtbnjeanldechnaaGreatDoorTh5
import Derived.Test.YtbnjeanldechnaaGreatDoorTh7
namespace Go.Proofs.YtbnjeanldechnaaGreatDoor
open Go.RowKit Go.Qe
theorem fitB_nat {i : Inst} {k : Nat} : fitB i (k : Int) = true ↔ k < i.arcs.length ∧ wholeB i.supply.length (arcAt i.arcs k) = true := by
  unfold fitB
  simp only [Bool.and_eq_true, decide_eq_true_eq, Int.toNat_natCast]
  exact ⟨fun h => ⟨by omega, h.2⟩, fun h => ⟨by omega, h.2⟩⟩
theorem wholeB_iff {n : Nat} {a : Arc} : wholeB n a = true ↔ 0 ≤ a.src ∧ a.src < n ∧ 0 ≤ a.dst ∧ a.dst < n := by simp [wholeB]
/-- all ends are nodes -/
def Whole (i : Inst) : Prop := ∀ a ∈ i.arcs, 0 ≤ a.src ∧ a.src < i.supply.length ∧ 0 ≤ a.dst ∧ a.dst < i.supply.length
theorem _root_.Go.Qe.RightI.whole {i : Inst} (h : RightI i) : Whole i := fun a ha => let g := h.arcs a ha; ⟨g.s0, g.s1, g.d0, g.d1⟩
theorem arcAt_mem {xs : List Arc} {k : Nat} (h : k < xs.length) : arcAt xs k ∈ xs := by rw [arcAt_eq h]; exact List.getElem_mem h
theorem Whole.at_ {i : Inst} (h : Whole i) {k : Nat} (hk : k < i.arcs.length) : wholeB i.supply.length (arcAt i.arcs k) = true := wholeB_iff.2 (h _ (arcAt_mem hk))
theorem pick_iff {i : Inst} (h : Whole i) {n : Int} {o e : Bool} {k : Nat} (hk : k < i.arcs.length) : pickB i n o e k = true ↔ (o = true ∧ (arcAt i.arcs k).src = n) ∨ (e = true ∧ (arcAt i.arcs k).dst = n) := by
  unfold pickB
  rw [fitB_nat.2 ⟨hk, h.at_ hk⟩]
  simp
theorem countP_split {α : Type} (p q : α → Bool) (l : List α) : (l.filter p).length + (l.filter q).length = (l.filter fun x => p x || q x).length + (l.filter fun x => p x && q x).length := by
  induction l with
  | nil => rfl
  | cons a l ih =>
    simp only [List.filter_cons]
    cases p a <;> cases q a <;> simp <;> omega
theorem loopsOf_eq {i : Inst} (n : Int) : loopsOf i n = (((List.range i.arcs.length).filter fun k => pickB i n true false k && pickB i n false true k).length : Nat) := by
  have e : ∀ k, pickB i n true true k = (pickB i n true false k || pickB i n false true k) := fun k => by
    unfold pickB
    cases fitB i k <;> simp
  have := countP_split (pickB i n true false) (pickB i n false true) (List.range i.arcs.length)
  unfold loopsOf someL someTo
  simp only [List.length_map]
  have e2 : (List.range i.arcs.length).filter (pickB i n true true) = (List.range i.arcs.length).filter fun x => pickB i n true false x || pickB i n false true x := List.filter_congr fun k _ => e k
  rw [e2]
  omega
theorem noLoop {i : Inst} (h : Whole i) {n : Int} (hl : ¬ 0 < loopsOf i n) {k : Nat} (hk : k < i.arcs.length) : ¬ ((arcAt i.arcs k).src = n ∧ (arcAt i.arcs k).dst = n) := by
  intro hh
  rw [loopsOf_eq] at hl
  have : k ∈ (List.range i.arcs.length).filter fun k => pickB i n true false k && pickB i n false true k := by
    rw [List.mem_filter]
    refine ⟨List.mem_range.2 hk, ?_⟩
    rw [Bool.and_eq_true]
    exact ⟨(pick_iff h hk).2 (.inl ⟨rfl, hh.1⟩), (pick_iff h hk).2 (.inr ⟨rfl, hh.2⟩)⟩
  have := List.length_pos_of_mem this
  omega
theorem gt_mem {α : Type} [Inhabited α] {xs : List α} {k : Nat} (h : k < xs.length) : gt xs (k : Int) ∈ xs := by rw [gt_get h]; exact List.getElem_mem h
theorem gt_arc (xs : List Arc) (k : Nat) : gt xs (k : Int) = arcAt xs k := rfl
theorem ren_in {K : List Int} {a : Arc} (h1 : a.src ∈ K) (h2 : a.dst ∈ K) : ren K a = some ⟨idx K a.src, idx K a.dst, a.low, a.cap, a.cost⟩ := if_pos ⟨idx_nonneg.2 h1, idx_nonneg.2 h2⟩
theorem ren_not {K : List Int} {a : Arc} (h : ¬ (a.src ∈ K ∧ a.dst ∈ K)) : ren K a = none := if_neg fun h1 => h ⟨idx_nonneg.1 h1.1, idx_nonneg.1 h1.2⟩
theorem fmap_filter {α β : Type} {f : α → Option β} {p : α → Bool} {g : α → β} : ∀ (l : List α), (∀ x ∈ l, f x = if p x = true then some (g x) else none) → l.filterMap f = (l.filter p).map g
  | [], _ => rfl
  | x :: l, h => by
    have ih := fmap_filter l fun y hy => h y (List.mem_cons_of_mem _ hy)
    have h1 := h x List.mem_cons_self
    by_cases hp : p x = true
    · rw [if_pos hp] at h1
      rw [List.filterMap_cons, h1, List.filter_cons_of_pos hp, List.map_cons, ih]
    · rw [if_neg hp] at h1
      rw [List.filterMap_cons, h1, List.filter_cons_of_neg hp, ih]
def renK (K : List Int) (a : Arc) : Arc := ⟨idx K a.src, idx K a.dst, a.low, a.cap, a.cost⟩
def pairAt (i : Inst) (x : List Int) (k : Nat) : Arc × Int := (arcAt i.arcs k, gt x k)
theorem zip_pairs {i : Inst} {x : List Int} (h : x.length = i.arcs.length) : i.arcs.zip x = (List.range i.arcs.length).map (pairAt i x) := by
  apply List.ext_getElem (by simp; omega)
  intro k h1 h2
  have hk : k < i.arcs.length := by simp at h2; omega
  simp [pairAt, arcAt_eq hk, gt_get (show k < x.length by omega)]
/-- ends told anew: what flows out of a node is the same -/
theorem one_ren {K : List Int} {a : Arc} {f m : Int} (h1 : a.src ∈ K) (h2 : a.dst ∈ K) (hm : m ∈ K) : oneP (renK K a, f) (idx K m) = oneP (a, f) m := by
  have inj : ∀ u v : Int, u ∈ K → v ∈ K → (idx K u = idx K v ↔ u = v) := fun u v hu hv => ⟨fun h => by rw [← (idx_mem hu).2.2, ← (idx_mem hv).2.2, h], fun h => by rw [h]⟩
  unfold oneP renK
  simp only [inj _ _ h1 hm, inj _ _ h2 hm]
theorem sum_part {f : Nat → Int} (p : Nat → Bool) : ∀ l : List Nat, (l.map f).sum = ((l.filter fun k => !p k).map f).sum + ((l.filter p).map f).sum
  | [] => rfl
  | x :: l => by
    have ih := sum_part (f := f) p l
    by_cases h : p x = true
    · rw [List.filter_cons_of_neg (by simp [h]), List.filter_cons_of_pos h, List.map_cons, List.map_cons, List.sum_cons, List.sum_cons]; omega
    · rw [List.filter_cons_of_pos (by simpa using h), List.filter_cons_of_neg h, List.map_cons, List.map_cons, List.sum_cons, List.sum_cons]; omega
theorem sum_zero' {f : Nat → Int} : ∀ l : List Nat, (∀ k ∈ l, f k = 0) → (l.map f).sum = 0
  | [], _ => rfl
  | x :: l, h => by rw [List.map_cons, List.sum_cons, h x List.mem_cons_self, sum_zero' l fun k hk => h k (List.mem_cons_of_mem _ hk)]; rfl
def offOf (i : Inst) (n : Nat) : List Bool := (List.replicate i.supply.length false).set n true
def touchB (i : Inst) (n k : Nat) : Bool := decide ((arcAt i.arcs k).src = n ∨ (arcAt i.arcs k).dst = n)
theorem touch_t {i : Inst} {n k : Nat} (h : (arcAt i.arcs k).src = n ∨ (arcAt i.arcs k).dst = n) : touchB i n k = true := decide_eq_true h
theorem touch_f {i : Inst} {n k : Nat} (h : ¬ ((arcAt i.arcs k).src = n ∨ (arcAt i.arcs k).dst = n)) : touchB i n k = false := decide_eq_false h
def farL (i : Inst) (n : Nat) : List Nat := (List.range i.arcs.length).filter fun k => !touchB i n k
def nearL (i : Inst) (n : Nat) : List Nat := (List.range i.arcs.length).filter (touchB i n)
theorem farL_mem {i : Inst} {n k : Nat} : k ∈ farL i n ↔ k < i.arcs.length ∧ ¬ ((arcAt i.arcs k).src = n ∨ (arcAt i.arcs k).dst = n) := by simp [farL, touchB]
theorem nearL_mem {i : Inst} {n k : Nat} : k ∈ nearL i n ↔ k < i.arcs.length ∧ ((arcAt i.arcs k).src = n ∨ (arcAt i.arcs k).dst = n) := by simp [nearL, touchB]
def keptK (i : Inst) (n : Nat) : List Int := keptL (offOf i n) i.supply.length
theorem kept_mem {i : Inst} {n : Nat} (hn : n < i.supply.length) {x : Int} : x ∈ keptK i n ↔ 0 ≤ x ∧ x < i.supply.length ∧ ¬ x = n := mem_one hn
/-- an instance with other supplies, without a node -/
def outOf (S : List Int) (i : Inst) (n : Nat) : Inst := withoutOf ⟨S, i.arcs⟩ (offOf i n) []
section
variable {S : List Int} {i : Inst} {n : Nat}
theorem out_sup (hn : n < i.supply.length) (hS : S.length = i.supply.length) : (outOf S i n).supply = S.take n ++ S.drop (n + 1) := by
  unfold outOf withoutOf offOf
  dsimp only
  rw [← hS]
  exact map_one S (by omega)
theorem out_gt (hS : S.length = i.supply.length) {k : Nat} (hk : k < (keptK i n).length) : gt (outOf S i n).supply (k : Int) = gt S (keptK i n)[k] := by
  unfold outOf withoutOf
  dsimp only
  rw [hS, gt_get (by simpa [keptK] using hk), List.getElem_map]
  rfl
theorem out_len (hn : n < i.supply.length) (hS : S.length = i.supply.length) : (outOf S i n).supply.length = i.supply.length - 1 := by
  rw [out_sup hn hS]; simp; omega
theorem kept_len (hn : n < i.supply.length) : (keptK i n).length = i.supply.length - 1 := len_one hn
theorem out_arcs (hw : Whole i) (hn : n < i.supply.length) (hS : S.length = i.supply.length) : (outOf S i n).arcs = (farL i n).map fun k => renK (keptK i n) (arcAt i.arcs k) := by
  have hk := @kept_mem i n hn
  unfold outOf withoutOf
  dsimp only
  rw [map_gt_all, hS]
  show i.arcs.filterMap (ren (keptK i n)) = _
  have e : i.arcs = (List.range i.arcs.length).map (arcAt i.arcs) := by
    apply List.ext_getElem (by simp)
    intro k h1 h2
    simp [arcAt_eq h1]
  conv => lhs; rw [e]
  rw [List.filterMap_map]
  refine fmap_filter _ fun k hk2 => ?_
  have hkl := List.mem_range.1 hk2
  have hwk := wholeB_iff.1 (hw.at_ hkl)
  by_cases ht : (arcAt i.arcs k).src = n ∨ (arcAt i.arcs k).dst = n
  · rw [if_neg (by rw [touch_t ht]; decide)]
    exact ren_not fun h1 => by
      rcases ht with ht | ht
      · exact (hk.1 h1.1).2.2 ht
      · exact (hk.1 h1.2).2.2 ht
  · rw [if_pos (by rw [touch_f ht]; rfl)]
    exact ren_in (hk.2 ⟨hwk.1, hwk.2.1, fun e => ht (.inl e)⟩) (hk.2 ⟨hwk.2.2.1, hwk.2.2.2, fun e => ht (.inr e)⟩)
theorem out_right (hR : RightI i) (hn : n < i.supply.length) (hS : S.length = i.supply.length) (hb : ∀ s ∈ S, -4398046511104 ≤ s ∧ s ≤ 4398046511104) (hs : S.sum = gt S (n : Int)) : RightI (outOf S i n) := by
  have hw := hR.whole
  have hk := @kept_mem i n hn
  have hl := out_len hn hS
  have ha := out_arcs hw hn hS
  have hnodes := hR.nodes
  have hmany := hR.many
  have hkl := @kept_len i n hn
  refine ⟨by omega, ?_, fun a h => ?_, fun s h => ?_, ?_⟩
  · rw [ha, List.length_map]
    have : (farL i n).length ≤ (List.range i.arcs.length).length := List.length_filter_le _ _
    simp at this; omega
  · rw [ha] at h
    obtain ⟨k, hk1, rfl⟩ := List.mem_map.1 h
    obtain ⟨hk2, hno⟩ := farL_mem.1 hk1
    have hA := hR.arcs _ (arcAt_mem hk2)
    have g1 := idx_mem (hk.2 ⟨hA.s0, hA.s1, fun e => hno (.inl e)⟩)
    have g2 := idx_mem (hk.2 ⟨hA.d0, hA.d1, fun e => hno (.inr e)⟩)
    rw [hl]
    exact ⟨g1.1, by have := g1.2.1; show idx _ _ < _; omega, g2.1, by have := g2.2.1; show idx _ _ < _; omega, hA.low0, hA.low1, hA.cap, hA.c0, hA.c1⟩
  · rw [out_sup hn hS] at h
    rcases List.mem_append.1 h with h | h
    · exact hb s (List.mem_of_mem_take h)
    · exact hb s (List.mem_of_mem_drop h)
  · have hn' : n < S.length := by omega
    rw [out_sup hn hS, sum_one hn', hs, gt_get hn']; omega
theorem net_out (hw : Whole i) (hn : n < i.supply.length) (hS : S.length = i.supply.length) {x : List Int} (hl : x.length = i.arcs.length) {m : Int} (hm : m ∈ keptK i n) :
    netP ((outOf S i n).arcs.zip ((farL i n).map fun k : Nat => gt x (k : Int))) (idx (keptK i n) m) = netP (i.arcs.zip x) m - ((nearL i n).map fun k => oneP (pairAt i x k) m).sum := by
  have hk := @kept_mem i n hn
  rw [out_arcs hw hn hS, List.zip_map', zip_pairs hl]
  unfold netP
  rw [List.map_map, List.map_map]
  have e := sum_part (f := ((fun p => oneP p m) ∘ pairAt i x)) (touchB i n) (List.range i.arcs.length)
  rw [e]
  have e2 : ((farL i n).map ((fun p => oneP p (idx (keptK i n) m)) ∘ fun k : Nat => (renK (keptK i n) (arcAt i.arcs k), gt x (k : Int)))) = (((List.range i.arcs.length).filter fun k => !touchB i n k).map ((fun p => oneP p m) ∘ pairAt i x)) := by
    refine List.map_congr_left fun k hk1 => ?_
    obtain ⟨hk2, hno⟩ := farL_mem.1 hk1
    have hwk := wholeB_iff.1 (hw.at_ hk2)
    exact one_ren (hk.2 ⟨hwk.1, hwk.2.1, fun e => hno (.inl e)⟩) (hk.2 ⟨hwk.2.2.1, hwk.2.2.2, fun e => hno (.inr e)⟩) hm
  rw [e2]
  have e3 : ((List.range i.arcs.length).filter (touchB i n)).map ((fun p => oneP p m) ∘ pairAt i x) = (nearL i n).map fun k => oneP (pairAt i x k) m := rfl
  rw [e3]
  omega
theorem cost_out (hw : Whole i) (hn : n < i.supply.length) (hS : S.length = i.supply.length) {x : List Int} (hl : x.length = i.arcs.length) :
    costP (i.arcs.zip x) = costP ((outOf S i n).arcs.zip ((farL i n).map fun k : Nat => gt x (k : Int))) + ((nearL i n).map fun k : Nat => (arcAt i.arcs k).cost * gt x (k : Int)).sum := by
  rw [out_arcs hw hn hS, List.zip_map', zip_pairs hl]
  unfold costP
  rw [List.map_map, List.map_map, sum_part (touchB i n) (List.range i.arcs.length)]
  rfl
theorem fits_out (hR : RightI i) (hn : n < i.supply.length) (hS : S.length = i.supply.length) (hO : RightI (outOf S i n)) {x : List Int} (hl : x.length = i.arcs.length)
    (hin : ∀ k ∈ nearL i n, inA (arcAt i.arcs k) (gt x (k : Int))) (hnode : netP (i.arcs.zip x) n = gt i.supply n)
    (hs : ∀ m : Nat, m < i.supply.length → m ≠ n → gt S (m : Int) = gt i.supply (m : Int) - ((nearL i n).map fun k => oneP (pairAt i x k) m).sum) :
    FitsP i x ↔ FitsP (outOf S i n) ((farL i n).map fun k : Nat => gt x (k : Int)) := by
  have hw := hR.whole
  have hk := @kept_mem i n hn
  have hkl := @kept_len i n hn
  have hol := out_len hn hS
  have hoa := out_arcs hw hn hS
  have hnd : (keptK i n).Nodup := keptL_nodup (offOf i n) i.supply.length
  have hall : (∀ p ∈ i.arcs.zip x, inA p.1 p.2) ↔ ∀ p ∈ (outOf S i n).arcs.zip ((farL i n).map fun k : Nat => gt x (k : Int)), inA p.1 p.2 := by
    rw [hoa, List.zip_map', zip_pairs hl]
    constructor
    · intro h p hp
      obtain ⟨k, hk1, rfl⟩ := List.mem_map.1 hp
      exact h (pairAt i x k) (List.mem_map.2 ⟨k, List.mem_range.2 (farL_mem.1 hk1).1, rfl⟩)
    · intro h p hp
      obtain ⟨k, hk1, rfl⟩ := List.mem_map.1 hp
      have hk2 := List.mem_range.1 hk1
      by_cases ht : (arcAt i.arcs k).src = n ∨ (arcAt i.arcs k).dst = n
      · exact hin k (nearL_mem.2 ⟨hk2, ht⟩)
      · exact h (renK (keptK i n) (arcAt i.arcs k), gt x (k : Int)) (List.mem_map.2 ⟨k, farL_mem.2 ⟨hk2, ht⟩, rfl⟩)
  constructor
  · intro hF
    refine ⟨hO, by rw [hoa]; simp, hall.1 hF.within, fun k hk1 => ?_⟩
    rw [hol] at hk1
    have hkK : k < (keptK i n).length := by omega
    have hm := List.getElem_mem hkK
    have hi := idx_at hnd hkK
    rw [out_gt hS hkK, ← hi, net_out hw hn hS hl hm]
    have hm' := hk.1 hm
    generalize (keptK i n)[k] = m at *
    obtain ⟨mm, rfl⟩ := Int.eq_ofNat_of_zero_le hm'.1
    rw [hF.net mm (by omega), hs mm (by omega) (by omega)]
  · intro hF
    refine ⟨hR, hl, hall.2 hF.within, fun m hm => ?_⟩
    by_cases e : m = n
    · subst e; exact hnode
    · have hmK : (m : Int) ∈ keptK i n := hk.2 ⟨by omega, by omega, by omega⟩
      have hi := idx_mem hmK
      obtain ⟨k, hk1⟩ := Int.eq_ofNat_of_zero_le hi.1
      have hkK : k < (keptK i n).length := by omega
      have h1 := net_out hw hn hS hl hmK
      have h2 := hF.net k (by rw [hol]; omega)
      have h3 : (keptK i n)[k] = (m : Int) := by have := hi.2.2; rw [hk1, gt_get hkK] at this; exact this
      rw [out_gt hS hkK, h3, hs m hm e, ← hk1, h1] at h2
      omega
end
end Go.Proofs.YtbnjeanldechnaaGreatDoor
namespace Go.Qe
theorem find_some {α β : Type} (p : α → Bool) (f : α → β) (l : List α) : l.findSome? (fun a => if p a = true then some (f a) else none) = (l.find? p).map f := by
  induction l with
  | nil => rfl
  | cons a l ih =>
    rw [List.findSome?_cons, List.find?_cons]
    by_cases h : p a = true
    · rw [if_pos h, h]; rfl
    · rw [if_neg h, ih]
      have : p a = false := by simpa using h
      rw [this]
def stepNo : Step := ⟨⟨[], []⟩, ⟨0, ⟨[], []⟩⟩, ⟨0, 0⟩, false⟩
def stepAs (i : Inst) : Step := ⟨i, ⟨0, ⟨[], []⟩⟩, ⟨0, 0⟩, false⟩
end Go.Qe
namespace Go.Proofs.YtbnjeanldechnaaGreatDoor
open Go.RowKit Go.Qe
def outStep (pass : Int) (was : Inst) (o : Inst) (off : Wide) : Step × Int := if rightOf o = 0 then (⟨o, ⟨pass, was⟩, off, true⟩, 0) else (stepNo, 40)
theorem someL_rng {i : Inst} {n : Int} {o e : Bool} {a : Int} (h : a ∈ someL i n o e) : 0 ≤ a ∧ a < i.arcs.length := by
  obtain ⟨k, hk, _, rfl⟩ := (someL_mem i n o e a).1 h
  omega
def shutB (i : Inst) (n : Nat) : Bool :=
  decide (¬ (someL i n true true).length = 0) && decide (¬ 0 < loopsOf i n) && decide (gt i.supply (n : Int) = 0) && ((someL i n true true).all fun a => decide ((gt i.arcs a).low = 0)) && (decide ((someL i n true false).length = 0) || decide ((someL i n false true).length = 0))
/-- what is known of a node that nothing comes through -/
structure ShutAt (i : Inst) (n : Nat) : Prop where
  sup : gt i.supply (n : Int) = 0
  low : ∀ k ∈ nearL i n, (arcAt i.arcs k).low = 0
theorem shutAt_of {i : Inst} (hw : Whole i) {n : Nat} (h : shutB i n = true) : ShutAt i n := by
  unfold shutB at h
  simp only [Bool.and_eq_true, decide_eq_true_eq, List.all_eq_true] at h
  refine ⟨h.1.1.2, fun k hk => ?_⟩
  obtain ⟨h1, h2⟩ := nearL_mem.1 hk
  exact h.1.2 (k : Int) ((someL_mem i n true true k).2 ⟨k, h1, (pick_iff hw h1).2 (by simpa using h2), rfl⟩)
theorem leaf_shut_eq {i : Inst} (hl : i.arcs.length ≤ lim) {n : Nat} (hn : n < i.supply.length) : leaf_shut i i n = some (shutB i n) := by
  have hat : ∀ m : Int, adj_Graph_At i m = some (someL i m true true) := fun m => if_pos hl
  have hout : ∀ m : Int, adj_Graph_Out i m = some (someL i m true false) := fun m => if_pos hl
  have hin : ∀ m : Int, adj_Graph_In i m = some (someL i m false true) := fun m => if_pos hl
  have hlo : ∀ m : Int, adj_Graph_Loops i m = some (loopsOf i m) := fun m => if_pos hl
  unfold leaf_shut shutB
  rw [hat, Option.bind_some, hlo]
  by_cases h1 : ((someL i n true true).length : Int) = 0
  · rw [if_pos h1, decide_eq_false (fun h => h (by omega))]; rfl
  · rw [if_neg h1, decide_eq_true (show ¬ (someL i n true true).length = 0 by omega), Option.bind_some]
    by_cases h2 : 0 < loopsOf i n
    · rw [if_pos h2, decide_eq_false (fun h => h h2)]; rfl
    · rw [if_neg h2, decide_eq_true h2, if_pos (rng_of hn)]
      by_cases h3 : gt i.supply (n : Int) = 0
      · rw [if_neg (fun h => h h3), decide_eq_true h3]
        have hlen : (someL i n true true).length ≤ i.arcs.length := by
          unfold someL someTo
          rw [List.length_map]
          have := List.length_filter_le (pickB i n true true) (List.range i.arcs.length)
          simpa using this
        simp only [lim] at hl
        rw [lp_find (s0 := (0 : Int)) (fun j => (j : Int)) (someL i n true true).length (fun j => if (gt i.arcs (gt (someL i n true true) (j : Int))).low = 0 then none else some (some false)) (fin := some (decide ((someL i n true false).length = 0) || decide ((someL i n false true).length = 0))) rfl (by omega)]
        · rw [findSome_range (someL i n true true) (fun a => if (gt i.arcs a).low = 0 then none else some (some false))]
          cases hs : (someL i n true true).findSome? (fun a => if (gt i.arcs a).low = 0 then none else some (some false)) with
          | none =>
            have : ((someL i n true true).all fun a => decide ((gt i.arcs a).low = 0)) = true := List.all_eq_true.2 fun a ha => by
              have := List.findSome?_eq_none_iff.1 hs a ha
              split at this
              · rename_i h; simpa using h
              · cases this
            rw [this]; rfl
          | some r =>
            obtain ⟨a, ha, h4⟩ := List.exists_of_findSome?_eq_some hs
            split at h4
            · cases h4
            · rename_i h5
              cases h4
              have : ((someL i n true true).all fun a => decide ((gt i.arcs a).low = 0)) = false := List.all_eq_false.2 ⟨a, ha, by simpa using h5⟩
              rw [this]; rfl
        · intro k j hj
          have hr := someL_rng (List.getElem_mem hj)
          unfold leaf_shut_b1
          rw [if_pos (rng_of hj).2, if_pos (rng_of hj), gt_get hj, if_pos hr]
          by_cases h4 : (gt i.arcs ((someL i n true true)[j])).low = 0
          · rw [if_neg (fun h => h h4), if_pos h4, w64_succ (by omega)]
          · rw [if_pos h4, if_neg h4]
        · intro k
          unfold leaf_shut_b1
          rw [if_neg (by omega), hout, Option.bind_some]
          by_cases h5 : ((someL i n true false).length : Int) = 0
          · rw [if_pos h5, decide_eq_true (show (someL i n true false).length = 0 by omega)]; rfl
          · rw [if_neg h5, hin, Option.bind_some, decide_eq_false (show ¬ (someL i n true false).length = 0 by omega)]
            simp
      · rw [if_pos h3, decide_eq_false h3]; rfl
theorem leaf_Shut_eq {i : Inst} (h1 : i.supply.length ≤ lim) (h2 : i.arcs.length ≤ lim) {n : Nat} (hn : n < i.supply.length) : leaf_Shut i n = some (shutB i n) := by
  unfold leaf_Shut
  rw [show adj_New i = some i from if_pos ⟨h1, h2⟩, Option.bind_some, leaf_shut_eq h2 hn, Option.bind_some]
theorem leaf_without_eq {S : List Int} {i : Inst} (hS : S.length = i.supply.length) (h1 : i.supply.length ≤ 64) (h2 : i.arcs.length ≤ 256) {n : Nat} (hn : n < i.supply.length) (pass : Int) (was : Inst) (off : Wide) :
    leaf_without pass was ⟨S, i.arcs⟩ n off = some (if rightOf (outOf S i n) = 0 then (⟨outOf S i n, ⟨pass, was⟩, off, true⟩, none) else (stepNo, some 40)) := by
  unfold leaf_without
  dsimp only
  rw [hS, if_pos ⟨by omega, by simp only [lim]; omega⟩, if_pos ⟨by omega, by simp; omega⟩]
  simp only [lt_eq]
  have e : upd (List.replicate (i.supply.length : Int).toNat false) (n : Int) true = offOf i n := by
    unfold offOf; rw [upd_nat, Int.toNat_natCast]
  rw [e, inst_Without_eq (by dsimp only; omega) (by dsimp only; omega) (by simp only [offOf, List.length_set, List.length_replicate, lim]; omega) (by simp), Option.bind_some]
  rw [inst_Right_eq, Option.bind_some]
  show (if ¬ rightOf (outOf S i n) = 0 then _ else _) = _
  by_cases h : rightOf (outOf S i n) = 0
  · rw [if_neg (fun h' => h' h), if_pos h]; rfl
  · rw [if_pos h, if_neg h]; rfl
def deadOf (i : Inst) : Step × Int :=
  if ¬ rightOf i = 0 then (stepNo, rightOf i) else match (List.range i.supply.length).find? (shutB i) with
    | some n => outStep 7 i (outOf i.supply i n) ⟨0, 0⟩
    | none => (stepAs i, 0)
theorem leaf_Dead_eq (i : Inst) : leaf_Dead i = some (deadOf i) := by
  unfold leaf_Dead leaf_run_1 deadOf
  rw [inst_Right_eq, Option.bind_some]
  by_cases h0 : rightOf i = 0
  · have hR := rightOf_zero.1 h0
    have hnodes := hR.nodes
    have hmany := hR.many
    have l1 : i.supply.length ≤ lim := by simp only [lim]; omega
    have l2 : i.arcs.length ≤ lim := by simp only [lim]; omega
    rw [if_neg (fun h => h h0), if_neg (fun h => h h0)]
    have hf : leaf_first_struct_1 (i.supply.length : Int) i i = some (match (List.range i.supply.length).find? (shutB i) with | some n => ((n : Int), (), true) | none => (0, (), false)) := by
      unfold leaf_first_struct_1
      rw [lp_find (s0 := (0 : Int)) (fun j => (j : Int)) i.supply.length (fun j => if shutB i j = true then some (some ((j : Int), (), true)) else none) (fin := some (0, (), false)) rfl (by omega), find_some]
      · cases (List.range i.supply.length).find? (shutB i) <;> rfl
      · intro k j hj
        unfold leaf_first_struct_1_b1 leaf_dead_1_1
        rw [if_pos (rng_of hj).2, leaf_shut_eq l2 hj, Option.bind_some, Option.bind_some]
        dsimp only
        by_cases h : shutB i j = true
        · rw [if_pos h, if_pos h]
        · rw [if_neg h, if_neg h, w64_succ (by omega)]
      · intro k
        unfold leaf_first_struct_1_b1
        rw [if_neg (by omega)]
    unfold leaf_dead
    rw [show adj_New i = some i from if_pos ⟨l1, l2⟩, Option.bind_some, hf, Option.bind_some]
    cases hs : (List.range i.supply.length).find? (shutB i) with
    | none =>
      dsimp only
      rw [if_neg (by simp), inst_Copy_eq l1 l2, Option.bind_some, Option.bind_some]
      rfl
    | some n =>
      have hn := List.mem_range.1 (List.mem_of_find?_eq_some hs)
      dsimp only
      rw [if_pos rfl, inst_Copy_eq l1 l2, Option.bind_some, Option.bind_some]
      have hw := leaf_without_eq (S := i.supply) (i := i) rfl hnodes hmany hn 7 i ⟨0, 0⟩
      have ei : (⟨i.supply, i.arcs⟩ : Inst) = i := rfl
      rw [ei] at hw
      rw [hw, Option.bind_some]
      unfold outStep
      by_cases h : rightOf (outOf i.supply i n) = 0
      · rw [if_pos h, if_pos h]; rfl
      · rw [if_neg h, if_neg h]; rfl
  · rw [if_pos h0, if_pos h0]; rfl
end Go.Proofs.YtbnjeanldechnaaGreatDoor
namespace Go.Proofs.YtbnjeanldechnaaGreatDoor
open Go.RowKit Go.Qe
structure StillOk (i : Inst) : Prop where
  right : RightI i
  low : ∀ a ∈ i.arcs, 0 ≤ a.low ∧ a.low ≤ 1 ∧ (a.cap = 3 ∨ a.cap = 4611686018427387904)
theorem sum_same {xs : List Int} (h : ∀ s ∈ xs, s = 0) : xs.sum = 0 := by
  induction xs with
  | nil => rfl
  | cons a l ih => rw [List.sum_cons, h a List.mem_cons_self, ih fun s hs => h s (List.mem_cons_of_mem _ hs)]; rfl
theorem still_ok {c d : List Int} (hc : Byt c) (hd : Byt d) : ∃ i, law17_Still c d = some i ∧ StillOk i := by
  obtain ⟨r, er, hr⟩ := thin_ok hc
  have hn0 := hr.n0
  have hn1 := hr.n1
  have hmany := hr.many
  unfold law17_Still
  rw [er, Option.bind_some]
  have fin : ∀ (S : List Int) (xs : List Arc), S.length = r.supply.length → xs.length = r.arcs.length → (∀ s ∈ S, -10 ≤ s ∧ s ≤ 10) → S.sum = 0 →
      (∀ a ∈ xs, (0 ≤ a.src ∧ a.src < r.supply.length ∧ 0 ≤ a.dst ∧ a.dst < r.supply.length) ∧ 0 ≤ a.low ∧ a.low ≤ 1 ∧ (a.cap = 3 ∨ a.cap = 4611686018427387904) ∧ 0 ≤ a.cost ∧ a.cost ≤ 19) → StillOk ⟨S, xs⟩ := fun S xs h1 h2 h3 h4 h5 =>
    ⟨⟨by dsimp only; omega, by dsimp only; omega, fun a ha => by
      obtain ⟨⟨g1, g2, g3, g4⟩, g5, g6, g7, g8, g9⟩ := h5 a ha
      exact ⟨g1, by dsimp only; omega, g3, by dsimp only; omega, g5, by omega, by omega, by omega, by omega⟩, fun s hs => by have := h3 s hs; omega, h4⟩, fun a ha => by have := h5 a ha; exact ⟨this.2.1, this.2.2.1, this.2.2.2.1⟩⟩
  refine lp_inv (T := fun o => ∃ i, o = some i ∧ StillOk i) r.arcs.length (by omega) (fun j (s : Int × List Arc) => s.1 = (j : Int) ∧ s.2.length = r.arcs.length ∧ ∀ a ∈ s.2, (0 ≤ a.src ∧ a.src < r.supply.length ∧ 0 ≤ a.dst ∧ a.dst < r.supply.length) ∧ 0 ≤ a.low ∧ a.low ≤ 1 ∧ (a.cap = 3 ∨ a.cap = 4611686018427387904) ∧ 0 ≤ a.cost ∧ a.cost ≤ 19) 0
    ⟨rfl, rfl, fun a ha => by
      obtain ⟨g1, g2, g3, g4, g5⟩ := hr.arcs a ha
      exact ⟨g1, by omega, by omega, .inl g3, g4, g5⟩⟩ (by omega) fun k j s hj hI hk => ?_
  obtain ⟨s1, xs⟩ := s
  obtain ⟨h1, h2, h3⟩ := hI
  dsimp only at h1 h2 h3
  subst h1
  unfold law17_Still_b1
  dsimp only
  by_cases hjl : j < r.arcs.length
  · rw [if_pos (show (j : Int) < (xs.length : Int) by omega), w64_succ (by omega)]
    by_cases c1 : (j : Int) < d.length
    · rw [if_pos c1, if_pos ⟨by omega, c1⟩]
      by_cases c2 : (gt d (j : Int)).tmod 5 = 0
      · rw [if_pos c2, if_pos ⟨by omega, by omega⟩]
        simp only [lt_eq, upd_len]
        rw [if_pos ⟨by omega, by omega⟩, upd_upd, gt_upd ⟨by omega, by omega⟩]
        refine hk hjl _ ⟨rfl, by dsimp only; rw [upd_len]; exact h2, fun a ha => ?_⟩
        rcases mem_upd ha with ha | ha
        · exact h3 a ha
        · have g := h3 (gt xs (j : Int)) (gt_mem (by omega))
          rw [ha]
          exact ⟨g.1, by dsimp only; omega, by dsimp only; omega, .inr rfl, g.2.2.2.2⟩
      · rw [if_neg c2]
        exact hk hjl _ ⟨rfl, h2, h3⟩
    · rw [if_neg c1]
      exact hk hjl _ ⟨rfl, h2, h3⟩
  · rw [if_neg (by omega)]
    have e0 : r.supply.sum = 0 := sum_same hr.sup
    have triv : StillOk ⟨r.supply, xs⟩ := fin _ _ rfl h2 (fun s hs => by rw [hr.sup s hs]; omega) e0 h3
    by_cases c1 : 0 < (d.length : Int)
    · rw [if_pos c1, if_pos ⟨by omega, c1⟩]
      have hb := hd.at_ 0
      have m3 := tmod_rng hb.1 (show (0 : Int) < 3 by omega)
      by_cases c2 : 0 < (gt d 0).tmod 3
      · rw [if_pos c2, if_pos ⟨by omega, by omega⟩]
        generalize (gt d 0).tmod 3 = z at *
        have wz : w64 z = z := w64_id (by omega) (by omega)
        have g0 : gt r.supply 0 = 0 := hr.sup _ (gt_in (xs := r.supply) ⟨by omega, by omega⟩)
        simp only [lt_eq, upd_len, wz, g0]
        have wl : w64 ((r.supply.length : Int) - 1) = (r.supply.length : Int) - 1 := w64_id (by omega) (by omega)
        have g1 : gt (upd r.supply 0 z) ((r.supply.length : Int) - 1) = 0 := by
          rw [gt_upd_ne (by omega) (by omega) (by omega)]
          exact hr.sup _ (gt_in (xs := r.supply) ⟨by omega, by omega⟩)
        simp only [Int.zero_add]
        rw [wz, wl, if_pos ⟨by omega, by omega⟩, g1, w64_id (x := 0 - z) (by omega) (by omega)]
        refine ⟨_, rfl, fin _ _ (by rw [upd_len, upd_len]) h2 (fun s hs => ?_) ?_ h3⟩
        · rcases mem_upd hs with hs | hs
          · rcases mem_upd hs with hs | hs
            · rw [hr.sup s hs]; omega
            · omega
          · omega
        · rw [sum_upd (by rw [upd_len]; omega), sum_upd (by omega), g1, g0, e0]; omega
      · rw [if_neg c2]
        exact ⟨_, rfl, triv⟩
    · rw [if_neg c1]
      exact ⟨_, rfl, triv⟩
theorem flow_ok {i : Inst} {e : List Int} (he : Byt e) (hm : i.arcs.length ≤ 256) (hl : ∀ a ∈ i.arcs, 0 ≤ a.low ∧ a.low ≤ 1 ∧ a.low ≤ a.cap) : ∃ x, law09_Flow i e = some x ∧ x.length = i.arcs.length ∧ ∀ v ∈ x, 0 ≤ v ∧ v ≤ 10 := by
  unfold law09_Flow
  refine lp_inv (T := fun o => ∃ x : List Int, o = some x ∧ x.length = i.arcs.length ∧ ∀ v ∈ x, 0 ≤ v ∧ v ≤ 10) i.arcs.length (by omega) (fun j (s : Int × List Int) => s.1 = (j : Int) ∧ s.2.length = j ∧ ∀ v ∈ s.2, 0 ≤ v ∧ v ≤ 10) 0 ⟨rfl, rfl, fun v h => by cases h⟩ (by omega) fun k j s hj hI hk => ?_
  obtain ⟨s1, xs⟩ := s
  obtain ⟨h1, h2, h3⟩ := hI
  dsimp only at h1 h2 h3
  subst h1
  unfold law09_Flow_b1
  dsimp only
  have add : ∀ v : Int, 0 ≤ v ∧ v ≤ 10 → ∀ y ∈ xs ++ [v], 0 ≤ y ∧ y ≤ 10 := fun v hv y hy => by
    rcases List.mem_append.1 hy with hy | hy
    · exact h3 y hy
    · simp only [List.mem_singleton] at hy; exact hy ▸ hv
  by_cases hjl : j < i.arcs.length
  · have ha := hl _ (gt_mem hjl)
    rw [if_pos (rng_of hjl).2, if_pos (rng_of hjl), w64_succ (by omega)]
    have hlim : ∀ v : Int, xs.length + [v].length ≤ lim := fun v => by simp only [List.length_singleton, lim]; omega
    simp only [lt_eq]
    by_cases c1 : ((j + 1 : Nat) : Int) < e.length
    · rw [if_pos c1, if_pos ⟨by omega, c1⟩]
      have m4 := tmod_rng (he.at_ ((j + 1 : Nat) : Int)).1 (show (0 : Int) < 4 by omega)
      generalize (gt e ((j + 1 : Nat) : Int)).tmod 4 = z at *
      rw [w64_id (x := z) (by omega) (by omega), w64_id (x := (gt i.arcs (j : Int)).low + z) (by omega) (by omega), if_pos (hlim _)]
      exact hk hjl _ ⟨rfl, by simp; omega, add _ (by split <;> omega)⟩
    · rw [if_neg c1, if_pos (hlim _)]
      exact hk hjl _ ⟨rfl, by simp; omega, add _ (by omega)⟩
  · rw [if_neg (by omega)]
    exact ⟨_, rfl, by omega, h3⟩
/-- a flow, nothing of it along what touches a node, as far as a place -/
def zeroTo (i : Inst) (n : Nat) (x : List Int) (j : Nat) : List Int := (List.range x.length).map fun k => if k < j ∧ touchB i n k = true then 0 else gt x (k : Int)
theorem zero_len (i : Inst) (n : Nat) (x : List Int) (j : Nat) : (zeroTo i n x j).length = x.length := by simp [zeroTo]
theorem zero_0 (i : Inst) (n : Nat) (x : List Int) : zeroTo i n x 0 = x := by
  apply List.ext_getElem (by simp [zeroTo])
  intro k h1 h2
  simp [zeroTo, gt_get h2]
theorem zero_get {i : Inst} {n : Nat} {x : List Int} {j k : Nat} (h : k < x.length) : gt (zeroTo i n x j) (k : Int) = if k < j ∧ touchB i n k = true then 0 else gt x (k : Int) := by
  rw [gt_get (by rw [zero_len]; exact h)]
  simp [zeroTo]
theorem zero_t {i : Inst} {n : Nat} {x : List Int} {j : Nat} (ht : touchB i n j = true) : upd (zeroTo i n x j) (j : Int) 0 = zeroTo i n x (j + 1) := by
  rw [upd_nat]
  apply List.ext_getElem (by simp [zeroTo])
  intro k h1 h2
  rw [List.getElem_set]
  by_cases hk : j = k
  · subst hk; simp [zeroTo, ht]
  · rw [if_neg hk]
    simp only [zeroTo, List.getElem_map, List.getElem_range]
    have : (k < j) ↔ (k < j + 1) := by omega
    simp only [this]
theorem zero_f {i : Inst} {n : Nat} {x : List Int} {j : Nat} (ht : touchB i n j = false) : zeroTo i n x j = zeroTo i n x (j + 1) := by
  unfold zeroTo
  refine List.map_congr_left fun k _ => ?_
  by_cases hk : k = j
  · subst hk; simp [ht]
  · have : (k < j) ↔ (k < j + 1) := by omega
    simp only [this]
theorem known_t : law17_known = some true := by kernel_rfl
/-- the first one, from behind -/
def lastOf (p : Nat → Bool) (n j : Nat) : Int := match (List.range' (n - j) j).find? p with
  | some k => k
  | none => -1
theorem last_succ {p : Nat → Bool} {n j : Nat} (h : j < n) : lastOf p n (j + 1) = if p (n - (j + 1)) = true then ((n - (j + 1) : Nat) : Int) else lastOf p n j := by
  unfold lastOf
  rw [List.range'_succ, List.find?_cons, show n - (j + 1) + 1 = n - j by omega]
  by_cases h : p (n - (j + 1)) = true
  · rw [h, if_pos rfl]
  · rw [if_neg h]
    have : p (n - (j + 1)) = false := by simpa using h
    rw [this]
theorem last_all {p : Nat → Bool} {n : Nat} : lastOf p n n = match (List.range n).find? p with | some k => (k : Int) | none => -1 := by
  unfold lastOf
  rw [Nat.sub_self, List.range_eq_range']
theorem dead_true {c d e : List Int} (hc : Byt c) (hd : Byt d) (he : Byt e) : law17_LeafDead c d e = some true := by
  obtain ⟨i, hi, hs⟩ := still_ok hc hd
  have hR := hs.right
  have hw := hR.whole
  have hnodes := hR.nodes
  have hmany := hR.many
  have l1 : i.supply.length ≤ lim := by simp only [lim]; omega
  have l2 : i.arcs.length ≤ lim := by simp only [lim]; omega
  unfold law17_LeafDead
  rw [hi, Option.bind_some, leaf_Dead_eq, Option.bind_some]
  cases hf : (List.range i.supply.length).find? (shutB i) with
  | none =>
    have hdd : deadOf i = (⟨i, ⟨0, ⟨[], []⟩⟩, ⟨0, 0⟩, false⟩, 0) := by
      unfold deadOf
      rw [if_neg (fun h => h (rightOf_zero.2 hR)), hf]
      rfl
    rw [hdd]
    dsimp only
    rw [if_neg (fun h => h rfl), if_neg (show ¬ (false = true) by decide), known_t, Option.bind_some, if_pos rfl, if_pos rfl, inst_Same_refl rfl l1 l2, Option.bind_some]
  | some n =>
    have hn := List.mem_range.1 (List.mem_of_find?_eq_some hf)
    have hsh := shutAt_of hw (List.find?_some hf)
    have hO : RightI (outOf i.supply i n) := out_right hR hn rfl hR.sup (by rw [hR.sum, hsh.sup])
    have hdd : deadOf i = (⟨outOf i.supply i n, ⟨7, i⟩, ⟨0, 0⟩, true⟩, 0) := by
      unfold deadOf
      rw [if_neg (fun h => h (rightOf_zero.2 hR)), hf]
      dsimp only
      unfold outStep
      rw [if_pos (rightOf_zero.2 hO)]
    rw [hdd]
    dsimp only
    rw [if_neg (fun h => h rfl), if_pos rfl]
    obtain ⟨x, hx, hxl, hxr⟩ := flow_ok he hmany (fun a ha => by have := hs.low a ha; omega)
    refine lp_eq (fun j => (lastOf (shutB i) i.supply.length j, (i.supply.length : Int) - 1 - j)) i.supply.length ?_ (by omega) (fun k j hj => ?_) (fun k => ?_)
    · rw [w64_id (by omega) (by omega)]
      simp [lastOf]
    · unfold law17_LeafDead_b1
      dsimp only
      have e1 : (i.supply.length : Int) - 1 - (j : Int) = ((i.supply.length - (j + 1) : Nat) : Int) := by omega
      rw [if_pos (by omega), e1, leaf_Shut_eq l1 l2 (show i.supply.length - (j + 1) < i.supply.length by omega), Option.bind_some, last_succ hj, w64_id (by omega) (by omega)]
      have e2 : ((i.supply.length - (j + 1) : Nat) : Int) - 1 = (i.supply.length : Int) - 1 - ((j + 1 : Nat) : Int) := by omega
      rw [e2]
      split <;> rfl
    · unfold law17_LeafDead_b1
      dsimp only
      rw [if_neg (by omega), hx, Option.bind_some, last_all, hf]
      dsimp only
      have hoa := out_arcs (S := i.supply) hw hn rfl
      have hol := out_len (S := i.supply) hn rfl
      refine lp_eq (fun j => ((j : Int), zeroTo i n x j, ((List.range j).filter fun k => !touchB i n k).map fun k : Nat => gt x (k : Int))) i.arcs.length ?_ (by omega) (fun k j hj => ?_) (fun k => ?_)
      · rw [zero_0]; rfl
      · unfold law17_LeafDead_b2
        dsimp only
        have hjx : j < x.length := by omega
        rw [if_pos (rng_of hj).2, if_pos (rng_of hj), gt_arc, zero_len, w64_succ (by omega), List.range_succ, List.filter_append]
        simp only [lt_eq]
        by_cases c1 : (arcAt i.arcs j).src = n
        · have ht : touchB i n j = true := touch_t (.inl c1)
          rw [if_pos c1, if_pos (rng_of hjx), zero_t ht, List.filter_cons_of_neg (by rw [ht]; decide), List.filter_nil, List.append_nil]
        · rw [if_neg c1]
          by_cases c2 : (arcAt i.arcs j).dst = n
          · have ht : touchB i n j = true := touch_t (.inr c2)
            rw [if_pos c2, if_pos (rng_of hjx), zero_t ht, List.filter_cons_of_neg (by rw [ht]; decide), List.filter_nil, List.append_nil]
          · have ht : touchB i n j = false := touch_f (fun h => by rcases h with h | h; exact c1 h; exact c2 h)
            have hll : (((List.range j).filter fun k => !touchB i n k).map fun k : Nat => gt x (k : Int)).length ≤ j := by
              rw [List.length_map]; have := List.length_filter_le (fun k => !touchB i n k) (List.range j); simpa using this
            rw [if_neg c2, if_pos (rng_of hjx), if_pos (by simp only [List.length_singleton, lim]; omega), ← zero_f ht, List.filter_cons_of_pos (by rw [ht]; rfl), List.filter_nil, List.map_append, zero_get hjx, if_neg (by omega)]
            rfl
      · unfold law17_LeafDead_b2
        dsimp only
        have hy : ((List.range i.arcs.length).filter fun k => !touchB i n k).map (fun k : Nat => gt x (k : Int)) = (farL i n).map fun k : Nat => gt (zeroTo i n x i.arcs.length) (k : Int) := by
          unfold farL
          refine List.map_congr_left fun k hk => ?_
          have := farL_mem.1 hk
          rw [zero_get (by omega), if_neg (fun h => by rw [touch_f this.2] at h; cases h.2)]
        rw [if_neg (by omega), known_t, Option.bind_some, if_pos rfl, if_pos (by omega), hol, w64_id (by omega) (by omega), if_pos (by omega), hy]
        generalize hX : zeroTo i n x i.arcs.length = X
        have hXl : X.length = i.arcs.length := by rw [← hX, zero_len]; exact hxl
        have hX0 : ∀ k ∈ nearL i n, gt X (k : Int) = 0 := fun k hk => by
          have := nearL_mem.1 hk
          rw [← hX, zero_get (by omega), if_pos ⟨this.1, touch_t this.2⟩]
        have hXr : ∀ v ∈ X, 0 ≤ v ∧ v ≤ 10 := fun v hv => by
          rw [← hX] at hv
          obtain ⟨k, hk, rfl⟩ := List.mem_map.1 hv
          have := hxr _ (gt_mem (List.mem_range.1 hk))
          split <;> omega
        have hXi : ∀ v ∈ X, I64 v := fun v hv => by have := hXr v hv; exact ⟨by omega, by omega⟩
        have hyl : ((farL i n).map fun k : Nat => gt X (k : Int)).length = (outOf i.supply i n).arcs.length := by rw [hoa]; simp
        have hyi : ∀ v ∈ (farL i n).map fun k : Nat => gt X (k : Int), I64 v := fun v hv => by
          obtain ⟨k, hk, rfl⟩ := List.mem_map.1 hv
          exact hXi _ (gt_mem (by have := (farL_mem.1 hk).1; omega))
        rw [if_pos (by rw [hyl])]
        have hone : ∀ (m : Int) (k : Nat), k ∈ nearL i n → oneP (pairAt i X k) m = 0 := fun m k hk => by
          unfold oneP pairAt
          dsimp only
          rw [hX0 k hk]
          simp
        have hF : FitsP i X ↔ FitsP (outOf i.supply i n) ((farL i n).map fun k : Nat => gt X (k : Int)) := by
          refine fits_out hR hn rfl hO hXl (fun k hk => ?_) ?_ fun m hm hmn => ?_
          · have h1 := hsh.low k hk
            have h2 := hR.arcs _ (arcAt_mem (nearL_mem.1 hk).1)
            have h3 := h2.cap
            rw [hX0 k hk]
            unfold inA
            omega
          · rw [hsh.sup, zip_pairs hXl]
            unfold netP
            rw [List.map_map]
            refine sum_zero' _ fun k hk => ?_
            have hkl := List.mem_range.1 hk
            by_cases ht : (arcAt i.arcs k).src = n ∨ (arcAt i.arcs k).dst = n
            · exact hone n k (nearL_mem.2 ⟨hkl, ht⟩)
            · show oneP (pairAt i X k) (n : Int) = 0
              unfold oneP pairAt
              dsimp only
              rw [if_neg (fun h => ht (.inl h)), if_neg (fun h => ht (.inr h))]; rfl
          · rw [sum_zero' _ fun k hk => hone m k hk]; omega
        obtain ⟨e1, f1, g1⟩ := flow_Fits_eq (i := i) hXi
        obtain ⟨e2, f2, g2⟩ := flow_Fits_eq (i := outOf i.supply i n) hyi
        have hcI : ∀ {j : Inst}, RightI j → ∀ a ∈ j.arcs, I64 a.cost := fun hj a ha => by have g := hj.arcs a ha; have g0 := g.c0; have g1 := g.c1; exact ⟨by omega, by omega⟩
        have hOm := hO.many
        rw [f1, Option.bind_some, f2, Option.bind_some, if_pos (by
          have : (e1 = 0) ↔ (e2 = 0) := by rw [g1, g2]; exact hF
          simp only [this, beq_self_eq_true]), flow_Cost_eq hXl hXi (hcI hR) (by omega), Option.bind_some, flow_Cost_eq hyl hyi (hcI hO) (by omega), Option.bind_some]
        have hcost := cost_out (S := i.supply) hw hn rfl hXl
        rw [sum_zero' _ fun k hk => by rw [hX0 k hk, Int.mul_zero], Int.add_zero] at hcost
        rw [if_pos (by rw [hcost])]
        rfl
end Go.Proofs.YtbnjeanldechnaaGreatDoor
