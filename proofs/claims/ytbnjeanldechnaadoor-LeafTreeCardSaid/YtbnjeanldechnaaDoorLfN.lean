/- Plain: LeafTree. -/
import Derived.Test.YtbnjeanldechnaaDoorTh5
import Derived.Test.YtbnjeanldechnaaDoorTh7
namespace Go.Proofs.YtbnjeanldechnaaDoor
open Go.RowKit Go.Qe
theorem fitB_nat {i : Inst} {k : Nat} : fitB i (k : Int) = true ↔ k < i.arcs.length ∧ wholeB i.supply.length (arcAt i.arcs k) = true := by
  unfold fitB
  simp only [Bool.and_eq_true, decide_eq_true_eq, Int.toNat_natCast]
  exact ⟨fun h => ⟨by omega, h.2⟩, fun h => ⟨by omega, h.2⟩⟩
theorem wholeB_iff {n : Nat} {a : Arc} : wholeB n a = true ↔ 0 ≤ a.src ∧ a.src < n ∧ 0 ≤ a.dst ∧ a.dst < n := by simp [wholeB]
/-- all ends are nodes -/
def Whole (i : Inst) : Prop := ∀ a ∈ i.arcs, 0 ≤ a.src ∧ a.src < i.supply.length ∧ 0 ≤ a.dst ∧ a.dst < i.supply.length
theorem _root_.Go.Qe.RightI.whole {i : Inst} (h : RightI i) : Whole i := fun a ha => let g := h.arcs a ha; ⟨g.s0, g.s1, g.d0, g.d1⟩
theorem arcAt_mem {xs : List Arc} {k : Nat} (h : k < xs.length) : arcAt xs k ∈ xs := by rw [arcAt_eq h]; exact List.getElem_mem h
theorem Whole.at_ {i : Inst} (h : Whole i) {k : Nat} (hk : k < i.arcs.length) : wholeB i.supply.length (arcAt i.arcs k) = true := wholeB_iff.2 (h _ (arcAt_mem hk))
theorem pick_iff {i : Inst} (h : Whole i) {n : Int} {o e : Bool} {k : Nat} (hk : k < i.arcs.length) : pickB i n o e k = true ↔ (o = true ∧ (arcAt i.arcs k).src = n) ∨ (e = true ∧ (arcAt i.arcs k).dst = n) := by
  unfold pickB
  rw [fitB_nat.2 ⟨hk, h.at_ hk⟩]
  simp
theorem countP_split {α : Type} (p q : α → Bool) (l : List α) : (l.filter p).length + (l.filter q).length = (l.filter fun x => p x || q x).length + (l.filter fun x => p x && q x).length := by
  induction l with
  | nil => rfl
  | cons a l ih =>
    simp only [List.filter_cons]
    cases p a <;> cases q a <;> simp <;> omega
theorem loopsOf_eq {i : Inst} (n : Int) : loopsOf i n = (((List.range i.arcs.length).filter fun k => pickB i n true false k && pickB i n false true k).length : Nat) := by
  have e : ∀ k, pickB i n true true k = (pickB i n true false k || pickB i n false true k) := fun k => by
    unfold pickB
    cases fitB i k <;> simp
  have := countP_split (pickB i n true false) (pickB i n false true) (List.range i.arcs.length)
  unfold loopsOf someL someTo
  simp only [List.length_map]
  have e2 : (List.range i.arcs.length).filter (pickB i n true true) = (List.range i.arcs.length).filter fun x => pickB i n true false x || pickB i n false true x := List.filter_congr fun k _ => e k
  rw [e2]
  omega
theorem noLoop {i : Inst} (h : Whole i) {n : Int} (hl : ¬ 0 < loopsOf i n) {k : Nat} (hk : k < i.arcs.length) : ¬ ((arcAt i.arcs k).src = n ∧ (arcAt i.arcs k).dst = n) := by
  intro hh
  rw [loopsOf_eq] at hl
  have : k ∈ (List.range i.arcs.length).filter fun k => pickB i n true false k && pickB i n false true k := by
    rw [List.mem_filter]
    refine ⟨List.mem_range.2 hk, ?_⟩
    rw [Bool.and_eq_true]
    exact ⟨(pick_iff h hk).2 (.inl ⟨rfl, hh.1⟩), (pick_iff h hk).2 (.inr ⟨rfl, hh.2⟩)⟩
  have := List.length_pos_of_mem this
  omega
theorem gt_mem {α : Type} [Inhabited α] {xs : List α} {k : Nat} (h : k < xs.length) : gt xs (k : Int) ∈ xs := by rw [gt_get h]; exact List.getElem_mem h
theorem gt_arc (xs : List Arc) (k : Nat) : gt xs (k : Int) = arcAt xs k := rfl
theorem ren_in {K : List Int} {a : Arc} (h1 : a.src ∈ K) (h2 : a.dst ∈ K) : ren K a = some ⟨idx K a.src, idx K a.dst, a.low, a.cap, a.cost⟩ := if_pos ⟨idx_nonneg.2 h1, idx_nonneg.2 h2⟩
theorem ren_not {K : List Int} {a : Arc} (h : ¬ (a.src ∈ K ∧ a.dst ∈ K)) : ren K a = none := if_neg fun h1 => h ⟨idx_nonneg.1 h1.1, idx_nonneg.1 h1.2⟩
theorem fmap_filter {α β : Type} {f : α → Option β} {p : α → Bool} {g : α → β} : ∀ (l : List α), (∀ x ∈ l, f x = if p x = true then some (g x) else none) → l.filterMap f = (l.filter p).map g
  | [], _ => rfl
  | x :: l, h => by
    have ih := fmap_filter l fun y hy => h y (List.mem_cons_of_mem _ hy)
    have h1 := h x List.mem_cons_self
    by_cases hp : p x = true
    · rw [if_pos hp] at h1
      rw [List.filterMap_cons, h1, List.filter_cons_of_pos hp, List.map_cons, ih]
    · rw [if_neg hp] at h1
      rw [List.filterMap_cons, h1, List.filter_cons_of_neg hp, ih]
def renK (K : List Int) (a : Arc) : Arc := ⟨idx K a.src, idx K a.dst, a.low, a.cap, a.cost⟩
def pairAt (i : Inst) (x : List Int) (k : Nat) : Arc × Int := (arcAt i.arcs k, gt x k)
theorem zip_pairs {i : Inst} {x : List Int} (h : x.length = i.arcs.length) : i.arcs.zip x = (List.range i.arcs.length).map (pairAt i x) := by
  apply List.ext_getElem (by simp; omega)
  intro k h1 h2
  have hk : k < i.arcs.length := by simp at h2; omega
  simp [pairAt, arcAt_eq hk, gt_get (show k < x.length by omega)]
/-- ends told anew: what flows out of a node is the same -/
theorem one_ren {K : List Int} {a : Arc} {f m : Int} (h1 : a.src ∈ K) (h2 : a.dst ∈ K) (hm : m ∈ K) : oneP (renK K a, f) (idx K m) = oneP (a, f) m := by
  have inj : ∀ u v : Int, u ∈ K → v ∈ K → (idx K u = idx K v ↔ u = v) := fun u v hu hv => ⟨fun h => by rw [← (idx_mem hu).2.2, ← (idx_mem hv).2.2, h], fun h => by rw [h]⟩
  unfold oneP renK
  simp only [inj _ _ h1 hm, inj _ _ h2 hm]
theorem sum_part {f : Nat → Int} (p : Nat → Bool) : ∀ l : List Nat, (l.map f).sum = ((l.filter fun k => !p k).map f).sum + ((l.filter p).map f).sum
  | [] => rfl
  | x :: l => by
    have ih := sum_part (f := f) p l
    by_cases h : p x = true
    · rw [List.filter_cons_of_neg (by simp [h]), List.filter_cons_of_pos h, List.map_cons, List.map_cons, List.sum_cons, List.sum_cons]; omega
    · rw [List.filter_cons_of_pos (by simpa using h), List.filter_cons_of_neg h, List.map_cons, List.map_cons, List.sum_cons, List.sum_cons]; omega
theorem sum_zero' {f : Nat → Int} : ∀ l : List Nat, (∀ k ∈ l, f k = 0) → (l.map f).sum = 0
  | [], _ => rfl
  | x :: l, h => by rw [List.map_cons, List.sum_cons, h x List.mem_cons_self, sum_zero' l fun k hk => h k (List.mem_cons_of_mem _ hk)]; rfl
def offOf (i : Inst) (n : Nat) : List Bool := (List.replicate i.supply.length false).set n true
def touchB (i : Inst) (n k : Nat) : Bool := decide ((arcAt i.arcs k).src = n ∨ (arcAt i.arcs k).dst = n)
theorem touch_t {i : Inst} {n k : Nat} (h : (arcAt i.arcs k).src = n ∨ (arcAt i.arcs k).dst = n) : touchB i n k = true := decide_eq_true h
theorem touch_f {i : Inst} {n k : Nat} (h : ¬ ((arcAt i.arcs k).src = n ∨ (arcAt i.arcs k).dst = n)) : touchB i n k = false := decide_eq_false h
def farL (i : Inst) (n : Nat) : List Nat := (List.range i.arcs.length).filter fun k => !touchB i n k
def nearL (i : Inst) (n : Nat) : List Nat := (List.range i.arcs.length).filter (touchB i n)
theorem farL_mem {i : Inst} {n k : Nat} : k ∈ farL i n ↔ k < i.arcs.length ∧ ¬ ((arcAt i.arcs k).src = n ∨ (arcAt i.arcs k).dst = n) := by simp [farL, touchB]
theorem nearL_mem {i : Inst} {n k : Nat} : k ∈ nearL i n ↔ k < i.arcs.length ∧ ((arcAt i.arcs k).src = n ∨ (arcAt i.arcs k).dst = n) := by simp [nearL, touchB]
def keptK (i : Inst) (n : Nat) : List Int := keptL (offOf i n) i.supply.length
theorem kept_mem {i : Inst} {n : Nat} (hn : n < i.supply.length) {x : Int} : x ∈ keptK i n ↔ 0 ≤ x ∧ x < i.supply.length ∧ ¬ x = n := mem_one hn
/-- an instance with other supplies, without a node -/
def outOf (S : List Int) (i : Inst) (n : Nat) : Inst := withoutOf ⟨S, i.arcs⟩ (offOf i n) []
section
variable {S : List Int} {i : Inst} {n : Nat}
theorem out_sup (hn : n < i.supply.length) (hS : S.length = i.supply.length) : (outOf S i n).supply = S.take n ++ S.drop (n + 1) := by
  unfold outOf withoutOf offOf
  dsimp only
  rw [← hS]
  exact map_one S (by omega)
theorem out_gt (hS : S.length = i.supply.length) {k : Nat} (hk : k < (keptK i n).length) : gt (outOf S i n).supply (k : Int) = gt S (keptK i n)[k] := by
  unfold outOf withoutOf
  dsimp only
  rw [hS, gt_get (by simpa [keptK] using hk), List.getElem_map]
  rfl
theorem out_len (hn : n < i.supply.length) (hS : S.length = i.supply.length) : (outOf S i n).supply.length = i.supply.length - 1 := by
  rw [out_sup hn hS]; simp; omega
theorem kept_len (hn : n < i.supply.length) : (keptK i n).length = i.supply.length - 1 := len_one hn
theorem out_arcs (hw : Whole i) (hn : n < i.supply.length) (hS : S.length = i.supply.length) : (outOf S i n).arcs = (farL i n).map fun k => renK (keptK i n) (arcAt i.arcs k) := by
  have hk := @kept_mem i n hn
  unfold outOf withoutOf
  dsimp only
  rw [map_gt_all, hS]
  show i.arcs.filterMap (ren (keptK i n)) = _
  have e : i.arcs = (List.range i.arcs.length).map (arcAt i.arcs) := by
    apply List.ext_getElem (by simp)
    intro k h1 h2
    simp [arcAt_eq h1]
  conv => lhs; rw [e]
  rw [List.filterMap_map]
  refine fmap_filter _ fun k hk2 => ?_
  have hkl := List.mem_range.1 hk2
  have hwk := wholeB_iff.1 (hw.at_ hkl)
  by_cases ht : (arcAt i.arcs k).src = n ∨ (arcAt i.arcs k).dst = n
  · rw [if_neg (by rw [touch_t ht]; decide)]
    exact ren_not fun h1 => by
      rcases ht with ht | ht
      · exact (hk.1 h1.1).2.2 ht
      · exact (hk.1 h1.2).2.2 ht
  · rw [if_pos (by rw [touch_f ht]; rfl)]
    exact ren_in (hk.2 ⟨hwk.1, hwk.2.1, fun e => ht (.inl e)⟩) (hk.2 ⟨hwk.2.2.1, hwk.2.2.2, fun e => ht (.inr e)⟩)
theorem out_right (hR : RightI i) (hn : n < i.supply.length) (hS : S.length = i.supply.length) (hb : ∀ s ∈ S, -4398046511104 ≤ s ∧ s ≤ 4398046511104) (hs : S.sum = gt S (n : Int)) : RightI (outOf S i n) := by
  have hw := hR.whole
  have hk := @kept_mem i n hn
  have hl := out_len hn hS
  have ha := out_arcs hw hn hS
  have hnodes := hR.nodes
  have hmany := hR.many
  have hkl := @kept_len i n hn
  refine ⟨by omega, ?_, fun a h => ?_, fun s h => ?_, ?_⟩
  · rw [ha, List.length_map]
    have : (farL i n).length ≤ (List.range i.arcs.length).length := List.length_filter_le _ _
    simp at this; omega
  · rw [ha] at h
    obtain ⟨k, hk1, rfl⟩ := List.mem_map.1 h
    obtain ⟨hk2, hno⟩ := farL_mem.1 hk1
    have hA := hR.arcs _ (arcAt_mem hk2)
    have g1 := idx_mem (hk.2 ⟨hA.s0, hA.s1, fun e => hno (.inl e)⟩)
    have g2 := idx_mem (hk.2 ⟨hA.d0, hA.d1, fun e => hno (.inr e)⟩)
    rw [hl]
    exact ⟨g1.1, by have := g1.2.1; show idx _ _ < _; omega, g2.1, by have := g2.2.1; show idx _ _ < _; omega, hA.low0, hA.low1, hA.cap, hA.c0, hA.c1⟩
  · rw [out_sup hn hS] at h
    rcases List.mem_append.1 h with h | h
    · exact hb s (List.mem_of_mem_take h)
    · exact hb s (List.mem_of_mem_drop h)
  · have hn' : n < S.length := by omega
    rw [out_sup hn hS, sum_one hn', hs, gt_get hn']; omega
theorem net_out (hw : Whole i) (hn : n < i.supply.length) (hS : S.length = i.supply.length) {x : List Int} (hl : x.length = i.arcs.length) {m : Int} (hm : m ∈ keptK i n) :
    netP ((outOf S i n).arcs.zip ((farL i n).map fun k : Nat => gt x (k : Int))) (idx (keptK i n) m) = netP (i.arcs.zip x) m - ((nearL i n).map fun k => oneP (pairAt i x k) m).sum := by
  have hk := @kept_mem i n hn
  rw [out_arcs hw hn hS, List.zip_map', zip_pairs hl]
  unfold netP
  rw [List.map_map, List.map_map]
  have e := sum_part (f := ((fun p => oneP p m) ∘ pairAt i x)) (touchB i n) (List.range i.arcs.length)
  rw [e]
  have e2 : ((farL i n).map ((fun p => oneP p (idx (keptK i n) m)) ∘ fun k : Nat => (renK (keptK i n) (arcAt i.arcs k), gt x (k : Int)))) = (((List.range i.arcs.length).filter fun k => !touchB i n k).map ((fun p => oneP p m) ∘ pairAt i x)) := by
    refine List.map_congr_left fun k hk1 => ?_
    obtain ⟨hk2, hno⟩ := farL_mem.1 hk1
    have hwk := wholeB_iff.1 (hw.at_ hk2)
    exact one_ren (hk.2 ⟨hwk.1, hwk.2.1, fun e => hno (.inl e)⟩) (hk.2 ⟨hwk.2.2.1, hwk.2.2.2, fun e => hno (.inr e)⟩) hm
  rw [e2]
  have e3 : ((List.range i.arcs.length).filter (touchB i n)).map ((fun p => oneP p m) ∘ pairAt i x) = (nearL i n).map fun k => oneP (pairAt i x k) m := rfl
  rw [e3]
  omega
theorem cost_out (hw : Whole i) (hn : n < i.supply.length) (hS : S.length = i.supply.length) {x : List Int} (hl : x.length = i.arcs.length) :
    costP (i.arcs.zip x) = costP ((outOf S i n).arcs.zip ((farL i n).map fun k : Nat => gt x (k : Int))) + ((nearL i n).map fun k : Nat => (arcAt i.arcs k).cost * gt x (k : Int)).sum := by
  rw [out_arcs hw hn hS, List.zip_map', zip_pairs hl]
  unfold costP
  rw [List.map_map, List.map_map, sum_part (touchB i n) (List.range i.arcs.length)]
  rfl
theorem fits_out (hR : RightI i) (hn : n < i.supply.length) (hS : S.length = i.supply.length) (hO : RightI (outOf S i n)) {x : List Int} (hl : x.length = i.arcs.length)
    (hin : ∀ k ∈ nearL i n, inA (arcAt i.arcs k) (gt x (k : Int))) (hnode : netP (i.arcs.zip x) n = gt i.supply n)
    (hs : ∀ m : Nat, m < i.supply.length → m ≠ n → gt S (m : Int) = gt i.supply (m : Int) - ((nearL i n).map fun k => oneP (pairAt i x k) m).sum) :
    FitsP i x ↔ FitsP (outOf S i n) ((farL i n).map fun k : Nat => gt x (k : Int)) := by
  have hw := hR.whole
  have hk := @kept_mem i n hn
  have hkl := @kept_len i n hn
  have hol := out_len hn hS
  have hoa := out_arcs hw hn hS
  have hnd : (keptK i n).Nodup := keptL_nodup (offOf i n) i.supply.length
  have hall : (∀ p ∈ i.arcs.zip x, inA p.1 p.2) ↔ ∀ p ∈ (outOf S i n).arcs.zip ((farL i n).map fun k : Nat => gt x (k : Int)), inA p.1 p.2 := by
    rw [hoa, List.zip_map', zip_pairs hl]
    constructor
    · intro h p hp
      obtain ⟨k, hk1, rfl⟩ := List.mem_map.1 hp
      exact h (pairAt i x k) (List.mem_map.2 ⟨k, List.mem_range.2 (farL_mem.1 hk1).1, rfl⟩)
    · intro h p hp
      obtain ⟨k, hk1, rfl⟩ := List.mem_map.1 hp
      have hk2 := List.mem_range.1 hk1
      by_cases ht : (arcAt i.arcs k).src = n ∨ (arcAt i.arcs k).dst = n
      · exact hin k (nearL_mem.2 ⟨hk2, ht⟩)
      · exact h (renK (keptK i n) (arcAt i.arcs k), gt x (k : Int)) (List.mem_map.2 ⟨k, farL_mem.2 ⟨hk2, ht⟩, rfl⟩)
  constructor
  · intro hF
    refine ⟨hO, by rw [hoa]; simp, hall.1 hF.within, fun k hk1 => ?_⟩
    rw [hol] at hk1
    have hkK : k < (keptK i n).length := by omega
    have hm := List.getElem_mem hkK
    have hi := idx_at hnd hkK
    rw [out_gt hS hkK, ← hi, net_out hw hn hS hl hm]
    have hm' := hk.1 hm
    generalize (keptK i n)[k] = m at *
    obtain ⟨mm, rfl⟩ := Int.eq_ofNat_of_zero_le hm'.1
    rw [hF.net mm (by omega), hs mm (by omega) (by omega)]
  · intro hF
    refine ⟨hR, hl, hall.2 hF.within, fun m hm => ?_⟩
    by_cases e : m = n
    · subst e; exact hnode
    · have hmK : (m : Int) ∈ keptK i n := hk.2 ⟨by omega, by omega, by omega⟩
      have hi := idx_mem hmK
      obtain ⟨k, hk1⟩ := Int.eq_ofNat_of_zero_le hi.1
      have hkK : k < (keptK i n).length := by omega
      have h1 := net_out hw hn hS hl hmK
      have h2 := hF.net k (by rw [hol]; omega)
      have h3 : (keptK i n)[k] = (m : Int) := by have := hi.2.2; rw [hk1, gt_get hkK] at this; exact this
      rw [out_gt hS hkK, h3, hs m hm e, ← hk1, h1] at h2
      omega
end
end Go.Proofs.YtbnjeanldechnaaDoor
namespace Go.Qe
theorem find_some {α β : Type} (p : α → Bool) (f : α → β) (l : List α) : l.findSome? (fun a => if p a = true then some (f a) else none) = (l.find? p).map f := by
  induction l with
  | nil => rfl
  | cons a l ih =>
    rw [List.findSome?_cons, List.find?_cons]
    by_cases h : p a = true
    · rw [if_pos h, h]; rfl
    · rw [if_neg h, ih]
      have : p a = false := by simpa using h
      rw [this]
def stepNo : Step := ⟨⟨[], []⟩, ⟨0, ⟨[], []⟩⟩, ⟨0, 0⟩, false⟩
def stepAs (i : Inst) : Step := ⟨i, ⟨0, ⟨[], []⟩⟩, ⟨0, 0⟩, false⟩
end Go.Qe
namespace Go.Proofs.YtbnjeanldechnaaDoor
open Go.RowKit Go.Qe
def outStep (pass : Int) (was : Inst) (o : Inst) (off : Wide) : Step × Int := if rightOf o = 0 then (⟨o, ⟨pass, was⟩, off, true⟩, 0) else (stepNo, 40)
theorem someL_rng {i : Inst} {n : Int} {o e : Bool} {a : Int} (h : a ∈ someL i n o e) : 0 ≤ a ∧ a < i.arcs.length := by
  obtain ⟨k, hk, _, rfl⟩ := (someL_mem i n o e a).1 h
  omega
def shutB (i : Inst) (n : Nat) : Bool :=
  decide (¬ (someL i n true true).length = 0) && decide (¬ 0 < loopsOf i n) && decide (gt i.supply (n : Int) = 0) && ((someL i n true true).all fun a => decide ((gt i.arcs a).low = 0)) && (decide ((someL i n true false).length = 0) || decide ((someL i n false true).length = 0))
/-- what is known of a node that nothing comes through -/
structure ShutAt (i : Inst) (n : Nat) : Prop where
  sup : gt i.supply (n : Int) = 0
  low : ∀ k ∈ nearL i n, (arcAt i.arcs k).low = 0
theorem shutAt_of {i : Inst} (hw : Whole i) {n : Nat} (h : shutB i n = true) : ShutAt i n := by
  unfold shutB at h
  simp only [Bool.and_eq_true, decide_eq_true_eq, List.all_eq_true] at h
  refine ⟨h.1.1.2, fun k hk => ?_⟩
  obtain ⟨h1, h2⟩ := nearL_mem.1 hk
  exact h.1.2 (k : Int) ((someL_mem i n true true k).2 ⟨k, h1, (pick_iff hw h1).2 (by simpa using h2), rfl⟩)
theorem leaf_shut_eq {i : Inst} (hl : i.arcs.length ≤ lim) {n : Nat} (hn : n < i.supply.length) : leaf_shut i i n = some (shutB i n) := by
  have hat : ∀ m : Int, adj_Graph_At i m = some (someL i m true true) := fun m => if_pos hl
  have hout : ∀ m : Int, adj_Graph_Out i m = some (someL i m true false) := fun m => if_pos hl
  have hin : ∀ m : Int, adj_Graph_In i m = some (someL i m false true) := fun m => if_pos hl
  have hlo : ∀ m : Int, adj_Graph_Loops i m = some (loopsOf i m) := fun m => if_pos hl
  unfold leaf_shut shutB
  rw [hat, Option.bind_some, hlo]
  by_cases h1 : ((someL i n true true).length : Int) = 0
  · rw [if_pos h1, decide_eq_false (fun h => h (by omega))]; rfl
  · rw [if_neg h1, decide_eq_true (show ¬ (someL i n true true).length = 0 by omega), Option.bind_some]
    by_cases h2 : 0 < loopsOf i n
    · rw [if_pos h2, decide_eq_false (fun h => h h2)]; rfl
    · rw [if_neg h2, decide_eq_true h2, if_pos (rng_of hn)]
      by_cases h3 : gt i.supply (n : Int) = 0
      · rw [if_neg (fun h => h h3), decide_eq_true h3]
        have hlen : (someL i n true true).length ≤ i.arcs.length := by
          unfold someL someTo
          rw [List.length_map]
          have := List.length_filter_le (pickB i n true true) (List.range i.arcs.length)
          simpa using this
        simp only [lim] at hl
        rw [lp_find (s0 := (0 : Int)) (fun j => (j : Int)) (someL i n true true).length (fun j => if (gt i.arcs (gt (someL i n true true) (j : Int))).low = 0 then none else some (some false)) (fin := some (decide ((someL i n true false).length = 0) || decide ((someL i n false true).length = 0))) rfl (by omega)]
        · rw [findSome_range (someL i n true true) (fun a => if (gt i.arcs a).low = 0 then none else some (some false))]
          cases hs : (someL i n true true).findSome? (fun a => if (gt i.arcs a).low = 0 then none else some (some false)) with
          | none =>
            have : ((someL i n true true).all fun a => decide ((gt i.arcs a).low = 0)) = true := List.all_eq_true.2 fun a ha => by
              have := List.findSome?_eq_none_iff.1 hs a ha
              split at this
              · rename_i h; simpa using h
              · cases this
            rw [this]; rfl
          | some r =>
            obtain ⟨a, ha, h4⟩ := List.exists_of_findSome?_eq_some hs
            split at h4
            · cases h4
            · rename_i h5
              cases h4
              have : ((someL i n true true).all fun a => decide ((gt i.arcs a).low = 0)) = false := List.all_eq_false.2 ⟨a, ha, by simpa using h5⟩
              rw [this]; rfl
        · intro k j hj
          have hr := someL_rng (List.getElem_mem hj)
          unfold leaf_shut_b1
          rw [if_pos (rng_of hj).2, if_pos (rng_of hj), gt_get hj, if_pos hr]
          by_cases h4 : (gt i.arcs ((someL i n true true)[j])).low = 0
          · rw [if_neg (fun h => h h4), if_pos h4, w64_succ (by omega)]
          · rw [if_pos h4, if_neg h4]
        · intro k
          unfold leaf_shut_b1
          rw [if_neg (by omega), hout, Option.bind_some]
          by_cases h5 : ((someL i n true false).length : Int) = 0
          · rw [if_pos h5, decide_eq_true (show (someL i n true false).length = 0 by omega)]; rfl
          · rw [if_neg h5, hin, Option.bind_some, decide_eq_false (show ¬ (someL i n true false).length = 0 by omega)]
            simp
      · rw [if_pos h3, decide_eq_false h3]; rfl
theorem leaf_Shut_eq {i : Inst} (h1 : i.supply.length ≤ lim) (h2 : i.arcs.length ≤ lim) {n : Nat} (hn : n < i.supply.length) : leaf_Shut i n = some (shutB i n) := by
  unfold leaf_Shut
  rw [show adj_New i = some i from if_pos ⟨h1, h2⟩, Option.bind_some, leaf_shut_eq h2 hn, Option.bind_some]
theorem leaf_without_eq {S : List Int} {i : Inst} (hS : S.length = i.supply.length) (h1 : i.supply.length ≤ 64) (h2 : i.arcs.length ≤ 256) {n : Nat} (hn : n < i.supply.length) (pass : Int) (was : Inst) (off : Wide) :
    leaf_without pass was ⟨S, i.arcs⟩ n off = some (if rightOf (outOf S i n) = 0 then (⟨outOf S i n, ⟨pass, was⟩, off, true⟩, none) else (stepNo, some 40)) := by
  unfold leaf_without
  dsimp only
  rw [hS, if_pos ⟨by omega, by simp only [lim]; omega⟩, if_pos ⟨by omega, by simp; omega⟩]
  simp only [lt_eq]
  have e : upd (List.replicate (i.supply.length : Int).toNat false) (n : Int) true = offOf i n := by
    unfold offOf; rw [upd_nat, Int.toNat_natCast]
  rw [e, inst_Without_eq (by dsimp only; omega) (by dsimp only; omega) (by simp only [offOf, List.length_set, List.length_replicate, lim]; omega) (by simp), Option.bind_some]
  rw [inst_Right_eq, Option.bind_some]
  show (if ¬ rightOf (outOf S i n) = 0 then _ else _) = _
  by_cases h : rightOf (outOf S i n) = 0
  · rw [if_neg (fun h' => h' h), if_pos h]; rfl
  · rw [if_pos h, if_neg h]; rfl
end Go.Proofs.YtbnjeanldechnaaDoor
namespace Go.Proofs.YtbnjeanldechnaaDoor
open Go.RowKit Go.Qe
theorem near_some {i : Inst} (hw : Whole i) (n : Nat) : someL i n true true = (nearL i n).map fun k : Nat => (k : Int) := by
  have e : (List.range i.arcs.length).filter (pickB i n true true) = nearL i n := List.filter_congr fun k hk => by
    have h1 := pick_iff hw (n := (n : Int)) (o := true) (e := true) (List.mem_range.1 hk)
    by_cases ht : (arcAt i.arcs k).src = n ∨ (arcAt i.arcs k).dst = n
    · rw [touch_t ht, h1.2 (by simpa using ht)]
    · rw [touch_f ht]
      cases hp : pickB i n true true k with
      | false => rfl
      | true => exact absurd (by simpa using h1.1 hp) ht
  rw [← e]; rfl
def noTip : Tip × Bool := (⟨0, 0⟩, false)
def tipM (i : Inst) (n : Nat) (a : Int) : Int := if (gt i.arcs a).dst = n then w64 (0 - gt i.supply (n : Int)) else gt i.supply (n : Int)
def tipB (i : Inst) (n : Nat) : Tip × Bool :=
  match someL i n true true with
  | [a] => if 0 < loopsOf i n then noTip else if tipM i n a < (gt i.arcs a).low then noTip else if (gt i.arcs a).cap < tipM i n a then noTip else (⟨a, tipM i n a⟩, true)
  | _ => noTip
/-- a leaf, its arc, what flows along it -/
structure TipAt (i : Inst) (n a : Nat) (m : Int) : Prop where
  ha : a < i.arcs.length
  near : nearL i n = [a]
  noloop : ¬ ((arcAt i.arcs a).src = n ∧ (arcAt i.arcs a).dst = n)
  touch : (arcAt i.arcs a).src = n ∨ (arcAt i.arcs a).dst = n
  is : m = if (arcAt i.arcs a).dst = n then -gt i.supply (n : Int) else gt i.supply (n : Int)
  low : (arcAt i.arcs a).low ≤ m
  cap : m ≤ (arcAt i.arcs a).cap
theorem tipAt_of {i : Inst} (hR : RightI i) {n : Nat} (hn : n < i.supply.length) (h : (tipB i n).2 = true) : ∃ a m, tipB i n = (⟨(a : Nat), m⟩, true) ∧ TipAt i n a m := by
  have hw := hR.whole
  unfold tipB at h ⊢
  split at h
  · rename_i u hu
    split at h
    · cases h
    rename_i h0
    split at h
    · cases h
    rename_i h1
    split at h
    · cases h
    rename_i h2
    have hne := near_some hw n
    rw [hu] at hne
    obtain ⟨a, hna, hau⟩ : ∃ a, nearL i n = [a] ∧ u = (a : Int) := by
      rcases hl : nearL i n with _ | ⟨a, _ | ⟨b, l⟩⟩
      · rw [hl] at hne; simp at hne
      · rw [hl] at hne; exact ⟨a, rfl, by simpa using hne⟩
      · rw [hl] at hne; simp at hne
    subst hau
    have hm := nearL_mem.1 (show a ∈ nearL i n by rw [hna]; simp)
    have hs := hR.sup _ (gt_mem hn)
    have hl2 := noLoop hw h0 hm.1
    rw [if_neg h0, if_neg h1, if_neg h2]
    refine ⟨a, _, rfl, hm.1, hna, hl2, hm.2, ?_, by rw [gt_arc] at h1; omega, by rw [gt_arc] at h2; omega⟩
    unfold tipM
    rw [gt_arc, w64_id (by omega) (by omega)]
    split <;> omega
  · cases h
theorem tip_rng {i : Inst} (hR : RightI i) {n a : Nat} {m : Int} (hn : n < i.supply.length) (h : TipAt i n a m) : -4398046511104 ≤ m ∧ m ≤ 4398046511104 := by
  have hs := hR.sup _ (gt_mem hn)
  rw [h.is]
  split <;> omega
theorem leaf_tipOf_eq {i : Inst} (hl : i.arcs.length ≤ lim) {n : Nat} (hn : n < i.supply.length) : leaf_tipOf i i n = some (tipB i n) := by
  have hat : adj_Graph_At i n = some (someL i n true true) := if_pos hl
  have hlo : adj_Graph_Loops i n = some (loopsOf i n) := if_pos hl
  unfold leaf_tipOf tipB
  rw [hat, Option.bind_some, hlo]
  rcases hu : someL i n true true with _ | ⟨u, _ | ⟨v, l⟩⟩
  · rfl
  · have hr := someL_rng (i := i) (n := n) (o := true) (e := true) (a := u) (by rw [hu]; simp)
    have g0 : gt [u] 0 = u := rfl
    rw [if_neg (by simp), Option.bind_some]
    dsimp only
    by_cases h0 : 0 < loopsOf i n
    · rw [if_pos h0, if_pos h0]; rfl
    · rw [if_neg h0, if_neg h0, if_pos (by simp), g0, if_pos hr, if_pos (rng_of hn)]
      unfold tipM
      by_cases h1 : (gt i.arcs u).dst = n
      · simp only [h1, if_true]; repeat' split
        all_goals rfl
      · simp only [h1, if_false]; repeat' split
        all_goals rfl
  · rw [if_pos (by simp only [List.length_cons]; omega)]; rfl
theorem leaf_Tip_eq {i : Inst} (h1 : i.supply.length ≤ lim) (h2 : i.arcs.length ≤ lim) {n : Nat} (hn : n < i.supply.length) : leaf_Tip i n = some ((tipB i n).1.a, (tipB i n).1.n, (tipB i n).2) := by
  unfold leaf_Tip
  rw [show adj_New i = some i from if_pos ⟨h1, h2⟩, Option.bind_some, leaf_tipOf_eq h2 hn, Option.bind_some]
/-- supplies, what flows along an arc taken from them -/
def tipSup (i : Inst) (a : Nat) (m : Int) : List Int := upd (upd i.supply (arcAt i.arcs a).src (w64 (gt i.supply (arcAt i.arcs a).src - m))) (arcAt i.arcs a).dst (w64 (gt (upd i.supply (arcAt i.arcs a).src (w64 (gt i.supply (arcAt i.arcs a).src - m))) (arcAt i.arcs a).dst + m))
theorem tipSup_len (i : Inst) (a : Nat) (m : Int) : (tipSup i a m).length = i.supply.length := by simp [tipSup, upd_len]
structure SupOk (i : Inst) (n a : Nat) (m : Int) : Prop where
  node : gt (tipSup i a m) (n : Int) = 0
  sum : (tipSup i a m).sum = 0
  far : ∀ k : Nat, k < i.supply.length → k ≠ n → gt (tipSup i a m) (k : Int) = gt i.supply (k : Int) - oneP (arcAt i.arcs a, m) k
theorem tipSup_ok {i : Inst} (hR : RightI i) {n a : Nat} {m : Int} (hn : n < i.supply.length) (h : TipAt i n a m) : SupOk i n a m := by
  have hA := hR.arcs _ (arcAt_mem h.ha)
  have hm := tip_rng hR hn h
  have hsn := hR.sup _ (gt_mem hn)
  have his := h.is
  have hss := hR.sup _ (gt_in (xs := i.supply) ⟨hA.s0, hA.s1⟩)
  have hds := hR.sup _ (gt_in (xs := i.supply) ⟨hA.d0, hA.d1⟩)
  have hne : ¬ (arcAt i.arcs a).src = (arcAt i.arcs a).dst := fun e => h.noloop (by rcases h.touch with t | t; exact ⟨t, e ▸ t⟩; exact ⟨e ▸ t, t⟩)
  have hsum := hR.sum
  have ht := h.touch
  have hnl := h.noloop
  have hT : tipSup i a m = upd (upd i.supply (arcAt i.arcs a).src (gt i.supply (arcAt i.arcs a).src - m)) (arcAt i.arcs a).dst (gt i.supply (arcAt i.arcs a).dst + m) := by
    unfold tipSup
    rw [w64_id (x := gt i.supply (arcAt i.arcs a).src - m) (by omega) (by omega), gt_upd_ne hne hA.s0 hA.d0, w64_id (by omega) (by omega)]
  have hs0 := hA.s0
  have hs1 := hA.s1
  have hd0 := hA.d0
  have hd1 := hA.d1
  clear hA
  refine ⟨?_, ?_, fun k hk hkn => ?_⟩ <;> rw [hT] <;> clear hT
  · generalize arcAt i.arcs a = x at *
    rcases ht with t | t
    · have td : ¬ x.dst = n := fun e => hnl ⟨t, e⟩
      rw [if_neg td] at his
      rw [gt_upd_ne td hd0 (by omega), t, gt_upd (by omega)]; omega
    · rw [if_pos t] at his
      rw [t, gt_upd (by rw [upd_len]; omega)]; omega
  · rw [sum_upd (by rw [upd_len]; omega), sum_upd (by omega), gt_upd_ne hne hs0 hd0]; omega
  · generalize arcAt i.arcs a = x at *
    unfold oneP
    dsimp only
    by_cases e1 : x.dst = k
    · have e2 : ¬ x.src = k := fun e => hne (e.trans e1.symm)
      rw [if_neg e2, if_pos e1, e1, gt_upd (by rw [upd_len]; omega)]; omega
    · rw [gt_upd_ne e1 hd0 (by omega)]
      by_cases e2 : x.src = k
      · rw [if_pos e2, if_neg e1, e2, gt_upd (by omega)]; omega
      · rw [if_neg e2, if_neg e1, gt_upd_ne e2 hs0 (by omega)]; omega
def leafOf (i : Inst) : Step × Int :=
  if ¬ rightOf i = 0 then (stepNo, rightOf i) else match (List.range i.supply.length).find? (fun n => (tipB i n).2) with
    | some n => outStep 6 i (outOf (tipSup i (tipB i n).1.a.toNat (tipB i n).1.n) i n) (mkW ((tipB i n).1.n * (arcAt i.arcs (tipB i n).1.a.toNat).cost))
    | none => (stepAs i, 0)
theorem leafOf_wrong {i : Inst} (h : ¬ rightOf i = 0) : leafOf i = (stepNo, rightOf i) := by unfold leafOf; rw [if_pos h]
theorem leafOf_none {i : Inst} (h : rightOf i = 0) (hs : (List.range i.supply.length).find? (fun n => (tipB i n).2) = none) : leafOf i = (⟨i, ⟨0, ⟨[], []⟩⟩, ⟨0, 0⟩, false⟩, 0) := by
  unfold leafOf
  rw [if_neg (fun h' => h' h), hs]
  rfl
theorem leafOf_some {i : Inst} (h : rightOf i = 0) {n a : Nat} {m : Int} (hs : (List.range i.supply.length).find? (fun n => (tipB i n).2) = some n) (ht : tipB i n = (⟨(a : Nat), m⟩, true)) : leafOf i = outStep 6 i (outOf (tipSup i a m) i n) (mkW (m * (arcAt i.arcs a).cost)) := by
  unfold leafOf
  rw [if_neg (fun h' => h' h), hs]
  dsimp only
  rw [ht]
  dsimp only
  rw [Int.toNat_natCast]
theorem leaf_Leaf_eq (i : Inst) : leaf_Leaf i = some (leafOf i) := by
  have hrun : ∀ X : Option (Step × Int), X = some (leafOf i) → (X.bind fun r1 => (some ((Step.mk (Inst.mk r1.1.inst.supply r1.1.inst.arcs) (Rec.mk r1.1.rcd.pass (Inst.mk r1.1.rcd.was.supply r1.1.rcd.was.arcs)) r1.1.off r1.1.did), r1.2))) = some (leafOf i) := fun X h => by rw [h]; rfl
  unfold leaf_Leaf
  refine hrun _ ?_
  first | unfold leaf_run_2 | unfold leaf_run_1
  rw [inst_Right_eq, Option.bind_some]
  by_cases h0 : rightOf i = 0
  · have hR := rightOf_zero.1 h0
    have hnodes := hR.nodes
    have hmany := hR.many
    have l1 : i.supply.length ≤ lim := by simp only [lim]; omega
    have l2 : i.arcs.length ≤ lim := by simp only [lim]; omega
    rw [if_neg (fun h => h h0)]
    have hf : leaf_first_leaf_tip_1 (i.supply.length : Int) i i = some (match (List.range i.supply.length).find? (fun n => (tipB i n).2) with | some n => ((n : Int), (tipB i n).1, true) | none => (0, ⟨0, 0⟩, false)) := by
      unfold leaf_first_leaf_tip_1
      rw [lp_find (s0 := (0 : Int)) (fun j => (j : Int)) i.supply.length (fun j => if (tipB i j).2 = true then some (some ((j : Int), (tipB i j).1, true)) else none) (fin := some (0, ⟨0, 0⟩, false)) rfl (by omega), find_some (p := fun n => (tipB i n).2)]
      · cases (List.range i.supply.length).find? (fun n => (tipB i n).2) <;> rfl
      · intro k j hj
        unfold leaf_first_leaf_tip_1_b1 leaf_leaf_1_1
        rw [if_pos (rng_of hj).2, leaf_tipOf_eq l2 hj, Option.bind_some, Option.bind_some]
        dsimp only
        by_cases h : (tipB i j).2 = true
        · rw [if_pos h, if_pos h]
        · rw [if_neg h, if_neg h, w64_succ (by omega)]
      · intro k
        unfold leaf_first_leaf_tip_1_b1
        rw [if_neg (by omega)]
    unfold leaf_leaf
    rw [show adj_New i = some i from if_pos ⟨l1, l2⟩, Option.bind_some]
    cases hs : (List.range i.supply.length).find? (fun n => (tipB i n).2) with
    | none =>
      rw [hs] at hf
      dsimp only at hf
      rw [hf, Option.bind_some, leafOf_none h0 hs]
      dsimp only
      rw [if_neg (by simp), inst_Copy_eq l1 l2, Option.bind_some, Option.bind_some]
      rfl
    | some n =>
      have hn := List.mem_range.1 (List.mem_of_find?_eq_some hs)
      obtain ⟨a, m, htb, hT⟩ := tipAt_of hR hn (List.find?_some (p := fun n => (tipB i n).2) hs)
      have hA := hR.arcs _ (arcAt_mem hT.ha)
      have hm := tip_rng hR hn hT
      have hc0 := hA.c0
      have hc1 := hA.c1
      rw [hs] at hf
      dsimp only at hf
      rw [htb] at hf
      dsimp only at hf
      rw [hf, Option.bind_some, leafOf_some h0 hs htb]
      dsimp only
      rw [if_pos rfl, inst_Copy_eq l1 l2, Option.bind_some, if_pos (rng_of hT.ha), gt_arc, if_pos ⟨hA.s0, hA.s1⟩]
      simp only [lt_eq, upd_len]
      rw [if_pos ⟨hA.d0, hA.d1⟩, Option.bind_some, num_Times_eq (by omega) (by omega), Option.bind_some]
      have hw := leaf_without_eq (S := tipSup i a m) (i := i) (tipSup_len i a m) hnodes hmany hn 6 i (mkW (m * (arcAt i.arcs a).cost))
      have e : (⟨upd (upd i.supply (arcAt i.arcs a).src (w64 (gt i.supply (arcAt i.arcs a).src - m))) (arcAt i.arcs a).dst (w64 (gt (upd i.supply (arcAt i.arcs a).src (w64 (gt i.supply (arcAt i.arcs a).src - m))) (arcAt i.arcs a).dst + m)), i.arcs⟩ : Inst) = ⟨tipSup i a m, i.arcs⟩ := rfl
      rw [e, hw, Option.bind_some]
      unfold outStep
      by_cases h : rightOf (outOf (tipSup i a m) i n) = 0
      · rw [if_pos h, if_pos h]; rfl
      · rw [if_neg h, if_neg h]; rfl
  · rw [if_pos h0, leafOf_wrong h0]; rfl
theorem known_t : law17_known = some true := by kernel_rfl
end Go.Proofs.YtbnjeanldechnaaDoor
namespace Go.Proofs.YtbnjeanldechnaaDoor
open Go.RowKit Go.Qe
/-- no side is cut off -/
def Conn (N : Nat) (arcs : List Arc) : Prop := ∀ (side : Nat → Bool) (u v : Nat), u < N → v < N → side u = true → side v = false → ∃ a ∈ arcs, side a.src.toNat ≠ side a.dst.toNat
structure TreeI (N : Nat) (i : Inst) (x : List Int) : Prop where
  n0 : 1 ≤ N
  n1 : N ≤ 10
  sup : i.supply.length = N
  arcs : i.arcs.length + 1 = N
  arc : ∀ a ∈ i.arcs, (0 ≤ a.src ∧ a.src < N ∧ 0 ≤ a.dst ∧ a.dst < N) ∧ a.low = 0 ∧ a.cap = 9 ∧ 0 ≤ a.cost ∧ a.cost ≤ 10
  len : x.length = i.arcs.length
  flow : ∀ v ∈ x, 0 ≤ v ∧ v ≤ 9
  net : ∀ n : Nat, n < N → netP (i.arcs.zip x) n = gt i.supply n
  sum : i.supply.sum = 0
  conn : Conn N i.arcs
theorem netP_small : ∀ {ps : List (Arc × Int)} {n : Int}, (∀ p ∈ ps, 0 ≤ p.2 ∧ p.2 ≤ 9) → -(9 * (ps.length : Int)) ≤ netP ps n ∧ netP ps n ≤ 9 * (ps.length : Int)
  | [], n, _ => by simp [netP_nil]
  | p :: ps, n, h => by
    have h1 := h p List.mem_cons_self
    have h2 := netP_small (n := n) fun q hq => h q (List.mem_cons_of_mem _ hq)
    rw [netP_cons]
    have e : ((p :: ps).length : Int) = (ps.length : Int) + 1 := by simp
    rw [e]
    unfold oneP
    split <;> split <;> omega
theorem TreeI.right {N : Nat} {i : Inst} {x : List Int} (h : TreeI N i x) : RightI i := by
  have h1 := h.n1
  have h2 := h.sup
  have h3 := h.arcs
  refine ⟨by omega, by omega, fun a ha => ?_, fun s hs => ?_, h.sum⟩
  · obtain ⟨⟨g1, g2, g3, g4⟩, g5, g6, g7, g8⟩ := h.arc a ha
    exact ⟨g1, by omega, g3, by omega, by omega, by omega, by omega, by omega, by omega⟩
  · obtain ⟨k, hk, rfl⟩ := List.getElem_of_mem hs
    have e := h.net k (by omega)
    rw [gt_get hk] at e
    have := netP_small (ps := i.arcs.zip x) (n := (k : Int)) (zip_snd h.flow)
    have hl : (i.arcs.zip x).length ≤ 10 := by simp; omega
    omega
theorem two_ends (a b : Int) : ∀ N : Nat, ((List.range N).map fun n : Nat => if a = n ∨ b = n then 1 else 0).sum ≤ (if a < N then 1 else 0) + (if b < N then 1 else 0)
  | 0 => by simp
  | N + 1 => by
    have ih := two_ends a b N
    rw [List.range_succ, List.map_append, List.sum_append]
    simp only [List.map_cons, List.map_nil, List.sum_cons, List.sum_nil]
    have e : ∀ z : Int, (if z < ((N + 1 : Nat) : Int) then 1 else 0 : Nat) = (if z < (N : Int) then 1 else 0) + (if z = (N : Int) then 1 else 0) := fun z => by split <;> split <;> split <;> omega
    have e2 : (if a = (N : Int) ∨ b = (N : Int) then 1 else 0 : Nat) ≤ (if a = (N : Int) then 1 else 0) + (if b = (N : Int) then 1 else 0) := by split <;> split <;> split <;> omega
    rw [e a, e b]
    omega
theorem sum_add (f g : Nat → Nat) (l : List Nat) : (l.map fun n => f n + g n).sum = (l.map f).sum + (l.map g).sum := by
  induction l with
  | nil => rfl
  | cons a l ih => simp only [List.map_cons, List.sum_cons, ih]; omega
theorem deg_sum (i : Inst) (N : Nat) : ∀ j, ((List.range N).map fun n => ((List.range j).filter (touchB i n)).length).sum ≤ 2 * j
  | 0 => by
    have : ∀ l : List Nat, (l.map fun n => ((List.range 0).filter (touchB i n)).length).sum = 0 := fun l => by induction l with
      | nil => rfl
      | cons a l ih => rw [List.map_cons, List.sum_cons, ih]; rfl
    rw [this]; omega
  | j + 1 => by
    have ih := deg_sum i N j
    have e : ∀ n, ((List.range (j + 1)).filter (touchB i n)).length = ((List.range j).filter (touchB i n)).length + (if (arcAt i.arcs j).src = n ∨ (arcAt i.arcs j).dst = n then 1 else 0) := fun n => by
      rw [List.range_succ, List.filter_append, List.length_append]
      congr 1
      by_cases h : (arcAt i.arcs j).src = n ∨ (arcAt i.arcs j).dst = n
      · rw [if_pos h, List.filter_cons_of_pos (touch_t h)]; rfl
      · rw [if_neg h, List.filter_cons_of_neg (by rw [touch_f h]; decide)]; rfl
    simp only [e]
    rw [sum_add]
    have := two_ends (arcAt i.arcs j).src (arcAt i.arcs j).dst N
    have h1 : (if (arcAt i.arcs j).src < (N : Int) then 1 else 0) ≤ 1 := by split <;> omega
    have h2 : (if (arcAt i.arcs j).dst < (N : Int) then 1 else 0) ≤ 1 := by split <;> omega
    omega
theorem all_two (f : Nat → Nat) : ∀ N, (∀ n, n < N → 2 ≤ f n) → 2 * N ≤ ((List.range N).map f).sum
  | 0, _ => by simp
  | N + 1, h => by
    have ih := all_two f N fun n hn => h n (by omega)
    rw [List.range_succ, List.map_append, List.sum_append]
    simp only [List.map_cons, List.map_nil, List.sum_cons, List.sum_nil]
    have := h N (by omega)
    omega
theorem mem_arcAt {i : Inst} {a : Arc} (h : a ∈ i.arcs) : ∃ k, k < i.arcs.length ∧ arcAt i.arcs k = a := by
  obtain ⟨k, hk, rfl⟩ := List.getElem_of_mem h
  exact ⟨k, hk, arcAt_eq hk⟩
/-- what flows along a node's only arc -/
theorem net_one {i : Inst} {n a : Nat} {x : List Int} (hl : x.length = i.arcs.length) (hn : nearL i n = [a]) : netP (i.arcs.zip x) n = oneP (arcAt i.arcs a, gt x (a : Int)) n := by
  rw [zip_pairs hl]
  unfold netP
  rw [List.map_map, sum_part (touchB i n)]
  have e4 : ((List.range i.arcs.length).filter fun k => !touchB i n k).map ((fun p => oneP p (n : Int)) ∘ pairAt i x) = (farL i n).map ((fun p => oneP p (n : Int)) ∘ pairAt i x) := rfl
  have e5 : ((List.range i.arcs.length).filter (touchB i n)).map ((fun p => oneP p (n : Int)) ∘ pairAt i x) = (nearL i n).map fun j => oneP (pairAt i x j) (n : Int) := rfl
  rw [e4, e5, hn, sum_zero' _ fun k hk => by
    have := (farL_mem.1 hk).2
    show oneP (pairAt i x k) (n : Int) = 0
    unfold oneP pairAt
    dsimp only
    rw [if_neg (fun h => this (.inl h)), if_neg (fun h => this (.inr h))]; rfl]
  simp only [List.map_cons, List.map_nil, List.sum_cons, List.sum_nil, pairAt]
  omega
theorem TreeI.leaf {N : Nat} {i : Inst} {x : List Int} (h : TreeI N i x) (h2 : 2 ≤ N) : ∃ n, n < N ∧ (tipB i n).2 = true := by
  have hR := h.right
  have hw := hR.whole
  have hsl := h.sup
  have hal := h.arcs
  obtain ⟨n, hn, hd⟩ : ∃ n, n < N ∧ (nearL i n).length ≤ 1 := by
    apply Classical.byContradiction
    intro hc
    have := all_two (fun n => ((List.range i.arcs.length).filter (touchB i n)).length) N fun n hn => by
      apply Classical.byContradiction
      intro h3
      exact hc ⟨n, hn, by show ((List.range i.arcs.length).filter (touchB i n)).length ≤ 1; omega⟩
    have := deg_sum i N i.arcs.length
    omega
  refine ⟨n, hn, ?_⟩
  obtain ⟨b, hb, hcross⟩ := h.conn (fun m => decide (m = n)) n (if n = 0 then 1 else 0) hn (by split <;> omega) (by simp) (by split <;> simp <;> omega)
  obtain ⟨k, hk, rfl⟩ := mem_arcAt hb
  have hwk := wholeB_iff.1 (hw.at_ hk)
  have htk : (arcAt i.arcs k).src = n ∨ (arcAt i.arcs k).dst = n := by
    apply Classical.byContradiction
    intro hc
    refine hcross ?_
    rw [decide_eq_false (show ¬ (arcAt i.arcs k).src.toNat = n by omega), decide_eq_false (show ¬ (arcAt i.arcs k).dst.toNat = n by omega)]
  have hnb : ¬ ((arcAt i.arcs k).src = n ∧ (arcAt i.arcs k).dst = n) := fun hc => hcross (by rw [hc.1, hc.2])
  have hkn : k ∈ nearL i n := nearL_mem.2 ⟨hk, htk⟩
  have hnear : nearL i n = [k] := by
    rcases hl : nearL i n with _ | ⟨a, _ | ⟨c, l⟩⟩
    · rw [hl] at hkn; cases hkn
    · rw [hl] at hkn; simp only [List.mem_singleton] at hkn; rw [hkn]
    · rw [hl] at hd; simp only [List.length_cons] at hd; omega
  have hsome : someL i n true true = [(k : Int)] := by rw [near_some hw, hnear]; rfl
  have hlo : ¬ 0 < loopsOf i n := by
    rw [loopsOf_eq]
    have : ((List.range i.arcs.length).filter fun k => pickB i n true false k && pickB i n false true k) = [] := by
      rw [List.filter_eq_nil_iff]
      intro j hj hp
      have hjl := List.mem_range.1 hj
      simp only [Bool.and_eq_true] at hp
      have p1 : (arcAt i.arcs j).src = n := by simpa using (pick_iff hw hjl).1 hp.1
      have p2 : (arcAt i.arcs j).dst = n := by simpa using (pick_iff hw hjl).1 hp.2
      have hjn : j ∈ nearL i n := nearL_mem.2 ⟨hjl, .inl p1⟩
      rw [hnear] at hjn
      simp only [List.mem_singleton] at hjn
      subst hjn
      exact hnb ⟨p1, p2⟩
    rw [this]; simp
  have hnet := h.net n hn
  rw [net_one h.len hnear] at hnet
  have hxk := h.flow _ (gt_mem (show k < x.length by have := h.len; omega))
  have harc := h.arc _ (arcAt_mem hk)
  have htm : tipM i n (k : Int) = gt x (k : Int) := by
    unfold tipM
    rw [gt_arc]
    unfold oneP at hnet
    dsimp only at hnet
    by_cases t : (arcAt i.arcs k).dst = n
    · rw [if_neg (fun e => hnb ⟨e, t⟩), if_pos t] at hnet
      rw [if_pos t, w64_id (by omega) (by omega)]; omega
    · rw [if_neg t, if_pos (by rcases htk with e | e; exact e; exact absurd e t)] at hnet
      rw [if_neg t]; omega
  unfold tipB
  rw [hsome]
  dsimp only
  rw [if_neg hlo, htm, gt_arc, if_neg (by omega), if_neg (by omega)]
theorem far_tip {i : Inst} {n a : Nat} {m : Int} (h : TipAt i n a m) : (farL i n).length + 1 = i.arcs.length ∧ ∀ k, k < i.arcs.length → k ≠ a → k ∈ farL i n := by
  refine ⟨?_, fun k hk hka => farL_mem.2 ⟨hk, fun ht => ?_⟩⟩
  · have e : (farL i n).length + (nearL i n).length = (List.range i.arcs.length).length := by
      unfold farL nearL
      rw [← List.countP_eq_length_filter, ← List.countP_eq_length_filter]
      have := List.length_eq_countP_add_countP (touchB i n) (l := List.range i.arcs.length)
      have e2 : (List.range i.arcs.length).countP (fun k => !touchB i n k) = (List.range i.arcs.length).countP fun a => decide ¬ touchB i n a = true := List.countP_congr fun k _ => by simp
      omega
    rw [h.near] at e
    simpa using e
  · have : k ∈ nearL i n := nearL_mem.2 ⟨hk, ht⟩
    rw [h.near] at this
    exact hka (by simpa using this)
theorem TreeI.step {N : Nat} {i : Inst} {x : List Int} (h : TreeI N i x) (h2 : 2 ≤ N) {n a : Nat} {m : Int} (hn : n < N) (ht : TipAt i n a m) : TreeI (N - 1) (outOf (tipSup i a m) i n) ((farL i n).map fun k : Nat => gt x (k : Int)) := by
  have hR := h.right
  have hw := hR.whole
  have hsl := h.sup
  have hal := h.arcs
  have hxl := h.len
  have hn' : n < i.supply.length := by omega
  have hSl := tipSup_len i a m
  have hSo := tipSup_ok hR hn' ht
  have hoa := out_arcs (S := tipSup i a m) hw hn' hSl
  have hol := out_len (S := tipSup i a m) hn' hSl
  have hft := far_tip ht
  have hkl := @kept_len i n hn'
  have hk := @kept_mem i n hn'
  have hnd : (keptK i n).Nodup := keptL_nodup (offOf i n) i.supply.length
  have hmx : m = gt x (a : Int) := by
    have hnet := h.net n hn
    rw [net_one hxl ht.near] at hnet
    have his := ht.is
    have htt := ht.touch
    have hnl := ht.noloop
    unfold oneP at hnet
    dsimp only at hnet
    by_cases t : (arcAt i.arcs a).dst = n
    · rw [if_neg (fun e => hnl ⟨e, t⟩), if_pos t] at hnet
      rw [if_pos t] at his; omega
    · rw [if_neg t, if_pos (by rcases htt with e | e; exact e; exact absurd e t)] at hnet
      rw [if_neg t] at his; omega
  have hin : ∀ {j : Int}, j ∈ keptK i n → 0 ≤ idx (keptK i n) j ∧ idx (keptK i n) j < ((N - 1 : Nat) : Int) := fun hj => by
    have := idx_mem hj; omega
  refine ⟨by omega, by have := h.n1; omega, by rw [hol]; omega, by rw [hoa, List.length_map]; omega, fun b hb => ?_, by rw [hoa]; simp, fun v hv => ?_, fun k hk1 => ?_, ?_, ?_⟩
  · rw [hoa] at hb
    obtain ⟨k, hk1, rfl⟩ := List.mem_map.1 hb
    obtain ⟨hk2, hno⟩ := farL_mem.1 hk1
    have hA := h.arc _ (arcAt_mem hk2)
    have g1 := hin (hk.2 ⟨hA.1.1, by omega, fun e => hno (.inl e)⟩)
    have g2 := hin (hk.2 ⟨hA.1.2.2.1, by omega, fun e => hno (.inr e)⟩)
    exact ⟨⟨g1.1, g1.2, g2.1, g2.2⟩, hA.2⟩
  · obtain ⟨k, hk1, rfl⟩ := List.mem_map.1 hv
    exact h.flow _ (gt_mem (by have := (farL_mem.1 hk1).1; omega))
  · have hkK : k < (keptK i n).length := by omega
    have hm := List.getElem_mem hkK
    have hi := idx_at hnd hkK
    rw [out_gt hSl hkK, ← hi, net_out hw hn' hSl hxl hm, ht.near]
    have hm' := hk.1 hm
    generalize (keptK i n)[k] = q at *
    obtain ⟨mm, rfl⟩ := Int.eq_ofNat_of_zero_le hm'.1
    rw [h.net mm (by omega), hSo.far mm (by omega) (by omega), hmx]
    simp only [List.map_cons, List.map_nil, List.sum_cons, List.sum_nil, pairAt]
    omega
  · have hnS : n < (tipSup i a m).length := by omega
    rw [out_sup hn' hSl, sum_one hnS, hSo.sum]
    have := hSo.node
    rw [gt_get hnS] at this
    omega
  · intro side u v hu hv hsu hsv
    have hA := h.arc _ (arcAt_mem ht.ha)
    obtain ⟨f, hf0, hf1, hfn, hfe⟩ : ∃ f : Nat, f < N ∧ f ≠ n ∧ (f : Int) ∈ keptK i n ∧ (((arcAt i.arcs a).src = n ∧ (arcAt i.arcs a).dst = f) ∨ ((arcAt i.arcs a).src = f ∧ (arcAt i.arcs a).dst = n)) := by
      have hnl := ht.noloop
      rcases ht.touch with t | t
      · have td : ¬ (arcAt i.arcs a).dst = n := fun e => hnl ⟨t, e⟩
        exact ⟨(arcAt i.arcs a).dst.toNat, by omega, by omega, hk.2 ⟨by omega, by omega, by omega⟩, .inl ⟨t, by omega⟩⟩
      · have td : ¬ (arcAt i.arcs a).src = n := fun e => hnl ⟨e, t⟩
        exact ⟨(arcAt i.arcs a).src.toNat, by omega, by omega, hk.2 ⟨by omega, by omega, by omega⟩, .inr ⟨by omega, t⟩⟩
    have huK : u < (keptK i n).length := by omega
    have hvK : v < (keptK i n).length := by omega
    have hmu := List.getElem_mem huK
    have hmv := List.getElem_mem hvK
    have hiu := idx_at hnd huK
    have hiv := idx_at hnd hvK
    have hmu' := hk.1 hmu
    have hmv' := hk.1 hmv
    let sd : Nat → Bool := fun q => if q = n then side (idx (keptK i n) (f : Int)).toNat else side (idx (keptK i n) (q : Int)).toNat
    have sdo : ∀ q : Int, 0 ≤ q → ¬ q = n → sd q.toNat = side (idx (keptK i n) q).toNat := fun q h0 h1 => by
      show (if q.toNat = n then _ else _) = _
      rw [if_neg (by omega), show ((q.toNat : Nat) : Int) = q by omega]
    obtain ⟨b, hb, hcross⟩ := h.conn sd (keptK i n)[u].toNat (keptK i n)[v].toNat (by omega) (by omega) (by rw [sdo _ hmu'.1 hmu'.2.2, hiu]; simpa using hsu) (by rw [sdo _ hmv'.1 hmv'.2.2, hiv]; simpa using hsv)
    obtain ⟨k, hk1, rfl⟩ := mem_arcAt hb
    by_cases hka : k = a
    · exfalso
      subst hka
      refine hcross ?_
      have e1 : sd n = side (idx (keptK i n) (f : Int)).toNat := if_pos rfl
      have e2 : sd f = side (idx (keptK i n) (f : Int)).toNat := if_neg hf1
      rcases hfe with ⟨q1, q2⟩ | ⟨q1, q2⟩
      · rw [q1, q2, Int.toNat_natCast, Int.toNat_natCast, e1, e2]
      · rw [q1, q2, Int.toNat_natCast, Int.toNat_natCast, e1, e2]
    · have hfar := hft.2 k hk1 hka
      have hno := (farL_mem.1 hfar).2
      have hAk := h.arc _ (arcAt_mem hk1)
      refine ⟨renK (keptK i n) (arcAt i.arcs k), by rw [hoa]; exact List.mem_map.2 ⟨k, hfar, rfl⟩, fun hc => hcross ?_⟩
      rw [sdo _ hAk.1.1 (fun e => hno (.inl e)), sdo _ hAk.1.2.2.1 (fun e => hno (.inr e))]
      exact hc
/-- leaf by leaf -/
def treeBody (l w : Int) (k5 : (Int × Int × (List Int) × (List Arc)) → Option Bool) : (Int × Int × (List Int) × (List Arc)) → Option Bool := fun (s26, s27, xs95, xs96) =>
  if s27 < l then ((leaf_Leaf (Inst.mk xs95 xs96)).bind fun r31 => (if ¬ r31.2 = 0 then (some false) else (if r31.1.did = true then (k5 (w64 (s26 + 1), w64 (s27 + 1), r31.1.inst.supply, r31.1.inst.arcs)) else (k5 (s26, w64 (s27 + 1), r31.1.inst.supply, r31.1.inst.arcs))))) else ((law17_known).bind fun r32 => (if r32 = true then (if s26 = w then (if (xs95.length : Int) = 1 then (if 0 ≤ (0 : Int) ∧ (0 : Int) < (xs95.length : Int) then (if (gt xs95 0) = 0 then (some (decide ((xs96.length : Int) = 0))) else (some false)) else none) else (some false)) else (some false)) else (some false)))
theorem tree_loop {N : Nat} {i : Inst} {x : List Int} (h : TreeI N i x) : lp (treeBody ((N + 2 : Nat) : Int) ((N - 1 : Nat) : Int)) big (0, 0, i.supply, i.arcs) = some true := by
  have hN1 := h.n1
  have hN0 := h.n0
  refine lp_inv (T := fun o => o = some true) (N + 2) (by omega) (fun j (s : Int × Int × List Int × List Arc) => s.1 = ((min j (N - 1) : Nat) : Int) ∧ s.2.1 = (j : Int) ∧ ∃ y, TreeI (N - min j (N - 1)) ⟨s.2.2.1, s.2.2.2⟩ y) 0 ⟨by simp, rfl, x, by simpa using h⟩ (by omega) fun k j s hj hI hk => ?_
  obtain ⟨s1, s2, S, A⟩ := s
  obtain ⟨e1, e2, y, hT⟩ := hI
  dsimp only at e1 e2 hT
  subst e1 e2
  unfold treeBody
  dsimp only
  have hR := hT.right
  have h0 : rightOf ⟨S, A⟩ = 0 := rightOf_zero.2 hR
  have hTs : S.length = N - min j (N - 1) := hT.sup
  have hTa : A.length + 1 = N - min j (N - 1) := hT.arcs
  by_cases hlt : j < N + 2
  · rw [if_pos (by omega), leaf_Leaf_eq, Option.bind_some, w64_succ (j := j) (by omega)]
    by_cases h2 : j < N - 1
    · obtain ⟨n0, hn0, ht0⟩ := hT.leaf (by omega)
      cases hf : (List.range (⟨S, A⟩ : Inst).supply.length).find? (fun n => (tipB ⟨S, A⟩ n).2) with
      | none => exact absurd ht0 (by have := List.find?_eq_none.1 hf n0 (List.mem_range.2 (by show n0 < S.length; omega)); simpa using this)
      | some n =>
        have hn : n < S.length := List.mem_range.1 (List.mem_of_find?_eq_some hf)
        obtain ⟨a, m, htb, hA⟩ := tipAt_of hR hn (List.find?_some (p := fun n => (tipB ⟨S, A⟩ n).2) hf)
        have hS := hT.step (by omega) (n := n) (by omega) hA
        rw [leafOf_some h0 hf htb]
        unfold outStep
        rw [if_pos (rightOf_zero.2 hS.right)]
        dsimp only
        rw [if_neg (fun h => h rfl), if_pos rfl, w64_succ (j := min j (N - 1)) (by omega)]
        refine hk hlt _ ⟨by dsimp only; omega, rfl, (farL ⟨S, A⟩ n).map fun k : Nat => gt y (k : Int), ?_⟩
        have e : N - min (j + 1) (N - 1) = N - min j (N - 1) - 1 := by omega
        rw [e]
        exact hS
    · have hA0 : A = [] := List.eq_nil_of_length_eq_zero (by omega)
      subst hA0
      have hf : (List.range (⟨S, []⟩ : Inst).supply.length).find? (fun n => (tipB ⟨S, []⟩ n).2) = none := by
        rw [List.find?_eq_none]
        intro n _
        have : tipB ⟨S, []⟩ n = noTip := rfl
        rw [this]; decide
      rw [leafOf_none h0 hf]
      dsimp only
      rw [if_neg (fun h => h rfl), if_neg (by decide)]
      refine hk hlt _ ⟨by dsimp only; omega, rfl, y, ?_⟩
      have e : N - min (j + 1) (N - 1) = N - min j (N - 1) := by omega
      rw [e]
      exact hT
  · have hA0 : A = [] := List.eq_nil_of_length_eq_zero (by omega)
    subst hA0
    have hnet := hT.net 0 (by omega)
    have hnil : netP (([] : List Arc).zip y) ((0 : Nat) : Int) = 0 := rfl
    dsimp only at hnet
    rw [hnil] at hnet
    have g0 : gt S 0 = 0 := hnet.symm
    rw [if_neg (by omega), known_t, Option.bind_some, if_pos rfl, if_pos (by omega), if_pos (by omega), if_pos ⟨by omega, by omega⟩, if_pos g0]
    rfl
/-- a tree as far as a node -/
structure PartI (N j : Nat) (S : List Int) (A : List Arc) (x : List Int) : Prop where
  sup : S.length = N
  arcs : A.length + 1 = j
  arc : ∀ a ∈ A, (0 ≤ a.src ∧ a.src < j ∧ 0 ≤ a.dst ∧ a.dst < j) ∧ a.low = 0 ∧ a.cap = 9 ∧ 0 ≤ a.cost ∧ a.cost ≤ 10
  len : x.length = A.length
  flow : ∀ v ∈ x, 0 ≤ v ∧ v ≤ 9
  net : ∀ n : Nat, n < N → netP (A.zip x) n = gt S n
  sum : S.sum = 0
  conn : Conn j A
theorem PartI.add {N j : Nat} {S : List Int} {A : List Arc} {x : List Int} (h : PartI N j S A x) (hj : j < N) (hN : N ≤ 10) (h1 : 1 ≤ j) {u v q : Int} {w : Nat} (hw : w < j) (huv : (u = j ∧ v = w) ∨ (u = w ∧ v = j)) (hq : 0 ≤ q ∧ q ≤ 8) :
    w64 (gt S u + q) = gt S u + q ∧ w64 (gt (upd S u (gt S u + q)) v - q) = gt (upd S u (gt S u + q)) v - q ∧ PartI N (j + 1) (upd (upd S u (gt S u + q)) v (gt (upd S u (gt S u + q)) v - q)) (A ++ [⟨u, v, 0, 9, j⟩]) (x ++ [q]) := by
  have hsl := h.sup
  have hal := h.arcs
  have hb : ∀ n : Nat, n < N → -90 ≤ gt S (n : Int) ∧ gt S (n : Int) ≤ 90 := fun n hn => by
    have := netP_small (ps := A.zip x) (n := (n : Int)) (zip_snd h.flow)
    have e := h.net n hn
    have hl : (A.zip x).length ≤ 10 := by simp; omega
    omega
  have hu0 : 0 ≤ u ∧ u < S.length := by omega
  have hv0 : 0 ≤ v ∧ v < S.length := by omega
  have hne : ¬ u = v := by omega
  have bu : -90 ≤ gt S u ∧ gt S u ≤ 90 := by have := hb u.toNat (by omega); rwa [show ((u.toNat : Nat) : Int) = u by omega] at this
  have bv : -90 ≤ gt S v ∧ gt S v ≤ 90 := by have := hb v.toNat (by omega); rwa [show ((v.toNat : Nat) : Int) = v by omega] at this
  have hgv : gt (upd S u (gt S u + q)) v = gt S v := gt_upd_ne hne hu0.1 hv0.1
  refine ⟨w64_id (by omega) (by omega), by rw [hgv]; exact w64_id (by omega) (by omega), ?_⟩
  rw [hgv]
  refine ⟨by rw [upd_len, upd_len]; exact hsl, by simp; omega, fun a ha => ?_, by simp [h.len], fun y hy => ?_, fun n hn => ?_, ?_, ?_⟩
  · rcases List.mem_append.1 ha with ha | ha
    · have := h.arc a ha; omega
    · simp only [List.mem_singleton] at ha
      subst ha
      exact ⟨by dsimp only; omega, rfl, rfl, by dsimp only; omega, by dsimp only; omega⟩
  · rcases List.mem_append.1 hy with hy | hy
    · exact h.flow y hy
    · simp only [List.mem_singleton] at hy; omega
  · have hz : (A ++ [(⟨u, v, 0, 9, j⟩ : Arc)]).zip (x ++ [q]) = A.zip x ++ [(⟨u, v, 0, 9, j⟩, q)] := by rw [List.zip_append h.len.symm]; rfl
    rw [hz, netP_app, netP_cons, netP_nil, h.net n hn]
    unfold oneP
    dsimp only
    by_cases e1 : v = n
    · have e2 : ¬ u = n := by omega
      rw [if_neg e2, if_pos e1, e1, gt_upd (by rw [upd_len]; omega)]; omega
    · rw [gt_upd_ne e1 hv0.1 (by omega), if_neg e1]
      by_cases e2 : u = n
      · rw [if_pos e2, e2, gt_upd (by omega)]; omega
      · rw [if_neg e2, gt_upd_ne e2 hu0.1 (by omega)]; omega
  · rw [sum_upd (by rw [upd_len]; omega), sum_upd hu0, hgv, h.sum]; omega
  · intro side a b ha hb2 hsa hsb
    by_cases hs : side j = side w
    · have sa : side (if a = j then w else a) = true := by
        by_cases e : a = j
        · rw [if_pos e, ← hs, ← e]; exact hsa
        · rw [if_neg e]; exact hsa
      have sb : side (if b = j then w else b) = false := by
        by_cases e : b = j
        · rw [if_pos e, ← hs, ← e]; exact hsb
        · rw [if_neg e]; exact hsb
      obtain ⟨c, hc, hcr⟩ := h.conn side (if a = j then w else a) (if b = j then w else b) (by split <;> omega) (by split <;> omega) sa sb
      exact ⟨c, List.mem_append.2 (.inl hc), hcr⟩
    · refine ⟨⟨u, v, 0, 9, j⟩, List.mem_append.2 (.inr (by simp)), ?_⟩
      dsimp only
      rcases huv with ⟨rfl, rfl⟩ | ⟨rfl, rfl⟩
      · rw [Int.toNat_natCast, Int.toNat_natCast]; exact hs
      · rw [Int.toNat_natCast, Int.toNat_natCast]; exact fun e => hs e.symm
theorem sum_zeros : ∀ n : Nat, (List.replicate n (0 : Int)).sum = 0
  | 0 => rfl
  | n + 1 => by rw [List.replicate_succ, List.sum_cons, sum_zeros n]; rfl
theorem part_0 (N : Nat) : PartI N 1 (List.replicate N 0) [] [] := by
  refine ⟨by simp, rfl, (fun a h => by cases h), rfl, (fun v h => by cases h), fun n hn => ?_, sum_zeros N, fun side u v hu hv h1 h2 => ?_⟩
  · rw [gt_get (by simpa using hn)]; simp [netP_nil]
  · have : u = v := by omega
    subst this
    rw [h1] at h2; cases h2
theorem PartI.tree {N : Nat} {S : List Int} {A : List Arc} {x : List Int} (h : PartI N N S A x) (h0 : 1 ≤ N) (h1 : N ≤ 10) : TreeI N ⟨S, A⟩ x := ⟨h0, h1, h.sup, h.arcs, h.arc, h.len, h.flow, h.net, h.sum, h.conn⟩
theorem tree_true {c d : List Int} (hc : Byt c) (hd : Byt d) : law17_LeafTree c d = some true := by
  unfold law17_LeafTree
  by_cases h0 : 0 < (c.length : Int)
  · have hx := hc.at_ 0
    have m10 := tmod_rng hx.1 (show (0 : Int) < 10 by omega)
    have e1 : w64 ((gt c 0).tmod 10) = (gt c 0).tmod 10 := w64_id (by omega) (by omega)
    have e2 : w64 (1 + (gt c 0).tmod 10) = 1 + (gt c 0).tmod 10 := w64_id (by omega) (by omega)
    obtain ⟨N, hN⟩ := Int.eq_ofNat_of_zero_le (show 0 ≤ 1 + (gt c 0).tmod 10 by omega)
    have hN0 : 1 ≤ N := by omega
    have hN1 : N ≤ 10 := by omega
    rw [if_pos h0, if_pos ⟨by omega, h0⟩, e1, e2, hN, if_pos ⟨by omega, by simp only [lim]; omega⟩, Int.toNat_natCast]
    refine lp_inv (T := fun o => o = some true) N (by omega) (fun j (s : Int × List Arc × List Int) => s.1 = (j : Int) ∧ 1 ≤ j ∧ ∃ x, PartI N j s.2.2 s.2.1 x) 1 ⟨rfl, Nat.le_refl _, [], part_0 N⟩ hN0 fun k j s hj hI hk => ?_
    obtain ⟨s1, A, S⟩ := s
    obtain ⟨h1, hj1, x, hP⟩ := hI
    dsimp only at h1 hP
    subst h1
    have hsl := hP.sup
    have hal := hP.arcs
    unfold law17_LeafTree_b1
    dsimp only
    rw [e1, e2, hN]
    by_cases hjN : j < N
    · rw [if_pos (by omega), w64_succ (by omega)]
      have step : ∀ (u v q : Int) (w : Nat), w < j → ((u = j ∧ v = w) ∨ (u = w ∧ v = j)) → 0 ≤ q ∧ q ≤ 8 →
          (if 0 ≤ u ∧ u < (S.length : Int) then (lt (upd S u (w64 ((gt S u) + q))) fun (xs74 : List Int) => (if 0 ≤ v ∧ v < (xs74.length : Int) then (lt (upd xs74 v (w64 ((gt xs74 v) - q))) fun (xs75 : List Int) => (if A.length + ([(Arc.mk u v 0 9 (j : Int))]).length ≤ lim then (lt (A ++ ([(Arc.mk u v 0 9 (j : Int))])) fun (xs76 : List Arc) => (k (((j + 1 : Nat) : Int), xs76, xs75))) else none)) else none)) else none) = some true := fun u v q w hw huv hq => by
        obtain ⟨g1, g2, g3⟩ := hP.add hjN hN1 hj1 hw huv hq
        rw [if_pos (by omega)]
        simp only [lt_eq, upd_len]
        rw [if_pos (by omega), g1, g2, if_pos (by simp only [List.length_singleton, lim]; omega)]
        exact hk hjN _ ⟨rfl, by omega, _, g3⟩
      have fin : ∀ (w : Nat) (up : Int), up = w → w < j →
          (if (j : Int) < (d.length : Int) then (if 0 ≤ (j : Int) ∧ (j : Int) < (d.length : Int) then (if ((gt d (j : Int)).tmod 2) = 1 then (if 0 ≤ up ∧ up < (S.length : Int) then (lt (upd S up (w64 ((gt S up) + (w64 ((gt d (j : Int)).tmod 9))))) fun (xs74 : List Int) => (if 0 ≤ (j : Int) ∧ (j : Int) < (xs74.length : Int) then (lt (upd xs74 (j : Int) (w64 ((gt xs74 (j : Int)) - (w64 ((gt d (j : Int)).tmod 9))))) fun (xs75 : List Int) => (if A.length + ([(Arc.mk up (j : Int) 0 9 (j : Int))]).length ≤ lim then (lt (A ++ ([(Arc.mk up (j : Int) 0 9 (j : Int))])) fun (xs76 : List Arc) => (k (((j + 1 : Nat) : Int), xs76, xs75))) else none)) else none)) else none) else (if 0 ≤ (j : Int) ∧ (j : Int) < (S.length : Int) then (lt (upd S (j : Int) (w64 ((gt S (j : Int)) + (w64 ((gt d (j : Int)).tmod 9))))) fun (xs77 : List Int) => (if 0 ≤ up ∧ up < (xs77.length : Int) then (lt (upd xs77 up (w64 ((gt xs77 up) - (w64 ((gt d (j : Int)).tmod 9))))) fun (xs78 : List Int) => (if A.length + ([(Arc.mk (j : Int) up 0 9 (j : Int))]).length ≤ lim then (lt (A ++ ([(Arc.mk (j : Int) up 0 9 (j : Int))])) fun (xs79 : List Arc) => (k (((j + 1 : Nat) : Int), xs79, xs78))) else none)) else none)) else none)) else none) else (if 0 ≤ (j : Int) ∧ (j : Int) < (S.length : Int) then (lt (upd S (j : Int) (w64 ((gt S (j : Int)) + 0))) fun (xs80 : List Int) => (if 0 ≤ up ∧ up < (xs80.length : Int) then (lt (upd xs80 up (w64 ((gt xs80 up) - 0))) fun (xs81 : List Int) => (if A.length + ([(Arc.mk (j : Int) up 0 9 (j : Int))]).length ≤ lim then (lt (A ++ ([(Arc.mk (j : Int) up 0 9 (j : Int))])) fun (xs82 : List Arc) => (k (((j + 1 : Nat) : Int), xs82, xs81))) else none)) else none)) else none)) = some true := fun w up hup hw => by
        subst hup
        by_cases c1 : (j : Int) < d.length
        · have hb := hd.at_ (j : Int)
          have m9 := tmod_rng hb.1 (show (0 : Int) < 9 by omega)
          have ew : w64 ((gt d (j : Int)).tmod 9) = (gt d (j : Int)).tmod 9 := w64_id (by omega) (by omega)
          rw [if_pos c1, if_pos ⟨by omega, c1⟩, ew]
          by_cases c2 : (gt d (j : Int)).tmod 2 = 1
          · rw [if_pos c2]; exact step _ _ _ w hw (.inr ⟨rfl, rfl⟩) (by omega)
          · rw [if_neg c2]; exact step _ _ _ w hw (.inl ⟨rfl, rfl⟩) (by omega)
        · rw [if_neg c1]; exact step _ _ 0 w hw (.inl ⟨rfl, rfl⟩) (by omega)
      by_cases c1 : (j : Int) < c.length
      · have hb := hc.at_ (j : Int)
        have mj := tmod_rng hb.1 (show (0 : Int) < (j : Int) by omega)
        have ew : w64 (gt c (j : Int)) = gt c (j : Int) := w64_id (by omega) (by omega)
        rw [if_pos c1, if_pos ⟨by omega, c1⟩, if_pos (by omega), ew]
        obtain ⟨w, hw⟩ := Int.eq_ofNat_of_zero_le mj.1
        exact fin w _ hw (by omega)
      · rw [if_neg c1]
        exact fin 0 0 rfl (by omega)
    · have hjN' : j = N := by omega
      subst hjN'
      rw [if_neg (by omega)]
      have hb2 : law17_LeafTree_b2 c = treeBody ((j + 2 : Nat) : Int) ((j - 1 : Nat) : Int) := by
        have e3 : law17_LeafTree_b2 c = treeBody (w64 ((w64 (1 + (w64 ((gt c 0).tmod 10)))) + 2)) (w64 ((w64 (1 + (w64 ((gt c 0).tmod 10)))) - 1)) := rfl
        rw [e3, e1, e2, hN, w64_id (x := (j : Int) + 2) (by omega) (by omega), w64_id (x := (j : Int) - 1) (by omega) (by omega), show (j : Int) + 2 = ((j + 2 : Nat) : Int) by omega, show (j : Int) - 1 = ((j - 1 : Nat) : Int) by omega]
      rw [hb2]
      exact tree_loop (hP.tree hN0 hN1)
  · rw [if_neg h0, if_pos ⟨by omega, by simp [lim]⟩]
    show law17_LeafTree_b3 c d (lp (law17_LeafTree_b3 c d) (big - 1)) (1, [], List.replicate 1 0) = some true
    unfold law17_LeafTree_b3
    dsimp only
    rw [if_neg (by omega)]
    have hb4 : law17_LeafTree_b4 = treeBody ((1 + 2 : Nat) : Int) ((1 - 1 : Nat) : Int) := by
      have e3 : law17_LeafTree_b4 = treeBody (w64 (1 + 2)) (w64 (1 - 1)) := rfl
      rw [e3]; rfl
    rw [hb4]
    exact tree_loop ((part_0 1).tree (by omega) (by omega))
end Go.Proofs.YtbnjeanldechnaaDoor
