/- Plain: a node taken out of an instance, with its arcs; flows over what is left. -/
import Derived.Test.YtbnjeanldechnaaGreatDoorTh2
import Derived.Test.YtbnjeanldechnaaGreatDoorTh6
import Derived.Test.YtbnjeanldechnaaGreatDoorTh5
namespace Go.Qe
open Go.RowKit
def oneP (p : Arc × Int) (n : Int) : Int := (if p.1.src = n then p.2 else 0) - (if p.1.dst = n then p.2 else 0)
def netP (ps : List (Arc × Int)) (n : Int) : Int := (ps.map fun p => oneP p n).sum
def inA (a : Arc) (n : Int) : Prop := a.low ≤ n ∧ (a.cap = 4611686018427387904 ∨ n ≤ a.cap)
instance (a : Arc) (n : Int) : Decidable (inA a n) := by unfold inA; infer_instance
structure FitsP (i : Inst) (x : List Int) : Prop where
  right : RightI i
  len : x.length = i.arcs.length
  within : ∀ p ∈ i.arcs.zip x, inA p.1 p.2
  net : ∀ n : Nat, n < i.supply.length → netP (i.arcs.zip x) n = gt i.supply n
end Go.Qe
namespace Go.Proofs.YtbnjeanldechnaaGreatDoor
open Go.RowKit Go.Qe
end Go.Proofs.YtbnjeanldechnaaGreatDoor
namespace Go.Proofs.YtbnjeanldechnaaGreatDoor
open Go.RowKit Go.Qe
theorem fitB_nat {i : Inst} {k : Nat} : fitB i (k : Int) = true ↔ k < i.arcs.length ∧ wholeB i.supply.length (arcAt i.arcs k) = true := by
  unfold fitB
  simp only [Bool.and_eq_true, decide_eq_true_eq, Int.toNat_natCast]
  exact ⟨fun h => ⟨by omega, h.2⟩, fun h => ⟨by omega, h.2⟩⟩
theorem wholeB_iff {n : Nat} {a : Arc} : wholeB n a = true ↔ 0 ≤ a.src ∧ a.src < n ∧ 0 ≤ a.dst ∧ a.dst < n := by simp [wholeB]
/-- all ends are nodes -/
def Whole (i : Inst) : Prop := ∀ a ∈ i.arcs, 0 ≤ a.src ∧ a.src < i.supply.length ∧ 0 ≤ a.dst ∧ a.dst < i.supply.length
theorem _root_.Go.Qe.RightI.whole {i : Inst} (h : RightI i) : Whole i := fun a ha => let g := h.arcs a ha; ⟨g.s0, g.s1, g.d0, g.d1⟩
theorem arcAt_mem {xs : List Arc} {k : Nat} (h : k < xs.length) : arcAt xs k ∈ xs := by rw [arcAt_eq h]; exact List.getElem_mem h
theorem Whole.at_ {i : Inst} (h : Whole i) {k : Nat} (hk : k < i.arcs.length) : wholeB i.supply.length (arcAt i.arcs k) = true := wholeB_iff.2 (h _ (arcAt_mem hk))
theorem pick_iff {i : Inst} (h : Whole i) {n : Int} {o e : Bool} {k : Nat} (hk : k < i.arcs.length) : pickB i n o e k = true ↔ (o = true ∧ (arcAt i.arcs k).src = n) ∨ (e = true ∧ (arcAt i.arcs k).dst = n) := by
  unfold pickB
  rw [fitB_nat.2 ⟨hk, h.at_ hk⟩]
  simp
theorem countP_split {α : Type} (p q : α → Bool) (l : List α) : (l.filter p).length + (l.filter q).length = (l.filter fun x => p x || q x).length + (l.filter fun x => p x && q x).length := by
  induction l with
  | nil => rfl
  | cons a l ih =>
    simp only [List.filter_cons]
    cases p a <;> cases q a <;> simp <;> omega
theorem loopsOf_eq {i : Inst} (n : Int) : loopsOf i n = (((List.range i.arcs.length).filter fun k => pickB i n true false k && pickB i n false true k).length : Nat) := by
  have e : ∀ k, pickB i n true true k = (pickB i n true false k || pickB i n false true k) := fun k => by
    unfold pickB
    cases fitB i k <;> simp
  have := countP_split (pickB i n true false) (pickB i n false true) (List.range i.arcs.length)
  unfold loopsOf someL someTo
  simp only [List.length_map]
  have e2 : (List.range i.arcs.length).filter (pickB i n true true) = (List.range i.arcs.length).filter fun x => pickB i n true false x || pickB i n false true x := List.filter_congr fun k _ => e k
  rw [e2]
  omega
theorem noLoop {i : Inst} (h : Whole i) {n : Int} (hl : ¬ 0 < loopsOf i n) {k : Nat} (hk : k < i.arcs.length) : ¬ ((arcAt i.arcs k).src = n ∧ (arcAt i.arcs k).dst = n) := by
  intro hh
  rw [loopsOf_eq] at hl
  have : k ∈ (List.range i.arcs.length).filter fun k => pickB i n true false k && pickB i n false true k := by
    rw [List.mem_filter]
    refine ⟨List.mem_range.2 hk, ?_⟩
    rw [Bool.and_eq_true]
    exact ⟨(pick_iff h hk).2 (.inl ⟨rfl, hh.1⟩), (pick_iff h hk).2 (.inr ⟨rfl, hh.2⟩)⟩
  have := List.length_pos_of_mem this
  omega
theorem gt_mem {α : Type} [Inhabited α] {xs : List α} {k : Nat} (h : k < xs.length) : gt xs (k : Int) ∈ xs := by rw [gt_get h]; exact List.getElem_mem h
theorem gt_arc (xs : List Arc) (k : Nat) : gt xs (k : Int) = arcAt xs k := rfl
def offOf (i : Inst) (n : Nat) : List Bool := (List.replicate i.supply.length false).set n true
def touchB (i : Inst) (n k : Nat) : Bool := decide ((arcAt i.arcs k).src = n ∨ (arcAt i.arcs k).dst = n)
theorem touch_t {i : Inst} {n k : Nat} (h : (arcAt i.arcs k).src = n ∨ (arcAt i.arcs k).dst = n) : touchB i n k = true := decide_eq_true h
theorem touch_f {i : Inst} {n k : Nat} (h : ¬ ((arcAt i.arcs k).src = n ∨ (arcAt i.arcs k).dst = n)) : touchB i n k = false := decide_eq_false h
def nearL (i : Inst) (n : Nat) : List Nat := (List.range i.arcs.length).filter (touchB i n)
theorem nearL_mem {i : Inst} {n k : Nat} : k ∈ nearL i n ↔ k < i.arcs.length ∧ ((arcAt i.arcs k).src = n ∨ (arcAt i.arcs k).dst = n) := by simp [nearL, touchB]
/-- an instance with other supplies, without a node -/
def outOf (S : List Int) (i : Inst) (n : Nat) : Inst := withoutOf ⟨S, i.arcs⟩ (offOf i n) []
section
variable {S : List Int} {i : Inst} {n : Nat}
end
end Go.Proofs.YtbnjeanldechnaaGreatDoor
