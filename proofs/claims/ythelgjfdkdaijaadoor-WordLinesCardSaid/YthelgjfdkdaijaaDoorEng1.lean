/- A small layer over the kit's wp: memory as a list of pieces that do not overlap. -/
import Derived.WalkKit
import Derived.WalkSpells
import Derived.Deep.QuietTactic
import Derived.Deep.AppendLies
import Derived.Deep.Draws
import Derived.Laws.OwnMore
namespace Go.Qe
open Go.RowKit

/-- A part of memory: one block of cells known whole; a slice of the call's own that may be nil; some blocks that stay as they are. -/
inductive Piece where
  | blk (g : Nat) (e : TypeId) (cs : List Value)
  | own (v : Value) (e : TypeId) (size n : Nat) (cs : List Value)
  | fz (Z : Nat → Option Obj)
abbrev Heap := List Piece

def Piece.foot : Piece → Nat → Prop
  | .blk g _ _, b => b = g
  | .own v _ _ _ _, b => v.ownBlock = some b
  | .fz Z, b => Z b ≠ none
def Piece.holds (w : World) : Piece → Prop
  | .blk g e cs => w.heap[g]? = some (.cells cs.toArray e (0, 0))
  | .own v e size n cs => w.ownsRow 0 e size v n cs
  | .fz Z => ∀ b o, Z b = some o → w.heap[b]? = some o
def Piece.apart (p q : Piece) : Prop := ∀ b, p.foot b → q.foot b → False

theorem Piece.apart.symm {p q : Piece} (h : p.apart q) : q.apart p := fun b h1 h2 => h b h2 h1
theorem lt_of_some {w : World} {b : Nat} {o : Obj} (h : w.heap[b]? = some o) : b < w.heap.size := (Array.getElem?_eq_some_iff.1 h).1
theorem Piece.lt {p : Piece} {w : World} {b : Nat} (h : p.holds w) (hb : p.foot b) : b < w.heap.size := by
  cases p with
  | blk g e cs => cases hb; exact lt_of_some h
  | own v e size n cs => exact (World.ownsRow.lt h b hb).2
  | fz Z =>
    cases hz : Z b with
    | none => exact absurd hz hb
    | some o => exact lt_of_some (h b o hz)
theorem Piece.keep {p : Piece} {w w' : World} (h : p.holds w) (hk : ∀ b, p.foot b → w'.heap[b]? = w.heap[b]?) : p.holds w' := by
  cases p with
  | blk g e cs => exact (hk g rfl).trans h
  | own v e size n cs =>
    refine ⟨h.1, ?_⟩
    rcases h.2 with hn | ⟨g, cap, cur, rfl, hb, hg, rest⟩
    · exact .inl hn
    · exact .inr ⟨g, cap, cur, rfl, hb, (hk g rfl).trans hg, rest⟩
  | fz Z => exact fun b o hz => (hk b (by simp [Piece.foot, hz])).trans (h b o hz)

structure KH (w0 : World) (H : Heap) (w : World) : Prop where
  glob : Below 0 w0 w
  apart : H.Pairwise Piece.apart
  holds : ∀ p ∈ H, p.holds w

section
variable {w0 w w' : World} {H H' L : Heap} {p p' : Piece}
theorem KH.below (h : KH w0 H w) (hb : Below w.heap.size w w') : KH w0 H w' :=
  ⟨h.glob.trans (hb.mono (Nat.zero_le _)), h.apart, fun p hp => Piece.keep (h.holds p hp) fun b hf => hb.block b (Piece.lt (h.holds p hp) hf)⟩
theorem KH.add (h : KH w0 H w) (hb : Below w.heap.size w w') (hL : L.Pairwise Piece.apart) (hh : ∀ p ∈ L, p.holds w' ∧ ∀ b, p.foot b → w.heap.size ≤ b) : KH w0 (L ++ H) w' := by
  have h' := h.below hb
  refine ⟨h'.glob, List.pairwise_append.2 ⟨hL, h.apart, fun p hp q hq b h1 h2 => ?_⟩, fun p hp => ?_⟩
  · have := (hh p hp).2 b h1
    have := Piece.lt (h.holds q hq) h2
    omega
  · rcases List.mem_append.1 hp with hp | hp
    · exact (hh p hp).1
    · exact h'.holds p hp
theorem below_alloc (w : World) (o : Obj) : Below w.heap.size w (w.alloc o) := (Below.refl _ _).alloc (Nat.le_refl _) _
theorem KH.alloc (h : KH w0 H w) (e : TypeId) (cs : List Value) : KH w0 (.blk w.heap.size e cs :: H) (w.alloc (.cells cs.toArray e)) := by
  have := h.add (L := [.blk w.heap.size e cs]) (below_alloc w _) (List.pairwise_singleton _ _) (fun p hp => by
    simp only [List.mem_singleton] at hp
    subst hp
    exact ⟨heap_alloc_new w _, fun b hb => by cases hb; exact Nat.le_refl _⟩)
  exact this
theorem KH.drew (h : KH w0 H w) : KH w0 H w.drew := h.below (Below.refl _ _).drew
theorem KH.drewN (h : KH w0 H w) (n : Nat) : KH w0 H (w.drewN n) := h.below ⟨rfl, rfl, rfl, Nat.le_refl _, fun _ _ => rfl⟩
theorem KH.refl_nil (w : World) : KH w [] w := ⟨Below.refl _ _, .nil, fun _ h => by cases h⟩
end

/-- one piece taken away; some pieces picked, in whatever order; one piece put in another one's place -/
inductive Rem (p : Piece) : Heap → Heap → Prop where
  | head {H : Heap} : Rem p (p :: H) H
  | tail {q : Piece} {H H' : Heap} (h : Rem p H H') : Rem p (q :: H) (q :: H')
inductive Pick : Heap → Heap → Prop where
  | nil {H : Heap} : Pick [] H
  | cons {p : Piece} {H H' H1 : Heap} (h : Rem p H H1) (k : Pick H' H1) : Pick (p :: H') H
theorem Rem.mem {p : Piece} {H H' : Heap} (h : Rem p H H') : p ∈ H ∧ ∀ q ∈ H', q ∈ H := by
  induction h with
  | head => exact ⟨List.mem_cons_self, fun q hq => List.mem_cons_of_mem _ hq⟩
  | tail h ih =>
    refine ⟨List.mem_cons_of_mem _ ih.1, fun q hq => ?_⟩
    rcases List.mem_cons.1 hq with rfl | hq
    · exact List.mem_cons_self
    · exact List.mem_cons_of_mem _ (ih.2 q hq)
theorem Rem.apart {p : Piece} {H H' : Heap} (h : Rem p H H') (hp : H.Pairwise Piece.apart) : (∀ q ∈ H', p.apart q) ∧ H'.Pairwise Piece.apart := by
  induction h with
  | head => exact List.pairwise_cons.1 hp
  | tail h ih =>
    obtain ⟨h1, h2⟩ := List.pairwise_cons.1 hp
    obtain ⟨h3, h4⟩ := ih h2
    refine ⟨fun q hq => ?_, List.pairwise_cons.2 ⟨fun q hq => h1 q (h.mem.2 q hq), h4⟩⟩
    rcases List.mem_cons.1 hq with rfl | hq
    · exact (h1 p h.mem.1).symm
    · exact h3 q hq
theorem Pick.mem {H' H : Heap} (h : Pick H' H) : ∀ q ∈ H', q ∈ H := by
  induction h with
  | nil => intro q hq; cases hq
  | cons h k ih =>
    intro q hq
    rcases List.mem_cons.1 hq with rfl | hq
    · exact h.mem.1
    · exact h.mem.2 q (ih q hq)
theorem Pick.apart {H' H : Heap} (h : Pick H' H) : H.Pairwise Piece.apart → H'.Pairwise Piece.apart := by
  induction h with
  | nil => intro _; exact .nil
  | cons h k ih =>
    intro hp
    obtain ⟨h1, h2⟩ := h.apart hp
    exact List.pairwise_cons.2 ⟨fun q hq => h1 q (k.mem q hq), ih h2⟩
theorem KH.pick {w0 w : World} {H H' : Heap} (h : KH w0 H w) (hp : Pick H' H) : KH w0 H' w := ⟨h.glob, hp.apart h.apart, fun p hq => h.holds p (hp.mem p hq)⟩
theorem KH.rem {w0 w : World} {H H' : Heap} {p : Piece} (h : KH w0 H w) (hp : Rem p H H') : p.holds w ∧ KH w0 H' w ∧ ∀ q ∈ H', p.apart q :=
  ⟨h.holds p hp.mem.1, ⟨h.glob, (hp.apart h.apart).2, fun q hq => h.holds q (hp.mem.2 q hq)⟩, (hp.apart h.apart).1⟩
theorem KH.mem {w0 w : World} {H : Heap} {p : Piece} (h : KH w0 H w) (hp : p ∈ H) : p.holds w := h.holds p hp
/-- one piece turned, its footprint the same or new -/
theorem KH.turn {w0 w w' : World} {H H1 : Heap} {p p' : Piece} (h : KH w0 H w) (hr : Rem p H H1) (hg : Below 0 w w')
    (hk : ∀ b, b < w.heap.size → ¬ p.foot b → w'.heap[b]? = w.heap[b]?) (hh : p'.holds w') (hf : ∀ b, p'.foot b → p.foot b ∨ w.heap.size ≤ b) : KH w0 (p' :: H1) w' := by
  obtain ⟨h1, h2, h3⟩ := h.rem hr
  refine ⟨h.glob.trans hg, List.pairwise_cons.2 ⟨fun q hq b h4 h5 => ?_, h2.apart⟩, fun q hq => ?_⟩
  · have hlt := Piece.lt (h2.holds q hq) h5
    rcases hf b h4 with h6 | h6
    · exact h3 q hq b h6 h5
    · omega
  · rcases List.mem_cons.1 hq with rfl | hq
    · exact hh
    · exact Piece.keep (h2.holds q hq) fun b hb => hk b (Piece.lt (h2.holds q hq) hb) fun hp => h3 q hq b hp hb
theorem KH.setCell {w0 w : World} {H H1 : Heap} {g : Nat} {e : TypeId} {cs : List Value} (h : KH w0 H w) (hr : Rem (.blk g e cs) H H1) (i : Nat) (v : Value) :
    KH w0 (.blk g e (cs.set i v) :: H1) (w.setCell ⟨g, i, none⟩ v) := by
  have hb : w.heap[g]? = some (.cells cs.toArray e (0, 0)) := (h.rem hr).1
  refine h.turn hr ⟨rfl, rfl, rfl, by simp [World.setCell], fun k hk => by omega⟩ (fun b _ hp => ?_) ?_ (fun b hb => .inl hb)
  · exact Below.heap_setCell w _ v b (fun e => hp e)
  · show (w.setCell ⟨g, i, none⟩ v).heap[g]? = _
    rw [heap_setCell_same w g i cs.toArray e v hb]
    simp
end Go.Qe
