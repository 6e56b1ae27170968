/- The instances of the statements (quittancelaw03.Inst), plain. -/
import Derived.Test.YtcmcbiojkanlnaaA15
namespace Go.Proofs.Ytcmcbiojkanlnaa
open Go.RowKit Go.Qe
def nOf (d : List Int) : Nat := if 0 < d.length then 1 + (el d 0 % 7).toNat else 1
def xOf (a : Arc) (d : List Int) (k : Nat) : Int := if k + 1 < d.length then (if a.cap < a.low + el d (k + 1) % 4 then a.cap else a.low + el d (k + 1) % 4) else a.low
def supStep (s : List Int) (a : Arc) (x : Int) : List Int :=
  (s.set a.src.toNat (el s a.src.toNat + x)).set a.dst.toNat (el (s.set a.src.toNat (el s a.src.toNat + x)) a.dst.toNat - x)
def supTo (l : List Arc) (d : List Int) (n : Nat) : Nat → List Int
  | 0 => List.replicate n 0
  | k + 1 => supStep (supTo l d n k) (arcAt l k) (xOf (arcAt l k) d k)
def supOf (l : List Arc) (d : List Int) (n : Nat) : List Int :=
  if 1 < d.length ∧ el d (d.length - 1) % 5 = 0 then
    ((supTo l d n l.length).set 0 (el (supTo l d n l.length) 0 + el d 1 % 3)).set (n - 1) (el ((supTo l d n l.length).set 0 (el (supTo l d n l.length) 0 + el d 1 % 3)) (n - 1) - el d 1 % 3)
  else supTo l d n l.length
def instOf (c d : List Int) : Inst := ⟨supOf (arcsOf c (nOf d)) d (nOf d), arcsOf c (nOf d)⟩
theorem nOf_pos (d : List Int) : 0 < nOf d := by unfold nOf; split <;> omega
theorem nOf_le {d : List Int} (h : Byt d) : nOf d ≤ 7 := by
  unfold nOf
  have := (h 0).1
  split <;> omega
theorem supStep_length (s : List Int) (a : Arc) (x : Int) : (supStep s a x).length = s.length := by simp [supStep]
theorem supTo_length (l : List Arc) (d : List Int) (n k : Nat) : (supTo l d n k).length = n := by
  induction k with
  | zero => simp [supTo]
  | succ k ih => rw [supTo, supStep_length, ih]
theorem supOf_length (l : List Arc) (d : List Int) (n : Nat) : (supOf l d n).length = n := by
  unfold supOf
  split
  · simp [supTo_length]
  · exact supTo_length _ _ _ _
theorem instOf_sup (c d : List Int) : (instOf c d).supply.length = nOf d := supOf_length _ _ _
theorem instOf_arcs (c d : List Int) : (instOf c d).arcs = arcsOf c (nOf d) := rfl
theorem instOf_len (c d : List Int) : (instOf c d).arcs.length ≤ 18 := by rw [instOf_arcs, arcsOf_length]; unfold cntOf; omega
/-- what is so of each arc that choices give -/
structure ArcOk (a : Arc) (n : Nat) : Prop where
  src0 : 0 ≤ a.src
  src1 : a.src < n
  dst0 : 0 ≤ a.dst
  dst1 : a.dst < n
  low0 : 0 ≤ a.low
  low1 : a.low ≤ 2
  cap0 : a.low ≤ a.cap
  cap1 : a.cap = INF ∨ a.cap ≤ 7
  cost0 : -8 ≤ a.cost
  cost1 : a.cost ≤ 12
theorem arcOf_ok {c : List Int} {n p : Nat} (h : Byt c) (hn : 0 < n) : ArcOk (arcOf c n p) n := by
  have h0 := h p
  have h1 := h (p + 1)
  have h2 := h (p + 2)
  have h3 := h (p + 3)
  have hq : ∀ x : Int, 0 ≤ x % (n : Int) ∧ x % (n : Int) < n := fun x => ⟨Int.emod_nonneg _ (by omega), Int.emod_lt_of_pos _ (by omega)⟩
  refine ⟨(hq _).1, (hq _).2, (hq _).1, (hq _).2, ?_, ?_, ?_, ?_, ?_, ?_⟩
  all_goals simp only [arcOf, INF]
  · split <;> omega
  · split <;> omega
  · split <;> split <;> omega
  · split
    · exact .inl rfl
    · right; omega
  · split <;> omega
  · split <;> omega
theorem arcsOf_at {c : List Int} {many : Int} {k : Nat} (h : k < cntOf c) : arcAt (arcsOf c many) k = arcOf c many (4 * k) := by
  rw [arcAt_eq (by rw [arcsOf_length]; exact h)]
  simp [arcsOf, arcsTo]
theorem arcsOf_ok {c : List Int} {n k : Nat} (h : Byt c) (hn : 0 < n) (hk : k < (arcsOf c n).length) : ArcOk (arcAt (arcsOf c n) k) n := by
  rw [arcsOf_at (by rwa [arcsOf_length] at hk)]
  exact arcOf_ok h hn
theorem xOf_rng {a : Arc} {n : Nat} {d : List Int} {k : Nat} (h : ArcOk a n) (hd : Byt d) : 0 ≤ xOf a d k ∧ xOf a d k ≤ 5 ∧ a.low ≤ xOf a d k ∧ xOf a d k ≤ a.cap := by
  have := hd (k + 1)
  have := h.low0
  have := h.low1
  have := h.cap0
  unfold xOf
  split
  · split <;> omega
  · omega
theorem supTo_rng {l : List Arc} {d : List Int} {n : Nat} (hl : ∀ k, k < l.length → ArcOk (arcAt l k) n) (hd : Byt d) : ∀ k, k ≤ l.length → ∀ m, -(5 * (k : Int)) ≤ el (supTo l d n k) m ∧ el (supTo l d n k) m ≤ 5 * (k : Int)
  | 0, _, m => by simp [supTo, el_replicate]
  | k + 1, hk, m => by
    have ih := supTo_rng hl hd k (by omega)
    have ho := hl k (by omega)
    obtain ⟨h1, h2, _⟩ := xOf_rng (k := k) ho hd
    have hs := ho.src0
    have hs1 := ho.src1
    have ht := ho.dst0
    have ht1 := ho.dst1
    have hlen := supTo_length l d n k
    simp only [supTo, supStep]
    rw [el_set (by simp; omega), el_set (by omega), el_set (by omega)]
    have i1 := ih m
    have i2 := ih (arcAt l k).src.toNat
    have i3 := ih (arcAt l k).dst.toNat
    split
    · split <;> omega
    · split <;> omega
end Go.Proofs.Ytcmcbiojkanlnaa
