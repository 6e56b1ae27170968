/- Plain: flows. -/
import Derived.Test.YtbnjeanldechnaaGreatDoorTh2
import Derived.Test.YtbnjeanldechnaaGreatDoorTh6
namespace Go.Qe
open Go.RowKit
def I64 (x : Int) : Prop := -9223372036854775808 ≤ x ∧ x ≤ 9223372036854775807
def oneP (p : Arc × Int) (n : Int) : Int := (if p.1.src = n then p.2 else 0) - (if p.1.dst = n then p.2 else 0)
def netP (ps : List (Arc × Int)) (n : Int) : Int := (ps.map fun p => oneP p n).sum
def costP (ps : List (Arc × Int)) : Int := (ps.map fun p => p.1.cost * p.2).sum
def inA (a : Arc) (n : Int) : Prop := a.low ≤ n ∧ (a.cap = 4611686018427387904 ∨ n ≤ a.cap)
instance (a : Arc) (n : Int) : Decidable (inA a n) := by unfold inA; infer_instance
structure FitsP (i : Inst) (x : List Int) : Prop where
  right : RightI i
  len : x.length = i.arcs.length
  within : ∀ p ∈ i.arcs.zip x, inA p.1 p.2
  net : ∀ n : Nat, n < i.supply.length → netP (i.arcs.zip x) n = gt i.supply n
theorem netP_nil (n : Int) : netP [] n = 0 := rfl
theorem netP_cons (p : Arc × Int) (ps : List (Arc × Int)) (n : Int) : netP (p :: ps) n = oneP p n + netP ps n := by simp [netP]
theorem netP_app (ps qs : List (Arc × Int)) (n : Int) : netP (ps ++ qs) n = netP ps n + netP qs n := by simp [netP, List.sum_append]
theorem costP_nil : costP [] = 0 := rfl
theorem costP_cons (p : Arc × Int) (ps : List (Arc × Int)) : costP (p :: ps) = p.1.cost * p.2 + costP ps := by simp [costP]
theorem costP_app (ps qs : List (Arc × Int)) : costP (ps ++ qs) = costP ps + costP qs := by simp [costP, List.sum_append]
theorem oneP_rng {p : Arc × Int} {n : Int} (h : I64 p.2) : -18446744073709551616 ≤ oneP p n ∧ oneP p n ≤ 18446744073709551616 := by
  obtain ⟨h1, h2⟩ := h
  unfold oneP
  split <;> split <;> omega
theorem netP_rng : ∀ {ps : List (Arc × Int)} {n : Int}, (∀ p ∈ ps, I64 p.2) → -(18446744073709551616 * (ps.length : Int)) ≤ netP ps n ∧ netP ps n ≤ 18446744073709551616 * (ps.length : Int)
  | [], n, _ => by simp [netP_nil]
  | p :: ps, n, h => by
    have h1 := oneP_rng (n := n) (h p List.mem_cons_self)
    have h2 := netP_rng (n := n) fun q hq => h q (List.mem_cons_of_mem _ hq)
    rw [netP_cons]
    have e : ((p :: ps).length : Int) = (ps.length : Int) + 1 := by simp
    rw [e]
    omega
theorem zip_snd {xs : List Arc} {ys : List Int} {P : Int → Prop} (h : ∀ y ∈ ys, P y) : ∀ p ∈ xs.zip ys, P p.2 := fun p hp => h _ (List.of_mem_zip (a := p.1) (b := p.2) hp).2
theorem zip_take_succ {xs : List Arc} {ys : List Int} {j : Nat} (h1 : j < xs.length) (h2 : j < ys.length) : (xs.zip ys).take (j + 1) = (xs.zip ys).take j ++ [(xs[j], ys[j])] := by
  have hl : j < (xs.zip ys).length := by simp; omega
  rw [List.take_add_one, List.getElem?_eq_getElem hl]
  simp
theorem zip_mem {xs : List Arc} {ys : List Int} {j : Nat} (h1 : j < xs.length) (h2 : j < ys.length) : (xs[j], ys[j]) ∈ xs.zip ys := by
  have hl : j < (xs.zip ys).length := by simp; omega
  have := List.getElem_mem hl
  simpa using this
/-- a list of wide numbers, told by what each is -/
def wides (n : Nat) (f : Int → Int) : List Wide := (List.range n).map fun m : Nat => mkW (f m)
theorem wides_len (n : Nat) (f : Int → Int) : (wides n f).length = n := by simp [wides]
theorem wides_gt {n : Nat} {f : Int → Int} {j : Nat} (h : j < n) : gt (wides n f) (j : Int) = mkW (f j) := by
  rw [gt_get (by rw [wides_len]; exact h)]
  simp [wides]
theorem wides_upd {n : Nat} {f g : Int → Int} {j : Nat} {v : Int} (h : j < n) (hv : g j = v) (hg : ∀ m : Nat, m ≠ j → g m = f m) : upd (wides n f) (j : Int) (mkW v) = wides n g := by
  rw [upd_nat]
  apply List.ext_getElem (by simp [wides])
  intro k h1 h2
  rw [List.getElem_set]
  by_cases hk : j = k
  · subst hk; simp [wides, hv]
  · rw [if_neg hk]
    simp only [wides, List.getElem_map, List.getElem_range]
    rw [hg k (fun e => hk e.symm)]
theorem wides_congr {n : Nat} {f g : Int → Int} (h : ∀ m : Nat, m < n → f m = g m) : wides n f = wides n g := by
  unfold wides
  exact List.map_congr_left fun m hm => by rw [h m (List.mem_range.1 hm)]
theorem gt_el' {xs : List Int} {k : Nat} (h : k < xs.length) : gt xs (k : Int) = xs[k] := gt_get h
end Go.Qe
namespace Go.Proofs.YtbnjeanldechnaaGreatDoor
open Go.RowKit Go.Qe
end Go.Proofs.YtbnjeanldechnaaGreatDoor
