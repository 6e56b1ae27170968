/- Plain: loops of the printed functions. -/
import Derived.Test.YthelgjfdkdaijaaDoorEngG
import Derived.Test.YthelgjfdkdaijaaDoorPl
namespace Go.Qe
open Go.RowKit
theorem lp_eqN {σ ρ : Type} {body : (σ → Option ρ) → σ → Option ρ} (f : Nat → σ) (n : Nat) {r : Option ρ} (hs : ∀ k j, j < n → body k (f j) = k (f (j + 1))) (he : ∀ k, body k (f n) = r) :
    ∀ d j, j + d = n → ∀ N, d < N → lp body N (f j) = r
  | 0, j, hj, N, hN => by
    obtain ⟨N, rfl⟩ : ∃ M, N = M + 1 := ⟨N - 1, by omega⟩
    have : j = n := by omega
    subst this
    exact he _
  | d + 1, j, hj, N, hN => by
    obtain ⟨N, rfl⟩ : ∃ M, N = M + 1 := ⟨N - 1, by omega⟩
    show body (lp body N) (f j) = r
    rw [hs _ j (by omega)]
    exact lp_eqN f n hs he d (j + 1) (by omega) N (by omega)
/-- a loop that goes on up to its end -/
theorem lp_eq {σ ρ : Type} {body : (σ → Option ρ) → σ → Option ρ} (f : Nat → σ) (n : Nat) {r : Option ρ} {s0 : σ} (h0 : s0 = f 0) (hn : n < 4611686018427387904) (hs : ∀ k j, j < n → body k (f j) = k (f (j + 1))) (he : ∀ k, body k (f n) = r) : lp body big s0 = r := by
  subst h0
  exact lp_eqN f n hs he n 0 (by omega) big (by simpa [big] using hn)
/-- a loop that may end ahead -/
theorem lp_find {σ ρ : Type} {body : (σ → Option ρ) → σ → Option ρ} (f : Nat → σ) (n : Nat) (e : Nat → Option (Option ρ)) {fin : Option ρ} {s0 : σ} (h0 : s0 = f 0) (hn : n < 4611686018427387904)
    (hs : ∀ k j, j < n → body k (f j) = match e j with | some r => r | none => k (f (j + 1))) (he : ∀ k, body k (f n) = fin) : lp body big s0 = match (List.range n).findSome? e with | some r => r | none => fin := by
  by_cases hx : ∃ j, j < n ∧ (e j).isSome
  · obtain ⟨j, hj, hj2, hmin⟩ : ∃ j, j < n ∧ (e j).isSome ∧ ∀ i, i < j → e i = none := by
      obtain ⟨j, hj⟩ := hx
      induction j using Nat.strongRecOn with
      | ind j ih =>
        by_cases h : ∃ i, i < j ∧ (e i).isSome
        · obtain ⟨i, h1, h2⟩ := h
          exact ih i h1 ⟨by omega, h2⟩
        · exact ⟨j, hj.1, hj.2, fun i hi => by
            cases h3 : e i with
            | none => rfl
            | some r => exact absurd ⟨i, hi, by rw [h3]; rfl⟩ h⟩
    obtain ⟨r, hr⟩ := Option.isSome_iff_exists.1 hj2
    have h2 : (List.range n).findSome? e = some r := by
      rw [show n = j + (n - j) by omega, List.range_add, List.findSome?_append, List.findSome?_eq_none_iff.2 (fun x hx => hmin x (List.mem_range.1 hx)), Option.none_or]
      obtain ⟨d, hd⟩ : ∃ d, n - j = d + 1 := ⟨n - j - 1, by omega⟩
      rw [hd, List.range_succ_eq_map, List.map_cons, List.findSome?_cons, Nat.add_zero, hr]
    rw [h2]
    exact lp_eq f j h0 (by omega) (fun k i hi => by rw [hs k i (by omega), hmin i hi]) (fun k => by rw [hs k j hj, hr])
  · have hno : ∀ j, j < n → e j = none := fun j hj => by
      cases h : e j with
      | none => rfl
      | some r => exact absurd ⟨j, hj, by rw [h]; rfl⟩ hx
    rw [List.findSome?_eq_none_iff.2 (fun x hx => hno x (List.mem_range.1 hx))]
    exact lp_eq f n h0 hn (fun k j hj => by rw [hs k j hj, hno j hj]) he
theorem gt_get {α : Type} [Inhabited α] {xs : List α} {k : Nat} (h : k < xs.length) : gt xs (k : Int) = xs[k] := by simp [gt, List.getD, List.getElem?_eq_getElem h]
theorem findSome_range {α β : Type} [Inhabited α] (xs : List α) (g : α → Option β) : (List.range xs.length).findSome? (fun j : Nat => g (gt xs (j : Int))) = xs.findSome? g := by
  have : xs = (List.range xs.length).map (fun j : Nat => gt xs (j : Int)) := by
    apply List.ext_getElem (by simp)
    intro k h1 h2
    simp [gt_get h1]
  conv => rhs; rw [this]
  rw [List.findSome?_map]
  rfl
theorem rng_of {j n : Nat} (h : j < n) : 0 ≤ (j : Int) ∧ (j : Int) < (n : Int) := ⟨by omega, by omega⟩
theorem w64_succ {j : Nat} (h : j < 4611686018427387904) : w64 ((j : Int) + 1) = ((j + 1 : Nat) : Int) := by rw [w64_id (by omega) (by omega)]; rfl
end Go.Qe
