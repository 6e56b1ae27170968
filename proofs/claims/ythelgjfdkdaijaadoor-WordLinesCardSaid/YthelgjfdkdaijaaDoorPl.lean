/- Plain facts for what the printed functions compute. -/
import Derived.Test.YthelgjfdkdaijaaDoorDat
namespace Go.Qe
open Go.RowKit
theorem w64_id {x : Int} (h1 : -9223372036854775808 ≤ x) (h2 : x ≤ 9223372036854775807) : w64 x = x := wrap_rng ⟨h1, h2⟩
theorem gt_nat {α : Type} [Inhabited α] (xs : List α) (k : Nat) : gt xs (k : Int) = xs.getD k default := by simp [gt]
theorem gt_el (xs : List Int) (k : Nat) : gt xs (k : Int) = el xs k := by simp [gt, el]
theorem gt_arc (xs : List Arc) (k : Nat) : gt xs (k : Int) = arcAt xs k := by simp [gt, arcAt]
theorem upd_nat {α : Type} (xs : List α) (k : Nat) (y : α) : upd xs (k : Int) y = xs.set k y := by simp [upd]
theorem upd_len {α : Type} (xs : List α) (j : Int) (y : α) : (upd xs j y).length = xs.length := by simp [upd]
theorem lt_eq {α β : Type} (x : α) (K : α → β) : lt x K = K x := rfl
theorem arcAt_set {xs : List Arc} {k j : Nat} {y : Arc} (h : k < xs.length) : arcAt (xs.set k y) j = if j = k then y else arcAt xs j := by
  simp only [arcAt, List.getD, List.getElem?_set]
  by_cases hm : j = k
  · subst hm; simp [h]
  · rw [if_neg (fun e => hm e.symm), if_neg hm]
theorem ext_arc {xs ys : List Arc} (hl : xs.length = ys.length) (h : ∀ k, k < xs.length → arcAt xs k = arcAt ys k) : xs = ys := by
  apply List.ext_getElem hl
  intro k h1 h2
  have := h k h1
  rwa [arcAt_eq h1, arcAt_eq h2] at this
theorem tmod_nat {a b : Int} (h : 0 ≤ a) : a.tmod b = a % b := Int.tmod_eq_emod_of_nonneg h
theorem tdiv_nat {a b : Int} (h : 0 ≤ a) : a.tdiv b = a / b := Int.tdiv_eq_ediv_of_nonneg h
/-- a loop over numbers from 0 up -/
theorem lp_up {ρ : Type} {T : Option ρ → Prop} {body : (Int → Option ρ) → Int → Option ρ} (n : Nat) (hn : n < 4611686018427387904)
    (h : ∀ (k : Int → Option ρ) (j : Nat), j ≤ n → (j < n → T (k ((j + 1 : Nat) : Int))) → T (body k (j : Int))) : T (lp body big 0) := by
  have := lp_run (T := T) (body := body) (fun s => ∃ j : Nat, s = (j : Int) ∧ j ≤ n) (fun s => n - s.toNat) (fun k s hI hk => by
    obtain ⟨j, rfl, hj⟩ := hI
    exact h k j hj fun hlt => hk _ ⟨j + 1, rfl, by omega⟩ (by simp only [Int.toNat_natCast]; omega)) big 0 ⟨0, rfl, Nat.zero_le _⟩ (by simp only [big]; simp; omega)
  exact this
/-- the same, with something that turns round by round -/
theorem lp_up2 {ρ α : Type} {T : Option ρ → Prop} {body : ((Int × α) → Option ρ) → (Int × α) → Option ρ} (n : Nat) (hn : n < 4611686018427387904) (I : Nat → α → Prop) (x0 : α) (h0 : I 0 x0)
    (h : ∀ (k : (Int × α) → Option ρ) (j : Nat) (x : α), j ≤ n → I j x → (j < n → ∀ y, I (j + 1) y → T (k (((j + 1 : Nat) : Int), y))) → T (body k ((j : Int), x))) : T (lp body big (0, x0)) := by
  have := lp_run (T := T) (body := body) (fun s => ∃ j : Nat, s.1 = (j : Int) ∧ j ≤ n ∧ I j s.2) (fun s => n - s.1.toNat) (fun k s hI hk => by
    obtain ⟨s1, x⟩ := s
    obtain ⟨j, h1, hj, hx⟩ := hI
    dsimp only at h1 hx
    subst h1
    exact h k j x hj hx fun hlt y hy => hk _ ⟨j + 1, rfl, by omega, hy⟩ (by simp only [Int.toNat_natCast]; omega)) big (0, x0) ⟨0, rfl, Nat.zero_le _, h0⟩ (by simp only [big]; simp; omega)
  exact this
end Go.Qe
