/- Plain: instances that choices tell. -/
import Derived.Test.YtbnjeanldechnaaDoorTh2
import Derived.Test.YtbnjeanldechnaaDoorInp
namespace Go.Qe
open Go.RowKit
/-- a loop by what holds at its rounds -/
theorem lp_inv {σ ρ : Type} {T : Option ρ → Prop} {body : (σ → Option ρ) → σ → Option ρ} (n : Nat) (hn : n < 4611686018427387904) (I : Nat → σ → Prop) {s0 : σ} (j0 : Nat) (h0 : I j0 s0) (hj0 : j0 ≤ n)
    (h : ∀ (k : σ → Option ρ) (j : Nat) (s : σ), j ≤ n → I j s → (j < n → ∀ s', I (j + 1) s' → T (k s')) → T (body k s)) : T (lp body big s0) := by
  have : ∀ d j s, j + d = n → I j s → ∀ N, d < N → T (lp body N s) := by
    intro d
    induction d with
    | zero =>
      intro j s hj hI N hN
      obtain ⟨N, rfl⟩ : ∃ M, N = M + 1 := ⟨N - 1, by omega⟩
      exact h _ j s (by omega) hI fun hlt => by omega
    | succ d ih =>
      intro j s hj hI N hN
      obtain ⟨N, rfl⟩ : ∃ M, N = M + 1 := ⟨N - 1, by omega⟩
      exact h _ j s (by omega) hI fun hlt s' hI' => ih (j + 1) s' (by omega) hI' N (by omega)
  exact this (n - j0) j0 s0 (by omega) h0 big (by simp only [big]; omega)
theorem gt_upd {α : Type} [Inhabited α] {xs : List α} {j : Int} {y : α} (h : 0 ≤ j ∧ j < xs.length) : gt (upd xs j y) j = y := by
  unfold gt upd
  rw [List.getD, List.getElem?_set_self (by omega)]
  rfl
theorem upd_upd {α : Type} {xs : List α} {j : Int} {y z : α} : upd (upd xs j y) j z = upd xs j z := by
  unfold upd; rw [List.set_set]
theorem gt_upd_ne {α : Type} [Inhabited α] {xs : List α} {j k : Int} {y : α} (h : ¬ j = k) (hj : 0 ≤ j) (hk : 0 ≤ k) : gt (upd xs j y) k = gt xs k := by
  unfold gt upd
  rw [List.getD, List.getD, List.getElem?_set_ne (by omega)]
theorem mem_upd {α : Type} {xs : List α} {j : Int} {y x : α} (h : x ∈ upd xs j y) : x ∈ xs ∨ x = y := List.mem_or_eq_of_mem_set h
theorem gt_in {α : Type} [Inhabited α] {xs : List α} {j : Int} (h : 0 ≤ j ∧ j < xs.length) : gt xs j ∈ xs := by
  obtain ⟨k, rfl⟩ := Int.eq_ofNat_of_zero_le h.1
  rw [gt_get (by omega)]; exact List.getElem_mem _
theorem sum_upd {xs : List Int} {j : Int} (h : 0 ≤ j ∧ j < xs.length) (y : Int) : (upd xs j y).sum = xs.sum - gt xs j + y := by
  obtain ⟨k, rfl⟩ := Int.eq_ofNat_of_zero_le h.1
  have hk : k < xs.length := by omega
  rw [upd_nat, gt_get hk]
  clear h
  induction xs generalizing k with
  | nil => simp at hk
  | cons a l ih =>
    cases k with
    | zero => simp; omega
    | succ k =>
      have := ih k (by simpa using hk)
      simp only [List.set_cons_succ, List.sum_cons, List.getElem_cons_succ, this]
      omega
theorem wrap8_id {x : Int} (h : 0 ≤ x ∧ x ≤ 255) : IntKind.wrap .u8 x = x := wrap_rng ⟨h.1, h.2⟩
theorem tmod_rng {x : Int} {m : Int} (h : 0 ≤ x) (hm : 0 < m) : 0 ≤ x.tmod m ∧ x.tmod m < m := by
  rw [Int.tmod_eq_emod_of_nonneg h]
  exact ⟨Int.emod_nonneg _ (by omega), Int.emod_lt_of_pos _ hm⟩
theorem tdiv_rng {x m : Int} (h : 0 ≤ x ∧ x ≤ 255) (hm : 0 < m) : 0 ≤ x.tdiv m ∧ x.tdiv m ≤ 255 := by
  rw [Int.tdiv_eq_ediv_of_nonneg h.1]
  refine ⟨Int.ediv_nonneg h.1 (by omega), Int.le_trans (Int.ediv_le_self _ h.1) h.2⟩
end Go.Qe
namespace Go.Proofs.YtbnjeanldechnaaDoor
open Go.RowKit Go.Qe
theorem Byt.at_ {c : List Int} (h : Byt c) (j : Int) : 0 ≤ gt c j ∧ gt c j ≤ 255 := by
  have := h j.toNat
  unfold gt
  simpa [el] using this
end Go.Proofs.YtbnjeanldechnaaDoor
