/- Plain: instances that choices tell. -/
import Derived.Test.YtbnjeanldechnaaGreatDoorTh2
import Derived.Test.YtbnjeanldechnaaGreatDoorInp
namespace Go.Qe
open Go.RowKit
/-- a loop by what holds at its rounds -/
theorem lp_inv {σ ρ : Type} {T : Option ρ → Prop} {body : (σ → Option ρ) → σ → Option ρ} (n : Nat) (hn : n < 4611686018427387904) (I : Nat → σ → Prop) {s0 : σ} (j0 : Nat) (h0 : I j0 s0) (hj0 : j0 ≤ n)
    (h : ∀ (k : σ → Option ρ) (j : Nat) (s : σ), j ≤ n → I j s → (j < n → ∀ s', I (j + 1) s' → T (k s')) → T (body k s)) : T (lp body big s0) := by
  have : ∀ d j s, j + d = n → I j s → ∀ N, d < N → T (lp body N s) := by
    intro d
    induction d with
    | zero =>
      intro j s hj hI N hN
      obtain ⟨N, rfl⟩ : ∃ M, N = M + 1 := ⟨N - 1, by omega⟩
      exact h _ j s (by omega) hI fun hlt => by omega
    | succ d ih =>
      intro j s hj hI N hN
      obtain ⟨N, rfl⟩ : ∃ M, N = M + 1 := ⟨N - 1, by omega⟩
      exact h _ j s (by omega) hI fun hlt s' hI' => ih (j + 1) s' (by omega) hI' N (by omega)
  exact this (n - j0) j0 s0 (by omega) h0 big (by simp only [big]; omega)
theorem gt_upd {α : Type} [Inhabited α] {xs : List α} {j : Int} {y : α} (h : 0 ≤ j ∧ j < xs.length) : gt (upd xs j y) j = y := by
  unfold gt upd
  rw [List.getD, List.getElem?_set_self (by omega)]
  rfl
theorem upd_upd {α : Type} {xs : List α} {j : Int} {y z : α} : upd (upd xs j y) j z = upd xs j z := by
  unfold upd; rw [List.set_set]
theorem gt_upd_ne {α : Type} [Inhabited α] {xs : List α} {j k : Int} {y : α} (h : ¬ j = k) (hj : 0 ≤ j) (hk : 0 ≤ k) : gt (upd xs j y) k = gt xs k := by
  unfold gt upd
  rw [List.getD, List.getD, List.getElem?_set_ne (by omega)]
theorem mem_upd {α : Type} {xs : List α} {j : Int} {y x : α} (h : x ∈ upd xs j y) : x ∈ xs ∨ x = y := List.mem_or_eq_of_mem_set h
theorem gt_in {α : Type} [Inhabited α] {xs : List α} {j : Int} (h : 0 ≤ j ∧ j < xs.length) : gt xs j ∈ xs := by
  obtain ⟨k, rfl⟩ := Int.eq_ofNat_of_zero_le h.1
  rw [gt_get (by omega)]; exact List.getElem_mem _
theorem sum_upd {xs : List Int} {j : Int} (h : 0 ≤ j ∧ j < xs.length) (y : Int) : (upd xs j y).sum = xs.sum - gt xs j + y := by
  obtain ⟨k, rfl⟩ := Int.eq_ofNat_of_zero_le h.1
  have hk : k < xs.length := by omega
  rw [upd_nat, gt_get hk]
  clear h
  induction xs generalizing k with
  | nil => simp at hk
  | cons a l ih =>
    cases k with
    | zero => simp; omega
    | succ k =>
      have := ih k (by simpa using hk)
      simp only [List.set_cons_succ, List.sum_cons, List.getElem_cons_succ, this]
      omega
theorem wrap8_id {x : Int} (h : 0 ≤ x ∧ x ≤ 255) : IntKind.wrap .u8 x = x := wrap_rng ⟨h.1, h.2⟩
theorem tmod_rng {x : Int} {m : Int} (h : 0 ≤ x) (hm : 0 < m) : 0 ≤ x.tmod m ∧ x.tmod m < m := by
  rw [Int.tmod_eq_emod_of_nonneg h]
  exact ⟨Int.emod_nonneg _ (by omega), Int.emod_lt_of_pos _ hm⟩
theorem tdiv_rng {x m : Int} (h : 0 ≤ x ∧ x ≤ 255) (hm : 0 < m) : 0 ≤ x.tdiv m ∧ x.tdiv m ≤ 255 := by
  rw [Int.tdiv_eq_ediv_of_nonneg h.1]
  refine ⟨Int.ediv_nonneg h.1 (by omega), Int.le_trans (Int.ediv_le_self _ h.1) h.2⟩
end Go.Qe
namespace Go.Proofs.YtbnjeanldechnaaGreatDoor
open Go.RowKit Go.Qe
theorem Byt.at_ {c : List Int} (h : Byt c) (j : Int) : 0 ≤ gt c j ∧ gt c j ≤ 255 := by
  have := h j.toNat
  unfold gt
  simpa [el] using this
structure ThinOk (i : Inst) : Prop where
  n0 : 2 ≤ i.supply.length
  n1 : i.supply.length ≤ 10
  many : i.arcs.length ≤ 19
  arcs : ∀ a ∈ i.arcs, (0 ≤ a.src ∧ a.src < i.supply.length ∧ 0 ≤ a.dst ∧ a.dst < i.supply.length) ∧ a.low = 0 ∧ a.cap = 3 ∧ 0 ≤ a.cost ∧ a.cost ≤ 19
  sup : ∀ s ∈ i.supply, s = 0
theorem thin_arc {x : Int} {n : Int} (hx : 0 ≤ x ∧ x ≤ 255) (hn : 2 ≤ n ∧ n ≤ 10) : (0 ≤ (w64 x).tmod n ∧ (w64 x).tmod n < n) ∧ 0 ≤ (w64 ((w64 x).tmod n + w64 ((IntKind.wrap .u8 (x.tdiv 16)).tmod 4))).tmod n ∧ (w64 ((w64 x).tmod n + w64 ((IntKind.wrap .u8 (x.tdiv 16)).tmod 4))).tmod n < n := by
  have h1 : w64 x = x := w64_id (by omega) (by omega)
  have h2 := tdiv_rng hx (show (0 : Int) < 16 by omega)
  have h3 := tmod_rng h2.1 (show (0 : Int) < 4 by omega)
  have h4 := tmod_rng hx.1 (show 0 < n by omega)
  rw [h1, wrap8_id h2, w64_id (x := (x.tdiv 16).tmod 4) (by omega) (by omega), w64_id (x := x.tmod n + (x.tdiv 16).tmod 4) (by omega) (by omega)]
  exact ⟨h4, tmod_rng (by omega) (by omega)⟩
theorem thin_ok {c : List Int} (hc : Byt c) : ∃ i, law07_Thin c = some i ∧ ThinOk i := by
  have fin : ∀ (n : Int) (xs : List Arc) (j : Nat), 2 ≤ n ∧ n ≤ 10 → j ≤ 20 → xs.length = j - 1 → (∀ a ∈ xs, (0 ≤ a.src ∧ a.src < n ∧ 0 ≤ a.dst ∧ a.dst < n) ∧ a.low = 0 ∧ a.cap = 3 ∧ 0 ≤ a.cost ∧ a.cost ≤ 19) → ThinOk ⟨List.replicate n.toNat 0, xs⟩ := fun n xs j hn hj hl ha => by
    have e : ((List.replicate n.toNat (0 : Int)).length : Int) = n := by simp; omega
    refine ⟨by simp; omega, by simp; omega, by dsimp only; omega, fun a h => ?_, fun s hs => List.eq_of_mem_replicate hs⟩
    dsimp only
    rw [e]
    exact ha a h
  unfold law07_Thin
  by_cases h0 : 0 < (c.length : Int)
  · rw [if_pos h0, if_pos ⟨by omega, by omega⟩]
    have hx := hc.at_ 0
    have h9 := tmod_rng hx.1 (show (0 : Int) < 9 by omega)
    simp only [lt_eq]
    rw [w64_id (x := (gt c 0).tmod 9) (by omega) (by omega), w64_id (x := 2 + (gt c 0).tmod 9) (by omega) (by omega)]
    generalize hn : 2 + (gt c 0).tmod 9 = n
    rw [if_pos ⟨by omega, by simp only [lim]; omega⟩]
    refine lp_inv (T := fun o => ∃ i, o = some i ∧ ThinOk i) 20 (by omega) (fun j s => s.1 = (j : Int) ∧ 1 ≤ j ∧ s.2.length = j - 1 ∧ ∀ a ∈ s.2, (0 ≤ a.src ∧ a.src < n ∧ 0 ≤ a.dst ∧ a.dst < n) ∧ a.low = 0 ∧ a.cap = 3 ∧ 0 ≤ a.cost ∧ a.cost ≤ 19) 1 ⟨rfl, Nat.le_refl _, rfl, fun a h => by cases h⟩ (by omega) fun k j s hj hI hk => ?_
    obtain ⟨s1, xs⟩ := s
    obtain ⟨rfl, hj1, hl, ha⟩ := hI
    dsimp only at hl ha
    unfold law07_Thin_b1
    dsimp only
    by_cases h1 : (j : Int) < c.length
    · by_cases h2 : (j : Int) < 20
      · have ht := thin_arc (hc.at_ (j : Int)) (show 2 ≤ n ∧ n ≤ 10 by omega)
        rw [if_pos h1, if_pos h2, if_pos ⟨by omega, h1⟩, if_pos (by omega)]
        simp only [lt_eq]
        rw [if_pos (by omega), if_pos (by simp only [List.length_singleton, lim]; omega), w64_succ (by omega)]
        refine hk (by omega) _ ⟨rfl, by omega, by simp; omega, fun a h => ?_⟩
        rcases List.mem_append.1 h with h | h
        · exact ha a h
        · simp only [List.mem_singleton] at h
          subst h
          exact ⟨⟨ht.1.1, ht.1.2, ht.2.1, ht.2.2⟩, rfl, rfl, by dsimp only; omega, by dsimp only; omega⟩
      · rw [if_pos h1, if_neg h2]
        exact ⟨_, rfl, fin n xs j (by omega) hj hl ha⟩
    · rw [if_neg h1]
      exact ⟨_, rfl, fin n xs j (by omega) hj hl ha⟩
  · rw [if_neg h0, if_pos ⟨by omega, by simp [lim]⟩]
    refine lp_inv (T := fun o => ∃ i, o = some i ∧ ThinOk i) 20 (by omega) (fun j s => s.1 = (j : Int) ∧ 1 ≤ j ∧ s.2.length = j - 1 ∧ ∀ a ∈ s.2, (0 ≤ a.src ∧ a.src < 2 ∧ 0 ≤ a.dst ∧ a.dst < 2) ∧ a.low = 0 ∧ a.cap = 3 ∧ 0 ≤ a.cost ∧ a.cost ≤ 19) 1 ⟨rfl, Nat.le_refl _, rfl, fun a h => by cases h⟩ (by omega) fun k j s hj hI hk => ?_
    obtain ⟨s1, xs⟩ := s
    obtain ⟨rfl, hj1, hl, ha⟩ := hI
    dsimp only at hl ha
    unfold law07_Thin_b2
    dsimp only
    rw [if_neg (by omega)]
    exact ⟨_, rfl, fin 2 xs j (by omega) hj hl ha⟩
end Go.Proofs.YtbnjeanldechnaaGreatDoor
