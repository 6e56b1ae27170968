/- Plain: instances that choices tell. -/
import Derived.Test.YtbnjeanldechnaaGreatDoorTh2
import Derived.Test.YtbnjeanldechnaaGreatDoorInp
namespace Go.Qe
open Go.RowKit
/-- a loop by what holds at its rounds -/
theorem lp_inv {σ ρ : Type} {T : Option ρ → Prop} {body : (σ → Option ρ) → σ → Option ρ} (n : Nat) (hn : n < 4611686018427387904) (I : Nat → σ → Prop) {s0 : σ} (j0 : Nat) (h0 : I j0 s0) (hj0 : j0 ≤ n)
    (h : ∀ (k : σ → Option ρ) (j : Nat) (s : σ), j ≤ n → I j s → (j < n → ∀ s', I (j + 1) s' → T (k s')) → T (body k s)) : T (lp body big s0) := by
  have : ∀ d j s, j + d = n → I j s → ∀ N, d < N → T (lp body N s) := by
    intro d
    induction d with
    | zero =>
      intro j s hj hI N hN
      obtain ⟨N, rfl⟩ : ∃ M, N = M + 1 := ⟨N - 1, by omega⟩
      exact h _ j s (by omega) hI fun hlt => by omega
    | succ d ih =>
      intro j s hj hI N hN
      obtain ⟨N, rfl⟩ : ∃ M, N = M + 1 := ⟨N - 1, by omega⟩
      exact h _ j s (by omega) hI fun hlt s' hI' => ih (j + 1) s' (by omega) hI' N (by omega)
  exact this (n - j0) j0 s0 (by omega) h0 big (by simp only [big]; omega)
theorem gt_upd {α : Type} [Inhabited α] {xs : List α} {j : Int} {y : α} (h : 0 ≤ j ∧ j < xs.length) : gt (upd xs j y) j = y := by
  unfold gt upd
  rw [List.getD, List.getElem?_set_self (by omega)]
  rfl
theorem upd_upd {α : Type} {xs : List α} {j : Int} {y z : α} : upd (upd xs j y) j z = upd xs j z := by
  unfold upd; rw [List.set_set]
theorem gt_upd_ne {α : Type} [Inhabited α] {xs : List α} {j k : Int} {y : α} (h : ¬ j = k) (hj : 0 ≤ j) (hk : 0 ≤ k) : gt (upd xs j y) k = gt xs k := by
  unfold gt upd
  rw [List.getD, List.getD, List.getElem?_set_ne (by omega)]
theorem mem_upd {α : Type} {xs : List α} {j : Int} {y x : α} (h : x ∈ upd xs j y) : x ∈ xs ∨ x = y := List.mem_or_eq_of_mem_set h
theorem gt_in {α : Type} [Inhabited α] {xs : List α} {j : Int} (h : 0 ≤ j ∧ j < xs.length) : gt xs j ∈ xs := by
  obtain ⟨k, rfl⟩ := Int.eq_ofNat_of_zero_le h.1
  rw [gt_get (by omega)]; exact List.getElem_mem _
theorem sum_upd {xs : List Int} {j : Int} (h : 0 ≤ j ∧ j < xs.length) (y : Int) : (upd xs j y).sum = xs.sum - gt xs j + y := by
  obtain ⟨k, rfl⟩ := Int.eq_ofNat_of_zero_le h.1
  have hk : k < xs.length := by omega
  rw [upd_nat, gt_get hk]
  clear h
  induction xs generalizing k with
  | nil => simp at hk
  | cons a l ih =>
    cases k with
    | zero => simp; omega
    | succ k =>
      have := ih k (by simpa using hk)
      simp only [List.set_cons_succ, List.sum_cons, List.getElem_cons_succ, this]
      omega
theorem wrap8_id {x : Int} (h : 0 ≤ x ∧ x ≤ 255) : IntKind.wrap .u8 x = x := wrap_rng ⟨h.1, h.2⟩
theorem tmod_rng {x : Int} {m : Int} (h : 0 ≤ x) (hm : 0 < m) : 0 ≤ x.tmod m ∧ x.tmod m < m := by
  rw [Int.tmod_eq_emod_of_nonneg h]
  exact ⟨Int.emod_nonneg _ (by omega), Int.emod_lt_of_pos _ hm⟩
theorem tdiv_rng {x m : Int} (h : 0 ≤ x ∧ x ≤ 255) (hm : 0 < m) : 0 ≤ x.tdiv m ∧ x.tdiv m ≤ 255 := by
  rw [Int.tdiv_eq_ediv_of_nonneg h.1]
  refine ⟨Int.ediv_nonneg h.1 (by omega), Int.le_trans (Int.ediv_le_self _ h.1) h.2⟩
end Go.Qe
namespace Go.Proofs.YtbnjeanldechnaaGreatDoor
open Go.RowKit Go.Qe
theorem Byt.at_ {c : List Int} (h : Byt c) (j : Int) : 0 ≤ gt c j ∧ gt c j ≤ 255 := by
  have := h j.toNat
  unfold gt
  simpa [el] using this
structure ThinOk (i : Inst) : Prop where
  n0 : 2 ≤ i.supply.length
  n1 : i.supply.length ≤ 10
  many : i.arcs.length ≤ 19
  arcs : ∀ a ∈ i.arcs, (0 ≤ a.src ∧ a.src < i.supply.length ∧ 0 ≤ a.dst ∧ a.dst < i.supply.length) ∧ a.low = 0 ∧ a.cap = 3 ∧ 0 ≤ a.cost ∧ a.cost ≤ 19
  sup : ∀ s ∈ i.supply, s = 0
theorem thin_arc {x : Int} {n : Int} (hx : 0 ≤ x ∧ x ≤ 255) (hn : 2 ≤ n ∧ n ≤ 10) : (0 ≤ (w64 x).tmod n ∧ (w64 x).tmod n < n) ∧ 0 ≤ (w64 ((w64 x).tmod n + w64 ((IntKind.wrap .u8 (x.tdiv 16)).tmod 4))).tmod n ∧ (w64 ((w64 x).tmod n + w64 ((IntKind.wrap .u8 (x.tdiv 16)).tmod 4))).tmod n < n := by
  have h1 : w64 x = x := w64_id (by omega) (by omega)
  have h2 := tdiv_rng hx (show (0 : Int) < 16 by omega)
  have h3 := tmod_rng h2.1 (show (0 : Int) < 4 by omega)
  have h4 := tmod_rng hx.1 (show 0 < n by omega)
  rw [h1, wrap8_id h2, w64_id (x := (x.tdiv 16).tmod 4) (by omega) (by omega), w64_id (x := x.tmod n + (x.tdiv 16).tmod 4) (by omega) (by omega)]
  exact ⟨h4, tmod_rng (by omega) (by omega)⟩
theorem thin_ok {c : List Int} (hc : Byt c) : ∃ i, law07_Thin c = some i ∧ ThinOk i := by
  have fin : ∀ (n : Int) (xs : List Arc) (j : Nat), 2 ≤ n ∧ n ≤ 10 → j ≤ 20 → xs.length = j - 1 → (∀ a ∈ xs, (0 ≤ a.src ∧ a.src < n ∧ 0 ≤ a.dst ∧ a.dst < n) ∧ a.low = 0 ∧ a.cap = 3 ∧ 0 ≤ a.cost ∧ a.cost ≤ 19) → ThinOk ⟨List.replicate n.toNat 0, xs⟩ := fun n xs j hn hj hl ha => by
    have e : ((List.replicate n.toNat (0 : Int)).length : Int) = n := by simp; omega
    refine ⟨by simp; omega, by simp; omega, by dsimp only; omega, fun a h => ?_, fun s hs => List.eq_of_mem_replicate hs⟩
    dsimp only
    rw [e]
    exact ha a h
  unfold law07_Thin
  by_cases h0 : 0 < (c.length : Int)
  · rw [if_pos h0, if_pos ⟨by omega, by omega⟩]
    have hx := hc.at_ 0
    have h9 := tmod_rng hx.1 (show (0 : Int) < 9 by omega)
    simp only [lt_eq]
    rw [w64_id (x := (gt c 0).tmod 9) (by omega) (by omega), w64_id (x := 2 + (gt c 0).tmod 9) (by omega) (by omega)]
    generalize hn : 2 + (gt c 0).tmod 9 = n
    rw [if_pos ⟨by omega, by simp only [lim]; omega⟩]
    refine lp_inv (T := fun o => ∃ i, o = some i ∧ ThinOk i) 20 (by omega) (fun j s => s.1 = (j : Int) ∧ 1 ≤ j ∧ s.2.length = j - 1 ∧ ∀ a ∈ s.2, (0 ≤ a.src ∧ a.src < n ∧ 0 ≤ a.dst ∧ a.dst < n) ∧ a.low = 0 ∧ a.cap = 3 ∧ 0 ≤ a.cost ∧ a.cost ≤ 19) 1 ⟨rfl, Nat.le_refl _, rfl, fun a h => by cases h⟩ (by omega) fun k j s hj hI hk => ?_
    obtain ⟨s1, xs⟩ := s
    obtain ⟨rfl, hj1, hl, ha⟩ := hI
    dsimp only at hl ha
    unfold law07_Thin_b1
    dsimp only
    by_cases h1 : (j : Int) < c.length
    · by_cases h2 : (j : Int) < 20
      · have ht := thin_arc (hc.at_ (j : Int)) (show 2 ≤ n ∧ n ≤ 10 by omega)
        rw [if_pos h1, if_pos h2, if_pos ⟨by omega, h1⟩, if_pos (by omega)]
        simp only [lt_eq]
        rw [if_pos (by omega), if_pos (by simp only [List.length_singleton, lim]; omega), w64_succ (by omega)]
        refine hk (by omega) _ ⟨rfl, by omega, by simp; omega, fun a h => ?_⟩
        rcases List.mem_append.1 h with h | h
        · exact ha a h
        · simp only [List.mem_singleton] at h
          subst h
          exact ⟨⟨ht.1.1, ht.1.2, ht.2.1, ht.2.2⟩, rfl, rfl, by dsimp only; omega, by dsimp only; omega⟩
      · rw [if_pos h1, if_neg h2]
        exact ⟨_, rfl, fin n xs j (by omega) hj hl ha⟩
    · rw [if_neg h1]
      exact ⟨_, rfl, fin n xs j (by omega) hj hl ha⟩
  · rw [if_neg h0, if_pos ⟨by omega, by simp [lim]⟩]
    refine lp_inv (T := fun o => ∃ i, o = some i ∧ ThinOk i) 20 (by omega) (fun j s => s.1 = (j : Int) ∧ 1 ≤ j ∧ s.2.length = j - 1 ∧ ∀ a ∈ s.2, (0 ≤ a.src ∧ a.src < 2 ∧ 0 ≤ a.dst ∧ a.dst < 2) ∧ a.low = 0 ∧ a.cap = 3 ∧ 0 ≤ a.cost ∧ a.cost ≤ 19) 1 ⟨rfl, Nat.le_refl _, rfl, fun a h => by cases h⟩ (by omega) fun k j s hj hI hk => ?_
    obtain ⟨s1, xs⟩ := s
    obtain ⟨rfl, hj1, hl, ha⟩ := hI
    dsimp only at hl ha
    unfold law07_Thin_b2
    dsimp only
    rw [if_neg (by omega)]
    exact ⟨_, rfl, fin 2 xs j (by omega) hj hl ha⟩
structure ArcI (n : Int) (a : Arc) : Prop where
  ends : 0 ≤ a.src ∧ a.src < n ∧ 0 ≤ a.dst ∧ a.dst < n
  low : 0 ≤ a.low ∧ a.low ≤ 2
  cap : a.cap = 4611686018427387904 ∨ a.low ≤ a.cap ∧ a.cap ≤ 7
  cost : -8 ≤ a.cost ∧ a.cost ≤ 12
structure InstI (i : Inst) : Prop where
  n0 : 1 ≤ i.supply.length
  n1 : i.supply.length ≤ 7
  many : i.arcs.length ≤ 18
  arcs : ∀ a ∈ i.arcs, ArcI i.supply.length a
  sup : ∀ s ∈ i.supply, -200 ≤ s ∧ s ≤ 200
  sum : i.supply.sum = 0
theorem arcs_ok {c : List Int} (hc : Byt c) {n : Int} (hn : 1 ≤ n ∧ n ≤ 7) : ∃ l, law03_Arcs c n = some l ∧ l.length ≤ 18 ∧ ∀ a ∈ l, ArcI n a := by
  unfold law03_Arcs
  refine lp_inv (T := fun o => ∃ l : List Arc, o = some l ∧ l.length ≤ 18 ∧ ∀ a ∈ l, ArcI n a) 18 (by omega) (fun j (s : Int × List Arc) => s.1 = 4 * (j : Int) ∧ s.2.length = j ∧ ∀ a ∈ s.2, ArcI n a) 0 ⟨rfl, rfl, fun a h => by cases h⟩ (by omega) fun k j s hj hI hk => ?_
  obtain ⟨s1, xs⟩ := s
  obtain ⟨h1, h2, h3⟩ := hI
  dsimp only at h1 h2 h3
  subst h1
  unfold law03_Arcs_b1
  dsimp only
  have e1 : w64 (4 * (j : Int) + 1) = 4 * (j : Int) + 1 := w64_id (by omega) (by omega)
  have e2 : w64 (4 * (j : Int) + 2) = 4 * (j : Int) + 2 := w64_id (by omega) (by omega)
  have e3 : w64 (4 * (j : Int) + 3) = 4 * (j : Int) + 3 := w64_id (by omega) (by omega)
  have e4 : w64 (4 * (j : Int) + 4) = 4 * ((j + 1 : Nat) : Int) := by rw [w64_id (by omega) (by omega)]; omega
  rw [e1, e2, e3, e4]
  by_cases c1 : 4 * (j : Int) + 3 < c.length
  · by_cases c2 : 4 * (j : Int) < 72
    · have b0 := hc.at_ (4 * (j : Int))
      have b1 := hc.at_ (4 * (j : Int) + 1)
      have b2 := hc.at_ (4 * (j : Int) + 2)
      rw [if_pos c1, if_pos c2, if_pos ⟨by omega, by omega⟩, if_pos (by omega), if_pos (by omega), if_pos ⟨by omega, by omega⟩, if_pos ⟨by omega, by omega⟩, if_pos ⟨by omega, by omega⟩]
      generalize gt c (4 * (j : Int)) = x0 at *
      generalize gt c (4 * (j : Int) + 1) = x1 at *
      generalize gt c (4 * (j : Int) + 2) = x2 at *
      generalize gt c (4 * (j : Int) + 3) = x3 at *
      have t16 := tdiv_rng b0 (show (0 : Int) < 16 by omega)
      have t3 := tdiv_rng b1 (show (0 : Int) < 3 by omega)
      have w0 : w64 x0 = x0 := w64_id (by omega) (by omega)
      have w16 : w64 (x0.tdiv 16) = x0.tdiv 16 := w64_id (by omega) (by omega)
      rw [wrap8_id t16, wrap8_id t3, w0, w16]
      have m0 := tmod_rng b0.1 (show 0 < n by omega)
      have m16 := tmod_rng t16.1 (show 0 < n by omega)
      have m1 := tmod_rng b1.1 (show (0 : Int) < 3 by omega)
      have m6 := tmod_rng t3.1 (show (0 : Int) < 6 by omega)
      have m21 := tmod_rng b2.1 (show (0 : Int) < 21 by omega)
      generalize x0.tmod n = p0 at *
      generalize (x0.tdiv 16).tmod n = p1 at *
      generalize x1.tmod 3 = p2 at *
      generalize (x1.tdiv 3).tmod 6 = p3 at *
      generalize x2.tmod 21 = p4 at *
      have w2 : w64 p2 = p2 := w64_id (by omega) (by omega)
      have w3 : w64 p3 = p3 := w64_id (by omega) (by omega)
      have w4 : w64 p4 = p4 := w64_id (by omega) (by omega)
      rw [w2, w3, w4, w64_id (x := p2 + p3) (by omega) (by omega), w64_id (x := p4 - 8) (by omega) (by omega)]
      have hl : ∀ a : Arc, xs.length + [a].length ≤ lim := fun a => by simp only [List.length_singleton, lim]; omega
      simp only [lt_eq, hl, if_true]
      have key : ∀ a : Arc, ArcI n a → ∃ l, k (4 * ((j + 1 : Nat) : Int), xs ++ [a]) = some l ∧ l.length ≤ 18 ∧ ∀ a ∈ l, ArcI n a := fun a ha => hk (by omega) _ ⟨rfl, by simp; omega, fun b hb => by
        rcases List.mem_append.1 hb with h | h
        · exact h3 b h
        · simp only [List.mem_singleton] at h; exact h ▸ ha⟩
      repeat' split
      all_goals (refine key _ ⟨⟨by dsimp only; omega, by dsimp only; omega, by dsimp only; omega, by dsimp only; omega⟩, ⟨by dsimp only; omega, by dsimp only; omega⟩, by dsimp only; omega, ⟨by dsimp only; omega, by dsimp only; omega⟩⟩)
    · rw [if_pos c1, if_neg c2]
      exact ⟨_, rfl, by omega, h3⟩
  · rw [if_neg c1]
    exact ⟨_, rfl, by omega, h3⟩
/-- so much out of a node, and into another one -/
theorem move_ok {xs : List Int} {u v q B : Int} (hu : 0 ≤ u ∧ u < xs.length) (hv : 0 ≤ v ∧ v < xs.length) (hq : 0 ≤ q ∧ q ≤ 7) (hB : 0 ≤ B ∧ B ≤ 1000) (hx : ∀ x ∈ xs, -B ≤ x ∧ x ≤ B) (h0 : xs.sum = 0) :
    w64 (gt xs u + q) = gt xs u + q ∧ w64 (gt (upd xs u (gt xs u + q)) v - q) = gt (upd xs u (gt xs u + q)) v - q ∧
    (upd (upd xs u (gt xs u + q)) v (gt (upd xs u (gt xs u + q)) v - q)).sum = 0 ∧ (∀ x ∈ upd (upd xs u (gt xs u + q)) v (gt (upd xs u (gt xs u + q)) v - q), -(B + 7) ≤ x ∧ x ≤ B + 7) := by
  have s1 := hx _ (gt_in hu)
  have hX : ∀ x ∈ upd xs u (gt xs u + q), -B ≤ x ∧ x ≤ B + 7 := fun x h => by
    rcases mem_upd h with h | h
    · have := hx x h; omega
    · omega
  have hv' : 0 ≤ v ∧ v < (upd xs u (gt xs u + q)).length := by rw [upd_len]; exact hv
  have s2 := hX _ (gt_in hv')
  refine ⟨w64_id (by omega) (by omega), w64_id (by omega) (by omega), by rw [sum_upd hv', sum_upd hu]; omega, fun x h => ?_⟩
  rcases mem_upd h with h | h
  · have := hX x h; omega
  · omega
theorem sum_zero : ∀ n : Nat, (List.replicate n (0 : Int)).sum = 0
  | 0 => rfl
  | n + 1 => by rw [List.replicate_succ, List.sum_cons, sum_zero n]; rfl
theorem inst03_ok {c d : List Int} (hc : Byt c) (hd : Byt d) (hdl : d.length ≤ 9223372036854775807) : ∃ i, law03_Inst c d = some i ∧ InstI i := by
  have mk : ∀ (n : Nat) (l : List Arc) (xs : List Int), 1 ≤ n → n ≤ 7 → l.length ≤ 18 → (∀ a ∈ l, ArcI n a) → xs.length = n → xs.sum = 0 → (∀ x ∈ xs, -200 ≤ x ∧ x ≤ 200) → InstI ⟨xs, l⟩ := fun n l xs h1 h2 h3 h4 h5 h6 h7 => ⟨by dsimp only; omega, by dsimp only; omega, h3, fun a ha => by have := h4 a ha; dsimp only; rw [h5]; exact this, h7, h6⟩
  unfold law03_Inst
  by_cases h0 : 0 < (d.length : Int)
  · have hb := hd.at_ 0
    have m7 := tmod_rng hb.1 (show (0 : Int) < 7 by omega)
    rw [if_pos h0, if_pos ⟨by omega, h0⟩, w64_id (x := (gt d 0).tmod 7) (by omega) (by omega), w64_id (x := 1 + (gt d 0).tmod 7) (by omega) (by omega)]
    generalize hn : 1 + (gt d 0).tmod 7 = n at *
    obtain ⟨m, rfl⟩ := Int.eq_ofNat_of_zero_le (show 0 ≤ n by omega)
    rw [if_pos ⟨by omega, by simp only [lim]; omega⟩]
    obtain ⟨l, hl, hl1, hl2⟩ := arcs_ok hc (n := (m : Int)) (by omega)
    rw [hl, Option.bind_some]
    refine lp_inv (T := fun o => ∃ i, o = some i ∧ InstI i) l.length (by omega) (fun j (s : Int × List Int) => s.1 = (j : Int) ∧ s.2.length = m ∧ s.2.sum = 0 ∧ ∀ x ∈ s.2, -(7 * (j : Int)) ≤ x ∧ x ≤ 7 * (j : Int)) 0 ⟨rfl, by simp, by rw [sum_zero], fun x hx => by rw [List.eq_of_mem_replicate hx]; omega⟩ (by omega) fun k j s hj hI hk => ?_
    obtain ⟨s1, xs⟩ := s
    obtain ⟨h1, h2, h3, h4⟩ := hI
    dsimp only at h1 h2 h3 h4
    subst h1
    unfold law03_Inst_b1
    dsimp only
    by_cases hjl : j < l.length
    · have ha := hl2 _ (List.getElem_mem hjl)
      rw [if_pos (rng_of hjl).2, if_pos (rng_of hjl), gt_get hjl, w64_succ (by omega)]
      generalize l[j] = a at *
      have mu : 0 ≤ a.src ∧ a.src < xs.length := by have := ha.ends; omega
      have mv : 0 ≤ a.dst ∧ a.dst < xs.length := by have := ha.ends; omega
      have step : ∀ q : Int, 0 ≤ q ∧ q ≤ 7 → ∃ i, (if 0 ≤ a.src ∧ a.src < (xs.length : Int) then lt (upd xs a.src (w64 (gt xs a.src + q))) fun xs21 : List Int => (if 0 ≤ a.dst ∧ a.dst < (xs21.length : Int) then lt (upd xs21 a.dst (w64 (gt xs21 a.dst - q))) fun xs22 : List Int => k (((j + 1 : Nat) : Int), xs22) else none) else none) = some i ∧ InstI i := fun q hq => by
        obtain ⟨g1, g2, g3, g4⟩ := move_ok mu mv hq (B := 7 * (j : Int)) (by omega) h4 h3
        rw [if_pos mu]
        simp only [lt_eq]
        rw [g1, if_pos (by rw [upd_len]; exact mv), g2]
        exact hk hjl _ ⟨rfl, by dsimp only; rw [upd_len, upd_len]; exact h2, g3, fun x hx => by have := g4 x hx; omega⟩
      have lo := ha.low
      have cp := ha.cap
      by_cases h5 : ((j + 1 : Nat) : Int) < d.length
      · have hq := hd.at_ ((j + 1 : Nat) : Int)
        have m4 := tmod_rng hq.1 (show (0 : Int) < 4 by omega)
        rw [if_pos h5, if_pos ⟨by omega, h5⟩]
        generalize (gt d ((j + 1 : Nat) : Int)).tmod 4 = z at *
        rw [w64_id (x := z) (by omega) (by omega), w64_id (x := a.low + z) (by omega) (by omega)]
        exact step _ (by split <;> omega)
      · rw [if_neg h5]
        exact step _ (by omega)
    · have hje : j = l.length := by omega
      have h4' : ∀ x ∈ xs, -126 ≤ x ∧ x ≤ 126 := fun x hx => by have := h4 x hx; omega
      rw [if_neg (by omega)]
      by_cases h5 : 1 < (d.length : Int)
      · rw [if_pos h5, w64_id (x := (d.length : Int) - 1) (by omega) (by omega), if_pos ⟨by omega, by omega⟩]
        by_cases h6 : (gt d ((d.length : Int) - 1)).tmod 5 = 0
        · have hq := hd.at_ 1
          have m3 := tmod_rng hq.1 (show (0 : Int) < 3 by omega)
          rw [if_pos h6, if_pos ⟨by omega, h5⟩]
          have en : w64 ((gt d 0).tmod 7) = (gt d 0).tmod 7 := w64_id (by omega) (by omega)
          have en2 : w64 (1 + (gt d 0).tmod 7) = (m : Int) := by rw [w64_id (by omega) (by omega)]; exact hn
          rw [en, en2, w64_id (x := (m : Int) - 1) (by omega) (by omega)]
          generalize (gt d 1).tmod 3 = z at *
          rw [w64_id (x := z) (by omega) (by omega)]
          have mu : 0 ≤ (0 : Int) ∧ (0 : Int) < xs.length := by omega
          have mv : 0 ≤ (m : Int) - 1 ∧ (m : Int) - 1 < xs.length := by omega
          obtain ⟨g1, g2, g3, g4⟩ := move_ok mu mv (q := z) (by omega) (B := 126) (by omega) h4' h3
          rw [if_pos mu]
          simp only [lt_eq]
          rw [g1, if_pos (by rw [upd_len]; exact mv), g2]
          exact ⟨_, rfl, mk m l _ (by omega) (by omega) hl1 hl2 (by rw [upd_len, upd_len]; exact h2) g3 (fun x hx => by have := g4 x hx; omega)⟩
        · rw [if_neg h6]
          exact ⟨_, rfl, mk m l _ (by omega) (by omega) hl1 hl2 h2 h3 (fun x hx => by have := h4' x hx; omega)⟩
      · rw [if_neg h5]
        exact ⟨_, rfl, mk m l _ (by omega) (by omega) hl1 hl2 h2 h3 (fun x hx => by have := h4' x hx; omega)⟩
  · rw [if_neg h0, if_pos ⟨by omega, by simp [lim]⟩]
    obtain ⟨l, hl, hl1, hl2⟩ := arcs_ok hc (n := 1) (by omega)
    rw [hl, Option.bind_some]
    have hd0 : (d.length : Int) = 0 := by omega
    refine lp_inv (T := fun o => ∃ i, o = some i ∧ InstI i) l.length (by omega) (fun j (s : Int × List Int) => s.1 = (j : Int) ∧ s.2.length = 1 ∧ s.2.sum = 0 ∧ ∀ x ∈ s.2, -(7 * (j : Int)) ≤ x ∧ x ≤ 7 * (j : Int)) 0 ⟨rfl, by simp, rfl, fun x hx => by rw [List.eq_of_mem_replicate hx]; omega⟩ (by omega) fun k j s hj hI hk => ?_
    obtain ⟨s1, xs⟩ := s
    obtain ⟨h1, h2, h3, h4⟩ := hI
    dsimp only at h1 h2 h3 h4
    subst h1
    unfold law03_Inst_b2
    dsimp only
    by_cases hjl : j < l.length
    · have ha := hl2 _ (List.getElem_mem hjl)
      rw [if_pos (rng_of hjl).2, if_pos (rng_of hjl), gt_get hjl, w64_succ (by omega), if_neg (by omega)]
      generalize l[j] = a at *
      have mu : 0 ≤ a.src ∧ a.src < xs.length := by have := ha.ends; omega
      have mv : 0 ≤ a.dst ∧ a.dst < xs.length := by have := ha.ends; omega
      have lo := ha.low
      obtain ⟨g1, g2, g3, g4⟩ := move_ok mu mv (q := a.low) (by omega) (B := 7 * (j : Int)) (by omega) h4 h3
      rw [if_pos mu]
      simp only [lt_eq]
      rw [g1, if_pos (by rw [upd_len]; exact mv), g2]
      exact hk hjl _ ⟨rfl, by dsimp only; rw [upd_len, upd_len]; exact h2, g3, fun x hx => by have := g4 x hx; omega⟩
    · rw [if_neg (by omega), if_neg (by omega)]
      exact ⟨_, rfl, mk 1 l _ (by omega) (by omega) hl1 hl2 h2 h3 (fun x hx => by have := h4 x hx; omega)⟩
end Go.Proofs.YtbnjeanldechnaaGreatDoor
