/- Plain: instances of few arcs, with bounds and supplies. -/
import Derived.Test.YtpnohbdfgmjdbaaGreatTh4
import Derived.Test.YtpnohbdfgmjdbaaGreatTh5
namespace Go.Proofs.YtpnohbdfgmjdbaaGreat
open Go.RowKit Go.Qe
def OkA (m : Int) (a : Arc) : Prop := (0 ≤ a.src ∧ a.src < m ∧ 0 ≤ a.dst ∧ a.dst < m) ∧ (0 ≤ a.low ∧ a.low ≤ 1) ∧ (a.cap = 4611686018427387904 ∨ a.low ≤ a.cap ∧ a.cap ≤ 5) ∧ -6 ≤ a.cost ∧ a.cost ≤ 19
structure SpI (m L : Nat) (j : Nat) (s : Int × List Int × List Arc) : Prop where
  at_ : s.1 = (j : Int)
  sl : s.2.1.length = m
  al : s.2.2.length = L
  arcs : ∀ a ∈ s.2.2, OkA m a
  sup : ∀ x ∈ s.2.1, -(2 * (j : Int)) ≤ x ∧ x ≤ 2 * (j : Int)
  sum : s.2.1.sum = 0
theorem spI_small {m L j : Nat} {s : Int × List Int × List Arc} (h : SpI m L j s) (hm : m ≤ 10) (hL : L ≤ 19) (hj : j ≤ L) : Small ⟨s.2.1, s.2.2⟩ := by
  refine ⟨⟨by have := h.sl; dsimp only; omega, by have := h.al; dsimp only; omega, fun a ha => ?_, fun x hx => ?_, h.sum⟩, fun a ha => ?_, fun x hx => ?_⟩
  · have := h.arcs a ha
    have e : (⟨s.2.1, s.2.2⟩ : Inst).supply.length = m := h.sl
    rw [e]
    obtain ⟨⟨h1, h2, h3, h4⟩, h5, h6, h7⟩ := this
    exact ⟨h1, h2, h3, h4, h5.1, by omega, by omega, by omega, by omega⟩
  · have := h.sup x hx; omega
  · obtain ⟨_, h5, h6, h7⟩ := h.arcs a ha
    omega
  · have := h.sup x hx; omega
theorem sparse_ok {c d : List Int} (hc : Byt c) (hd : Byt d) : ∃ i, law18_Sparse c d = some i ∧ Small i := by
  obtain ⟨t, ht, hT⟩ := thin_ok hc
  unfold law18_Sparse
  rw [ht, Option.bind_some]
  generalize hm : t.supply.length = m
  generalize hL : t.arcs.length = L
  have hm1 := hT.n1
  have hL1 := hT.many
  refine lp_inv (T := fun o => ∃ i, o = some i ∧ Small i) L (by omega) (fun j s => SpI m L j s) 0 ⟨rfl, hm, hL, fun a ha => ?_, fun x hx => by have := hT.sup x hx; omega, ?_⟩ (by omega) fun k j s hj hI hk => ?_
  · obtain ⟨h1, h2, h3, h4⟩ := hT.arcs a ha
    rw [hm] at h1
    exact ⟨h1, by omega, .inr (by omega), by omega⟩
  · have : ∀ l : List Int, (∀ s ∈ l, s = 0) → l.sum = 0 := fun l => by
      induction l with
      | nil => intro _; rfl
      | cons a l ih =>
        intro h
        rw [List.sum_cons, h a List.mem_cons_self, ih fun s hs => h s (List.mem_cons_of_mem _ hs)]; rfl
    exact this _ hT.sup
  · obtain ⟨s1, xs, ys⟩ := s
    have hfin : ∃ i, some (Inst.mk xs ys) = some i ∧ Small i := ⟨_, rfl, spI_small (s := (s1, xs, ys)) hI (by omega) (by omega) hj⟩
    obtain ⟨e1, e2, e3, e4, e5, e6⟩ := hI
    dsimp only at e1 e2 e3 e4 e5 e6
    subst e1
    unfold law18_Sparse_b1
    dsimp only
    by_cases c1 : (j : Int) < ys.length
    · rw [if_pos c1]
      by_cases c2 : (j : Int) < d.length
      · have hr : 0 ≤ (j : Int) ∧ (j : Int) < ys.length := ⟨by omega, c1⟩
        have hb := hd.at_ (j : Int)
        have ha := e4 _ (gt_in hr)
        rw [if_pos c2, if_pos ⟨by omega, c2⟩, if_pos hr]
        generalize gt d (j : Int) = z at *
        have t3 := tdiv_rng hb (show (0 : Int) < 3 by omega)
        have t6 := tdiv_rng hb (show (0 : Int) < 6 by omega)
        rw [wrap8_id t3, wrap8_id t6]
        have m2 := tmod_rng t3.1 (show (0 : Int) < 2 by omega)
        have m5 := tmod_rng t6.1 (show (0 : Int) < 5 by omega)
        have m3 := tmod_rng hb.1 (show (0 : Int) < 3 by omega)
        have m17 := tmod_rng hb.1 (show (0 : Int) < 17 by omega)
        generalize (z.tdiv 3).tmod 2 = lo at *
        generalize (z.tdiv 6).tmod 5 = wi at *
        generalize z.tmod 3 = n at *
        generalize z.tmod 17 = co at *
        generalize z.tmod 13 = q at *
        rw [w64_id (x := lo) (by omega) (by omega), w64_id (x := wi) (by omega) (by omega), w64_id (x := n) (by omega) (by omega), w64_id (x := co) (by omega) (by omega), w64_id (x := co - 6) (by omega) (by omega)]
        have hlen : ∀ y, 0 ≤ (j : Int) ∧ (j : Int) < (upd ys (j : Int) y).length := fun y => by rw [upd_len]; exact hr
        have gself : ∀ y, gt (upd ys (j : Int) y) (j : Int) = y := fun y => gt_upd hr
        simp only [lt_eq, gself, upd_upd, upd_len, if_pos hr]
        rw [w64_id (x := lo + wi) (by omega) (by omega)]
        generalize gt ys (j : Int) = a at *
        obtain ⟨⟨a1, a2, a3, a4⟩, a5, a6, a7⟩ := ha
        have ms : 0 ≤ a.src ∧ a.src < xs.length := by omega
        have md : 0 ≤ a.dst ∧ a.dst < xs.length := by omega
        have s1 := e5 _ (gt_in ms)
        have hw1 : w64 (gt xs a.src + n) = gt xs a.src + n := w64_id (by omega) (by omega)
        have hX : ∀ x ∈ upd xs a.src (gt xs a.src + n), -(2 * (j : Int)) ≤ x ∧ x ≤ 2 * (j : Int) + 2 := fun x hx => by
          rcases mem_upd hx with h | h
          · have := e5 x h; omega
          · omega
        have mdl : 0 ≤ a.dst ∧ a.dst < (upd xs a.src (gt xs a.src + n)).length := by rw [upd_len]; exact md
        have s2 := hX _ (gt_in mdl)
        have hw2 : w64 (gt (upd xs a.src (gt xs a.src + n)) a.dst - n) = gt (upd xs a.src (gt xs a.src + n)) a.dst - n := w64_id (by omega) (by omega)
        simp only [if_pos ms, hw1, if_pos md, hw2, w64_succ (show j < 4611686018427387904 by omega)]
        have hsup : ∀ x ∈ upd (upd xs a.src (gt xs a.src + n)) a.dst (gt (upd xs a.src (gt xs a.src + n)) a.dst - n), -(2 * ((j + 1 : Nat) : Int)) ≤ x ∧ x ≤ 2 * ((j + 1 : Nat) : Int) := fun x hx => by
          rcases mem_upd hx with h | h
          · have := hX x h; omega
          · omega
        have hsum : (upd (upd xs a.src (gt xs a.src + n)) a.dst (gt (upd xs a.src (gt xs a.src + n)) a.dst - n)).sum = 0 := by
          rw [sum_upd mdl, sum_upd ms]; omega
        have harc : ∀ b : Arc, OkA m b → ∀ y ∈ upd ys (j : Int) b, OkA m y := fun b hb y hy => by
          rcases mem_upd hy with h | h
          · exact e4 y h
          · exact h ▸ hb
        by_cases hq : q = 0
        · rw [if_pos hq]
          exact hk (by omega) _ ⟨rfl, by dsimp only; rw [upd_len, upd_len]; exact e2, by dsimp only; rw [upd_len]; exact e3, harc _ ⟨⟨a1, a2, a3, a4⟩, by dsimp only; omega, .inl rfl, by dsimp only; omega⟩, hsup, hsum⟩
        · rw [if_neg hq]
          exact hk (by omega) _ ⟨rfl, by dsimp only; rw [upd_len, upd_len]; exact e2, by dsimp only; rw [upd_len]; exact e3, harc _ ⟨⟨a1, a2, a3, a4⟩, by dsimp only; omega, .inr (by dsimp only; omega), by dsimp only; omega⟩, hsup, hsum⟩
      · rw [if_neg c2]; exact hfin
    · rw [if_neg c1]; exact hfin
end Go.Proofs.YtpnohbdfgmjdbaaGreat
