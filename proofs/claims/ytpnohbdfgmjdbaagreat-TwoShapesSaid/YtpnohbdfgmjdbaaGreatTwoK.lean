/- Plain: instances of few arcs, with bounds and supplies. -/
import Derived.Test.YtpnohbdfgmjdbaaGreatTh4
import Derived.Test.YtpnohbdfgmjdbaaGreatTh5
namespace Go.Proofs.YtpnohbdfgmjdbaaGreat
open Go.RowKit Go.Qe
def OkA (m : Int) (a : Arc) : Prop := (0 ≤ a.src ∧ a.src < m ∧ 0 ≤ a.dst ∧ a.dst < m) ∧ (0 ≤ a.low ∧ a.low ≤ 1) ∧ (a.cap = 4611686018427387904 ∨ a.low ≤ a.cap ∧ a.cap ≤ 5) ∧ -6 ≤ a.cost ∧ a.cost ≤ 19
structure SpI (m L : Nat) (j : Nat) (s : Int × List Int × List Arc) : Prop where
  at_ : s.1 = (j : Int)
  sl : s.2.1.length = m
  al : s.2.2.length = L
  arcs : ∀ a ∈ s.2.2, OkA m a
  sup : ∀ x ∈ s.2.1, -(2 * (j : Int)) ≤ x ∧ x ≤ 2 * (j : Int)
  sum : s.2.1.sum = 0
theorem spI_small {m L j : Nat} {s : Int × List Int × List Arc} (h : SpI m L j s) (hm : m ≤ 10) (hL : L ≤ 19) (hj : j ≤ L) : Small ⟨s.2.1, s.2.2⟩ := by
  refine ⟨⟨by have := h.sl; dsimp only; omega, by have := h.al; dsimp only; omega, fun a ha => ?_, fun x hx => ?_, h.sum⟩, fun a ha => ?_, fun x hx => ?_⟩
  · have := h.arcs a ha
    have e : (⟨s.2.1, s.2.2⟩ : Inst).supply.length = m := h.sl
    rw [e]
    obtain ⟨⟨h1, h2, h3, h4⟩, h5, h6, h7⟩ := this
    exact ⟨h1, h2, h3, h4, h5.1, by omega, by omega, by omega, by omega⟩
  · have := h.sup x hx; omega
  · obtain ⟨_, h5, h6, h7⟩ := h.arcs a ha
    omega
  · have := h.sup x hx; omega
end Go.Proofs.YtpnohbdfgmjdbaaGreat
