/- What a slice of bytes that came in is, in this layer's words. -/
import Derived.Test.YtbnjeanldechnaaGreatDoorRd
import Derived.RowKit
namespace Go.Proofs.YtbnjeanldechnaaGreatDoor
open Go.RowKit Go.Qe
/-- bytes -/
def Byt (c : List Int) : Prop := ∀ m, 0 ≤ el c m ∧ el c m ≤ 255
theorem row_k {k : IntKind} {w : World} {a : Option Addr} {len cap : Nat} {zs : List Int}
    (h : (a = none ∧ len = 0 ∧ cap = 0 ∧ zs = []) ∨ ∃ x, a = some x ∧ len ≤ cap ∧ cap ≤ maxLen ∧ zs.length = cap ∧ (∀ i, i < zs.length → w.cell? (x.add i) = some (.int k (zs.getD i 0))) ∧ ∀ n ∈ zs, (Lit.int k n).wf = true) :
    ∃ c : List Int, KintsZ k (PH.of w) (.slice a len cap) c ∧ ∀ n ∈ c, (Lit.int k n).wf = true := by
  rcases h with ⟨rfl, rfl, rfl, rfl⟩ | ⟨x, rfl, h1, h2, h3, h4, h5⟩
  · exact ⟨[], KintsZ.nil_, fun n h => by cases h⟩
  · have hl : (zs.take len).length = len := by simp; omega
    refine ⟨zs.take len, ⟨some x, cap, by rw [hl], by omega, by simpa [maxLen] using h2, fun hn => ?_⟩, fun n hn => h5 n (List.mem_of_mem_take hn)⟩
    obtain ⟨b, off, spot⟩ := x
    have hs : spot = none := by
      have := h4 0 (by omega)
      cases spot with
      | none => rfl
      | some s =>
        simp [World.cell?, Addr.add] at this
        split at this <;> cases this
    subst hs
    refine ⟨b, off, rfl, fun j hj => ?_⟩
    rw [hl] at hj
    have := h4 j (by omega)
    rw [add_addr] at this
    have e : el (zs.take len) j = zs.getD j 0 := by
      simp only [el, List.getD]
      rw [List.getElem?_take_of_lt (by omega)]
    rw [Zc_of]
    simp only [e]
    by_cases h0 : j = 0
    · subst h0; simpa using this
    · rw [if_neg h0] at this; exact this
theorem u8_rng {x : Int} (h : (Lit.int .u8 x).wf = true) : 0 ≤ x ∧ x ≤ 255 := by
  have e1 : IntKind.u8.min = 0 := rfl
  have e2 : IntKind.u8.max = 255 := rfl
  simp only [Lit.wf, e1, e2, Bool.and_eq_true, decide_eq_true_eq] at h
  exact h
theorem row_u8 {w : World} {a : Option Addr} {len cap : Nat} {zs : List Int}
    (h : (a = none ∧ len = 0 ∧ cap = 0 ∧ zs = []) ∨ ∃ x, a = some x ∧ len ≤ cap ∧ cap ≤ maxLen ∧ zs.length = cap ∧ (∀ i, i < zs.length → w.cell? (x.add i) = some (.int .u8 (zs.getD i 0))) ∧ ∀ n ∈ zs, (Lit.int .u8 n).wf = true) :
    ∃ c : List Int, U8Z (PH.of w) (.slice a len cap) c ∧ Byt c := by
  obtain ⟨c, h1, h2⟩ := row_k h
  refine ⟨c, h1, fun m => ?_⟩
  by_cases hm : m < c.length
  · exact u8_rng (h2 _ (el_mem hm))
  · rw [el_out (by omega)]; omega
end Go.Proofs.YtbnjeanldechnaaGreatDoor
