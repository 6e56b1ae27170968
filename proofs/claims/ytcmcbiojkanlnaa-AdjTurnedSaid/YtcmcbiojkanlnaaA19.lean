/- Adj: the four statements' instance, its graph; each arc is told once (plain). -/
import Derived.Test.YtcmcbiojkanlnaaA18
namespace Go.Proofs.Ytcmcbiojkanlnaa
open Go.RowKit Go.Qe
/-- all arcs are between nodes -/
def AllOk (i : Inst) : Prop := ∀ k, k < i.arcs.length → ArcOk (arcAt i.arcs k) i.supply.length
theorem instOf_ok {c d : List Int} (h : Byt c) : AllOk (instOf c d) := fun k hk => by
  rw [instOf_sup]
  exact arcsOf_ok h (nOf_pos d) hk
theorem AllOk.fit {i : Inst} (h : AllOk i) {k : Nat} (hk : k < i.arcs.length) : fitB i k = true := by
  have ho := h k hk
  have := ho.src0
  have := ho.src1
  have := ho.dst0
  have := ho.dst1
  simp [fitB, wholeB]
  omega
theorem AllOk.out {i : Inst} (h : AllOk i) {n x : Int} : x ∈ someL i n true false ↔ ∃ k : Nat, k < i.arcs.length ∧ (arcAt i.arcs k).src = n ∧ x = (k : Int) := by
  rw [someL_mem]
  constructor
  · rintro ⟨k, h1, h2, h3⟩; exact ⟨k, h1, by simp [pickB] at h2; exact h2.2, h3⟩
  · rintro ⟨k, h1, h2, h3⟩; exact ⟨k, h1, by simp [pickB, h.fit h1, h2], h3⟩
theorem AllOk.inn {i : Inst} (h : AllOk i) {n x : Int} : x ∈ someL i n false true ↔ ∃ k : Nat, k < i.arcs.length ∧ (arcAt i.arcs k).dst = n ∧ x = (k : Int) := by
  rw [someL_mem]
  constructor
  · rintro ⟨k, h1, h2, h3⟩; exact ⟨k, h1, by simp [pickB] at h2; exact h2.2, h3⟩
  · rintro ⟨k, h1, h2, h3⟩; exact ⟨k, h1, by simp [pickB, h.fit h1, h2], h3⟩
/-- how often each of m was told: those of keys below n, and those of a list -/
structure Tal (key : Nat → Int) (m : Nat) (n : Int) (l : List Int) (outs : List Int) : Prop where
  len : outs.length = m
  val : ∀ a, a < m → el outs a = (if key a < n then 1 else 0) + (if (a : Int) ∈ l then 1 else 0)
theorem Tal.start (key : Nat → Int) (m : Nat) (h : ∀ a, a < m → 0 ≤ key a) : Tal key m 0 [] (List.replicate m 0) :=
  ⟨by simp, fun a ha => by have := h a ha; rw [el_replicate, if_neg (by omega)]; simp⟩
theorem Tal.step {key : Nat → Int} {m k a0 : Nat} {n : Int} {L outs : List Int} (h : Tal key m n (L.take k) outs) (hk : k < L.length) (he : el L k = (a0 : Int)) (ha : a0 < m) (hkey : key a0 = n) (hr : L.Pairwise (· < ·)) :
    el outs a0 = 0 ∧ Tal key m n (L.take (k + 1)) (outs.set a0 1) := by
  have htk : L.take (k + 1) = L.take k ++ [(a0 : Int)] := by
    rw [List.take_add_one, ← he, el_eq hk]; simp [List.getElem?_eq_getElem hk]
  have hn : (a0 : Int) ∉ L.take k := fun hm => by
    obtain ⟨j, hj, e⟩ := List.getElem_of_mem hm
    have hj' : j < k := by simp at hj; omega
    rw [List.getElem_take] at e
    have := List.pairwise_iff_getElem.1 hr j k (by omega) hk hj'
    rw [el_eq hk] at he
    omega
  have h0 : el outs a0 = 0 := by rw [h.val a0 ha, if_neg (by omega), if_neg hn]; rfl
  refine ⟨h0, by simp [h.len], fun a ham => ?_⟩
  rw [el_set (by rw [h.len]; exact ha), htk]
  by_cases e : a = a0
  · subst e; rw [if_pos rfl, if_neg (by omega), if_pos (by simp)]; rfl
  · rw [if_neg e, h.val a ham]
    congr 1
    have : ((a : Int) ∈ L.take k ++ [(a0 : Int)]) ↔ (a : Int) ∈ L.take k := by
      rw [List.mem_append]
      constructor
      · rintro (h | h)
        · exact h
        · simp at h; omega
      · exact .inl
    simp [this]
theorem Tal.next {key : Nat → Int} {m : Nat} {n : Int} {L outs : List Int} (h : Tal key m n L outs) (hL : ∀ a, a < m → ((a : Int) ∈ L ↔ key a = n)) : Tal key m (n + 1) [] outs :=
  ⟨h.len, fun a ha => by
    rw [h.val a ha]
    have := hL a ha
    by_cases e : key a = n
    · rw [if_neg (by omega), if_pos (this.2 e), if_pos (by omega)]; simp
    · rw [if_neg (fun hm => e (this.1 hm))]
      by_cases e2 : key a < n
      · rw [if_pos e2, if_pos (by omega)]; simp
      · rw [if_neg e2, if_neg (by omega)]; simp⟩
theorem AllOk.other {i : Inst} (h : AllOk i) {k : Nat} (hk : k < i.arcs.length) {n : Int} (hs : (arcAt i.arcs k).src = n) : otherOf i k (otherOf i k n) = n := by
  have hf := h.fit hk
  have hg : arcGet i (k : Int) = arcAt i.arcs k := by simp [arcGet, hf]
  simp only [otherOf, hf, hg, true_and]
  rw [if_pos hs]
  by_cases e : (arcAt i.arcs k).src = (arcAt i.arcs k).dst
  · rw [if_pos e]; omega
  · rw [if_neg e, if_pos rfl, hs]
end Go.Proofs.Ytcmcbiojkanlnaa
