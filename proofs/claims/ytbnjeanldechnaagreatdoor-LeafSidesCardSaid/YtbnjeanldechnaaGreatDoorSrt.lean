/- Sorting and compacting a slice of integers that is the call's own (over the shelf's contracts); what both together give (plain). -/
import Derived.Test.YtbnjeanldechnaaGreatDoorTys
import Derived.Test.YtbnjeanldechnaaGreatDoorRd
import Derived.Test.YtbnjeanldechnaaGreatDoorShelf
import Derived.Sort.OwnSortedInts
namespace Go.Proofs.YtbnjeanldechnaaGreatDoor
open Go.RowKit Go.Qe
theorem putI {w0 w : World} {H H1 : Heap} {e : TypeId} {g cap n : Nat} {xs ys : List Int} {os : Array Obj} (h : KH w0 H w) (hm : Rem (.own (.slice (some ⟨g, 0, none⟩) xs.length cap) e 1 xs.length (ints xs)) H H1) (hl : ys.length = xs.length) :
    KH w0 (.own (.slice (some ⟨g, 0, none⟩) xs.length cap) e 1 xs.length (ints ys) :: H1) (Sort.grow (Sort.putRow (Value.int .i64) (Sort.ahead w n) g 0 ys.toArray) os) := by
  have hown : w.ownsRow 0 e 1 (.slice (some ⟨g, 0, none⟩) xs.length cap) xs.length (ints xs) := (h.rem hm).1
  have hgr : w.grownBy (Sort.grow (Sort.putRow (Value.int .i64) (Sort.ahead w n) g 0 ys.toArray) os) (some g) := grownBy_sortedI _
  rcases hown.2 with ⟨h0, _⟩ | ⟨g', cap', cur, hv, hg, hb, hn, hcap, hcs, _⟩
  · cases h0
  cases hv
  refine h.turn hm ⟨rfl, rfl, rfl, hgr.size, fun k hk => by omega⟩ (fun b hlt hb => hgr.block b hlt (fun e => hb (by cases e; rfl))) ?_ (fun b hb => .inl hb)
  exact ownsRow_sortedI hl (Nat.zero_le _) hb hn hcap hcs
def sortI (xs : List Int) : List Int := xs.mergeSort fun x y => decide (x ≤ y)
theorem sortI_length (xs : List Int) : (sortI xs).length = xs.length := by simp [sortI]
theorem sort_kh {w0 w : World} {H H1 : Heap} {v : Value} {e : TypeId} {xs : List Int} (h : KH w0 H w) (hm : Rem (.own v e 1 xs.length (ints xs)) H H1) (hlen : xs.length < 4611686018427387904) :
    Calls Tryz.prog 102 #[v] w fun e' w' => e' = .returned (.tuple #[]) ∧ KH w0 (.own v e 1 xs.length (ints (sortI xs)) :: H1) w' := by
  have hown : w.ownsRow 0 e 1 v xs.length (ints xs) := (h.rem hm).1
  rcases hown.2 with ⟨rfl, hn⟩ | ⟨g, cap, cur, rfl, _, hb, hn, hcap, hcs, htk⟩
  · have : xs = [] := List.eq_nil_of_length_eq_zero hn
    subst this
    refine (Tryz.slices_Sort_int_none none 0 w).mono fun e' w' ⟨he, hw⟩ => ⟨he, ?_⟩
    subst hw
    rw [show sortI [] = [] from by simp [sortI]]
    exact ⟨h.glob, List.pairwise_cons.2 ⟨(h.rem hm).2.2, (h.rem hm).2.1.apart⟩, fun p hp => by
      rcases List.mem_cons.1 hp with rfl | hp
      · exact (h.rem hm).1
      · exact (h.rem hm).2.1.holds p hp⟩
  · refine (Tryz.slices_Sort_int g 0 cap xs w (holds_of_blockI hb (by simpa [kints] using htk)) (lt_of_some hb) hlen).mono fun e' w' ⟨he, n, os, hw⟩ => ⟨he, ?_⟩
    subst hw
    exact putI h hm (sortI_length xs)
def compI (xs : List Int) : List Int := Lib.compact xs
theorem compI_le (xs : List Int) : (compI xs).length ≤ xs.length := by
  simp only [compI, Lib.compact, Lib.compactUpTo, List.length_map]
  exact Nat.le_trans (List.length_filter_le _ _) (by simp)
theorem compact_kh {w0 w : World} {H H1 : Heap} {v : Value} {e : TypeId} {xs : List Int} (h : KH w0 H w) (hm : Rem (.own v e 1 xs.length (ints xs)) H H1) (hlen : xs.length ≤ 9223372036854775807) :
    Calls Tryz.prog 103 #[v] w fun e' w' => ∃ v', e' = .returned v' ∧ KH w0 (.own v' e 1 (compI xs).length (ints (compI xs)) :: H1) w' := by
  have hown : w.ownsRow 0 e 1 v xs.length (ints xs) := (h.rem hm).1
  rcases hown.2 with ⟨rfl, hn⟩ | ⟨g, cap, cur, rfl, _, hb, hn, hcap, hcs, htk⟩
  · have : xs = [] := List.eq_nil_of_length_eq_zero hn
    subst this
    refine (Tryz.slices_Compact_int_empty none 0 w).mono fun e' w' ⟨he, hw⟩ => ⟨_, he, ?_⟩
    subst hw
    exact ⟨h.glob, List.pairwise_cons.2 ⟨(h.rem hm).2.2, (h.rem hm).2.1.apart⟩, fun p hp => by
      rcases List.mem_cons.1 hp with rfl | hp
      · exact (h.rem hm).1
      · exact (h.rem hm).2.1.holds p hp⟩
  · refine (Tryz.slices_Compact_int g 0 cap xs w (holds_of_blockI hb (by simpa [kints] using htk)) hlen hn).mono fun e' w' ⟨he, n, hw⟩ => ⟨_, he, ?_⟩
    have hcl := compI_le xs
    have hk := putI (n := n) (os := #[]) (ys := compI xs ++ List.replicate (xs.length - (compI xs).length) 0) h hm (by simp; omega)
    rw [Sort.grow_empty] at hk
    have hw' : w' = Sort.putRow (Value.int .i64) (Sort.ahead w n) g 0 (compI xs ++ List.replicate (xs.length - (compI xs).length) 0).toArray := hw
    rw [← hw'] at hk
    -- the slice, cut
    have hp := hk.rem .head
    have hown2 : w'.ownsRow 0 e 1 (.slice (some ⟨g, 0, none⟩) xs.length cap) xs.length (ints (compI xs ++ List.replicate (xs.length - (compI xs).length) 0)) := hp.1
    rcases hown2.2 with ⟨h0, _⟩ | ⟨g', cap', cur', hv, hg, hb', hn', hcap', hcs', htk'⟩
    · cases h0
    cases hv
    refine ⟨hk.glob, List.pairwise_cons.2 ⟨fun q hq b h1 h2 => hp.2.2 q hq b h1 h2, hp.2.1.apart⟩, fun p hpm => ?_⟩
    rcases List.mem_cons.1 hpm with rfl | hpm
    · show w'.ownsRow 0 e 1 (.slice (some ⟨g, 0, none⟩) (compI xs).length cap) (compI xs).length (ints (compI xs))
      refine ⟨by rw [kints_length, Nat.mul_one], .inr ⟨g, cap, cur', rfl, hg, hb', by omega, hcap', hcs', ?_⟩⟩
      have := congrArg (List.take (compI xs).length) htk'
      rw [List.take_take, Nat.min_eq_left (by omega)] at this
      rw [Nat.mul_one, this]
      simp [kints]
    · exact hp.2.1.holds p hpm
/-- two lists that rise and have the same members are one -/
theorem rise_ext : ∀ {l m : List Int}, l.Pairwise (· < ·) → m.Pairwise (· < ·) → (∀ x, x ∈ l ↔ x ∈ m) → l = m
  | [], [], _, _, _ => rfl
  | [], b :: m, _, _, h => absurd ((h b).2 (by simp)) (by simp)
  | a :: l, [], _, _, h => absurd ((h a).1 (by simp)) (by simp)
  | a :: l, b :: m, hl, hm, h => by
    obtain ⟨h1, h2⟩ := List.pairwise_cons.1 hl
    obtain ⟨h3, h4⟩ := List.pairwise_cons.1 hm
    have e : a = b := by
      rcases List.mem_cons.1 ((h a).1 (by simp)) with e | e
      · exact e
      · rcases List.mem_cons.1 ((h b).2 (by simp)) with e' | e'
        · exact e'.symm
        · have := h1 b e'; have := h3 a e; omega
    subst e
    congr 1
    refine rise_ext h2 h4 fun x => ⟨fun hx => ?_, fun hx => ?_⟩
    · rcases List.mem_cons.1 ((h x).1 (by simp [hx])) with e | e
      · have := h1 x hx; omega
      · exact e
    · rcases List.mem_cons.1 ((h x).2 (by simp [hx])) with e | e
      · have := h3 x hx; omega
      · exact e
theorem compact_rise {d : Array Int} (hs : ∀ j, j + 1 < d.size → d[j]! ≤ d[j + 1]!) : ∀ m, m ≤ d.size →
    (Lib.compactUpTo d m).Pairwise (· < ·) ∧ (∀ x, x ∈ Lib.compactUpTo d m ↔ ∃ j, j < m ∧ d[j]! = x) ∧ ∀ x, x ∈ Lib.compactUpTo d m → 0 < m → x ≤ d[m - 1]!
  | 0, _ => ⟨by simp [Lib.compactUpTo], by simp [Lib.compactUpTo], by simp [Lib.compactUpTo]⟩
  | m + 1, hm => by
    obtain ⟨h1, h2, h3⟩ := compact_rise hs m (by omega)
    rw [Lib.compactUpTo_succ]
    have hle : 0 < m → d[m - 1]! ≤ d[m]! := fun h0 => by have := hs (m - 1) (by omega); rwa [show m - 1 + 1 = m by omega] at this
    by_cases hk : Lib.keeps d m = true
    · rw [if_pos hk]
      have hlt : ∀ x ∈ Lib.compactUpTo d m, x < d[m]! := fun x hx => by
        have h0 : 0 < m := by
          obtain ⟨j, hj, _⟩ := (h2 x).1 hx
          omega
        have h4 := h3 x hx h0
        have h5 := hle h0
        have h6 : d[m]! ≠ d[m - 1]! := by
          simp only [Lib.keeps, decide_eq_true_eq] at hk
          rcases hk with hk | hk
          · omega
          · exact hk
        omega
      refine ⟨List.pairwise_append.2 ⟨h1, List.pairwise_singleton _ _, fun x hx y hy => by simp at hy; subst hy; exact hlt x hx⟩, fun x => ?_, fun x hx _ => ?_⟩
      · rw [List.mem_append, h2 x, List.mem_singleton]
        constructor
        · rintro (⟨j, hj, e⟩ | e)
          · exact ⟨j, by omega, e⟩
          · exact ⟨m, by omega, e.symm⟩
        · rintro ⟨j, hj, e⟩
          by_cases e2 : j = m
          · subst e2; exact .inr e.symm
          · exact .inl ⟨j, by omega, e⟩
      · rw [show m + 1 - 1 = m by omega]
        rcases List.mem_append.1 hx with hx | hx
        · exact Int.le_of_lt (hlt x hx)
        · simp at hx; omega
    · rw [if_neg hk, List.append_nil]
      have h0 : 0 < m ∧ d[m]! = d[m - 1]! := by
        simp only [Lib.keeps, decide_eq_true_eq] at hk
        constructor
        · omega
        · exact Classical.byContradiction fun h => hk (.inr h)
      refine ⟨h1, fun x => ?_, fun x hx _ => ?_⟩
      · rw [h2 x]
        constructor
        · rintro ⟨j, hj, e⟩; exact ⟨j, by omega, e⟩
        · rintro ⟨j, hj, e⟩
          by_cases e2 : j = m
          · subst e2; exact ⟨j - 1, by omega, by rw [← e, h0.2]⟩
          · exact ⟨j, by omega, e⟩
      · rw [show m + 1 - 1 = m by omega, h0.2]
        exact h3 x hx h0.1
theorem sortI_mem (xs : List Int) (x : Int) : x ∈ sortI xs ↔ x ∈ xs := by simp [sortI, List.mem_mergeSort]
theorem sortI_sorted (xs : List Int) : (sortI xs).Pairwise (· ≤ ·) := by
  have := List.pairwise_mergeSort (le := fun x y : Int => decide (x ≤ y)) (fun a b c h1 h2 => by simp at *; omega) (fun a b => by simp; omega) xs
  exact this.imp (by simp)
/-- sorted and compacted: it rises, and has the same members -/
theorem compI_sortI (xs : List Int) : (compI (sortI xs)).Pairwise (· < ·) ∧ ∀ x, x ∈ compI (sortI xs) ↔ x ∈ xs := by
  have hs : ∀ j, j + 1 < (sortI xs).toArray.size → (sortI xs).toArray[j]! ≤ (sortI xs).toArray[j + 1]! := fun j hj => by
    have hj' : j + 1 < (sortI xs).length := by simpa using hj
    rw [getElem!_pos _ j (by simpa using (by omega : j < (sortI xs).length)), getElem!_pos _ (j + 1) hj]
    have := List.pairwise_iff_getElem.1 (sortI_sorted xs) j (j + 1) (by omega) hj' (by omega)
    simpa using this
  obtain ⟨h1, h2, _⟩ := compact_rise hs (sortI xs).length (by simp)
  refine ⟨h1, fun x => (h2 x).trans ?_⟩
  rw [← sortI_mem]
  constructor
  · rintro ⟨j, hj, e⟩
    rw [getElem!_pos _ j (by simpa using hj)] at e
    subst e
    simp
  · intro hx
    obtain ⟨j, hj, e⟩ := List.getElem_of_mem hx
    exact ⟨j, hj, by rw [getElem!_pos _ j (by simpa using hj)]; simpa using e⟩
end Go.Proofs.YtbnjeanldechnaaGreatDoor
