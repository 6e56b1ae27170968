/- Two: TwoNever, plain. -/
import Derived.Test.YtpnohbdfgmjdbaaTwoP
namespace Go.Proofs.Ytpnohbdfgmjdbaa
open Go.RowKit Go.Qe
def arcX (b : Bool) (j : Nat) : Arc := if b then ⟨1, 2, 0, 5, (j : Int)⟩ else ⟨0, 1, 0, 5, (j : Int)⟩
def arcsB : List Bool → List Arc
  | [] => []
  | b :: r => arcsB r ++ [arcX b r.length]
def nevI (xs : List Arc) : Inst := ⟨List.replicate (3 : Int).toNat 0, xs⟩
/-- what is asked at the node of all arcs, and that there is an answer at the others -/
def nevB (xs : List Arc) (two : Bool) : Bool :=
  (match two_Chain (nevI xs) 1, two_Split (nevI xs) 1 with
   | some p, some q => (p.2 || q.2) == two && !(p.2 && q.2)
   | _, _ => false) && ([0, 1, 2].all fun n => (two_Chain (nevI xs) n).isSome && (two_Split (nevI xs) n).isSome) && xs.all (wholeB 3) && decide (xs.length < 10)
def moreB (l : List (List Bool)) : List (List Bool) := l.map (true :: ·) ++ l.map (false :: ·)
def bN : Nat → List (List Bool)
  | 0 => [[]]
  | n + 1 => moreB (bN n)
theorem bN_mem : ∀ (bs : List Bool), bs ∈ bN bs.length
  | [] => by simp [bN]
  | b :: r => by
    have := bN_mem r
    cases b <;> simp [bN, moreB, this]
theorem nev_all : (List.range 5).all (fun m => (bN m).all fun bs => nevB (arcsB bs) (m == 2) && nevB (arcsB bs ++ [⟨1, 1, 0, 1, 0⟩]) false) = true := by kernel_rfl
theorem nev_one {bs : List Bool} (h : bs.length < 5) : nevB (arcsB bs) (bs.length == 2) = true ∧ nevB (arcsB bs ++ [⟨1, 1, 0, 1, 0⟩]) false = true := by
  have h1 := List.all_eq_true.1 nev_all bs.length (List.mem_range.2 h)
  have h2 := List.all_eq_true.1 h1 bs (bN_mem bs)
  simpa using h2
theorem far_some {xs : List Arc} (h : xs.all (wholeB 3) = true) {n : Int} (hn : n < 0 ∨ 2 < n) : someL (nevI xs) n true true = [] := by
  unfold someL someTo
  rw [List.filter_eq_nil_iff.2, List.map_nil]
  intro k hk
  have hk' : k < xs.length := List.mem_range.1 hk
  have h1 : wholeB 3 (arcAt (nevI xs).arcs k) = true := by
    have e : arcAt (nevI xs).arcs k = xs[k] := arcAt_eq hk'
    rw [e]
    exact List.all_eq_true.1 h _ (List.getElem_mem hk')
  simp only [wholeB, decide_eq_true_eq] at h1
  simp only [pickB, Bool.and_eq_true, Bool.or_eq_true, decide_eq_true_eq, Bool.true_and]
  intro hh
  rcases hh.2 with h2 | h2 <;> omega
theorem far_none {xs : List Arc} (h : xs.all (wholeB 3) = true) (hl : xs.length < 10) {n : Int} (hn : n < 0 ∨ 2 < n) : two_Chain (nevI xs) n = some (noSpot, false) ∧ two_Split (nevI xs) n = some (noSpot, false) := by
  have h0 : adj_New (nevI xs) = some (nevI xs) := by unfold adj_New; rw [if_pos ⟨by show (3 : Nat) ≤ _; simp only [lim]; omega, by show xs.length ≤ _; simp only [lim]; omega⟩]
  have h1 : adj_Graph_At (nevI xs) n = some [] := by unfold adj_Graph_At; rw [if_pos (show (nevI xs).arcs.length ≤ _ by show xs.length ≤ _; simp only [lim]; omega), far_some h hn]
  constructor
  · unfold two_Chain two_shape_at_1
    rw [h0, Option.bind_some, h1]
    rfl
  · unfold two_Split two_shape_at_2
    rw [h0, Option.bind_some, h1]
    rfl
/-- all that the law asks of one list of arcs -/
theorem nev_use {xs : List Arc} {two : Bool} (h : nevB xs two = true) (x : Int) : ∃ p q u v, two_Chain (nevI xs) 1 = some p ∧ two_Split (nevI xs) 1 = some q ∧ two_Chain (nevI xs) x = some u ∧ two_Split (nevI xs) x = some v ∧
    ((p.2 || q.2) == two) = true ∧ (p.2 && q.2) = false ∧ ((x < 0 ∨ 2 < x) → u.2 = false ∧ v.2 = false) := by
  simp only [nevB, Bool.and_eq_true, decide_eq_true_eq] at h
  obtain ⟨⟨⟨h1, h2⟩, h3⟩, h4⟩ := h
  cases hp : two_Chain (nevI xs) 1 with
  | none => rw [hp] at h1; simp at h1
  | some p =>
    cases hq : two_Split (nevI xs) 1 with
    | none => rw [hp, hq] at h1; simp at h1
    | some q =>
      rw [hp, hq] at h1
      simp only [Bool.and_eq_true] at h1
      by_cases hx : x < 0 ∨ 2 < x
      · obtain ⟨e1, e2⟩ := far_none h3 h4 hx
        exact ⟨p, q, _, _, rfl, rfl, e1, e2, h1.1, by simpa only [Bool.not_eq_true'] using h1.2, fun _ => ⟨rfl, rfl⟩⟩
      · have hm : x ∈ [(0 : Int), 1, 2] := by simp only [List.mem_cons, List.not_mem_nil, or_false]; omega
        have h5 := List.all_eq_true.1 h2 x hm
        simp only [Bool.and_eq_true, Option.isSome_iff_exists] at h5
        obtain ⟨⟨u, hu⟩, v, hv⟩ := h5
        exact ⟨p, q, u, v, rfl, rfl, hu, hv, h1.1, by simpa only [Bool.not_eq_true'] using h1.2, fun h => absurd h hx⟩
theorem never_true {d v x : Int} (hd : 0 ≤ d) (hv : 0 ≤ v ∧ v ≤ 255) : law18_TwoNever d v x = some true := by
  have d1 : 0 ≤ d.tmod 5 ∧ d.tmod 5 ≤ 4 := by rw [tmod_nat hd]; omega
  obtain ⟨m, hm⟩ := Int.eq_ofNat_of_zero_le d1.1
  have wm : w64 (d.tmod 5) = (m : Int) := by rw [w64_id (by omega) (by omega), hm]
  unfold law18_TwoNever
  rw [if_pos (by decide)]
  refine lp_up2 (T := (· = some true)) m (by omega) (fun j xs => ∃ bs : List Bool, bs.length = j ∧ xs = arcsB bs) _ ⟨[], rfl, rfl⟩ fun k j xs hj hx hk => ?_
  obtain ⟨bs, hb, rfl⟩ := hx
  have hlen : ∀ bs : List Bool, (arcsB bs).length = bs.length := fun bs => by
    induction bs with
    | nil => rfl
    | cons b r ih => simp [arcsB, ih]
  unfold law18_TwoNever_b1
  dsimp only
  have wj : w64 ((j : Int) + 1) = ((j + 1 : Nat) : Int) := by rw [w64_id (by omega) (by omega)]; rfl
  by_cases h1 : (j : Int) < (m : Int)
  · rw [wm, if_pos h1, if_pos (by rw [show IntKind.wrap .u64 (j : Int) = (j : Int) from wrap_rng ⟨by show (0:Int) ≤ _; omega, by show (j : Int) ≤ 18446744073709551615; omega⟩]; omega)]
    simp only [lt_eq, wj]
    have hl : ∀ a : Arc, (arcsB bs).length + [a].length ≤ lim := fun a => by rw [hlen]; simp only [List.length_cons, List.length_nil, lim]; omega
    rw [if_pos (hl _), if_pos (hl _)]
    split
    · exact hk (by omega) _ ⟨true :: bs, by simp [hb], by simp [arcsB, arcX, hb]⟩
    · exact hk (by omega) _ ⟨false :: bs, by simp [hb], by simp [arcsB, arcX, hb]⟩
  · have hjm : j = m := by omega
    rw [wm, if_neg h1]
    obtain ⟨n1, n2⟩ := nev_one (bs := bs) (by omega)
    have hl : ∀ a : Arc, (arcsB bs).length + [a].length ≤ lim := fun a => by rw [hlen]; simp only [List.length_cons, List.length_nil, lim]; omega
    have h2 : (bs.length == 2) = decide (d.tmod 5 = 2) := by
      rw [hb, hjm, hm]
      by_cases h : m = 2
      · subst h; rfl
      · rw [decide_eq_false (by omega)]; simpa using h
    rw [h2] at n1
    obtain ⟨p, q, u, z, a1, a2, a3, a4, a5, a6, a7⟩ := nev_use n1 x
    obtain ⟨p', q', u', z', b1, b2, b3, b4, b5, b6, b7⟩ := nev_use n2 x
    unfold nevI at a1 a2 a3 a4 b1 b2 b3 b4
    rw [if_pos (hl _)]
    simp only [lt_eq, a1, a2, a3, a4, b1, b2, b3, b4, Option.bind_some, known_true, if_true]
    clear a1 a2 a3 a4 b1 b2 b3 b4 n1 n2 hl hk
    generalize p.2 = p at *
    generalize q.2 = q at *
    generalize u.2 = u at *
    generalize z.2 = z at *
    generalize p'.2 = p' at *
    generalize q'.2 = q' at *
    generalize u'.2 = u' at *
    generalize z'.2 = z' at *
    by_cases c2 : x < 0
    · obtain ⟨rfl, rfl⟩ := a7 (.inl c2)
      obtain ⟨rfl, rfl⟩ := b7 (.inl c2)
      by_cases c1 : 128 ≤ v <;> by_cases c3 : d.tmod 5 = 2 <;> simp only [c1, c2, c3, if_true, if_false, decide_true, decide_false] at a5 b5 ⊢ <;> cases p <;> cases q <;> cases p' <;> cases q' <;>
        first | rfl | exact absurd a5 (by decide) | exact absurd a6 (by decide) | exact absurd b5 (by decide) | exact absurd b6 (by decide)
    · by_cases c4 : 2 < x
      · obtain ⟨rfl, rfl⟩ := a7 (.inr c4)
        obtain ⟨rfl, rfl⟩ := b7 (.inr c4)
        by_cases c1 : 128 ≤ v <;> by_cases c3 : d.tmod 5 = 2 <;> simp only [c1, c2, c3, c4, if_true, if_false, decide_true, decide_false] at a5 b5 ⊢ <;> cases p <;> cases q <;> cases p' <;> cases q' <;>
          first | rfl | exact absurd a5 (by decide) | exact absurd a6 (by decide) | exact absurd b5 (by decide) | exact absurd b6 (by decide)
      · by_cases c1 : 128 ≤ v <;> by_cases c3 : d.tmod 5 = 2 <;> simp only [c1, c2, c3, c4, if_true, if_false, decide_true, decide_false] at a5 b5 ⊢ <;> cases p <;> cases q <;> cases p' <;> cases q' <;>
          first | rfl | exact absurd a5 (by decide) | exact absurd a6 (by decide) | exact absurd b5 (by decide) | exact absurd b6 (by decide)
end Go.Proofs.Ytpnohbdfgmjdbaa
