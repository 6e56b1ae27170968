/- Two: the laws, plain. -/
import Derived.Test.YtpnohbdfgmjdbaaTTD
import Derived.Test.YtpnohbdfgmjdbaaPl
namespace Go.Proofs.Ytpnohbdfgmjdbaa
open Go.RowKit Go.Qe
theorem known_true : law18_known = some true := by kernel_rfl
/-- what 'tame' leaves -/
def Tame (a : Arc) : Prop := 0 ≤ a.low ∧ a.low ≤ 999 ∧ (a.cap = 4611686018427387904 ∨ a.low ≤ a.cap ∧ a.cap ≤ a.low + 999)
theorem tame_ok {a : Arc} (h1 : -9223372036854775808 ≤ a.low ∧ a.low ≤ 9223372036854775807) (h2 : -9223372036854775808 ≤ a.cap ∧ a.cap ≤ 9223372036854775807) : ∃ r, law18_tame a = some r ∧ Tame r := by
  have e1 := Int.tmod_lt_of_pos a.low (show (0 : Int) < 1000 by omega)
  have e2 := Int.lt_tmod_of_pos a.low (show (0 : Int) < 1000 by omega)
  have e3 := Int.tmod_lt_of_pos a.cap (show (0 : Int) < 1000 by omega)
  have e4 := Int.lt_tmod_of_pos a.cap (show (0 : Int) < 1000 by omega)
  have w1 : w64 (0 - a.low.tmod 1000) = 0 - a.low.tmod 1000 := w64_id (by omega) (by omega)
  have w2 : w64 (0 - a.cap.tmod 1000) = 0 - a.cap.tmod 1000 := w64_id (by omega) (by omega)
  unfold law18_tame
  simp only [w1, w2]
  generalize a.low.tmod 1000 = x at *
  generalize a.cap.tmod 1000 = y at *
  generalize a.cap.tmod 5 = z at *
  have w3 : ∀ u : Int, 0 ≤ u → u ≤ 999 → w64 (u + if 0 - y > y then 0 - y else y) = u + if 0 - y > y then 0 - y else y := fun u h1 h2 => by split <;> exact w64_id (by omega) (by omega)
  split
  · rw [w3 _ (by omega) (by omega)]
    split
    · exact ⟨_, rfl, by dsimp only; omega, by dsimp only; omega, .inl rfl⟩
    · exact ⟨_, rfl, by dsimp only; omega, by dsimp only; omega, .inr (by dsimp only; split <;> omega)⟩
  · rw [w3 _ (by omega) (by omega)]
    split
    · exact ⟨_, rfl, by dsimp only; omega, by dsimp only; omega, .inl rfl⟩
    · exact ⟨_, rfl, by dsimp only; omega, by dsimp only; omega, .inr (by dsimp only; split <;> omega)⟩
def oneI (u v : Arc) (s t : Int) : Inst := ⟨[t, s, w64 (w64 (0 - t) - s)], [u, v, ⟨0, 0, 0, 4611686018427387904, 0⟩, ⟨2, 0, 0, 40, 1⟩, ⟨0, 2, 0, 40, 1⟩]⟩
theorem one_eq (d s t : Int) (a b : Arc) : law18_One d a b s t 0 = some (oneI
    (if (IntKind.wrap .u8 (d.tdiv 3)).tmod 2 = 1 then ⟨if d.tmod 3 = 2 then 2 else 1, if d.tmod 3 = 2 then 1 else 2, b.low, b.cap, b.cost⟩ else ⟨if d.tmod 3 = 1 then 1 else 0, if d.tmod 3 = 1 then 0 else 1, a.low, a.cap, a.cost⟩)
    (if (IntKind.wrap .u8 (d.tdiv 3)).tmod 2 = 1 then ⟨if d.tmod 3 = 1 then 1 else 0, if d.tmod 3 = 1 then 0 else 1, a.low, a.cap, a.cost⟩ else ⟨if d.tmod 3 = 2 then 2 else 1, if d.tmod 3 = 2 then 1 else 2, b.low, b.cap, b.cost⟩) s t) := by
  unfold law18_One
  generalize d.tmod 3 = x
  generalize (IntKind.wrap .u8 (d.tdiv 3)).tmod 2 = y
  by_cases h1 : x = 1 <;> by_cases h2 : x = 2 <;> by_cases h3 : y = 1 <;> simp only [h1, h2, h3, if_true, if_false] <;> first | rfl | omega
def inA (a : Arc) (n : Int) : Prop := a.low ≤ n ∧ (a.cap = 4611686018427387904 ∨ n ≤ a.cap)
instance (a : Arc) (n : Int) : Decidable (inA a n) := by unfold inA; infer_instance
theorem in_eq (a : Arc) (n : Int) : law18_in a n = some (decide (inA a n)) := by
  unfold law18_in inA
  by_cases h1 : a.low ≤ n <;> by_cases h2 : a.cap = 4611686018427387904 <;> simp [h1, h2]
def noSpot : Spot := ⟨0, 0, 0, ⟨0, 0, 0, 0, 0⟩⟩
def spotOf (p q : Int) (r : Arc) : Spot × Bool := if r.cap < r.low then (noSpot, false) else (⟨1, p, q, r⟩, true)
theorem chain_eq (u v : Arc) (s t : Int) : two_pair_chain ⟨u, v, 1, s⟩ = some ⟨u.src, v.dst, if w64 (v.low - s) > u.low then w64 (v.low - s) else u.low,
    if v.cap = 4611686018427387904 then u.cap else if w64 (v.cap - s) < u.cap then w64 (v.cap - s) else u.cap, w64 (u.cost + v.cost)⟩ := by
  unfold two_pair_chain two_least
  by_cases h : v.cap = 4611686018427387904 <;> simp only [h, if_true, if_false, Option.bind_some]
theorem chain_one (l1 c1 k1 l2 c2 k2 s t : Int) : ∃ r, two_pair_chain ⟨⟨0, 1, l1, c1, k1⟩, ⟨1, 2, l2, c2, k2⟩, 1, s⟩ = some r ∧ two_Chain (oneI ⟨0, 1, l1, c1, k1⟩ ⟨1, 2, l2, c2, k2⟩ s t) 1 = some (spotOf 0 1 r) := by
  refine ⟨_, chain_eq _ _ _ t, ?_⟩
  generalize hr : two_pair_chain ⟨⟨0, 1, l1, c1, k1⟩, ⟨1, 2, l2, c2, k2⟩, 1, s⟩ = X
  have h : two_shape_at_1 (oneI ⟨0, 1, l1, c1, k1⟩ ⟨1, 2, l2, c2, k2⟩ s t) (oneI ⟨0, 1, l1, c1, k1⟩ ⟨1, 2, l2, c2, k2⟩ s t) 1 = X.bind fun r7 => (if r7.cap < r7.low then (some ((Spot.mk 0 0 0 (Arc.mk 0 0 0 0 0)), (Pair.mk (Arc.mk 0 0 0 0 0) (Arc.mk 0 0 0 0 0) 0 0), false)) else (some ((Spot.mk 1 0 1 r7), (Pair.mk ⟨0, 1, l1, c1, k1⟩ ⟨1, 2, l2, c2, k2⟩ 1 s), true))) := by rw [← hr]; rfl
  have h0 : adj_New (oneI ⟨0, 1, l1, c1, k1⟩ ⟨1, 2, l2, c2, k2⟩ s t) = some (oneI ⟨0, 1, l1, c1, k1⟩ ⟨1, 2, l2, c2, k2⟩ s t) := rfl
  unfold two_Chain
  rw [h0, Option.bind_some, h, ← hr, chain_eq _ _ _ t, Option.bind_some]
  generalize (Arc.mk _ _ _ _ _) = r
  unfold spotOf
  by_cases h : r.cap < r.low <;> simp only [h, if_true, if_false, Option.bind_some] <;> rfl
theorem chain_two (l1 c1 k1 l2 c2 k2 s t : Int) : ∃ r, two_pair_chain ⟨⟨0, 1, l1, c1, k1⟩, ⟨1, 2, l2, c2, k2⟩, 1, s⟩ = some r ∧ two_Chain (oneI ⟨1, 2, l2, c2, k2⟩ ⟨0, 1, l1, c1, k1⟩ s t) 1 = some (spotOf 1 0 r) := by
  refine ⟨_, chain_eq _ _ _ t, ?_⟩
  generalize hr : two_pair_chain ⟨⟨0, 1, l1, c1, k1⟩, ⟨1, 2, l2, c2, k2⟩, 1, s⟩ = X
  have h : two_shape_at_1 (oneI ⟨1, 2, l2, c2, k2⟩ ⟨0, 1, l1, c1, k1⟩ s t) (oneI ⟨1, 2, l2, c2, k2⟩ ⟨0, 1, l1, c1, k1⟩ s t) 1 = X.bind fun r7 => (if r7.cap < r7.low then (some ((Spot.mk 0 0 0 (Arc.mk 0 0 0 0 0)), (Pair.mk (Arc.mk 0 0 0 0 0) (Arc.mk 0 0 0 0 0) 0 0), false)) else (some ((Spot.mk 1 1 0 r7), (Pair.mk ⟨0, 1, l1, c1, k1⟩ ⟨1, 2, l2, c2, k2⟩ 1 s), true))) := by rw [← hr]; rfl
  have h0 : adj_New (oneI ⟨1, 2, l2, c2, k2⟩ ⟨0, 1, l1, c1, k1⟩ s t) = some (oneI ⟨1, 2, l2, c2, k2⟩ ⟨0, 1, l1, c1, k1⟩ s t) := rfl
  unfold two_Chain
  rw [h0, Option.bind_some, h, ← hr, chain_eq _ _ _ t, Option.bind_some]
  generalize (Arc.mk _ _ _ _ _) = r
  unfold spotOf
  by_cases h : r.cap < r.low <;> simp only [h, if_true, if_false, Option.bind_some] <;> rfl
theorem split_some (d : Pair) : ∃ r, two_pair_split d = some r := by
  unfold two_pair_split two_pair_both
  by_cases h : d.x.dst = d.n <;> by_cases h2 : d.y.cap = 4611686018427387904 <;> simp only [h, h2, if_true, if_false, Option.bind_some] <;> exact ⟨_, rfl⟩
theorem split_out (l1 c1 k1 l2 c2 k2 s t : Int) : ∃ r, two_pair_split ⟨⟨1, 0, l1, c1, k1⟩, ⟨1, 2, l2, c2, k2⟩, 1, s⟩ = some r ∧ two_Split (oneI ⟨1, 0, l1, c1, k1⟩ ⟨1, 2, l2, c2, k2⟩ s t) 1 = some (spotOf 0 1 r) := by
  obtain ⟨r, h2⟩ := split_some ⟨⟨1, 0, l1, c1, k1⟩, ⟨1, 2, l2, c2, k2⟩, 1, s⟩
  refine ⟨r, h2, ?_⟩
  generalize hr : two_pair_split ⟨⟨1, 0, l1, c1, k1⟩, ⟨1, 2, l2, c2, k2⟩, 1, s⟩ = X at h2
  have h : two_shape_at_2 (oneI ⟨1, 0, l1, c1, k1⟩ ⟨1, 2, l2, c2, k2⟩ s t) (oneI ⟨1, 0, l1, c1, k1⟩ ⟨1, 2, l2, c2, k2⟩ s t) 1 = X.bind fun r7 => (if r7.cap < r7.low then (some ((Spot.mk 0 0 0 (Arc.mk 0 0 0 0 0)), (Pair.mk (Arc.mk 0 0 0 0 0) (Arc.mk 0 0 0 0 0) 0 0), false)) else (some ((Spot.mk 1 0 1 r7), (Pair.mk ⟨1, 0, l1, c1, k1⟩ ⟨1, 2, l2, c2, k2⟩ 1 s), true))) := by rw [← hr]; rfl
  have h0 : adj_New (oneI ⟨1, 0, l1, c1, k1⟩ ⟨1, 2, l2, c2, k2⟩ s t) = some (oneI ⟨1, 0, l1, c1, k1⟩ ⟨1, 2, l2, c2, k2⟩ s t) := rfl
  unfold two_Split
  rw [h0, Option.bind_some, h, h2, Option.bind_some]
  unfold spotOf
  by_cases h : r.cap < r.low <;> simp only [h, if_true, if_false, Option.bind_some] <;> rfl
theorem split_out2 (l1 c1 k1 l2 c2 k2 s t : Int) : ∃ r, two_pair_split ⟨⟨1, 2, l1, c1, k1⟩, ⟨1, 0, l2, c2, k2⟩, 1, s⟩ = some r ∧ two_Split (oneI ⟨1, 2, l1, c1, k1⟩ ⟨1, 0, l2, c2, k2⟩ s t) 1 = some (spotOf 0 1 r) := by
  obtain ⟨r, h2⟩ := split_some ⟨⟨1, 2, l1, c1, k1⟩, ⟨1, 0, l2, c2, k2⟩, 1, s⟩
  refine ⟨r, h2, ?_⟩
  generalize hr : two_pair_split ⟨⟨1, 2, l1, c1, k1⟩, ⟨1, 0, l2, c2, k2⟩, 1, s⟩ = X at h2
  have h : two_shape_at_2 (oneI ⟨1, 2, l1, c1, k1⟩ ⟨1, 0, l2, c2, k2⟩ s t) (oneI ⟨1, 2, l1, c1, k1⟩ ⟨1, 0, l2, c2, k2⟩ s t) 1 = X.bind fun r7 => (if r7.cap < r7.low then (some ((Spot.mk 0 0 0 (Arc.mk 0 0 0 0 0)), (Pair.mk (Arc.mk 0 0 0 0 0) (Arc.mk 0 0 0 0 0) 0 0), false)) else (some ((Spot.mk 1 0 1 r7), (Pair.mk ⟨1, 2, l1, c1, k1⟩ ⟨1, 0, l2, c2, k2⟩ 1 s), true))) := by rw [← hr]; rfl
  have h0 : adj_New (oneI ⟨1, 2, l1, c1, k1⟩ ⟨1, 0, l2, c2, k2⟩ s t) = some (oneI ⟨1, 2, l1, c1, k1⟩ ⟨1, 0, l2, c2, k2⟩ s t) := rfl
  unfold two_Split
  rw [h0, Option.bind_some, h, h2, Option.bind_some]
  unfold spotOf
  by_cases h : r.cap < r.low <;> simp only [h, if_true, if_false, Option.bind_some] <;> rfl
theorem split_in (l1 c1 k1 l2 c2 k2 s t : Int) : ∃ r, two_pair_split ⟨⟨0, 1, l1, c1, k1⟩, ⟨2, 1, l2, c2, k2⟩, 1, s⟩ = some r ∧ two_Split (oneI ⟨0, 1, l1, c1, k1⟩ ⟨2, 1, l2, c2, k2⟩ s t) 1 = some (spotOf 0 1 r) := by
  obtain ⟨r, h2⟩ := split_some ⟨⟨0, 1, l1, c1, k1⟩, ⟨2, 1, l2, c2, k2⟩, 1, s⟩
  refine ⟨r, h2, ?_⟩
  generalize hr : two_pair_split ⟨⟨0, 1, l1, c1, k1⟩, ⟨2, 1, l2, c2, k2⟩, 1, s⟩ = X at h2
  have h : two_shape_at_2 (oneI ⟨0, 1, l1, c1, k1⟩ ⟨2, 1, l2, c2, k2⟩ s t) (oneI ⟨0, 1, l1, c1, k1⟩ ⟨2, 1, l2, c2, k2⟩ s t) 1 = X.bind fun r7 => (if r7.cap < r7.low then (some ((Spot.mk 0 0 0 (Arc.mk 0 0 0 0 0)), (Pair.mk (Arc.mk 0 0 0 0 0) (Arc.mk 0 0 0 0 0) 0 0), false)) else (some ((Spot.mk 1 0 1 r7), (Pair.mk ⟨0, 1, l1, c1, k1⟩ ⟨2, 1, l2, c2, k2⟩ 1 s), true))) := by rw [← hr]; rfl
  have h0 : adj_New (oneI ⟨0, 1, l1, c1, k1⟩ ⟨2, 1, l2, c2, k2⟩ s t) = some (oneI ⟨0, 1, l1, c1, k1⟩ ⟨2, 1, l2, c2, k2⟩ s t) := rfl
  unfold two_Split
  rw [h0, Option.bind_some, h, h2, Option.bind_some]
  unfold spotOf
  by_cases h : r.cap < r.low <;> simp only [h, if_true, if_false, Option.bind_some] <;> rfl
theorem split_in2 (l1 c1 k1 l2 c2 k2 s t : Int) : ∃ r, two_pair_split ⟨⟨2, 1, l1, c1, k1⟩, ⟨0, 1, l2, c2, k2⟩, 1, s⟩ = some r ∧ two_Split (oneI ⟨2, 1, l1, c1, k1⟩ ⟨0, 1, l2, c2, k2⟩ s t) 1 = some (spotOf 0 1 r) := by
  obtain ⟨r, h2⟩ := split_some ⟨⟨2, 1, l1, c1, k1⟩, ⟨0, 1, l2, c2, k2⟩, 1, s⟩
  refine ⟨r, h2, ?_⟩
  generalize hr : two_pair_split ⟨⟨2, 1, l1, c1, k1⟩, ⟨0, 1, l2, c2, k2⟩, 1, s⟩ = X at h2
  have h : two_shape_at_2 (oneI ⟨2, 1, l1, c1, k1⟩ ⟨0, 1, l2, c2, k2⟩ s t) (oneI ⟨2, 1, l1, c1, k1⟩ ⟨0, 1, l2, c2, k2⟩ s t) 1 = X.bind fun r7 => (if r7.cap < r7.low then (some ((Spot.mk 0 0 0 (Arc.mk 0 0 0 0 0)), (Pair.mk (Arc.mk 0 0 0 0 0) (Arc.mk 0 0 0 0 0) 0 0), false)) else (some ((Spot.mk 1 0 1 r7), (Pair.mk ⟨2, 1, l1, c1, k1⟩ ⟨0, 1, l2, c2, k2⟩ 1 s), true))) := by rw [← hr]; rfl
  have h0 : adj_New (oneI ⟨2, 1, l1, c1, k1⟩ ⟨0, 1, l2, c2, k2⟩ s t) = some (oneI ⟨2, 1, l1, c1, k1⟩ ⟨0, 1, l2, c2, k2⟩ s t) := rfl
  unfold two_Split
  rw [h0, Option.bind_some, h, h2, Option.bind_some]
  unfold spotOf
  by_cases h : r.cap < r.low <;> simp only [h, if_true, if_false, Option.bind_some] <;> rfl
/-- what flows along both is what flows along the arc that stands for them -/
theorem chain_in {u v r : Arc} {s x : Int} (hu : Tame u) (hv : Tame v) (hs : -2000 < s ∧ s < 2000) (hx : -3000 < x ∧ x < 3000) (hr : two_pair_chain ⟨u, v, 1, s⟩ = some r) :
    (¬ r.cap < r.low → ((inA u x ∧ inA v (w64 (x + s))) ↔ inA r x)) ∧ (r.cap < r.low → ¬ (inA u x ∧ inA v (w64 (x + s)))) := by
  rw [chain_eq _ _ _ 0] at hr
  cases hr
  obtain ⟨u1, u2, u3⟩ := hu
  obtain ⟨v1, v2, v3⟩ := hv
  have e1 : w64 (x + s) = x + s := w64_id (by omega) (by omega)
  have e2 : w64 (v.low - s) = v.low - s := w64_id (by omega) (by omega)
  have e3 : w64 (v.cap - s) = v.cap - s := w64_id (by omega) (by omega)
  rw [e1, e2, e3]
  unfold inA
  dsimp only
  generalize u.low = ul at *
  generalize u.cap = uc at *
  generalize v.low = vl at *
  generalize v.cap = vc at *
  constructor <;> intro h <;> by_cases h1 : vc = 4611686018427387904 <;> simp only [h1, if_true, if_false, false_or, true_or, and_true] at h ⊢ <;> by_cases h2 : vl - s > ul <;> simp only [h2, if_true, if_false] at h ⊢ <;> first | omega | (by_cases h3 : vc - s < uc <;> simp only [h3, if_true, if_false] at h ⊢ <;> omega)
theorem split_in_ {u v r : Arc} {s x y : Int} (hu : Tame u) (hv : Tame v) (hs : -2000 < s ∧ s < 2000) (hx : -3000 < x ∧ x < 3000) (hr : two_pair_split ⟨u, v, 1, s⟩ = some r)
    (hy : y = if u.dst = 1 then w64 (w64 (0 - s) - x) else w64 (s - x)) : (¬ r.cap < r.low → ((inA u x ∧ inA v y) ↔ inA r x)) ∧ (r.cap < r.low → ¬ (inA u x ∧ inA v y)) := by
  obtain ⟨u1, u2, u3⟩ := hu
  obtain ⟨v1, v2, v3⟩ := hv
  have e0 : w64 (0 - s) = -s := by rw [w64_id (by omega) (by omega)]; omega
  have e1 : w64 (-s - x) = -s - x := w64_id (by omega) (by omega)
  have e2 : w64 (s - x) = s - x := w64_id (by omega) (by omega)
  have key : ∀ b : Int, -2000 < b → b < 2000 → (y = b - x) → r.low = (if v.cap = 4611686018427387904 then u.low else if w64 (b - v.cap) > u.low then w64 (b - v.cap) else u.low) → r.cap = (if w64 (b - v.low) < u.cap then w64 (b - v.low) else u.cap) →
      (¬ r.cap < r.low → ((inA u x ∧ inA v y) ↔ inA r x)) ∧ (r.cap < r.low → ¬ (inA u x ∧ inA v y)) := by
    intro b b1 b2 hb hl hc
    have e3 : w64 (b - v.low) = b - v.low := w64_id (by omega) (by omega)
    have e4 : w64 (b - v.cap) = b - v.cap := w64_id (by omega) (by omega)
    rw [e4] at hl
    rw [e3] at hc
    unfold inA
    rw [hl, hc, hb]
    clear hl hc e3 e4 hr hy hb
    generalize u.low = ul at *
    generalize u.cap = uc at *
    generalize v.low = vl at *
    generalize v.cap = vc at *
    constructor <;> intro h <;> by_cases h1 : vc = 4611686018427387904 <;> simp only [h1, if_true, if_false, false_or, true_or, and_true] at h ⊢ <;> by_cases h2 : b - vl < uc <;> simp only [h2, if_true, if_false] at h ⊢ <;> first | omega | (by_cases h3 : b - vc > ul <;> simp only [h3, if_true, if_false] at h ⊢ <;> omega)
  unfold two_pair_split two_pair_both at hr
  dsimp only at hr
  rw [e0, e1, e2] at hy
  rw [e0] at hr
  by_cases hd : u.dst = 1
  · rw [if_pos hd] at hy
    simp only [hd, if_true, Option.bind_some] at hr
    refine key (-s) (by omega) (by omega) hy ?_ ?_ <;> by_cases hv : v.cap = 4611686018427387904 <;> simp only [hv, if_true, if_false] at hr ⊢ <;> cases hr <;> rfl
  · rw [if_neg hd] at hy
    simp only [hd, if_false, Option.bind_some] at hr
    refine key s (by omega) (by omega) hy ?_ ?_ <;> by_cases hv : v.cap = 4611686018427387904 <;> simp only [hv, if_true, if_false] at hr ⊢ <;> cases hr <;> rfl
theorem both_chain (u v : Arc) (s t x : Int) (p q : Int) (r : Arc) : law18_both (oneI u v s t) ⟨1, p, q, r⟩ true x = some (w64 (x + s)) := rfl
theorem both_fork (u v : Arc) (s t x : Int) (q : Int) (r : Arc) : law18_both (oneI u v s t) ⟨1, 0, q, r⟩ false x = some (if u.dst = 1 then w64 (w64 (0 - s) - x) else w64 (s - x)) := by
  show (if u.dst = 1 then some (w64 (w64 (0 - s) - x)) else some (w64 (s - x))) = _
  by_cases h : u.dst = 1 <;> simp only [h, if_true, if_false]
/-- TwoBounds -/
theorem bounds_true {d s t n : Int} {a b : Arc} (hd : 0 ≤ d) (ha1 : -9223372036854775808 ≤ a.low ∧ a.low ≤ 9223372036854775807) (ha2 : -9223372036854775808 ≤ a.cap ∧ a.cap ≤ 9223372036854775807)
    (hb1 : -9223372036854775808 ≤ b.low ∧ b.low ≤ 9223372036854775807) (hb2 : -9223372036854775808 ≤ b.cap ∧ b.cap ≤ 9223372036854775807) : law18_TwoBounds d a b s t n = some true := by
  obtain ⟨A, hA, tA⟩ := tame_ok ha1 ha2
  obtain ⟨B, hB, tB⟩ := tame_ok hb1 hb2
  have s1 := Int.tmod_lt_of_pos s (show (0 : Int) < 2000 by omega)
  have s2 := Int.lt_tmod_of_pos s (show (0 : Int) < 2000 by omega)
  have n1 := Int.tmod_lt_of_pos n (show (0 : Int) < 3000 by omega)
  have n2 := Int.lt_tmod_of_pos n (show (0 : Int) < 3000 by omega)
  have d1 : 0 ≤ d.tmod 3 ∧ d.tmod 3 ≤ 2 := by rw [tmod_nat hd]; omega
  have wn : w64 (n.tmod 3000) = n.tmod 3000 := w64_id (by omega) (by omega)
  unfold law18_TwoBounds
  simp only [hA, hB, Option.bind_some, one_eq, wn, known_true]
  generalize s.tmod 2000 = s at *
  generalize t.tmod 2000 = t at *
  generalize n.tmod 3000 = x at *
  generalize d.tmod 3 = z at *
  generalize (IntKind.wrap .u8 (d.tdiv 3)).tmod 2 = y at *
  obtain ⟨As, Ad, Al, Ac, Ak⟩ := A
  obtain ⟨Bs, Bd, Bl, Bc, Bk⟩ := B
  have z3 : z = 0 ∨ z = 1 ∨ z = 2 := by omega
  have p05 : (0 : Int) ≤ 0 ∧ (0 : Int) < 5 := by decide
  have p15 : (0 : Int) ≤ 1 ∧ (1 : Int) < 5 := by decide
  rcases z3 with rfl | rfl | rfl
  · simp only [show ¬ (0 : Int) = 1 by decide, show ¬ (0 : Int) = 2 by decide, if_true, if_false, decide_true]
    by_cases hy : y = 1
    · simp only [if_pos hy]
      obtain ⟨r, h1, h2⟩ := chain_two Al Ac Ak Bl Bc Bk s t
      obtain ⟨g1, g2⟩ := chain_in (x := x) (u := ⟨0, 1, Al, Ac, Ak⟩) (v := ⟨1, 2, Bl, Bc, Bk⟩) tA tB ⟨s2, s1⟩ ⟨n2, n1⟩ h1
      have e0 : gt (oneI ⟨1, 2, Bl, Bc, Bk⟩ ⟨0, 1, Al, Ac, Ak⟩ s t).arcs 0 = ⟨1, 2, Bl, Bc, Bk⟩ := rfl
      have e1 : gt (oneI ⟨1, 2, Bl, Bc, Bk⟩ ⟨0, 1, Al, Ac, Ak⟩ s t).arcs 1 = ⟨0, 1, Al, Ac, Ak⟩ := rfl
      have el : ((oneI ⟨1, 2, Bl, Bc, Bk⟩ ⟨0, 1, Al, Ac, Ak⟩ s t).arcs.length : Int) = 5 := rfl
      rw [h2, Option.bind_some]
      unfold spotOf
      by_cases hr : r.cap < r.low
      · have := g2 hr
        simp only [if_pos hr, Bool.false_eq_true, if_false, el, e0, e1, if_pos p05, if_pos p15, both_chain, Option.bind_some, in_eq, if_true]
        by_cases hA : inA ⟨0, 1, Al, Ac, Ak⟩ x <;> by_cases hB : inA ⟨1, 2, Bl, Bc, Bk⟩ (w64 (x + s)) <;> simp [hA, hB] at this ⊢
      · have := g1 hr
        simp only [if_neg hr, if_true, el, e0, e1, if_pos p05, if_pos p15, both_chain, Option.bind_some, in_eq]
        by_cases hA : inA ⟨0, 1, Al, Ac, Ak⟩ x <;> by_cases hB : inA ⟨1, 2, Bl, Bc, Bk⟩ (w64 (x + s)) <;> by_cases hC : inA r x <;> simp [hA, hB, hC] at this ⊢
    · simp only [if_neg hy]
      obtain ⟨r, h1, h2⟩ := chain_one Al Ac Ak Bl Bc Bk s t
      obtain ⟨g1, g2⟩ := chain_in (x := x) (u := ⟨0, 1, Al, Ac, Ak⟩) (v := ⟨1, 2, Bl, Bc, Bk⟩) tA tB ⟨s2, s1⟩ ⟨n2, n1⟩ h1
      have e0 : gt (oneI ⟨0, 1, Al, Ac, Ak⟩ ⟨1, 2, Bl, Bc, Bk⟩ s t).arcs 0 = ⟨0, 1, Al, Ac, Ak⟩ := rfl
      have e1 : gt (oneI ⟨0, 1, Al, Ac, Ak⟩ ⟨1, 2, Bl, Bc, Bk⟩ s t).arcs 1 = ⟨1, 2, Bl, Bc, Bk⟩ := rfl
      have el : ((oneI ⟨0, 1, Al, Ac, Ak⟩ ⟨1, 2, Bl, Bc, Bk⟩ s t).arcs.length : Int) = 5 := rfl
      rw [h2, Option.bind_some]
      unfold spotOf
      by_cases hr : r.cap < r.low
      · have := g2 hr
        simp only [if_pos hr, Bool.false_eq_true, if_false, el, e0, e1, if_pos p05, if_pos p15, both_chain, Option.bind_some, in_eq, show ¬ (0 : Int) = 1 by decide]
        by_cases hA : inA ⟨0, 1, Al, Ac, Ak⟩ x <;> by_cases hB : inA ⟨1, 2, Bl, Bc, Bk⟩ (w64 (x + s)) <;> simp [hA, hB] at this ⊢
      · have := g1 hr
        simp only [if_neg hr, if_true, el, e0, e1, if_pos p05, if_pos p15, both_chain, Option.bind_some, in_eq]
        by_cases hA : inA ⟨0, 1, Al, Ac, Ak⟩ x <;> by_cases hB : inA ⟨1, 2, Bl, Bc, Bk⟩ (w64 (x + s)) <;> by_cases hC : inA r x <;> simp [hA, hB, hC] at this ⊢
  · simp only [show ¬ (1 : Int) = 0 by decide, show ¬ (1 : Int) = 2 by decide, if_true, if_false, decide_false]
    by_cases hy : y = 1
    · simp only [if_pos hy]
      obtain ⟨r, h1, h2⟩ := split_out2 Bl Bc Bk Al Ac Ak s t
      obtain ⟨g1, g2⟩ := split_in_ (x := x) (u := ⟨1, 2, Bl, Bc, Bk⟩) (v := ⟨1, 0, Al, Ac, Ak⟩) tB tA ⟨s2, s1⟩ ⟨n2, n1⟩ h1 rfl
      have e0 : gt (oneI ⟨1, 2, Bl, Bc, Bk⟩ ⟨1, 0, Al, Ac, Ak⟩ s t).arcs 0 = ⟨1, 2, Bl, Bc, Bk⟩ := rfl
      have e1 : gt (oneI ⟨1, 2, Bl, Bc, Bk⟩ ⟨1, 0, Al, Ac, Ak⟩ s t).arcs 1 = ⟨1, 0, Al, Ac, Ak⟩ := rfl
      have el : ((oneI ⟨1, 2, Bl, Bc, Bk⟩ ⟨1, 0, Al, Ac, Ak⟩ s t).arcs.length : Int) = 5 := rfl
      rw [h2, Option.bind_some]
      unfold spotOf
      by_cases hr : r.cap < r.low
      · have := g2 hr
        simp only [if_pos hr, Bool.false_eq_true, if_false, el, e0, e1, if_pos p05, if_pos p15, both_fork, Option.bind_some, in_eq]
        generalize (if (2 : Int) = 1 then w64 (w64 (0 - s) - x) else w64 (s - x)) = y at this ⊢
        by_cases hA : inA ⟨1, 2, Bl, Bc, Bk⟩ x <;> by_cases hB : inA ⟨1, 0, Al, Ac, Ak⟩ y <;> simp [hA, hB] at this ⊢
      · have := g1 hr
        simp only [if_neg hr, if_true, el, e0, e1, if_pos p05, if_pos p15, both_fork, Option.bind_some, in_eq]
        generalize (if (2 : Int) = 1 then w64 (w64 (0 - s) - x) else w64 (s - x)) = y at this ⊢
        by_cases hA : inA ⟨1, 2, Bl, Bc, Bk⟩ x <;> by_cases hB : inA ⟨1, 0, Al, Ac, Ak⟩ y <;> by_cases hC : inA r x <;> simp [hA, hB, hC] at this ⊢
    · simp only [if_neg hy]
      obtain ⟨r, h1, h2⟩ := split_out Al Ac Ak Bl Bc Bk s t
      obtain ⟨g1, g2⟩ := split_in_ (x := x) (u := ⟨1, 0, Al, Ac, Ak⟩) (v := ⟨1, 2, Bl, Bc, Bk⟩) tA tB ⟨s2, s1⟩ ⟨n2, n1⟩ h1 rfl
      have e0 : gt (oneI ⟨1, 0, Al, Ac, Ak⟩ ⟨1, 2, Bl, Bc, Bk⟩ s t).arcs 0 = ⟨1, 0, Al, Ac, Ak⟩ := rfl
      have e1 : gt (oneI ⟨1, 0, Al, Ac, Ak⟩ ⟨1, 2, Bl, Bc, Bk⟩ s t).arcs 1 = ⟨1, 2, Bl, Bc, Bk⟩ := rfl
      have el : ((oneI ⟨1, 0, Al, Ac, Ak⟩ ⟨1, 2, Bl, Bc, Bk⟩ s t).arcs.length : Int) = 5 := rfl
      rw [h2, Option.bind_some]
      unfold spotOf
      by_cases hr : r.cap < r.low
      · have := g2 hr
        simp only [if_pos hr, Bool.false_eq_true, if_false, el, e0, e1, if_pos p05, if_pos p15, both_fork, Option.bind_some, in_eq]
        generalize (if (0 : Int) = 1 then w64 (w64 (0 - s) - x) else w64 (s - x)) = y at this ⊢
        by_cases hA : inA ⟨1, 0, Al, Ac, Ak⟩ x <;> by_cases hB : inA ⟨1, 2, Bl, Bc, Bk⟩ y <;> simp [hA, hB] at this ⊢
      · have := g1 hr
        simp only [if_neg hr, if_true, el, e0, e1, if_pos p05, if_pos p15, both_fork, Option.bind_some, in_eq]
        generalize (if (0 : Int) = 1 then w64 (w64 (0 - s) - x) else w64 (s - x)) = y at this ⊢
        by_cases hA : inA ⟨1, 0, Al, Ac, Ak⟩ x <;> by_cases hB : inA ⟨1, 2, Bl, Bc, Bk⟩ y <;> by_cases hC : inA r x <;> simp [hA, hB, hC] at this ⊢
  · simp only [show ¬ (2 : Int) = 0 by decide, show ¬ (2 : Int) = 1 by decide, if_true, if_false, decide_false]
    by_cases hy : y = 1
    · simp only [if_pos hy]
      obtain ⟨r, h1, h2⟩ := split_in2 Bl Bc Bk Al Ac Ak s t
      obtain ⟨g1, g2⟩ := split_in_ (x := x) (u := ⟨2, 1, Bl, Bc, Bk⟩) (v := ⟨0, 1, Al, Ac, Ak⟩) tB tA ⟨s2, s1⟩ ⟨n2, n1⟩ h1 rfl
      have e0 : gt (oneI ⟨2, 1, Bl, Bc, Bk⟩ ⟨0, 1, Al, Ac, Ak⟩ s t).arcs 0 = ⟨2, 1, Bl, Bc, Bk⟩ := rfl
      have e1 : gt (oneI ⟨2, 1, Bl, Bc, Bk⟩ ⟨0, 1, Al, Ac, Ak⟩ s t).arcs 1 = ⟨0, 1, Al, Ac, Ak⟩ := rfl
      have el : ((oneI ⟨2, 1, Bl, Bc, Bk⟩ ⟨0, 1, Al, Ac, Ak⟩ s t).arcs.length : Int) = 5 := rfl
      rw [h2, Option.bind_some]
      unfold spotOf
      by_cases hr : r.cap < r.low
      · have := g2 hr
        simp only [if_pos hr, Bool.false_eq_true, if_false, el, e0, e1, if_pos p05, if_pos p15, both_fork, Option.bind_some, in_eq]
        simp only [if_true] at this
        generalize w64 (w64 (0 - s) - x) = y at this ⊢
        by_cases hA : inA ⟨2, 1, Bl, Bc, Bk⟩ x <;> by_cases hB : inA ⟨0, 1, Al, Ac, Ak⟩ y <;> simp [hA, hB] at this ⊢
      · have := g1 hr
        simp only [if_neg hr, if_true, el, e0, e1, if_pos p05, if_pos p15, both_fork, Option.bind_some, in_eq]
        simp only [if_true] at this
        generalize w64 (w64 (0 - s) - x) = y at this ⊢
        by_cases hA : inA ⟨2, 1, Bl, Bc, Bk⟩ x <;> by_cases hB : inA ⟨0, 1, Al, Ac, Ak⟩ y <;> by_cases hC : inA r x <;> simp [hA, hB, hC] at this ⊢
    · simp only [if_neg hy]
      obtain ⟨r, h1, h2⟩ := split_in Al Ac Ak Bl Bc Bk s t
      obtain ⟨g1, g2⟩ := split_in_ (x := x) (u := ⟨0, 1, Al, Ac, Ak⟩) (v := ⟨2, 1, Bl, Bc, Bk⟩) tA tB ⟨s2, s1⟩ ⟨n2, n1⟩ h1 rfl
      have e0 : gt (oneI ⟨0, 1, Al, Ac, Ak⟩ ⟨2, 1, Bl, Bc, Bk⟩ s t).arcs 0 = ⟨0, 1, Al, Ac, Ak⟩ := rfl
      have e1 : gt (oneI ⟨0, 1, Al, Ac, Ak⟩ ⟨2, 1, Bl, Bc, Bk⟩ s t).arcs 1 = ⟨2, 1, Bl, Bc, Bk⟩ := rfl
      have el : ((oneI ⟨0, 1, Al, Ac, Ak⟩ ⟨2, 1, Bl, Bc, Bk⟩ s t).arcs.length : Int) = 5 := rfl
      rw [h2, Option.bind_some]
      unfold spotOf
      by_cases hr : r.cap < r.low
      · have := g2 hr
        simp only [if_pos hr, Bool.false_eq_true, if_false, el, e0, e1, if_pos p05, if_pos p15, both_fork, Option.bind_some, in_eq]
        simp only [if_true] at this
        generalize w64 (w64 (0 - s) - x) = y at this ⊢
        by_cases hA : inA ⟨0, 1, Al, Ac, Ak⟩ x <;> by_cases hB : inA ⟨2, 1, Bl, Bc, Bk⟩ y <;> simp [hA, hB] at this ⊢
      · have := g1 hr
        simp only [if_neg hr, if_true, el, e0, e1, if_pos p05, if_pos p15, both_fork, Option.bind_some, in_eq]
        simp only [if_true] at this
        generalize w64 (w64 (0 - s) - x) = y at this ⊢
        by_cases hA : inA ⟨0, 1, Al, Ac, Ak⟩ x <;> by_cases hB : inA ⟨2, 1, Bl, Bc, Bk⟩ y <;> by_cases hC : inA r x <;> simp [hA, hB, hC] at this ⊢
end Go.Proofs.Ytpnohbdfgmjdbaa
