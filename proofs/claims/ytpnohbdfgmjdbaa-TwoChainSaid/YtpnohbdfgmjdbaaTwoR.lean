/- Two: TwoChain, plain. -/
import Derived.Test.YtpnohbdfgmjdbaaTwoP
import Derived.Test.YtpnohbdfgmjdbaaInp
namespace Go.Proofs.Ytpnohbdfgmjdbaa
open Go.RowKit Go.Qe
/-- loops whose place is told by some part of their state -/
theorem lp_ix {σ ρ : Type} {T : Option ρ → Prop} {body : (σ → Option ρ) → σ → Option ρ} (ix : σ → Nat) (n : Nat) (hn : n < 4611686018427387904) (I : Nat → σ → Prop) (hix : ∀ j s, I j s → ix s = j) (s0 : σ) (h0 : I 0 s0)
    (h : ∀ (k : σ → Option ρ) (j : Nat) (s : σ), j ≤ n → I j s → (j < n → ∀ s', I (j + 1) s' → T (k s')) → T (body k s)) : T (lp body big s0) := by
  refine lp_run (T := T) (body := body) (fun s => ∃ j, j ≤ n ∧ I j s) (fun s => n - ix s) (fun k s hI hk => ?_) big s0 ⟨0, Nat.zero_le _, h0⟩ (by simp only [big]; omega)
  obtain ⟨j, hj, hs⟩ := hI
  exact h k j s hj hs fun hlt s' hs' => hk _ ⟨j + 1, by omega, hs'⟩ (by rw [hix _ _ hs, hix _ _ hs']; omega)
theorem times_some (a b : Int) : ∃ r, num_Times a b = some r := ⟨_, rfl⟩
/-- an arc that may be -/
def arcOk (n : Nat) (a : Arc) : Prop := 0 ≤ a.src ∧ a.src < n ∧ 0 ≤ a.dst ∧ a.dst < n ∧ 0 ≤ a.low ∧ a.low ≤ 4398046511104 ∧ (a.cap ≠ 4611686018427387904 → a.low ≤ a.cap ∧ a.cap ≤ 4398046511104) ∧ -4398046511104 ≤ a.cost ∧ a.cost ≤ 4398046511104
theorem wrong_ok {n : Nat} {a : Arc} (h : arcOk n a) : inst_wrong a (n : Int) = some 0 := by
  obtain ⟨h1, h2, h3, h4, h5, h6, h7, h8, h9⟩ := h
  have e1 : inst_wrong_1_1 a.src (n : Int) = some true := by unfold inst_wrong_1_1; rw [if_pos h1, decide_eq_true h2]
  have e2 : inst_wrong_1_1 a.dst (n : Int) = some true := by unfold inst_wrong_1_1; rw [if_pos h3, decide_eq_true h4]
  have e3 : inst_within a.cost = some true := by unfold inst_within; rw [if_pos h8, decide_eq_true h9]
  unfold inst_wrong
  simp only [e1, e2, e3, Option.bind_some, if_true]
  rw [if_neg (by omega), if_neg (by omega)]
  by_cases hc : a.cap = 4611686018427387904
  · rw [if_neg (by omega)]
  · obtain ⟨g1, g2⟩ := h7 hc
    rw [if_pos hc, if_neg (by omega), if_neg (by omega)]
theorem wS {k : Nat} (h : k < 1000) : w64 ((k : Int) + 1) = ((k + 1 : Nat) : Int) := by rw [w64_id (by omega) (by omega)]; rfl
theorem gt_mem {xs : List Arc} {j : Nat} (h : j < xs.length) : gt xs (j : Int) ∈ xs := by
  rw [gt_arc, arcAt_eq h]; exact List.getElem_mem h
theorem right_ok {I : Inst} (hs : I.supply.length ≤ 64) (ha : I.arcs.length ≤ 256) (hz : ∀ x ∈ I.supply, x = 0) (hA : ∀ a ∈ I.arcs, arcOk I.supply.length a) : inst_Right I = some 0 := by
  unfold inst_Right
  rw [if_neg (by omega), if_neg (by omega)]
  refine lp_up (T := (· = some 0)) I.arcs.length (by omega) fun k j hj hk => ?_
  unfold inst_Right_b1
  by_cases h1 : (j : Int) < (I.arcs.length : Int)
  · rw [if_pos h1, if_pos ⟨by omega, h1⟩, wrong_ok (hA _ (gt_mem (by omega))), Option.bind_some, if_neg (by decide), wS (by omega)]
    exact hk (by omega)
  rw [if_neg h1]
  refine lp_ix (T := (· = some 0)) (fun s => s.2.toNat) I.supply.length (by omega) (fun j s => s = (0, (j : Int))) (fun j s h => by subst h; rfl) _ rfl fun k j s hj hx hk => ?_
  subst hx
  unfold inst_Right_b2
  dsimp only
  by_cases h1 : (j : Int) < (I.supply.length : Int)
  · have hj' : j < I.supply.length := by omega
    have e : gt I.supply (j : Int) = 0 := by rw [gt_el, el_eq hj']; exact hz _ (List.getElem_mem hj')
    rw [if_pos h1, if_pos ⟨by omega, h1⟩, e]
    have e3 : inst_within 0 = some true := by decide
    rw [e3, Option.bind_some, if_pos rfl, lt_eq, show w64 (0 + 0) = 0 by decide, wS (by omega)]
    exact hk hj' _ rfl
  · rw [if_neg h1, if_neg (by decide)]
theorem step_ok {I N : Inst} {p q o : Int} {A B r : Arc} {X : Spot × Pair × Bool} (hs : 2 ≤ I.supply.length ∧ I.supply.length ≤ 64) (ha : I.arcs.length ≤ 255) (hR : inst_Right I = some 0) (h0 : two_shape_at_1 I I 0 = some X) (hX : X.2.2 = false)
    (h1 : two_shape_at_1 I I 1 = some (⟨1, p, q, r⟩, ⟨A, B, 1, 0⟩, true)) (ho : adj_Graph_Other I q 1 = some o) (hol : 0 ≤ o ∧ o < I.supply.length)
    (hw : inst_Without ⟨upd I.supply o (w64 (gt I.supply o + 0)), I.arcs ++ [r]⟩ (upd (List.replicate (I.supply.length : Int).toNat false) 1 true) [] = some N) (hN : inst_Right N = some 0) :
    ∃ s, two_Series I = some (s, 0) ∧ s.inst = N := by
  have hc : inst_Copy I = some I := by
    unfold inst_Copy slices_Clone_int64 slices_Clone_api_Arc
    rw [if_pos (by simp only [lim]; omega), Option.bind_some, if_pos (by simp only [lim]; omega)]
    rfl
  have hn : adj_New I = some I := by unfold adj_New; rw [if_pos ⟨by simp only [lim]; omega, by simp only [lim]; omega⟩]
  have key : ∃ s, two_shape_run_1 I = some (s, 0) ∧ s.inst = N := by
    unfold two_shape_run_1
    simp only [hR, hc, hn, Option.bind_some]
    rw [if_neg (by decide)]
    refine lp_up (T := fun o => ∃ s : Step, o = some (s, (0 : Int)) ∧ s.inst = N) 1 (by omega) fun k j hj hk => ?_
    unfold two_shape_run_1_b1
    rw [if_pos (by omega)]
    have hj2 : j = 0 ∨ j = 1 := by omega
    rcases hj2 with rfl | rfl
    · rw [show ((0 : Nat) : Int) = 0 from rfl, h0, Option.bind_some, if_neg (by rw [hX]; decide)]
      exact hk (by omega)
    · obtain ⟨t, ht⟩ := times_some 0 B.cost
      rw [show ((1 : Nat) : Int) = 1 from rfl, h1, Option.bind_some, if_pos rfl, hc, Option.bind_some]
      dsimp only
      rw [ho, Option.bind_some, if_pos hol, lt_eq, if_pos (by simp only [List.length_cons, List.length_nil, lim]; omega), lt_eq, if_pos ⟨by omega, by simp only [lim]; omega⟩,
        if_pos ⟨by omega, by rw [List.length_replicate]; omega⟩, lt_eq, hw, Option.bind_some, hN, Option.bind_some, if_neg (by decide)]
      unfold two_series_2
      rw [Option.bind_some, ht, Option.bind_some]
      exact ⟨_, rfl, rfl⟩
  obtain ⟨s, e, hs⟩ := key
  unfold two_Series
  rw [e, Option.bind_some]
  exact ⟨_, rfl, by rw [← hs]⟩
/-- no node fits: all is as it was -/
theorem stay_ok {I : Inst} {X Y : Spot × Pair × Bool} (hs : I.supply.length = 2) (ha : I.arcs.length ≤ 255) (hR : inst_Right I = some 0) (h0 : two_shape_at_1 I I 0 = some X) (hX : X.2.2 = false) (h1 : two_shape_at_1 I I 1 = some Y) (hY : Y.2.2 = false) :
    ∃ s, two_Series I = some (s, 0) ∧ s.inst = I := by
  have hc : inst_Copy I = some I := by
    unfold inst_Copy slices_Clone_int64 slices_Clone_api_Arc
    rw [if_pos (by simp only [lim]; omega), Option.bind_some, if_pos (by simp only [lim]; omega)]
    rfl
  have hn : adj_New I = some I := by unfold adj_New; rw [if_pos ⟨by simp only [lim]; omega, by simp only [lim]; omega⟩]
  have key : ∃ s, two_shape_run_1 I = some (s, 0) ∧ s.inst = I := by
    unfold two_shape_run_1
    simp only [hR, hc, hn, Option.bind_some]
    rw [if_neg (by decide)]
    refine lp_up (T := fun o => ∃ s : Step, o = some (s, (0 : Int)) ∧ s.inst = I) 2 (by omega) fun k j hj hk => ?_
    unfold two_shape_run_1_b1
    have hj2 : j = 0 ∨ j = 1 ∨ j = 2 := by omega
    rcases hj2 with rfl | rfl | rfl
    · rw [if_pos (by omega), show ((0 : Nat) : Int) = 0 from rfl, h0, Option.bind_some, if_neg (by rw [hX]; decide)]
      exact hk (by omega)
    · rw [if_pos (by omega), show ((1 : Nat) : Int) = 1 from rfl, h1, Option.bind_some, if_neg (by rw [hY]; decide)]
      exact hk (by omega)
    · rw [if_neg (by omega)]
      exact ⟨_, rfl, rfl⟩
  obtain ⟨s, e, hs⟩ := key
  unfold two_Series
  rw [e, Option.bind_some]
  exact ⟨_, rfl, by show Inst.mk s.inst.supply s.inst.arcs = I; rw [hs]⟩
/-- chains -/
def mkA (j : Nat) (v : Int × Int) : Arc := ⟨(j : Int), ((j + 1 : Nat) : Int), 0, v.1, v.2⟩
def arcsFrom : Nat → List (Int × Int) → List Arc
  | _, [] => []
  | j, v :: r => mkA j v :: arcsFrom (j + 1) r
def straight (vs : List (Int × Int)) : Inst := ⟨List.replicate (vs.length + 1) 0, arcsFrom 0 vs⟩
def rot (f : Int × Int) (vs : List (Int × Int)) : Inst := ⟨List.replicate (vs.length + 2) 0, arcsFrom 1 vs ++ [mkA 0 f]⟩
theorem all7 {P : List (Int × Int) → Prop} (h0 : P []) (h1 : ∀ a, P [a]) (h2 : ∀ a b, P [a, b]) (h3 : ∀ a b c, P [a, b, c]) (h4 : ∀ a b c d, P [a, b, c, d]) (h5 : ∀ a b c d e, P [a, b, c, d, e]) (h6 : ∀ a b c d e f, P [a, b, c, d, e, f]) :
    ∀ vs : List (Int × Int), vs.length ≤ 6 → P vs
  | [], _ => h0
  | [_], _ => h1 _
  | [_, _], _ => h2 _ _
  | [_, _, _], _ => h3 _ _ _
  | [_, _, _, _], _ => h4 _ _ _ _
  | [_, _, _, _, _], _ => h5 _ _ _ _ _
  | [_, _, _, _, _, _], _ => h6 _ _ _ _ _ _
  | _ :: _ :: _ :: _ :: _ :: _ :: _ :: _, h => by simp only [List.length_cons] at h; omega
def noX : Spot × Pair × Bool := (⟨0, 0, 0, ⟨0, 0, 0, 0, 0⟩⟩, ⟨⟨0, 0, 0, 0, 0⟩, ⟨0, 0, 0, 0, 0⟩, 0, 0⟩, false)
theorem straight_0 (f g : Int × Int) : ∀ vs : List (Int × Int), vs.length ≤ 6 → two_shape_at_1 (straight (f :: g :: vs)) (straight (f :: g :: vs)) 0 = some noX := by
  refine all7 ?_ ?_ ?_ ?_ ?_ ?_ ?_ <;> intros <;> kernel_rfl
theorem rot_0 (f : Int × Int) : ∀ vs : List (Int × Int), vs.length ≤ 6 → two_shape_at_1 (rot f vs) (rot f vs) 0 = some noX := by
  refine all7 ?_ ?_ ?_ ?_ ?_ ?_ ?_ <;> intros <;> kernel_rfl
theorem rot_1 (f : Int × Int) : two_shape_at_1 (rot f []) (rot f []) 1 = some noX := by kernel_rfl
def atX (A B : Arc) (p q : Int) : Option (Spot × Pair × Bool) := (two_pair_chain ⟨A, B, 1, 0⟩).bind fun r7 => (if r7.cap < r7.low then (some noX) else (some ((Spot.mk 1 p q r7), (Pair.mk A B 1 0), true)))
theorem straight_1 (f g : Int × Int) : ∀ vs : List (Int × Int), vs.length ≤ 6 → two_shape_at_1 (straight (f :: g :: vs)) (straight (f :: g :: vs)) 1 = atX (mkA 0 f) (mkA 1 g) 0 1 := by
  refine all7 ?_ ?_ ?_ ?_ ?_ ?_ ?_ <;> intros <;> kernel_rfl
theorem rot_g (f g : Int × Int) : ∀ vs : List (Int × Int), vs.length ≤ 6 → two_shape_at_1 (rot f (g :: vs)) (rot f (g :: vs)) 1 = atX (mkA 0 f) (mkA 1 g) (vs.length + 1 : Nat) 0 := by
  refine all7 ?_ ?_ ?_ ?_ ?_ ?_ ?_ <;> intros <;> kernel_rfl
theorem straight_o (f g : Int × Int) : ∀ vs : List (Int × Int), vs.length ≤ 6 → adj_Graph_Other (straight (f :: g :: vs)) 1 1 = some 2 := by
  refine all7 ?_ ?_ ?_ ?_ ?_ ?_ ?_ <;> intros <;> kernel_rfl
theorem rot_o (f g : Int × Int) : ∀ vs : List (Int × Int), vs.length ≤ 6 → adj_Graph_Other (rot f (g :: vs)) 0 1 = some 2 := by
  refine all7 ?_ ?_ ?_ ?_ ?_ ?_ ?_ <;> intros <;> kernel_rfl
theorem straight_w (f g h : Int × Int) : ∀ vs : List (Int × Int), vs.length ≤ 6 → inst_Without ⟨upd (straight (f :: g :: vs)).supply 2 (w64 (gt (straight (f :: g :: vs)).supply 2 + 0)), (straight (f :: g :: vs)).arcs ++ [⟨0, 2, 0, h.1, h.2⟩]⟩
    (upd (List.replicate ((straight (f :: g :: vs)).supply.length : Int).toNat false) 1 true) [] = some (rot h vs) := by
  refine all7 ?_ ?_ ?_ ?_ ?_ ?_ ?_ <;> intros <;> kernel_rfl
theorem rot_w (f g h : Int × Int) : ∀ vs : List (Int × Int), vs.length ≤ 6 → inst_Without ⟨upd (rot f (g :: vs)).supply 2 (w64 (gt (rot f (g :: vs)).supply 2 + 0)), (rot f (g :: vs)).arcs ++ [⟨0, 2, 0, h.1, h.2⟩]⟩
    (upd (List.replicate ((rot f (g :: vs)).supply.length : Int).toNat false) 1 true) [] = some (rot h vs) := by
  refine all7 ?_ ?_ ?_ ?_ ?_ ?_ ?_ <;> intros <;> kernel_rfl
end Go.Proofs.Ytpnohbdfgmjdbaa
