/- Two: TwoChain, plain, to its end. -/
import Derived.Test.YtpnohbdfgmjdbaaTwoR
namespace Go.Proofs.Ytpnohbdfgmjdbaa
open Go.RowKit Go.Qe
def comb (f g : Int × Int) : Int × Int := (if g.1 < f.1 then g.1 else f.1, f.2 + g.2)
def okV (c : Nat) (v : Int × Int) : Prop := 0 ≤ v.1 ∧ v.1 ≤ 255 ∧ -(160 * (c : Int)) ≤ v.2 ∧ v.2 ≤ 160 * (c : Int)
theorem okV.mono {c d : Nat} {v : Int × Int} (h : okV c v) (hcd : c ≤ d) : okV d v := by
  obtain ⟨h1, h2, h3, h4⟩ := h
  exact ⟨h1, h2, by omega, by omega⟩
theorem comb_ok {f g : Int × Int} {c : Nat} (hf : okV c f) (hg : okV 1 g) : okV (c + 1) (comb f g) := by
  obtain ⟨h1, h2, h3, h4⟩ := hf
  obtain ⟨g1, g2, g3, g4⟩ := hg
  unfold comb okV
  dsimp only
  refine ⟨?_, ?_, by omega, by omega⟩ <;> split <;> omega
theorem mkA_ok {n j : Nat} {v : Int × Int} (hv : okV 100 v) (hj : j + 1 < n) : arcOk n (mkA j v) := by
  obtain ⟨h1, h2, h3, h4⟩ := hv
  unfold arcOk mkA
  dsimp only
  refine ⟨by omega, by omega, by omega, by omega, by omega, by omega, fun _ => ⟨by omega, by omega⟩, by omega, by omega⟩
theorem from_ok {n : Nat} : ∀ (vs : List (Int × Int)) (j : Nat), (∀ v ∈ vs, okV 1 v) → j + vs.length < n → ∀ a ∈ arcsFrom j vs, arcOk n a
  | [], _, _, _, a, ha => by cases ha
  | v :: r, j, hv, hj, a, ha => by
    simp only [List.length_cons] at hj
    rcases List.mem_cons.1 ha with rfl | ha
    · exact mkA_ok ((hv v List.mem_cons_self).mono (by omega)) (by omega)
    · exact from_ok r (j + 1) (fun u hu => hv u (List.mem_cons_of_mem _ hu)) (by omega) a ha
theorem from_len : ∀ (vs : List (Int × Int)) (j : Nat), (arcsFrom j vs).length = vs.length
  | [], _ => rfl
  | v :: r, j => by simp [arcsFrom, from_len r]
theorem from_app : ∀ (vs : List (Int × Int)) (j : Nat) (v : Int × Int), arcsFrom j (vs ++ [v]) = arcsFrom j vs ++ [mkA (j + vs.length) v]
  | [], _, _ => rfl
  | u :: r, j, v => by
    simp only [List.cons_append, arcsFrom, from_app r, List.length_cons]
    rw [show j + 1 + r.length = j + (r.length + 1) by omega]
theorem straight_right {vs : List (Int × Int)} (hl : vs.length ≤ 8) (hv : ∀ v ∈ vs, okV 1 v) : inst_Right (straight vs) = some 0 := by
  refine right_ok (by simp [straight]; omega) (by simp [straight, from_len]; omega) (fun x hx => (List.mem_replicate.1 hx).2) fun a ha => ?_
  have e : (straight vs).supply.length = vs.length + 1 := by simp [straight]
  rw [e]
  exact from_ok vs 0 hv (by omega) a ha
theorem rot_right {f : Int × Int} {vs : List (Int × Int)} (hl : vs.length ≤ 8) (hf : okV 100 f) (hv : ∀ v ∈ vs, okV 1 v) : inst_Right (rot f vs) = some 0 := by
  refine right_ok (by simp [rot]; omega) (by simp [rot, from_len]; omega) (fun x hx => (List.mem_replicate.1 hx).2) fun a ha => ?_
  have e : (rot f vs).supply.length = vs.length + 2 := by simp [rot]
  rw [e]
  rcases List.mem_append.1 ha with ha | ha
  · exact from_ok vs 1 hv (by omega) a ha
  · rw [List.mem_singleton.1 ha]; exact mkA_ok hf (by omega)
theorem atX_eq {f g : Int × Int} (hf : okV 50 f) (hg : okV 1 g) (p q : Int) : atX (mkA 0 f) (mkA 1 g) p q = some (⟨1, p, q, ⟨0, 2, 0, (comb f g).1, (comb f g).2⟩⟩, ⟨mkA 0 f, mkA 1 g, 1, 0⟩, true) := by
  obtain ⟨h1, h2, h3, h4⟩ := hf
  obtain ⟨g1, g2, g3, g4⟩ := hg
  have e1 : w64 (g.1 - 0) = g.1 := by rw [w64_id (by omega) (by omega)]; omega
  have e2 : w64 (f.2 + g.2) = f.2 + g.2 := w64_id (by omega) (by omega)
  have e3 : w64 (0 - 0) = 0 := by decide
  unfold atX
  rw [chain_eq _ _ _ 0]
  simp only [mkA, e1, e2, e3, Option.bind_some]
  rw [if_neg (show ¬ g.1 = 4611686018427387904 by omega), if_neg (show ¬ (0 : Int) > 0 by omega), if_neg (by split <;> omega)]
  rfl
theorem series_straight {f g : Int × Int} {vs : List (Int × Int)} (hl : vs.length ≤ 6) (hf : okV 1 f) (hg : okV 1 g) (hv : ∀ v ∈ vs, okV 1 v) : ∃ s, two_Series (straight (f :: g :: vs)) = some (s, 0) ∧ s.inst = rot (comb f g) vs := by
  have hA : ∀ v ∈ f :: g :: vs, okV 1 v := by simp only [List.mem_cons, forall_eq_or_imp]; exact ⟨hf, hg, hv⟩
  have e : (straight (f :: g :: vs)).supply.length = vs.length + 3 := by simp [straight]
  exact step_ok (o := 2) (by omega) (by simp [straight, from_len]; omega) (straight_right (by simp; omega) hA) (straight_0 f g vs hl) rfl ((straight_1 f g vs hl).trans (atX_eq (hf.mono (by omega)) hg 0 1)) (straight_o f g vs hl) (by omega) (straight_w f g (comb f g) vs hl) (rot_right (by omega) ((comb_ok hf hg).mono (by omega)) hv)
theorem series_rot {f g : Int × Int} {vs : List (Int × Int)} (hl : vs.length ≤ 5) (hf : okV 50 f) (hg : okV 1 g) (hv : ∀ v ∈ vs, okV 1 v) : ∃ s, two_Series (rot f (g :: vs)) = some (s, 0) ∧ s.inst = rot (comb f g) vs := by
  have hA : ∀ v ∈ g :: vs, okV 1 v := by simp only [List.mem_cons, forall_eq_or_imp]; exact ⟨hg, hv⟩
  have e : (rot f (g :: vs)).supply.length = vs.length + 3 := by simp [rot]
  exact step_ok (o := 2) (by omega) (by simp [rot, from_len]; omega) (rot_right (by simp; omega) (hf.mono (by omega)) hA) (rot_0 f (g :: vs) (by simp only [List.length_cons]; omega)) rfl ((rot_g f g vs (by omega)).trans (atX_eq hf hg _ 0)) (rot_o f g vs (by omega)) (by omega) (rot_w f g (comb f g) vs (by omega)) (rot_right (by omega) ((comb_ok hf hg).mono (by omega)) hv)
theorem series_end {f : Int × Int} (hf : okV 50 f) : ∃ s, two_Series (rot f []) = some (s, 0) ∧ s.inst = rot f [] :=
  stay_ok rfl (by simp [rot, arcsFrom]) (rot_right (by simp) (hf.mono (by omega)) (fun v hv => by cases hv)) (rot_0 f [] (by simp)) rfl (rot_1 f) rfl
def minC (a : Int) (vs : List (Int × Int)) : Int := vs.foldl (fun a v => if v.1 < a then v.1 else a) a
def sumC (vs : List (Int × Int)) : Int := (vs.map (·.2)).sum
theorem sumC_app (vs : List (Int × Int)) (v : Int × Int) : sumC (vs ++ [v]) = sumC vs + v.2 := by simp [sumC]
theorem minC_app (a : Int) (vs : List (Int × Int)) (v : Int × Int) : minC a (vs ++ [v]) = if v.1 < minC a vs then v.1 else minC a vs := by unfold minC; rw [List.foldl_append]; rfl
theorem sumC_le : ∀ (vs : List (Int × Int)), (∀ v ∈ vs, okV 1 v) → -(160 * (vs.length : Int)) ≤ sumC vs ∧ sumC vs ≤ 160 * (vs.length : Int)
  | [], _ => by simp [sumC]
  | v :: r, h => by
    have h1 := sumC_le r fun u hu => h u (List.mem_cons_of_mem _ hu)
    obtain ⟨_, _, h3, h4⟩ := h v List.mem_cons_self
    have e : sumC (v :: r) = v.2 + sumC r := by simp [sumC]
    rw [e, List.length_cons]
    omega
/-- the state of the second loop -/
def ChI (m : Nat) (cap cost : Int) (j : Nat) (i : Inst) : Prop :=
  (j = 0 ∧ ∃ f vs, i = straight (f :: vs) ∧ vs.length = m - 2 ∧ okV 1 f ∧ (∀ v ∈ vs, okV 1 v) ∧ minC f.1 vs = cap ∧ f.2 + sumC vs = cost) ∨
  (1 ≤ j ∧ ∃ f vs, i = rot f vs ∧ vs.length = m - 2 - j ∧ okV (1 + j) f ∧ (∀ v ∈ vs, okV 1 v) ∧ minC f.1 vs = cap ∧ f.2 + sumC vs = cost)
theorem ChI.step {m j : Nat} {cap cost : Int} {i : Inst} (hm : 2 ≤ m ∧ m ≤ 9) (hj : j < m) (h : ChI m cap cost j i) : ∃ s, two_Series i = some (s, 0) ∧ ChI m cap cost (j + 1) s.inst := by
  rcases h with ⟨rfl, f, vs, rfl, hl, hf, hv, h1, h2⟩ | ⟨hj1, f, vs, rfl, hl, hf, hv, h1, h2⟩
  · cases vs with
    | nil =>
      obtain ⟨s, e, hs⟩ := series_end (hf.mono (by omega) : okV 50 f)
      refine ⟨s, e, .inr ⟨by omega, f, [], hs, ?_, hf.mono (by omega), hv, h1, h2⟩⟩
      simp only [List.length_nil] at hl ⊢
      omega
    | cons g vs =>
      simp only [List.length_cons] at hl
      have hg := hv g List.mem_cons_self
      have hv' : ∀ v ∈ vs, okV 1 v := fun v h => hv v (List.mem_cons_of_mem _ h)
      obtain ⟨s, e, hs⟩ := series_straight (by omega) hf hg hv'
      refine ⟨s, e, .inr ⟨by omega, comb f g, vs, hs, by omega, comb_ok hf hg, hv', h1, ?_⟩⟩
      simp only [sumC, List.map_cons, List.sum_cons] at h2
      simp only [comb, sumC]
      omega
  · cases vs with
    | nil =>
      obtain ⟨s, e, hs⟩ := series_end (hf.mono (by omega) : okV 50 f)
      refine ⟨s, e, .inr ⟨by omega, f, [], hs, ?_, hf.mono (by omega), hv, h1, h2⟩⟩
      simp only [List.length_nil] at hl ⊢
      omega
    | cons g vs =>
      simp only [List.length_cons] at hl
      have hg := hv g List.mem_cons_self
      have hv' : ∀ v ∈ vs, okV 1 v := fun v h => hv v (List.mem_cons_of_mem _ h)
      obtain ⟨s, e, hs⟩ := series_rot (by omega) (hf.mono (by omega) : okV 50 f) hg hv'
      refine ⟨s, e, .inr ⟨by omega, comb f g, vs, hs, by omega, (comb_ok hf hg).mono (by omega), hv', h1, ?_⟩⟩
      simp only [sumC, List.map_cons, List.sum_cons] at h2
      simp only [comb, sumC]
      omega
theorem chain_true {d : Int} {c e : List Int} (hd : 0 ≤ d) (hc : Byt c) (he : Byt e) : law18_TwoChain d c e = some true := by
  have d1 : 0 ≤ d.tmod 8 ∧ d.tmod 8 ≤ 7 := by rw [tmod_nat hd]; omega
  have w1 : w64 (d.tmod 8) = d.tmod 8 := w64_id (by omega) (by omega)
  have w2 : w64 (2 + d.tmod 8) = 2 + d.tmod 8 := w64_id (by omega) (by omega)
  obtain ⟨m, hm⟩ := Int.eq_ofNat_of_zero_le (show 0 ≤ 2 + d.tmod 8 by omega)
  unfold law18_TwoChain
  rw [w1, w2, hm, if_pos ⟨by omega, by simp only [lim]; omega⟩]
  refine lp_ix (T := (· = some true)) (fun s => s.2.2.1.toNat) (m - 1) (by omega) (fun j s => ∃ vs : List (Int × Int), vs.length = j ∧ (∀ v ∈ vs, okV 1 v) ∧ s = (sumC vs, minC 1000 vs, (j : Int), arcsFrom 0 vs)) (fun j s h => by obtain ⟨_, _, _, rfl⟩ := h; rfl) _ ⟨[], rfl, fun v h => (by cases h), rfl⟩ fun k j s hj hx hk => ?_
  obtain ⟨vs, hl, hv, rfl⟩ := hx
  unfold law18_TwoChain_b1
  dsimp only
  rw [w1, w2, hm, wS (by omega)]
  by_cases h1 : ((j + 1 : Nat) : Int) < (m : Int)
  · rw [if_pos h1]
    have hs := sumC_le vs hv
    have hlim : ∀ a : Arc, (arcsFrom 0 vs).length + [a].length ≤ lim := fun a => by rw [from_len]; simp only [List.length_cons, List.length_nil, lim]; omega
    have go : ∀ v : Int × Int, okV 1 v → k (w64 (sumC vs + v.2), (if v.1 < minC 1000 vs then v.1 else minC 1000 vs), ((j + 1 : Nat) : Int), arcsFrom 0 vs ++ [mkA j v]) = some true := fun v hv1 => by
      refine hk (by omega) _ ⟨vs ++ [v], by simp [hl], fun u hu => ?_, ?_⟩
      · rcases List.mem_append.1 hu with hu | hu
        · exact hv u hu
        · rw [List.mem_singleton.1 hu]; exact hv1
      · obtain ⟨_, _, g3, g4⟩ := hv1
        rw [sumC_app, minC_app, from_app, w64_id (by omega) (by omega), hl, Nat.zero_add]
    have bc : ∀ xs : List Int, Byt xs → w64 (gt xs (j : Int)) = gt xs (j : Int) ∧ 0 ≤ gt xs (j : Int) ∧ gt xs (j : Int) ≤ 255 := fun xs hx => by
      have := hx j
      rw [gt_el]
      exact ⟨w64_id (by omega) (by omega), this⟩
    obtain ⟨bc1, bc2, bc3⟩ := bc c hc
    obtain ⟨be1, be2, be3⟩ := bc e he
    have bc4 : w64 (gt c (j : Int) - 100) = gt c (j : Int) - 100 := w64_id (by omega) (by omega)
    rw [bc1, be1, bc4]
    simp only [lt_eq]
    by_cases h2 : (j : Int) < (c.length : Int) <;> by_cases h3 : (j : Int) < (e.length : Int)
    · rw [if_pos h2, if_pos ⟨by omega, h2⟩, if_pos h3, if_pos ⟨by omega, h3⟩, if_pos (hlim _)]
      exact go (gt e j, gt c j - 100) ⟨by omega, by omega, by dsimp only; omega, by dsimp only; omega⟩
    · rw [if_pos h2, if_pos ⟨by omega, h2⟩, if_neg h3, if_pos (hlim _)]
      exact go (7, gt c j - 100) ⟨by omega, by omega, by dsimp only; omega, by dsimp only; omega⟩
    · rw [if_neg h2, if_pos h3, if_pos ⟨by omega, h3⟩, if_pos (hlim _)]
      exact go (gt e j, 0) ⟨by omega, by omega, by dsimp only; omega, by dsimp only; omega⟩
    · rw [if_neg h2, if_neg h3, if_pos (hlim _)]
      exact go (7, 0) ⟨by omega, by omega, by dsimp only; omega, by dsimp only; omega⟩
  rw [if_neg h1]
  cases vs with
  | nil => simp only [List.length_nil] at hl; omega
  | cons f vs =>
    simp only [List.length_cons] at hl
    have hf := hv f List.mem_cons_self
    have hv' : ∀ v ∈ vs, okV 1 v := fun v h => hv v (List.mem_cons_of_mem _ h)
    have hst : ChI m (minC 1000 (f :: vs)) (sumC (f :: vs)) 0 (straight (f :: vs)) := by
      refine .inl ⟨rfl, f, vs, rfl, by omega, hf, hv', ?_, by simp [sumC]⟩
      obtain ⟨f1, f2, _⟩ := hf
      simp only [minC, List.foldl_cons]
      rw [if_pos (by omega)]
    have e0 : (List.replicate ((m : Int)).toNat (0 : Int)) = (straight (f :: vs)).supply := by
      simp only [straight, List.length_cons]
      congr 1
      omega
    rw [e0]
    refine lp_ix (T := (· = some true)) (fun s => s.1.toNat) m (by omega) (fun j s => s.1 = (j : Int) ∧ ChI m (minC 1000 (f :: vs)) (sumC (f :: vs)) j ⟨s.2.1, s.2.2⟩) (fun j s h => by rw [h.1]; rfl) _ ⟨rfl, hst⟩ fun k j s hj hx hk => ?_
    obtain ⟨s1, s2, s3⟩ := s
    obtain ⟨hx1, hx2⟩ := hx
    dsimp only at hx1 hx2
    subst hx1
    unfold law18_TwoChain_b2
    dsimp only
    rw [w1, w2, hm]
    by_cases h4 : (j : Int) < (m : Int)
    · obtain ⟨s, e1, e2⟩ := hx2.step ⟨by omega, by omega⟩ (by omega)
      rw [if_pos h4, e1, Option.bind_some, if_neg (fun h => h rfl), wS (by omega)]
      exact hk (by omega) _ ⟨rfl, e2⟩
    · rw [if_neg h4, known_true, Option.bind_some, if_pos rfl]
      rcases hx2 with ⟨h5, _⟩ | ⟨_, g, us, e1, e2, _, _, e3, e4⟩
      · omega
      · have hus : us = [] := List.length_eq_zero_iff.1 (by omega)
        subst hus
        simp only [rot, arcsFrom, List.nil_append, Inst.mk.injEq] at e1
        obtain ⟨rfl, rfl⟩ := e1
        rw [if_pos (by rfl), if_pos (by rfl), if_pos ⟨Int.le_refl 0, by show (0 : Int) < 1; omega⟩]
        simp only [minC, sumC, List.foldl_nil, List.map_nil, List.sum_nil, Int.add_zero] at e3 e4
        have e5 : gt [mkA 0 g] 0 = mkA 0 g := rfl
        rw [e5, decide_eq_true]
        unfold minC sumC
        rw [← e3, ← e4]
        rfl
end Go.Proofs.Ytpnohbdfgmjdbaa
