/- Adj: the laws, plain. -/
import Derived.Test.YtcmcbiojkanlnaaGAD
import Derived.Test.YtcmcbiojkanlnaaPl
namespace Go.Proofs.Ytcmcbiojkanlnaa
open Go.RowKit Go.Qe
theorem w64s {k : Nat} (h : k < 1000) : w64 ((k : Int) + 1) = ((k + 1 : Nat) : Int) := by rw [w64_id (by omega) (by omega)]; rfl
theorem keep_lim {i : Inst} (h : i.arcs.length ≤ 100) : i.arcs.length ≤ lim := by simp only [lim]; omega
/-- AdjKeeps -/
theorem keeps_true {c d : List Int} {n : Int} (hc : Byt c) (hd : Byt d) (hn : 0 ≤ n ∧ n ≤ 255) : law04_AdjKeeps c d n = some true := by
  have hi : law03_Inst c d = some (instOf c d) := by simp [law03_Inst, bytB_Byt.2 hc, bytB_Byt.2 hd]
  have hall := instOf_ok (d := d) hc
  have hl18 := instOf_len c d
  have hs7 : (instOf c d).supply.length ≤ 7 := by rw [instOf_sup]; exact nOf_le hd
  have hs0 : 0 < (instOf c d).supply.length := by rw [instOf_sup]; exact nOf_pos d
  have hlim : (instOf c d).arcs.length ≤ lim := by simp only [lim]; omega
  have hnew : adj_New (instOf c d) = some (instOf c d) := by
    unfold adj_New; rw [if_pos ⟨by simp only [lim]; omega, hlim⟩]
  unfold law04_AdjKeeps
  simp only [hi, hnew, Option.bind_some]
  refine lp_up2 (T := (· = some true)) (instOf c d).arcs.length (by omega) (fun _ xs => xs.length = (instOf c d).arcs.length) _ rfl fun k j x hj hx hk => ?_
  unfold law04_AdjKeeps_b1
  dsimp only
  by_cases h1 : (j : Int) < (x.length : Int)
  · rw [if_pos h1, if_pos ⟨by omega, h1⟩]
    simp only [lt_eq, upd_len]
    rw [if_pos ⟨by omega, h1⟩, w64s (by omega)]
    exact hk (by omega) _ (by rw [upd_len, upd_len, hx])
  rw [if_neg h1]
  simp only [hi, Option.bind_some]
  rw [if_pos (by omega)]
  have hout : ∀ m, adj_Graph_Out (instOf c d) m = some (someL (instOf c d) m true false) := fun m => by unfold adj_Graph_Out; rw [if_pos hlim]
  have hat : ∀ m, adj_Graph_At (instOf c d) m = some (someL (instOf c d) m true true) := fun m => by unfold adj_Graph_At; rw [if_pos hlim]
  have rout : ∀ m, ref04_Out (instOf c d) m = some (someL (instOf c d) m true false) := fun m => by unfold ref04_Out; rw [if_pos hlim]
  have rat : ∀ m, ref04_At (instOf c d) m = some (someL (instOf c d) m true true) := fun m => by unfold ref04_At; rw [if_pos hlim]
  simp only [hout, Option.bind_some]
  have hlo := someL_len (instOf c d) ((w64 n).tmod ((instOf c d).supply.length : Int)) true false
  refine lp_up2 (T := (· = some true)) (someL (instOf c d) ((w64 n).tmod ((instOf c d).supply.length : Int)) true false).length (by omega) (fun _ xs => xs.length = (someL (instOf c d) ((w64 n).tmod ((instOf c d).supply.length : Int)) true false).length) _ rfl fun k j x hj hx hk => ?_
  unfold law04_AdjKeeps_b2
  dsimp only
  by_cases h1 : (j : Int) < (x.length : Int)
  · rw [if_pos h1, if_pos ⟨by omega, h1⟩]
    simp only [lt_eq]
    rw [w64s (by omega)]
    exact hk (by omega) _ (by rw [upd_len, hx])
  rw [if_neg h1]
  refine lp_up (T := (· = some true)) (instOf c d).arcs.length (by omega) fun k j hj hk => ?_
  unfold law04_AdjKeeps_b3
  by_cases h1 : (j : Int) < ((instOf c d).arcs.length : Int)
  · have hj' : j < (instOf c d).arcs.length := by omega
    rw [if_pos h1]
    simp only [adj_Graph_Arc, Option.bind_some, hall.fit hj']
    rw [if_pos trivial, if_pos ⟨by omega, h1⟩, gt_arc, if_pos ?_, w64s (by omega)]
    · exact hk hj'
    · simp [arcGet, hall.fit hj']
  · rw [if_neg h1]
    simp only [law04_known, Option.bind_some, hout, rout, hat, rat, ref03_Ints]
    simp
/-- AdjTurned -/
def turn (a : Arc) : Arc := ⟨a.dst, a.src, a.low, a.cap, a.cost⟩
def turnI (i : Inst) : Inst := ⟨i.supply, i.arcs.map turn⟩
theorem turn_at {i : Inst} {k : Nat} (h : k < i.arcs.length) : arcAt (turnI i).arcs k = turn (arcAt i.arcs k) := by
  rw [arcAt_eq (by simpa [turnI] using h), arcAt_eq h]; simp [turnI]
theorem turn_fit (i : Inst) (k : Nat) : fitB (turnI i) k = fitB i k := by
  by_cases h : k < i.arcs.length
  · have h2 : k < (turnI i).arcs.length := by simpa [turnI] using h
    rw [Bool.eq_iff_iff]
    simp only [fitB, Int.toNat_natCast, turn_at h, Bool.and_eq_true, decide_eq_true_eq, wholeB, turn]
    simp only [turnI, List.length_map]
    omega
  · simp [fitB, turnI, h]
theorem turn_some (i : Inst) (n : Int) (a b : Bool) : someL (turnI i) n a b = someL i n b a := by
  have e : (turnI i).arcs.length = i.arcs.length := by simp [turnI]
  simp only [someL, someTo, e]
  congr 1
  apply List.filter_congr
  intro k hk
  have hk' : k < i.arcs.length := List.mem_range.1 hk
  simp only [pickB, turn_fit, turn_at hk', turn]
  cases fitB i k <;> simp [Bool.or_comm]
theorem turned_true {c d : List Int} (hc : Byt c) (hd : Byt d) : law04_AdjTurned c d = some true := by
  have hi : law03_Inst c d = some (instOf c d) := by simp [law03_Inst, bytB_Byt.2 hc, bytB_Byt.2 hd]
  have hl18 := instOf_len c d
  have hs7 : (instOf c d).supply.length ≤ 7 := by rw [instOf_sup]; exact nOf_le hd
  generalize instOf c d = i at *
  have hlim : i.arcs.length ≤ lim := by simp only [lim]; omega
  have hlim2 : (turnI i).arcs.length ≤ lim := by simpa [turnI] using hlim
  unfold law04_AdjTurned
  simp only [hi, Option.bind_some]
  refine lp_up2 (T := (· = some true)) i.arcs.length (by omega) (fun k xs => xs.length = i.arcs.length ∧ ∀ j, j < i.arcs.length → arcAt xs j = if j < k then turn (arcAt i.arcs j) else arcAt i.arcs j) _ ⟨rfl, fun j _ => by rw [if_neg (by omega)]⟩ fun k j x hj hx hk => ?_
  obtain ⟨hx1, hx2⟩ := hx
  unfold law04_AdjTurned_b1
  dsimp only
  by_cases h1 : (j : Int) < (x.length : Int)
  · have hj' : j < i.arcs.length := by omega
    rw [if_pos h1, if_pos ⟨by omega, by omega⟩, if_pos ⟨by omega, h1⟩]
    simp only [lt_eq, upd_len]
    rw [if_pos ⟨by omega, h1⟩, w64s (by omega)]
    have e0 := hx2 j hj'
    rw [if_neg (by omega)] at e0
    refine hk hj' _ ⟨by rw [upd_len, upd_len, hx1], fun m hm => ?_⟩
    simp only [upd_nat, gt_arc]
    rw [arcAt_set (by rw [List.length_set]; omega)]
    by_cases hmj : m = j
    · subst hmj
      rw [if_pos rfl, if_pos (by omega), arcAt_set (by omega), if_pos rfl, e0]
      rfl
    · rw [if_neg hmj, arcAt_set (by omega), if_neg hmj, hx2 m hm]
      by_cases h : m < j
      · rw [if_pos h, if_pos (by omega)]
      · rw [if_neg h, if_neg (by omega)]
  rw [if_neg h1]
  have hx3 : x = i.arcs.map turn := by
    refine ext_arc (by simp [hx1]) fun m hm => ?_
    have := turn_at (i := i) (k := m) (by omega)
    rw [hx2 m (by omega), if_pos (by omega)]
    exact this.symm
  have hT : (Inst.mk i.supply x) = turnI i := by rw [hx3]; rfl
  have hnew : ∀ j : Inst, j.supply.length ≤ lim → j.arcs.length ≤ lim → adj_New j = some j := fun j h1 h2 => by unfold adj_New; rw [if_pos ⟨h1, h2⟩]
  rw [hT, hnew i (by simp only [lim]; omega) hlim, hnew (turnI i) (by simp only [lim, turnI]; omega) hlim2]
  simp only [Option.bind_some]
  refine lp_up (T := (· = some true)) i.supply.length (by omega) fun k j hj hk => ?_
  unfold law04_AdjTurned_b2
  by_cases h1 : (j : Int) < (i.supply.length : Int)
  · rw [if_pos h1, w64s (by omega)]
    simp only [adj_Graph_Out, adj_Graph_In, adj_Graph_At, adj_Graph_Loops, hlim, hlim2, if_true, Option.bind_some, ref03_Ints, turn_some, loopsOf]
    simp only [decide_true, if_true, Option.bind_some]
    rw [if_neg (by simp; omega)]
    exact hk (by omega)
  · rw [if_neg h1]; rfl
/-- AdjMore -/
def more (i : Inst) (b : Arc) : Inst := ⟨i.supply, i.arcs ++ [b]⟩
theorem more_at {i : Inst} {b : Arc} {k : Nat} (h : k < i.arcs.length) : arcAt (more i b).arcs k = arcAt i.arcs k := by
  rw [arcAt_eq (by simp [more]; omega), arcAt_eq h]; simp [more, h]
theorem more_last (i : Inst) (b : Arc) : arcAt (more i b).arcs i.arcs.length = b := by
  rw [arcAt_eq (by simp [more])]; simp [more]
theorem more_fit {i : Inst} {b : Arc} {k : Nat} (h : k < i.arcs.length) : fitB (more i b) k = fitB i k := by
  rw [Bool.eq_iff_iff]
  simp only [fitB, Int.toNat_natCast, more_at h, Bool.and_eq_true, decide_eq_true_eq]
  have : (k : Int) < ((more i b).arcs.length : Int) := by simp [more]; omega
  simp only [this, show (k : Int) < (i.arcs.length : Int) by omega]
  rfl
theorem more_some (i : Inst) (b : Arc) (n : Int) (out inn : Bool) (hb : wholeB i.supply.length b = true) :
    someL (more i b) n out inn = someL i n out inn ++ if (out && decide (b.src = n) || inn && decide (b.dst = n)) = true then [(i.arcs.length : Int)] else [] := by
  have e : (more i b).arcs.length = i.arcs.length + 1 := by simp [more]
  have h1 : someTo (more i b) n out inn i.arcs.length = someTo i n out inn i.arcs.length := by
    simp only [someTo]
    congr 1
    apply List.filter_congr
    intro k hk
    have hk' := List.mem_range.1 hk
    simp only [pickB, more_fit hk', more_at hk']
  have hf : fitB (more i b) (i.arcs.length : Nat) = true := by
    simp only [fitB, Int.toNat_natCast, more_last]
    rw [show (more i b).supply = i.supply from rfl, hb, e]
    simp; omega
  have hp : pickB (more i b) n out inn i.arcs.length = (out && decide (b.src = n) || inn && decide (b.dst = n)) := by
    simp only [pickB, hf, more_last, Bool.true_and]
  rw [someL, e]
  cases hq : (out && decide (b.src = n) || inn && decide (b.dst = n)) with
  | true => rw [someTo_yes (by rw [hp, hq]), h1, if_pos rfl]; rfl
  | false => rw [someTo_no (by rw [hp, hq]), h1]; simp [someL]
theorem more_true {c d : List Int} {u v : Int} (hc : Byt c) (hd : Byt d) (hu : 0 ≤ u ∧ u ≤ 255) (hv : 0 ≤ v ∧ v ≤ 255) : law04_AdjMore c d u v = some true := by
  have hi : law03_Inst c d = some (instOf c d) := by simp [law03_Inst, bytB_Byt.2 hc, bytB_Byt.2 hd]
  have hl18 := instOf_len c d
  have hs7 : (instOf c d).supply.length ≤ 7 := by rw [instOf_sup]; exact nOf_le hd
  have hs0 : 0 < (instOf c d).supply.length := by rw [instOf_sup]; exact nOf_pos d
  generalize instOf c d = i at *
  have hlim : i.arcs.length ≤ lim := by simp only [lim]; omega
  have hmod : ∀ u : Int, 0 ≤ u ∧ u ≤ 255 → 0 ≤ (w64 u).tmod (i.supply.length : Int) ∧ (w64 u).tmod (i.supply.length : Int) < (i.supply.length : Int) := fun u hu => by
    rw [w64_id (by omega) (by omega), tmod_nat (by omega)]
    exact ⟨Int.emod_nonneg _ (by omega), Int.emod_lt_of_pos _ (by omega)⟩
  have h1 := hmod u hu
  have h2 := hmod v hv
  unfold law04_AdjMore
  simp only [hi, Option.bind_some]
  clear hmod
  generalize ha : (w64 u).tmod (i.supply.length : Int) = a at *
  generalize hb : (w64 v).tmod (i.supply.length : Int) = b at *
  rw [if_pos (by omega), if_pos (by omega), if_pos (by simp only [lim, List.length_nil]; omega)]
  simp only [lt_eq, List.nil_append]
  rw [if_pos (by simp only [lim, List.length_cons, List.length_nil]; omega)]
  have hB : wholeB i.supply.length (Arc.mk a b 0 1 0) = true := by simp [wholeB]; omega
  have hnew : ∀ j : Inst, j.supply.length ≤ lim → j.arcs.length ≤ lim → adj_New j = some j := fun j h1 h2 => by unfold adj_New; rw [if_pos ⟨h1, h2⟩]
  have hM : Inst.mk i.supply (i.arcs ++ [Arc.mk a b 0 1 0]) = more i (Arc.mk a b 0 1 0) := rfl
  have hlim2 : (more i (Arc.mk a b 0 1 0)).arcs.length ≤ lim := by simp [more, lim]; omega
  rw [hM, hnew i (by simp only [lim]; omega) hlim, hnew _ (by simp only [lim, more]; omega) hlim2]
  simp only [Option.bind_some]
  refine lp_up (T := (· = some true)) i.supply.length (by omega) fun k j hj hk => ?_
  unfold law04_AdjMore_b1
  simp only [ha, hb]
  by_cases hlt : (j : Int) < (i.supply.length : Int)
  · rw [if_pos hlt, w64s (by omega)]
    have hk' := hk (by omega)
    have l1 := someL_len i j true false
    have l2 := someL_len i j false true
    have l3 := someL_len i j true true
    have hl1 : ∀ l : List Int, l.length ≤ i.arcs.length → l.length + [(i.arcs.length : Int)].length ≤ lim := fun l hl => by simp only [lim, List.length_cons, List.length_nil]; omega
    simp only [adj_Graph_Out, adj_Graph_In, adj_Graph_At, hlim, hlim2, if_true, Option.bind_some, ref03_Ints, more_some _ _ _ _ _ hB, lt_eq]
    have q1 := hl1 _ l1
    have q2 := hl1 _ l2
    have q3 := hl1 _ l3
    by_cases e1 : (j : Int) = a
    · subst e1
      by_cases e2 : (j : Int) = b
      · subst e2
        simp only [q1, q2, q3, if_true, lt_eq, Option.bind_some, decide_true, Bool.and_true, Bool.and_false, Bool.or_false, Bool.or_true, Bool.false_and, Bool.true_and, Bool.false_or, Bool.true_or]
        simpa using hk'
      · have e3 : ¬ b = (j : Int) := fun h => e2 h.symm
        simp only [q1, q2, q3, if_true, if_false, e2, e3, lt_eq, Option.bind_some, decide_true, decide_false, Bool.and_true, Bool.and_false, Bool.or_false, Bool.or_true, Bool.false_and, Bool.true_and, Bool.false_or, Bool.true_or]
        simpa using hk'
    · have e4 : ¬ a = (j : Int) := fun h => e1 h.symm
      by_cases e2 : (j : Int) = b
      · subst e2
        simp only [q1, q2, q3, if_true, if_false, e1, e4, lt_eq, Option.bind_some, decide_true, decide_false, Bool.and_true, Bool.and_false, Bool.or_false, Bool.or_true, Bool.false_and, Bool.true_and, Bool.false_or, Bool.true_or]
        simpa using hk'
      · have e3 : ¬ b = (j : Int) := fun h => e2 h.symm
        simp only [q1, q2, q3, if_true, if_false, e1, e2, e3, e4, lt_eq, Option.bind_some, decide_true, decide_false, Bool.and_true, Bool.and_false, Bool.or_false, Bool.or_true, Bool.false_and, Bool.true_and, Bool.false_or, Bool.true_or]
        simpa using hk'
  · rw [if_neg hlt]
    have hf : fitB (more i (Arc.mk a b 0 1 0)) (i.arcs.length : Nat) = true := by
      simp only [fitB, Int.toNat_natCast, more_last]
      rw [show (more i (Arc.mk a b 0 1 0)).supply = i.supply from rfl, hB]
      simp [more]; omega
    simp only [law04_known, Option.bind_some, adj_Graph_Other, otherOf, arcGet, hf, more_last, Int.toNat_natCast]
    simp
end Go.Proofs.Ytcmcbiojkanlnaa
