/- Plain: LeafDoes. -/
import Derived.Test.YtbnjeanldechnaaGreatDoorLfT
import Derived.Test.YtbnjeanldechnaaGreatDoorTh9L
namespace Go.Qe
theorem find_some {α β : Type} (p : α → Bool) (f : α → β) (l : List α) : l.findSome? (fun a => if p a = true then some (f a) else none) = (l.find? p).map f := by
  induction l with
  | nil => rfl
  | cons a l ih =>
    rw [List.findSome?_cons, List.find?_cons]
    by_cases h : p a = true
    · rw [if_pos h, h]; rfl
    · rw [if_neg h, ih]
      have : p a = false := by simpa using h
      rw [this]
def stepNo : Step := ⟨⟨[], []⟩, ⟨0, ⟨[], []⟩⟩, ⟨0, 0⟩, false⟩
def stepAs (i : Inst) : Step := ⟨i, ⟨0, ⟨[], []⟩⟩, ⟨0, 0⟩, false⟩
end Go.Qe
namespace Go.Proofs.YtbnjeanldechnaaGreatDoor
open Go.RowKit Go.Qe
def outStep (pass : Int) (was : Inst) (o : Inst) (off : Wide) : Step × Int := if rightOf o = 0 then (⟨o, ⟨pass, was⟩, off, true⟩, 0) else (stepNo, 40)
theorem someL_rng {i : Inst} {n : Int} {o e : Bool} {a : Int} (h : a ∈ someL i n o e) : 0 ≤ a ∧ a < i.arcs.length := by
  obtain ⟨k, hk, _, rfl⟩ := (someL_mem i n o e a).1 h
  omega
def shutB (i : Inst) (n : Nat) : Bool :=
  decide (¬ (someL i n true true).length = 0) && decide (¬ 0 < loopsOf i n) && decide (gt i.supply (n : Int) = 0) && ((someL i n true true).all fun a => decide ((gt i.arcs a).low = 0)) && (decide ((someL i n true false).length = 0) || decide ((someL i n false true).length = 0))
/-- what is known of a node that nothing comes through -/
structure ShutAt (i : Inst) (n : Nat) : Prop where
  sup : gt i.supply (n : Int) = 0
  low : ∀ k ∈ nearL i n, (arcAt i.arcs k).low = 0
theorem leaf_shut_eq {i : Inst} (hl : i.arcs.length ≤ lim) {n : Nat} (hn : n < i.supply.length) : leaf_shut i i n = some (shutB i n) := by
  have hat : ∀ m : Int, adj_Graph_At i m = some (someL i m true true) := fun m => if_pos hl
  have hout : ∀ m : Int, adj_Graph_Out i m = some (someL i m true false) := fun m => if_pos hl
  have hin : ∀ m : Int, adj_Graph_In i m = some (someL i m false true) := fun m => if_pos hl
  have hlo : ∀ m : Int, adj_Graph_Loops i m = some (loopsOf i m) := fun m => if_pos hl
  unfold leaf_shut shutB
  rw [hat, Option.bind_some, hlo]
  by_cases h1 : ((someL i n true true).length : Int) = 0
  · rw [if_pos h1, decide_eq_false (fun h => h (by omega))]; rfl
  · rw [if_neg h1, decide_eq_true (show ¬ (someL i n true true).length = 0 by omega), Option.bind_some]
    by_cases h2 : 0 < loopsOf i n
    · rw [if_pos h2, decide_eq_false (fun h => h h2)]; rfl
    · rw [if_neg h2, decide_eq_true h2, if_pos (rng_of hn)]
      by_cases h3 : gt i.supply (n : Int) = 0
      · rw [if_neg (fun h => h h3), decide_eq_true h3]
        have hlen : (someL i n true true).length ≤ i.arcs.length := by
          unfold someL someTo
          rw [List.length_map]
          have := List.length_filter_le (pickB i n true true) (List.range i.arcs.length)
          simpa using this
        simp only [lim] at hl
        rw [lp_find (s0 := (0 : Int)) (fun j => (j : Int)) (someL i n true true).length (fun j => if (gt i.arcs (gt (someL i n true true) (j : Int))).low = 0 then none else some (some false)) (fin := some (decide ((someL i n true false).length = 0) || decide ((someL i n false true).length = 0))) rfl (by omega)]
        · rw [findSome_range (someL i n true true) (fun a => if (gt i.arcs a).low = 0 then none else some (some false))]
          cases hs : (someL i n true true).findSome? (fun a => if (gt i.arcs a).low = 0 then none else some (some false)) with
          | none =>
            have : ((someL i n true true).all fun a => decide ((gt i.arcs a).low = 0)) = true := List.all_eq_true.2 fun a ha => by
              have := List.findSome?_eq_none_iff.1 hs a ha
              split at this
              · rename_i h; simpa using h
              · cases this
            rw [this]; rfl
          | some r =>
            obtain ⟨a, ha, h4⟩ := List.exists_of_findSome?_eq_some hs
            split at h4
            · cases h4
            · rename_i h5
              cases h4
              have : ((someL i n true true).all fun a => decide ((gt i.arcs a).low = 0)) = false := List.all_eq_false.2 ⟨a, ha, by simpa using h5⟩
              rw [this]; rfl
        · intro k j hj
          have hr := someL_rng (List.getElem_mem hj)
          unfold leaf_shut_b1
          rw [if_pos (rng_of hj).2, if_pos (rng_of hj), gt_get hj, if_pos hr]
          by_cases h4 : (gt i.arcs ((someL i n true true)[j])).low = 0
          · rw [if_neg (fun h => h h4), if_pos h4, w64_succ (by omega)]
          · rw [if_pos h4, if_neg h4]
        · intro k
          unfold leaf_shut_b1
          rw [if_neg (by omega), hout, Option.bind_some]
          by_cases h5 : ((someL i n true false).length : Int) = 0
          · rw [if_pos h5, decide_eq_true (show (someL i n true false).length = 0 by omega)]; rfl
          · rw [if_neg h5, hin, Option.bind_some, decide_eq_false (show ¬ (someL i n true false).length = 0 by omega)]
            simp
      · rw [if_pos h3, decide_eq_false h3]; rfl
theorem leaf_Shut_eq {i : Inst} (h1 : i.supply.length ≤ lim) (h2 : i.arcs.length ≤ lim) {n : Nat} (hn : n < i.supply.length) : leaf_Shut i n = some (shutB i n) := by
  unfold leaf_Shut
  rw [show adj_New i = some i from if_pos ⟨h1, h2⟩, Option.bind_some, leaf_shut_eq h2 hn, Option.bind_some]
theorem leaf_without_eq {S : List Int} {i : Inst} (hS : S.length = i.supply.length) (h1 : i.supply.length ≤ 64) (h2 : i.arcs.length ≤ 256) {n : Nat} (hn : n < i.supply.length) (pass : Int) (was : Inst) (off : Wide) :
    leaf_without pass was ⟨S, i.arcs⟩ n off = some (if rightOf (outOf S i n) = 0 then (⟨outOf S i n, ⟨pass, was⟩, off, true⟩, none) else (stepNo, some 40)) := by
  unfold leaf_without
  dsimp only
  rw [hS, if_pos ⟨by omega, by simp only [lim]; omega⟩, if_pos ⟨by omega, by simp; omega⟩]
  simp only [lt_eq]
  have e : upd (List.replicate (i.supply.length : Int).toNat false) (n : Int) true = offOf i n := by
    unfold offOf; rw [upd_nat, Int.toNat_natCast]
  rw [e, inst_Without_eq (by dsimp only; omega) (by dsimp only; omega) (by simp only [offOf, List.length_set, List.length_replicate, lim]; omega) (by simp), Option.bind_some]
  rw [inst_Right_eq, Option.bind_some]
  show (if ¬ rightOf (outOf S i n) = 0 then _ else _) = _
  by_cases h : rightOf (outOf S i n) = 0
  · rw [if_neg (fun h' => h' h), if_pos h]; rfl
  · rw [if_pos h, if_neg h]; rfl
def deadOf (i : Inst) : Step × Int :=
  if ¬ rightOf i = 0 then (stepNo, rightOf i) else match (List.range i.supply.length).find? (shutB i) with
    | some n => outStep 7 i (outOf i.supply i n) ⟨0, 0⟩
    | none => (stepAs i, 0)
theorem leaf_Dead_eq (i : Inst) : leaf_Dead i = some (deadOf i) := by
  unfold leaf_Dead deadOf
  first | unfold leaf_run_1 | unfold leaf_run_2
  rw [inst_Right_eq, Option.bind_some]
  by_cases h0 : rightOf i = 0
  · have hR := rightOf_zero.1 h0
    have hnodes := hR.nodes
    have hmany := hR.many
    have l1 : i.supply.length ≤ lim := by simp only [lim]; omega
    have l2 : i.arcs.length ≤ lim := by simp only [lim]; omega
    rw [if_neg (fun h => h h0), if_neg (fun h => h h0)]
    have hf : leaf_first_struct_1 (i.supply.length : Int) i i = some (match (List.range i.supply.length).find? (shutB i) with | some n => ((n : Int), (), true) | none => (0, (), false)) := by
      unfold leaf_first_struct_1
      rw [lp_find (s0 := (0 : Int)) (fun j => (j : Int)) i.supply.length (fun j => if shutB i j = true then some (some ((j : Int), (), true)) else none) (fin := some (0, (), false)) rfl (by omega), find_some]
      · cases (List.range i.supply.length).find? (shutB i) <;> rfl
      · intro k j hj
        unfold leaf_first_struct_1_b1 leaf_dead_1_1
        rw [if_pos (rng_of hj).2, leaf_shut_eq l2 hj, Option.bind_some, Option.bind_some]
        dsimp only
        by_cases h : shutB i j = true
        · rw [if_pos h, if_pos h]
        · rw [if_neg h, if_neg h, w64_succ (by omega)]
      · intro k
        unfold leaf_first_struct_1_b1
        rw [if_neg (by omega)]
    unfold leaf_dead
    rw [show adj_New i = some i from if_pos ⟨l1, l2⟩, Option.bind_some, hf, Option.bind_some]
    cases hs : (List.range i.supply.length).find? (shutB i) with
    | none =>
      dsimp only
      rw [if_neg (by simp), inst_Copy_eq l1 l2, Option.bind_some, Option.bind_some]
      rfl
    | some n =>
      have hn := List.mem_range.1 (List.mem_of_find?_eq_some hs)
      dsimp only
      rw [if_pos rfl, inst_Copy_eq l1 l2, Option.bind_some, Option.bind_some]
      have hw := leaf_without_eq (S := i.supply) (i := i) rfl hnodes hmany hn 7 i ⟨0, 0⟩
      have ei : (⟨i.supply, i.arcs⟩ : Inst) = i := rfl
      rw [ei] at hw
      rw [hw, Option.bind_some]
      unfold outStep
      by_cases h : rightOf (outOf i.supply i n) = 0
      · rw [if_pos h, if_pos h]; rfl
      · rw [if_neg h, if_neg h]; rfl
  · rw [if_pos h0, if_pos h0]; rfl
end Go.Proofs.YtbnjeanldechnaaGreatDoor
namespace Go.Proofs.YtbnjeanldechnaaGreatDoor
open Go.RowKit Go.Qe
theorem near_some {i : Inst} (hw : Whole i) (n : Nat) : someL i n true true = (nearL i n).map fun k : Nat => (k : Int) := by
  have e : (List.range i.arcs.length).filter (pickB i n true true) = nearL i n := List.filter_congr fun k hk => by
    have h1 := pick_iff hw (n := (n : Int)) (o := true) (e := true) (List.mem_range.1 hk)
    by_cases ht : (arcAt i.arcs k).src = n ∨ (arcAt i.arcs k).dst = n
    · rw [touch_t ht, h1.2 (by simpa using ht)]
    · rw [touch_f ht]
      cases hp : pickB i n true true k with
      | false => rfl
      | true => exact absurd (by simpa using h1.1 hp) ht
  rw [← e]; rfl
def noTip : Tip × Bool := (⟨0, 0⟩, false)
def tipM (i : Inst) (n : Nat) (a : Int) : Int := if (gt i.arcs a).dst = n then w64 (0 - gt i.supply (n : Int)) else gt i.supply (n : Int)
def tipB (i : Inst) (n : Nat) : Tip × Bool :=
  match someL i n true true with
  | [a] => if 0 < loopsOf i n then noTip else if tipM i n a < (gt i.arcs a).low then noTip else if (gt i.arcs a).cap < tipM i n a then noTip else (⟨a, tipM i n a⟩, true)
  | _ => noTip
/-- a leaf, its arc, what flows along it -/
structure TipAt (i : Inst) (n a : Nat) (m : Int) : Prop where
  ha : a < i.arcs.length
  near : nearL i n = [a]
  noloop : ¬ ((arcAt i.arcs a).src = n ∧ (arcAt i.arcs a).dst = n)
  touch : (arcAt i.arcs a).src = n ∨ (arcAt i.arcs a).dst = n
  is : m = if (arcAt i.arcs a).dst = n then -gt i.supply (n : Int) else gt i.supply (n : Int)
  low : (arcAt i.arcs a).low ≤ m
  cap : m ≤ (arcAt i.arcs a).cap
theorem tipAt_of {i : Inst} (hR : RightI i) {n : Nat} (hn : n < i.supply.length) (h : (tipB i n).2 = true) : ∃ a m, tipB i n = (⟨(a : Nat), m⟩, true) ∧ TipAt i n a m := by
  have hw := hR.whole
  unfold tipB at h ⊢
  split at h
  · rename_i u hu
    split at h
    · cases h
    rename_i h0
    split at h
    · cases h
    rename_i h1
    split at h
    · cases h
    rename_i h2
    have hne := near_some hw n
    rw [hu] at hne
    obtain ⟨a, hna, hau⟩ : ∃ a, nearL i n = [a] ∧ u = (a : Int) := by
      rcases hl : nearL i n with _ | ⟨a, _ | ⟨b, l⟩⟩
      · rw [hl] at hne; simp at hne
      · rw [hl] at hne; exact ⟨a, rfl, by simpa using hne⟩
      · rw [hl] at hne; simp at hne
    subst hau
    have hm := nearL_mem.1 (show a ∈ nearL i n by rw [hna]; simp)
    have hs := hR.sup _ (gt_mem hn)
    have hl2 := noLoop hw h0 hm.1
    rw [if_neg h0, if_neg h1, if_neg h2]
    refine ⟨a, _, rfl, hm.1, hna, hl2, hm.2, ?_, by rw [gt_arc] at h1; omega, by rw [gt_arc] at h2; omega⟩
    unfold tipM
    rw [gt_arc, w64_id (by omega) (by omega)]
    split <;> omega
  · cases h
theorem tip_rng {i : Inst} (hR : RightI i) {n a : Nat} {m : Int} (hn : n < i.supply.length) (h : TipAt i n a m) : -4398046511104 ≤ m ∧ m ≤ 4398046511104 := by
  have hs := hR.sup _ (gt_mem hn)
  rw [h.is]
  split <;> omega
theorem leaf_tipOf_eq {i : Inst} (hl : i.arcs.length ≤ lim) {n : Nat} (hn : n < i.supply.length) : leaf_tipOf i i n = some (tipB i n) := by
  have hat : adj_Graph_At i n = some (someL i n true true) := if_pos hl
  have hlo : adj_Graph_Loops i n = some (loopsOf i n) := if_pos hl
  unfold leaf_tipOf tipB
  rw [hat, Option.bind_some, hlo]
  rcases hu : someL i n true true with _ | ⟨u, _ | ⟨v, l⟩⟩
  · rfl
  · have hr := someL_rng (i := i) (n := n) (o := true) (e := true) (a := u) (by rw [hu]; simp)
    have g0 : gt [u] 0 = u := rfl
    rw [if_neg (by simp), Option.bind_some]
    dsimp only
    by_cases h0 : 0 < loopsOf i n
    · rw [if_pos h0, if_pos h0]; rfl
    · rw [if_neg h0, if_neg h0, if_pos (by simp), g0, if_pos hr, if_pos (rng_of hn)]
      unfold tipM
      by_cases h1 : (gt i.arcs u).dst = n
      · simp only [h1, if_true]; repeat' split
        all_goals rfl
      · simp only [h1, if_false]; repeat' split
        all_goals rfl
  · rw [if_pos (by simp only [List.length_cons]; omega)]; rfl
theorem leaf_Tip_eq {i : Inst} (h1 : i.supply.length ≤ lim) (h2 : i.arcs.length ≤ lim) {n : Nat} (hn : n < i.supply.length) : leaf_Tip i n = some ((tipB i n).1.a, (tipB i n).1.n, (tipB i n).2) := by
  unfold leaf_Tip
  rw [show adj_New i = some i from if_pos ⟨h1, h2⟩, Option.bind_some, leaf_tipOf_eq h2 hn, Option.bind_some]
/-- supplies, what flows along an arc taken from them -/
def tipSup (i : Inst) (a : Nat) (m : Int) : List Int := upd (upd i.supply (arcAt i.arcs a).src (w64 (gt i.supply (arcAt i.arcs a).src - m))) (arcAt i.arcs a).dst (w64 (gt (upd i.supply (arcAt i.arcs a).src (w64 (gt i.supply (arcAt i.arcs a).src - m))) (arcAt i.arcs a).dst + m))
theorem tipSup_len (i : Inst) (a : Nat) (m : Int) : (tipSup i a m).length = i.supply.length := by simp [tipSup, upd_len]
structure SupOk (i : Inst) (n a : Nat) (m : Int) : Prop where
  node : gt (tipSup i a m) (n : Int) = 0
  sum : (tipSup i a m).sum = 0
  far : ∀ k : Nat, k < i.supply.length → k ≠ n → gt (tipSup i a m) (k : Int) = gt i.supply (k : Int) - oneP (arcAt i.arcs a, m) k
def leafOf (i : Inst) : Step × Int :=
  if ¬ rightOf i = 0 then (stepNo, rightOf i) else match (List.range i.supply.length).find? (fun n => (tipB i n).2) with
    | some n => outStep 6 i (outOf (tipSup i (tipB i n).1.a.toNat (tipB i n).1.n) i n) (mkW ((tipB i n).1.n * (arcAt i.arcs (tipB i n).1.a.toNat).cost))
    | none => (stepAs i, 0)
theorem leafOf_wrong {i : Inst} (h : ¬ rightOf i = 0) : leafOf i = (stepNo, rightOf i) := by unfold leafOf; rw [if_pos h]
theorem leafOf_none {i : Inst} (h : rightOf i = 0) (hs : (List.range i.supply.length).find? (fun n => (tipB i n).2) = none) : leafOf i = (⟨i, ⟨0, ⟨[], []⟩⟩, ⟨0, 0⟩, false⟩, 0) := by
  unfold leafOf
  rw [if_neg (fun h' => h' h), hs]
  rfl
theorem leafOf_some {i : Inst} (h : rightOf i = 0) {n a : Nat} {m : Int} (hs : (List.range i.supply.length).find? (fun n => (tipB i n).2) = some n) (ht : tipB i n = (⟨(a : Nat), m⟩, true)) : leafOf i = outStep 6 i (outOf (tipSup i a m) i n) (mkW (m * (arcAt i.arcs a).cost)) := by
  unfold leafOf
  rw [if_neg (fun h' => h' h), hs]
  dsimp only
  rw [ht]
  dsimp only
  rw [Int.toNat_natCast]
theorem leaf_Leaf_eq (i : Inst) : leaf_Leaf i = some (leafOf i) := by
  have hrun : ∀ X : Option (Step × Int), X = some (leafOf i) → (X.bind fun r1 => (some ((Step.mk (Inst.mk r1.1.inst.supply r1.1.inst.arcs) (Rec.mk r1.1.rcd.pass (Inst.mk r1.1.rcd.was.supply r1.1.rcd.was.arcs)) r1.1.off r1.1.did), r1.2))) = some (leafOf i) := fun X h => by rw [h]; rfl
  unfold leaf_Leaf
  refine hrun _ ?_
  first | unfold leaf_run_2 | unfold leaf_run_1
  rw [inst_Right_eq, Option.bind_some]
  by_cases h0 : rightOf i = 0
  · have hR := rightOf_zero.1 h0
    have hnodes := hR.nodes
    have hmany := hR.many
    have l1 : i.supply.length ≤ lim := by simp only [lim]; omega
    have l2 : i.arcs.length ≤ lim := by simp only [lim]; omega
    rw [if_neg (fun h => h h0)]
    have hf : leaf_first_leaf_tip_1 (i.supply.length : Int) i i = some (match (List.range i.supply.length).find? (fun n => (tipB i n).2) with | some n => ((n : Int), (tipB i n).1, true) | none => (0, ⟨0, 0⟩, false)) := by
      unfold leaf_first_leaf_tip_1
      rw [lp_find (s0 := (0 : Int)) (fun j => (j : Int)) i.supply.length (fun j => if (tipB i j).2 = true then some (some ((j : Int), (tipB i j).1, true)) else none) (fin := some (0, ⟨0, 0⟩, false)) rfl (by omega), find_some (p := fun n => (tipB i n).2)]
      · cases (List.range i.supply.length).find? (fun n => (tipB i n).2) <;> rfl
      · intro k j hj
        unfold leaf_first_leaf_tip_1_b1 leaf_leaf_1_1
        rw [if_pos (rng_of hj).2, leaf_tipOf_eq l2 hj, Option.bind_some, Option.bind_some]
        dsimp only
        by_cases h : (tipB i j).2 = true
        · rw [if_pos h, if_pos h]
        · rw [if_neg h, if_neg h, w64_succ (by omega)]
      · intro k
        unfold leaf_first_leaf_tip_1_b1
        rw [if_neg (by omega)]
    unfold leaf_leaf
    rw [show adj_New i = some i from if_pos ⟨l1, l2⟩, Option.bind_some]
    cases hs : (List.range i.supply.length).find? (fun n => (tipB i n).2) with
    | none =>
      rw [hs] at hf
      dsimp only at hf
      rw [hf, Option.bind_some, leafOf_none h0 hs]
      dsimp only
      rw [if_neg (by simp), inst_Copy_eq l1 l2, Option.bind_some, Option.bind_some]
      rfl
    | some n =>
      have hn := List.mem_range.1 (List.mem_of_find?_eq_some hs)
      obtain ⟨a, m, htb, hT⟩ := tipAt_of hR hn (List.find?_some (p := fun n => (tipB i n).2) hs)
      have hA := hR.arcs _ (arcAt_mem hT.ha)
      have hm := tip_rng hR hn hT
      have hc0 := hA.c0
      have hc1 := hA.c1
      rw [hs] at hf
      dsimp only at hf
      rw [htb] at hf
      dsimp only at hf
      rw [hf, Option.bind_some, leafOf_some h0 hs htb]
      dsimp only
      rw [if_pos rfl, inst_Copy_eq l1 l2, Option.bind_some, if_pos (rng_of hT.ha), gt_arc, if_pos ⟨hA.s0, hA.s1⟩]
      simp only [lt_eq, upd_len]
      rw [if_pos ⟨hA.d0, hA.d1⟩, Option.bind_some, num_Times_eq (by omega) (by omega), Option.bind_some]
      have hw := leaf_without_eq (S := tipSup i a m) (i := i) (tipSup_len i a m) hnodes hmany hn 6 i (mkW (m * (arcAt i.arcs a).cost))
      have e : (⟨upd (upd i.supply (arcAt i.arcs a).src (w64 (gt i.supply (arcAt i.arcs a).src - m))) (arcAt i.arcs a).dst (w64 (gt (upd i.supply (arcAt i.arcs a).src (w64 (gt i.supply (arcAt i.arcs a).src - m))) (arcAt i.arcs a).dst + m)), i.arcs⟩ : Inst) = ⟨tipSup i a m, i.arcs⟩ := rfl
      rw [e, hw, Option.bind_some]
      unfold outStep
      by_cases h : rightOf (outOf (tipSup i a m) i n) = 0
      · rw [if_pos h, if_pos h]; rfl
      · rw [if_neg h, if_neg h]; rfl
  · rw [if_pos h0, leafOf_wrong h0]; rfl
theorem known_t : law17_known = some true := by kernel_rfl
structure TreeOk (i : Inst) : Prop where
  right : RightI i
  low : ∀ a ∈ i.arcs, 0 ≤ a.low ∧ a.low ≤ 1 ∧ (a.cap = 3 ∨ a.cap = 4611686018427387904)
  n0 : 2 ≤ i.supply.length
  many : i.arcs.length ≤ 19
theorem mv_ok {xs : List Int} {u v q B : Int} (hu : 0 ≤ u ∧ u < xs.length) (hv : 0 ≤ v ∧ v < xs.length) (hq : 0 ≤ q ∧ q ≤ 3) (hB : 0 ≤ B ∧ B ≤ 1000) (hx : ∀ x ∈ xs, -B ≤ x ∧ x ≤ B) (h0 : xs.sum = 0) :
    w64 (gt xs u + q) = gt xs u + q ∧ w64 (gt (upd xs u (gt xs u + q)) v - q) = gt (upd xs u (gt xs u + q)) v - q ∧
    (upd (upd xs u (gt xs u + q)) v (gt (upd xs u (gt xs u + q)) v - q)).sum = 0 ∧ (∀ x ∈ upd (upd xs u (gt xs u + q)) v (gt (upd xs u (gt xs u + q)) v - q), -(B + 3) ≤ x ∧ x ≤ B + 3) := by
  have s1 := hx _ (gt_in hu)
  have hX : ∀ x ∈ upd xs u (gt xs u + q), -B ≤ x ∧ x ≤ B + 3 := fun x h => by
    rcases mem_upd h with h | h
    · have := hx x h; omega
    · omega
  have hv' : 0 ≤ v ∧ v < (upd xs u (gt xs u + q)).length := by rw [upd_len]; exact hv
  have s2 := hX _ (gt_in hv')
  refine ⟨w64_id (by omega) (by omega), w64_id (by omega) (by omega), by rw [sum_upd hv', sum_upd hu]; omega, fun x h => ?_⟩
  rcases mem_upd h with h | h
  · have := hX x h; omega
  · omega
theorem sum_none {xs : List Int} (h : ∀ s ∈ xs, s = 0) : xs.sum = 0 := by
  induction xs with
  | nil => rfl
  | cons a l ih => rw [List.sum_cons, h a List.mem_cons_self, ih fun s hs => h s (List.mem_cons_of_mem _ hs)]; rfl
theorem tree_ok {c d : List Int} (hc : Byt c) (hd : Byt d) : ∃ i, law17_Tree c d = some i ∧ TreeOk i := by
  obtain ⟨r, er, hr⟩ := thin_ok hc
  have hn0 := hr.n0
  have hn1 := hr.n1
  have hmany := hr.many
  unfold law17_Tree
  rw [er, Option.bind_some]
  refine lp_inv (T := fun o => ∃ i, o = some i ∧ TreeOk i) r.arcs.length (by omega) (fun j (s : Int × List Int × List Arc) => s.1 = (j : Int) ∧ s.2.1.length = r.supply.length ∧ s.2.2.length = r.arcs.length ∧ s.2.1.sum = 0 ∧ (∀ x ∈ s.2.1, -(3 * (j : Int)) ≤ x ∧ x ≤ 3 * (j : Int)) ∧ ∀ a ∈ s.2.2, (0 ≤ a.src ∧ a.src < r.supply.length ∧ 0 ≤ a.dst ∧ a.dst < r.supply.length) ∧ 0 ≤ a.low ∧ a.low ≤ 1 ∧ (a.cap = 3 ∨ a.cap = 4611686018427387904) ∧ 0 ≤ a.cost ∧ a.cost ≤ 19) 0
    ⟨rfl, rfl, rfl, sum_none hr.sup, fun x hx => by rw [hr.sup x hx]; omega, fun a ha => by
      obtain ⟨g1, g2, g3, g4, g5⟩ := hr.arcs a ha
      exact ⟨g1, by omega, by omega, .inl g3, g4, g5⟩⟩ (by omega) fun k j s hj hI hk => ?_
  obtain ⟨s1, S, xs⟩ := s
  obtain ⟨h1, h2, h3, h4, h5, h6⟩ := hI
  dsimp only at h1 h2 h3 h4 h5 h6
  subst h1
  unfold law17_Tree_b1
  dsimp only
  by_cases hjl : j < r.arcs.length
  · have hjx : j < xs.length := by omega
    rw [if_pos (show (j : Int) < (xs.length : Int) by omega), w64_succ (by omega)]
    -- what moves
    have step : ∀ (ys : List Arc) (q : Int), ys.length = r.arcs.length → (∀ a ∈ ys, (0 ≤ a.src ∧ a.src < r.supply.length ∧ 0 ≤ a.dst ∧ a.dst < r.supply.length) ∧ 0 ≤ a.low ∧ a.low ≤ 1 ∧ (a.cap = 3 ∨ a.cap = 4611686018427387904) ∧ 0 ≤ a.cost ∧ a.cost ≤ 19) → 0 ≤ q ∧ q ≤ 3 →
        ∃ i, (if 0 ≤ (j : Int) ∧ (j : Int) < (ys.length : Int) then (if 0 ≤ ((gt ys (j : Int)).src) ∧ ((gt ys (j : Int)).src) < (S.length : Int) then (lt (upd S ((gt ys (j : Int)).src) (w64 ((gt S ((gt ys (j : Int)).src)) + q))) fun (xs33 : List Int) => (if 0 ≤ ((gt ys (j : Int)).dst) ∧ ((gt ys (j : Int)).dst) < (xs33.length : Int) then (lt (upd xs33 ((gt ys (j : Int)).dst) (w64 ((gt xs33 ((gt ys (j : Int)).dst)) - q))) fun (xs34 : List Int) => (k (((j + 1 : Nat) : Int), xs34, ys))) else none)) else none) else none) = some i ∧ TreeOk i := fun ys q hl ha hq => by
      have g := ha _ (gt_mem (show j < ys.length by omega))
      obtain ⟨e1, e2, e3, e4⟩ := mv_ok (xs := S) (u := (gt ys (j : Int)).src) (v := (gt ys (j : Int)).dst) (by omega) (by omega) hq (B := 3 * (j : Int)) (by omega) h5 h4
      rw [if_pos ⟨by omega, by omega⟩, if_pos (by omega)]
      simp only [lt_eq, upd_len]
      rw [if_pos (by omega), e1, e2]
      exact hk hjl _ ⟨rfl, by dsimp only; rw [upd_len, upd_len]; exact h2, hl, e3, fun x hx => by have := e4 x hx; omega, ha⟩
    by_cases c1 : (j : Int) < d.length
    · have hb := hd.at_ (j : Int)
      have t4 := tdiv_rng hb (show (0 : Int) < 4 by omega)
      have m2 := tmod_rng t4.1 (show (0 : Int) < 2 by omega)
      have m4 := tmod_rng hb.1 (show (0 : Int) < 4 by omega)
      rw [if_pos c1, if_pos ⟨by omega, c1⟩, if_pos ⟨by omega, by omega⟩, wrap8_id t4]
      generalize (gt d (j : Int)).tmod 4 = z at *
      generalize ((gt d (j : Int)).tdiv 4).tmod 2 = y at *
      have wz : w64 z = z := w64_id (by omega) (by omega)
      have wy : w64 y = y := w64_id (by omega) (by omega)
      have g := h6 (gt xs (j : Int)) (gt_mem hjx)
      rw [wz, wy]
      simp only [lt_eq]
      have gu : gt (upd xs (j : Int) (⟨(gt xs (j : Int)).src, (gt xs (j : Int)).dst, y, (gt xs (j : Int)).cap, (gt xs (j : Int)).cost⟩ : Arc)) (j : Int) = ⟨(gt xs (j : Int)).src, (gt xs (j : Int)).dst, y, (gt xs (j : Int)).cap, (gt xs (j : Int)).cost⟩ := gt_upd ⟨by omega, by omega⟩
      by_cases c2 : (gt d (j : Int)).tmod 16 = 15
      · rw [if_pos c2, if_pos ⟨by omega, by rw [upd_len]; omega⟩, upd_upd, gu]
        refine step _ z (by rw [upd_len]; exact h3) (fun a ha => ?_) (by omega)
        rcases mem_upd ha with ha | ha
        · exact h6 a ha
        · rw [ha]; exact ⟨g.1, by dsimp only; omega, by dsimp only; omega, .inr rfl, g.2.2.2.2⟩
      · rw [if_neg c2]
        refine step _ z (by rw [upd_len]; exact h3) (fun a ha => ?_) (by omega)
        rcases mem_upd ha with ha | ha
        · exact h6 a ha
        · rw [ha]; exact ⟨g.1, by dsimp only; omega, by dsimp only; omega, g.2.2.2.1, g.2.2.2.2⟩
    · rw [if_neg c1]
      exact step xs 0 h3 h6 (by omega)
  · rw [if_neg (by omega)]
    refine ⟨_, rfl, ⟨by dsimp only; omega, by dsimp only; omega, fun a ha => ?_, fun x hx => by have := h5 x hx; omega, h4⟩, fun a ha => by have := h6 a ha; exact ⟨this.2.1, this.2.2.1, this.2.2.2.1⟩, by dsimp only; omega, by dsimp only; omega⟩
    obtain ⟨⟨g1, g2, g3, g4⟩, g5, g6, g7, g8, g9⟩ := h6 a ha
    exact ⟨g1, by dsimp only; omega, g3, by dsimp only; omega, g5, by omega, by omega, by omega, by omega⟩
end Go.Proofs.YtbnjeanldechnaaGreatDoor
namespace Go.Proofs.YtbnjeanldechnaaGreatDoor
open Go.RowKit Go.Qe
structure StillOk (i : Inst) : Prop where
  right : RightI i
  low : ∀ a ∈ i.arcs, 0 ≤ a.low ∧ a.low ≤ 1 ∧ (a.cap = 3 ∨ a.cap = 4611686018427387904)
theorem sum_same {xs : List Int} (h : ∀ s ∈ xs, s = 0) : xs.sum = 0 := by
  induction xs with
  | nil => rfl
  | cons a l ih => rw [List.sum_cons, h a List.mem_cons_self, ih fun s hs => h s (List.mem_cons_of_mem _ hs)]; rfl
theorem still_ok {c d : List Int} (hc : Byt c) (hd : Byt d) : ∃ i, law17_Still c d = some i ∧ StillOk i := by
  obtain ⟨r, er, hr⟩ := thin_ok hc
  have hn0 := hr.n0
  have hn1 := hr.n1
  have hmany := hr.many
  unfold law17_Still
  rw [er, Option.bind_some]
  have fin : ∀ (S : List Int) (xs : List Arc), S.length = r.supply.length → xs.length = r.arcs.length → (∀ s ∈ S, -10 ≤ s ∧ s ≤ 10) → S.sum = 0 →
      (∀ a ∈ xs, (0 ≤ a.src ∧ a.src < r.supply.length ∧ 0 ≤ a.dst ∧ a.dst < r.supply.length) ∧ 0 ≤ a.low ∧ a.low ≤ 1 ∧ (a.cap = 3 ∨ a.cap = 4611686018427387904) ∧ 0 ≤ a.cost ∧ a.cost ≤ 19) → StillOk ⟨S, xs⟩ := fun S xs h1 h2 h3 h4 h5 =>
    ⟨⟨by dsimp only; omega, by dsimp only; omega, fun a ha => by
      obtain ⟨⟨g1, g2, g3, g4⟩, g5, g6, g7, g8, g9⟩ := h5 a ha
      exact ⟨g1, by dsimp only; omega, g3, by dsimp only; omega, g5, by omega, by omega, by omega, by omega⟩, fun s hs => by have := h3 s hs; omega, h4⟩, fun a ha => by have := h5 a ha; exact ⟨this.2.1, this.2.2.1, this.2.2.2.1⟩⟩
  refine lp_inv (T := fun o => ∃ i, o = some i ∧ StillOk i) r.arcs.length (by omega) (fun j (s : Int × List Arc) => s.1 = (j : Int) ∧ s.2.length = r.arcs.length ∧ ∀ a ∈ s.2, (0 ≤ a.src ∧ a.src < r.supply.length ∧ 0 ≤ a.dst ∧ a.dst < r.supply.length) ∧ 0 ≤ a.low ∧ a.low ≤ 1 ∧ (a.cap = 3 ∨ a.cap = 4611686018427387904) ∧ 0 ≤ a.cost ∧ a.cost ≤ 19) 0
    ⟨rfl, rfl, fun a ha => by
      obtain ⟨g1, g2, g3, g4, g5⟩ := hr.arcs a ha
      exact ⟨g1, by omega, by omega, .inl g3, g4, g5⟩⟩ (by omega) fun k j s hj hI hk => ?_
  obtain ⟨s1, xs⟩ := s
  obtain ⟨h1, h2, h3⟩ := hI
  dsimp only at h1 h2 h3
  subst h1
  unfold law17_Still_b1
  dsimp only
  by_cases hjl : j < r.arcs.length
  · rw [if_pos (show (j : Int) < (xs.length : Int) by omega), w64_succ (by omega)]
    by_cases c1 : (j : Int) < d.length
    · rw [if_pos c1, if_pos ⟨by omega, c1⟩]
      by_cases c2 : (gt d (j : Int)).tmod 5 = 0
      · rw [if_pos c2, if_pos ⟨by omega, by omega⟩]
        simp only [lt_eq, upd_len]
        rw [if_pos ⟨by omega, by omega⟩, upd_upd, gt_upd ⟨by omega, by omega⟩]
        refine hk hjl _ ⟨rfl, by dsimp only; rw [upd_len]; exact h2, fun a ha => ?_⟩
        rcases mem_upd ha with ha | ha
        · exact h3 a ha
        · have g := h3 (gt xs (j : Int)) (gt_mem (by omega))
          rw [ha]
          exact ⟨g.1, by dsimp only; omega, by dsimp only; omega, .inr rfl, g.2.2.2.2⟩
      · rw [if_neg c2]
        exact hk hjl _ ⟨rfl, h2, h3⟩
    · rw [if_neg c1]
      exact hk hjl _ ⟨rfl, h2, h3⟩
  · rw [if_neg (by omega)]
    have e0 : r.supply.sum = 0 := sum_same hr.sup
    have triv : StillOk ⟨r.supply, xs⟩ := fin _ _ rfl h2 (fun s hs => by rw [hr.sup s hs]; omega) e0 h3
    by_cases c1 : 0 < (d.length : Int)
    · rw [if_pos c1, if_pos ⟨by omega, c1⟩]
      have hb := hd.at_ 0
      have m3 := tmod_rng hb.1 (show (0 : Int) < 3 by omega)
      by_cases c2 : 0 < (gt d 0).tmod 3
      · rw [if_pos c2, if_pos ⟨by omega, by omega⟩]
        generalize (gt d 0).tmod 3 = z at *
        have wz : w64 z = z := w64_id (by omega) (by omega)
        have g0 : gt r.supply 0 = 0 := hr.sup _ (gt_in (xs := r.supply) ⟨by omega, by omega⟩)
        simp only [lt_eq, upd_len, wz, g0]
        have wl : w64 ((r.supply.length : Int) - 1) = (r.supply.length : Int) - 1 := w64_id (by omega) (by omega)
        have g1 : gt (upd r.supply 0 z) ((r.supply.length : Int) - 1) = 0 := by
          rw [gt_upd_ne (by omega) (by omega) (by omega)]
          exact hr.sup _ (gt_in (xs := r.supply) ⟨by omega, by omega⟩)
        simp only [Int.zero_add]
        rw [wz, wl, if_pos ⟨by omega, by omega⟩, g1, w64_id (x := 0 - z) (by omega) (by omega)]
        refine ⟨_, rfl, fin _ _ (by rw [upd_len, upd_len]) h2 (fun s hs => ?_) ?_ h3⟩
        · rcases mem_upd hs with hs | hs
          · rcases mem_upd hs with hs | hs
            · rw [hr.sup s hs]; omega
            · omega
          · omega
        · rw [sum_upd (by rw [upd_len]; omega), sum_upd (by omega), g1, g0, e0]; omega
      · rw [if_neg c2]
        exact ⟨_, rfl, triv⟩
    · rw [if_neg c1]
      exact ⟨_, rfl, triv⟩
theorem some_nil {i : Inst} (hw : Whole i) {n : Int} (hn : n < 0 ∨ (i.supply.length : Int) ≤ n) (o e : Bool) : someL i n o e = [] := by
  have : ∀ x, ¬ x ∈ someL i n o e := fun x hx => by
    obtain ⟨k, hk, hp, _⟩ := (someL_mem i n o e x).1 hx
    have h1 := wholeB_iff.1 (hw.at_ hk)
    rcases (pick_iff hw hk).1 hp with h | h <;> omega
  exact List.eq_nil_iff_forall_not_mem.2 this
theorem ref04_some_eq {i : Inst} (h : i.arcs.length ≤ lim) (n : Int) (o e : Bool) : ref04_some i n o e = some (someL i n o e) := by
  simp only [lim] at h
  have hlen : ∀ j, (someTo i n o e j).length ≤ j := fun j => by
    unfold someTo
    rw [List.length_map]
    exact Nat.le_trans (List.length_filter_le _ _) (by simp)
  refine lp_eq (fun j => ((j : Int), someTo i n o e j)) i.arcs.length rfl (by omega) (fun k j hj => ?_) (fun k => ?_)
  · have hl := hlen j
    have hs : someTo i n o e (j + 1) = someTo i n o e j ++ (if pickB i n o e j = true then [(j : Int)] else []) := by
      unfold someTo
      rw [List.range_succ, List.filter_append, List.map_append]
      by_cases hp : pickB i n o e j = true
      · rw [if_pos hp, List.filter_cons_of_pos hp]; rfl
      · rw [if_neg hp, List.filter_cons_of_neg hp]; rfl
    unfold ref04_some_b1
    dsimp only
    rw [if_pos (rng_of hj).2, ref04_fit_eq, Option.bind_some, hs, w64_succ (by omega), if_pos (rng_of hj), gt_arc]
    unfold pickB
    have hcap : (someTo i n o e j).length + [(j : Int)].length ≤ lim := by simp only [List.length_singleton, lim]; omega
    simp only [hcap, if_true, lt_eq]
    by_cases h1 : fitB i (j : Int) = true
    · have hj2 : ¬ i.arcs.length ≤ j := by omega
      cases o <;> cases e <;> by_cases h2 : (arcAt i.arcs j).src = n <;> by_cases h3 : (arcAt i.arcs j).dst = n <;> simp [h1, h2, h3, hj2]
    · simp [h1]
  · unfold ref04_some_b1
    dsimp only
    rw [if_neg (by omega)]
    rfl
theorem ref04_Out_eq {i : Inst} (h : i.arcs.length ≤ lim) (n : Int) : ref04_Out i n = some (someL i n true false) := by unfold ref04_Out; rw [ref04_some_eq h, Option.bind_some]
theorem ref04_In_eq {i : Inst} (h : i.arcs.length ≤ lim) (n : Int) : ref04_In i n = some (someL i n false true) := by unfold ref04_In; rw [ref04_some_eq h, Option.bind_some]
theorem ref17_Shut_eq {i : Inst} (hl : i.arcs.length ≤ lim) {n : Nat} (hn : n < i.supply.length) : ref17_Shut i n = some (shutB i n) := by
  have hat := ref04_At_eq hl n
  have hout := ref04_Out_eq hl n
  have hin := ref04_In_eq hl n
  have hlo := ref04_Loops_eq hl n
  unfold ref17_Shut shutB
  rw [hat, Option.bind_some, if_neg (by omega), if_neg (by omega), if_pos (rng_of hn)]
  by_cases h3 : gt i.supply (n : Int) = 0
  · rw [if_neg (fun h => h h3), decide_eq_true h3]
    by_cases h1 : ((someL i n true true).length : Int) = 0
    · rw [if_pos h1, decide_eq_false (fun h => h (by omega))]; rfl
    · rw [if_neg h1, decide_eq_true (show ¬ (someL i n true true).length = 0 by omega), hlo, Option.bind_some]
      by_cases h2 : 0 < loopsOf i n
      · rw [if_pos h2, decide_eq_false (fun h => h h2)]; rfl
      · rw [if_neg h2, decide_eq_true h2]
        have hlen : (someL i n true true).length ≤ i.arcs.length := by
          unfold someL someTo
          rw [List.length_map]
          have := List.length_filter_le (pickB i n true true) (List.range i.arcs.length)
          simpa using this
        simp only [lim] at hl
        rw [lp_find (s0 := (0 : Int)) (fun j => (j : Int)) (someL i n true true).length (fun j => if (gt i.arcs (gt (someL i n true true) (j : Int))).low = 0 then none else some (some false)) (fin := some (decide ((someL i n true false).length = 0) || decide ((someL i n false true).length = 0))) rfl (by omega)]
        · rw [findSome_range (someL i n true true) (fun a => if (gt i.arcs a).low = 0 then none else some (some false))]
          cases hs : (someL i n true true).findSome? (fun a => if (gt i.arcs a).low = 0 then none else some (some false)) with
          | none =>
            have : ((someL i n true true).all fun a => decide ((gt i.arcs a).low = 0)) = true := List.all_eq_true.2 fun a ha => by
              have := List.findSome?_eq_none_iff.1 hs a ha
              split at this
              · rename_i h; simpa using h
              · cases this
            rw [this]; rfl
          | some r =>
            obtain ⟨a, ha, h4⟩ := List.exists_of_findSome?_eq_some hs
            split at h4
            · cases h4
            · rename_i h5
              cases h4
              have : ((someL i n true true).all fun a => decide ((gt i.arcs a).low = 0)) = false := List.all_eq_false.2 ⟨a, ha, by simpa using h5⟩
              rw [this]; rfl
        · intro k j hj
          have hr := someL_rng (List.getElem_mem hj)
          unfold ref17_Shut_b1
          rw [if_pos (rng_of hj).2, if_pos (rng_of hj), gt_get hj, if_pos hr]
          by_cases h4 : (gt i.arcs ((someL i n true true)[j])).low = 0
          · rw [if_neg (fun h => h h4), if_pos h4, w64_succ (by omega)]
          · rw [if_pos h4, if_neg h4]
        · intro k
          unfold ref17_Shut_b1
          rw [if_neg (by omega), hout, Option.bind_some]
          by_cases h5 : ((someL i n true false).length : Int) = 0
          · rw [if_pos h5, decide_eq_true (show (someL i n true false).length = 0 by omega)]; rfl
          · rw [if_neg h5, hin, Option.bind_some, decide_eq_false (show ¬ (someL i n true false).length = 0 by omega)]
            simp
  · rw [if_pos h3, decide_eq_false h3]
    simp
theorem ref17_Tip_eq {i : Inst} (hl : i.arcs.length ≤ lim) {n : Nat} (hn : n < i.supply.length) : ref17_Tip i n = some ((tipB i n).1.a, (tipB i n).1.n, (tipB i n).2) := by
  have hat := ref04_At_eq hl n
  have hlo := ref04_Loops_eq hl n
  unfold ref17_Tip tipB
  rw [hat, Option.bind_some, if_neg (by omega), if_neg (by omega), hlo]
  rcases hu : someL i n true true with _ | ⟨u, _ | ⟨v, l⟩⟩
  · rfl
  · have hr := someL_rng (i := i) (n := n) (o := true) (e := true) (a := u) (by rw [hu]; simp)
    have g0 : gt [u] 0 = u := rfl
    rw [if_neg (by simp), Option.bind_some]
    dsimp only
    by_cases h0 : 0 < loopsOf i n
    · rw [if_pos h0, if_pos h0]; rfl
    · rw [if_neg h0, if_neg h0, if_pos (by simp), g0, if_pos hr, if_pos (rng_of hn)]
      unfold tipM
      by_cases h1 : (gt i.arcs u).dst = n
      · simp only [h1, if_true]; repeat' split
        all_goals rfl
      · simp only [h1, if_false]; repeat' split
        all_goals rfl
  · rw [if_pos (by simp only [List.length_cons]; omega)]; rfl
theorem ref17_one_eq {m n : Nat} (hm : m ≤ 1000) (hn : n < m) : ref17_one m n = some ((List.replicate m false).set n true) := by
  unfold ref17_one
  rw [if_pos ⟨by omega, by simp only [lim]; omega⟩, if_pos ⟨by omega, by simp; omega⟩, Int.toNat_natCast, upd_nat]
  rfl
theorem ref15_Done_eq (pass : Int) (was next : Inst) (off : Wide) : ref15_Done pass was next off true = some (outStep pass was next off) := by
  unfold ref15_Done outStep
  rw [if_pos rfl, ref03_Right_eq, Option.bind_some]
  by_cases h : rightOf next = 0
  · rw [if_neg (fun h' => h' h), if_pos h]
  · rw [if_pos h, if_neg h]; rfl
theorem ref17_Dead_eq (i : Inst) : ref17_Dead i = some (deadOf i) := by
  unfold ref17_Dead deadOf
  rw [ref03_Right_eq, Option.bind_some]
  by_cases h0 : rightOf i = 0
  · have hR := rightOf_zero.1 h0
    have hnodes := hR.nodes
    have hmany := hR.many
    have l2 : i.arcs.length ≤ lim := by simp only [lim]; omega
    rw [if_neg (fun h => h h0), if_neg (fun h => h h0)]
    rw [lp_find (s0 := (0 : Int)) (fun j => (j : Int)) i.supply.length (fun j => if shutB i j = true then some (some (outStep 7 i (outOf i.supply i j) ⟨0, 0⟩)) else none) (fin := some (stepAs i, 0)) rfl (by omega), find_some]
    · cases (List.range i.supply.length).find? (shutB i) <;> rfl
    · intro k j hj
      unfold ref17_Dead_b1
      rw [if_pos (rng_of hj).2, ref17_Shut_eq l2 hj, Option.bind_some]
      by_cases h : shutB i j = true
      · rw [if_pos h, if_pos h, ref17_one_eq (by omega) hj, Option.bind_some, ref03_Without_eq (by omega) (by omega) (by simp [lim]; omega) (by simp), Option.bind_some, ref15_Done_eq, Option.bind_some]
        rfl
      · rw [if_neg h, if_neg h, w64_succ (by omega)]
    · intro k
      unfold ref17_Dead_b1
      rw [if_neg (by omega)]
      rfl
  · rw [if_pos h0, if_pos h0]; rfl
theorem ref15_Fixed_eq {i : Inst} (hR : RightI i) {n a : Nat} {m : Int} (hn : n < i.supply.length) (h : TipAt i n a m) : ref15_Fixed i a m ⟨0, 0⟩ = some (⟨tipSup i a m, i.arcs⟩, mkW (m * (arcAt i.arcs a).cost)) := by
  have hA := hR.arcs _ (arcAt_mem h.ha)
  have hm := tip_rng hR hn h
  have hc0 := hA.c0
  have hc1 := hA.c1
  have hnodes := hR.nodes
  have hmany := hR.many
  unfold ref15_Fixed
  rw [if_pos (rng_of h.ha), ref03_Copy_eq (by simp only [lim]; omega) (by simp only [lim]; omega), Option.bind_some, gt_arc, if_pos ⟨hA.s0, hA.s1⟩]
  simp only [lt_eq, upd_len]
  rw [if_pos ⟨hA.d0, hA.d1⟩, ref01_Times_eq (by omega) (by omega), Option.bind_some, show (⟨0, 0⟩ : Wide) = mkW 0 from mkW_zero.symm, ref01_Plus_eq, Option.bind_some, Int.zero_add]
  rfl
theorem ref17_Leaf_eq (i : Inst) : ref17_Leaf i = some (leafOf i) := by
  unfold ref17_Leaf
  rw [ref03_Right_eq, Option.bind_some]
  by_cases h0 : rightOf i = 0
  · have hR := rightOf_zero.1 h0
    have hnodes := hR.nodes
    have hmany := hR.many
    have l2 : i.arcs.length ≤ lim := by simp only [lim]; omega
    rw [if_neg (fun h => h h0)]
    rw [lp_find (s0 := (0 : Int)) (fun j => (j : Int)) i.supply.length (fun j => if (tipB i j).2 = true then some (some (outStep 6 i (outOf (tipSup i (tipB i j).1.a.toNat (tipB i j).1.n) i j) (mkW ((tipB i j).1.n * (arcAt i.arcs (tipB i j).1.a.toNat).cost)))) else none) (fin := some (stepAs i, 0)) rfl (by omega), find_some (p := fun n => (tipB i n).2)]
    · unfold leafOf
      rw [if_neg (fun h => h h0)]
      cases (List.range i.supply.length).find? (fun n => (tipB i n).2) <;> rfl
    · intro k j hj
      unfold ref17_Leaf_b1
      rw [if_pos (rng_of hj).2, ref17_Tip_eq l2 hj, Option.bind_some]
      dsimp only
      by_cases h : (tipB i j).2 = true
      · obtain ⟨a, m, htb, hT⟩ := tipAt_of hR hj h
        have h1 : (tipB i j).1 = ⟨(a : Nat), m⟩ := by rw [htb]
        rw [if_pos h, if_pos h, h1]
        dsimp only
        rw [ref15_Fixed_eq hR hj hT, Option.bind_some, ref17_one_eq (by omega) hj, Option.bind_some]
        dsimp only
        have hl := tipSup_len i a m
        rw [ref03_Without_eq (by dsimp only; omega) (by dsimp only; omega) (by simp [lim]; omega) (by simp), Option.bind_some, ref15_Done_eq, Option.bind_some, Int.toNat_natCast]
        rfl
      · rw [if_neg h, if_neg h, w64_succ (by omega)]
    · intro k
      unfold ref17_Leaf_b1
      rw [if_neg (by omega)]
      rfl
  · rw [if_pos h0, leafOf_wrong h0]; rfl
structure TellOk (r : Step × Int) : Prop where
  no : -9223372036854775808 ≤ r.2 ∧ r.2 ≤ 9223372036854775807
  a1 : r.1.inst.supply.length ≤ 2000
  a2 : r.1.inst.arcs.length ≤ 2000
  b1 : r.1.rcd.was.supply.length ≤ 2000
  b2 : r.1.rcd.was.arcs.length ≤ 2000
theorem right_rng (i : Inst) : -9223372036854775808 ≤ rightOf i ∧ rightOf i ≤ 9223372036854775807 := by
  unfold rightOf
  split
  · omega
  · split
    · rename_i e he
      obtain ⟨a, ha, h3⟩ := List.exists_of_findSome?_eq_some he
      split at h3
      · cases h3
      · cases h3
        unfold wrongOf
        repeat' split
        all_goals omega
    · repeat' split
      all_goals omega
theorem out_tell {pass : Int} {was o : Inst} {off : Wide} (h : RightI was) : TellOk (outStep pass was o off) := by
  have h1 := h.nodes
  have h2 := h.many
  unfold outStep
  split
  · rename_i h0
    have hO := rightOf_zero.1 h0
    have h3 := hO.nodes
    have h4 := hO.many
    exact ⟨by simp, by dsimp only; omega, by dsimp only; omega, by dsimp only; omega, by dsimp only; omega⟩
  · exact ⟨by simp, by simp [stepNo], by simp [stepNo], by simp [stepNo], by simp [stepNo]⟩
theorem dead_tell (i : Inst) : TellOk (deadOf i) := by
  unfold deadOf
  split
  · have := right_rng i
    exact ⟨this, by simp [stepNo], by simp [stepNo], by simp [stepNo], by simp [stepNo]⟩
  · rename_i h0
    have hR := rightOf_zero.1 (Classical.byContradiction h0)
    have h1 := hR.nodes
    have h2 := hR.many
    split
    · exact out_tell hR
    · exact ⟨by simp, by simp only [stepAs]; omega, by simp only [stepAs]; omega, by simp [stepAs], by simp [stepAs]⟩
theorem leaf_tell (i : Inst) : TellOk (leafOf i) := by
  unfold leafOf
  split
  · have := right_rng i
    exact ⟨this, by simp [stepNo], by simp [stepNo], by simp [stepNo], by simp [stepNo]⟩
  · rename_i h0
    have hR := rightOf_zero.1 (Classical.byContradiction h0)
    have h1 := hR.nodes
    have h2 := hR.many
    split
    · exact out_tell hR
    · exact ⟨by simp, by simp only [stepAs]; omega, by simp only [stepAs]; omega, by simp [stepAs], by simp [stepAs]⟩
theorem TellOk.same {r : Step × Int} (h : TellOk r) : ref15_Same r.1 r.1 = some true := by
  have a1 := h.a1
  have a2 := h.a2
  have b1 := h.b1
  have b2 := h.b2
  unfold ref15_Same
  rw [if_pos (by simp), if_pos rfl, if_pos rfl, ref03_Same_refl rfl (by simp only [lim]; omega) (by simp only [lim]; omega), Option.bind_some, if_pos rfl, ref03_Same_refl rfl (by simp only [lim]; omega) (by simp only [lim]; omega), Option.bind_some]
theorem far_both {i : Inst} (hR : RightI i) {n : Int} (hn : n < 0 ∨ (i.supply.length : Int) ≤ n) : leaf_Tip i n = some (0, 0, false) ∧ ref17_Tip i n = some (0, 0, false) ∧ leaf_Shut i n = some false ∧ ref17_Shut i n = some false := by
  have hnodes := hR.nodes
  have hmany := hR.many
  have l1 : i.supply.length ≤ lim := by simp only [lim]; omega
  have l2 : i.arcs.length ≤ lim := by simp only [lim]; omega
  have hat : adj_Graph_At i n = some [] := by rw [← some_nil hR.whole hn true true]; exact if_pos l2
  have hnew : adj_New i = some i := if_pos ⟨l1, l2⟩
  have hr := ref04_At_eq l2 n
  refine ⟨?_, ?_, ?_, ?_⟩
  · unfold leaf_Tip leaf_tipOf
    rw [hnew, Option.bind_some, hat, Option.bind_some, if_pos (by simp), Option.bind_some]
  · unfold ref17_Tip
    rw [hr, Option.bind_some]
    rcases hn with hn | hn
    · rw [if_pos hn]
    · rw [if_neg (by omega), if_pos hn]
  · unfold leaf_Shut leaf_shut
    rw [hnew, Option.bind_some, hat, Option.bind_some, if_pos (by simp), Option.bind_some]
  · unfold ref17_Shut
    rw [hr, Option.bind_some]
    rcases hn with hn | hn
    · rw [if_pos hn]
    · rw [if_neg (by omega), if_pos hn]
theorem does_true (i : Inst) (n : Int) : law17_does i n = some true := by
  have tL := leaf_tell i
  have tD := dead_tell i
  have sL := tL.same
  have sD := tD.same
  unfold law17_does
  rw [leaf_Leaf_eq, Option.bind_some, ref17_Leaf_eq, Option.bind_some, leaf_Dead_eq, Option.bind_some, ref17_Dead_eq, Option.bind_some, ref03_Right_eq, Option.bind_some, w64_id tL.no.1 tL.no.2, w64_id tD.no.1 tD.no.2]
  simp only [lt_eq]
  by_cases h0 : rightOf i = 0
  · have hR := rightOf_zero.1 h0
    have hnodes := hR.nodes
    have hmany := hR.many
    have l1 : i.supply.length ≤ lim := by simp only [lim]; omega
    have l2 : i.arcs.length ≤ lim := by simp only [lim]; omega
    rw [if_pos h0]
    by_cases hn : n < 0 ∨ (i.supply.length : Int) ≤ n
    · obtain ⟨e1, e2, e3, e4⟩ := far_both hR hn
      rw [e1, Option.bind_some, e2, Option.bind_some, e3, Option.bind_some, e4, Option.bind_some]
      simp [sL, sD]
    · obtain ⟨m, rfl⟩ := Int.eq_ofNat_of_zero_le (show 0 ≤ n by omega)
      have hm : m < i.supply.length := by omega
      rw [leaf_Tip_eq l1 l2 hm, Option.bind_some, ref17_Tip_eq l2 hm, Option.bind_some, leaf_Shut_eq l1 l2 hm, Option.bind_some, ref17_Shut_eq l2 hm, Option.bind_some]
      simp [sL, sD]
  · rw [if_neg h0]
    simp [sL, sD]
theorem doeslaw_true {i : Inst} {n k m : Int} {c d : List Int} (hc : Byt c) (hd : Byt d) (hdl : d.length ≤ 9223372036854775807) : law17_LeafDoes i n c d k m = some true := by
  obtain ⟨t, et, ht⟩ := tree_ok hc hd
  obtain ⟨s, es, _⟩ := still_ok hc hd
  obtain ⟨r, er, _⟩ := inst03_ok hc hd hdl
  have h0 := ht.n0
  have h1 := ht.many
  unfold law17_LeafDoes law03_Size
  rw [Option.bind_some, known_t]
  split
  · rfl
  · rw [Option.bind_some, if_pos rfl, et, Option.bind_some, if_pos (by omega), if_pos (by simp only [List.length_singleton, lim]; omega)]
    simp only [lt_eq]
    rw [does_true, Option.bind_some, if_pos rfl, Option.bind_some, does_true, Option.bind_some, if_pos rfl, es, Option.bind_some, does_true, Option.bind_some, if_pos rfl, does_true, Option.bind_some, if_pos rfl, er, Option.bind_some, does_true, Option.bind_some]
end Go.Proofs.YtbnjeanldechnaaGreatDoor
