/- Adj: further contracts as the printed walks want them. -/
import Derived.Test.YtcmcbiojkanlnaaA19
import Derived.Test.YtcmcbiojkanlnaaAdjG
namespace Go.Proofs.Ytcmcbiojkanlnaa
open Go.RowKit Go.Qe
def bytB (c : List Int) : Bool := c.all fun x => decide (0 ≤ x ∧ x ≤ 255)
theorem bytB_Byt {c : List Int} : bytB c = true ↔ Byt c := by
  constructor
  · intro h m
    by_cases hm : m < c.length
    · have := List.all_eq_true.1 h _ (el_mem hm)
      simpa using this
    · rw [el_out (by omega)]; omega
  · intro h
    refine List.all_eq_true.2 fun x hx => ?_
    obtain ⟨k, hk, rfl⟩ := List.getElem_of_mem hx
    have := h k
    rw [el_eq hk] at this
    simpa using this
def ref03_Ints (xs ys : List Int) : Option Bool := some (decide (xs = ys))
theorem ref03_Ints_w {w : World} {va vb : Value} {xs ys : List Int} {r : Bool} (h : ref03_Ints xs ys = some r) (p : SlF (fI .i64) (PH.of w) va xs) (q : SlF (fI .i64) (PH.of w) vb ys) : Calls Try.prog 12 #[va, vb] w fun e w' => e = .returned (.bool r) ∧ Below w.heap.size w w' := by
  cases h; exact ints_c p.ints q.ints
def ref04_Out (i : Inst) (n : Int) : Option (List Int) := if i.arcs.length ≤ lim then some (someL i n true false) else none
abbrev ref04_Out_S (r : List Int) : Value → Heap → Prop := ownS (fI .i64) 3 r
theorem ref04_Out_w {w : World} {v : Value} {i : Inst} {n : Int} {r : List Int} (h : ref04_Out i n = some r) (p : InsZ (PH.of w) v i) : Calls Try.prog 13 #[v, .int .i64 n] w fun e w' => ∃ v L, e = .returned v ∧ ref04_Out_S r v L ∧ Ret w w' L := by
  obtain ⟨hl, h⟩ := ck_some h
  cases h
  simp only [lim] at hl
  exact (rout_c p.inst (by omega)).mono fun e w' hh => ownS.of (kints_cl _ _) hh
def ref04_At (i : Inst) (n : Int) : Option (List Int) := if i.arcs.length ≤ lim then some (someL i n true true) else none
abbrev ref04_At_S (r : List Int) : Value → Heap → Prop := ownS (fI .i64) 3 r
theorem ref04_At_w {w : World} {v : Value} {i : Inst} {n : Int} {r : List Int} (h : ref04_At i n = some r) (p : InsZ (PH.of w) v i) : Calls Try.prog 15 #[v, .int .i64 n] w fun e w' => ∃ v L, e = .returned v ∧ ref04_At_S r v L ∧ Ret w w' L := by
  obtain ⟨hl, h⟩ := ck_some h
  cases h
  simp only [lim] at hl
  exact (rat_c p.inst (by omega)).mono fun e w' hh => ownS.of (kints_cl _ _) hh
def law04_known : Option Bool := some true
theorem law04_known_w {w : World} {r : Bool} (h : law04_known = some r) : Calls Try.prog 11 #[] w fun e w' => e = .returned (.bool r) ∧ Below w.heap.size w w' := by
  cases h; exact known_c
def law03_Inst (c d : List Int) : Option Inst := if bytB c = true ∧ bytB d = true then some (instOf c d) else none
abbrev law03_Inst_S (r : Inst) : Value → Heap → Prop := fun v L => ∃ (A1 : Option Addr) (n1 c1 : Nat) (A2 : Option Addr) (n2 c2 : Nat), v = .agg #[.slice A1 n1 c1, .slice A2 n2 c2] ∧ OwF A1 n1 r.supply ∧ OwF A2 n2 r.arcs ∧ L = [Ow (fI .i64) 2 A1 n1 c1 r.supply, Ow fA 31 A2 n2 c2 r.arcs]
theorem law03_Inst_w {w : World} {vc vd : Value} {c d : List Int} {r : Inst} (h : law03_Inst c d = some r) (p : SlF (fI .u8) (PH.of w) vc c) (q : SlF (fI .u8) (PH.of w) vd d) : Calls Try.prog 7 #[vc, vd] w fun e w' => ∃ v L, e = .returned v ∧ law03_Inst_S r v L ∧ Ret w w' L := by
  obtain ⟨hl, h⟩ := ck_some h
  cases h
  refine (inst_c p.ints q.ints (bytB_Byt.1 hl.1) (bytB_Byt.1 hl.2)).mono fun e w' ⟨x, he, _, hr⟩ => ?_
  obtain ⟨gs, B, bc⟩ := x
  dsimp only at he hr
  have hnew := hr.new _ (List.mem_cons_of_mem _ (List.mem_singleton.2 rfl))
  have hown : w'.ownsRow 0 31 5 (.slice B (instOf c d).arcs.length bc) (instOf c d).arcs.length (arcsCells (instOf c d).arcs) := hnew.1
  refine ⟨_, _, he, ⟨_, _, _, _, _, _, rfl, ⟨rfl, fun _ => ⟨gs, rfl⟩⟩, ⟨rfl, fun h0 => ?_⟩, rfl⟩, ⟨hr.below, ?_, ?_⟩⟩
  · rcases hown.2 with ⟨_, h1⟩ | ⟨g, cap, cur, h1, _⟩
    · omega
    · cases h1; exact ⟨g, rfl⟩
  · have hap := hr.apart
    simp only [List.pairwise_cons, List.mem_singleton, forall_eq] at hap ⊢
    refine ⟨fun b h1 h2 => hap.1 b ?_ h2, hap.2⟩
    simp only [Piece.foot, Value.ownBlock, Option.some.injEq] at h1
    exact h1.symm
  · have hb := hr.new _ (List.mem_cons_self)
    intro p hp
    rcases List.mem_cons.1 hp with rfl | hp
    · refine ⟨?_, fun b h1 => hb.2 b ?_⟩
      · have hb1 : w'.heap[gs]? = some (.cells (ints (instOf c d).supply).toArray 2 (0, 0)) := hb.1
        refine ⟨by rw [← kints_cl, kints_length]; show _ = _ * 1; omega, .inr ⟨gs, _, _, rfl, Nat.zero_le _, hb1, Nat.le_refl _, ?_, ?_, ?_⟩⟩
        · have := instOf_sup c d
          have := nOf_le (bytB_Byt.1 hl.2)
          simp only [maxLen]; omega
        · simp [kints_length]; show _ = _ * 1; omega
        · simp only [← kints_cl]
          show List.take (_ * 1) _ = _
          rw [Nat.mul_one, List.take_of_length_le (by simp [kints_length])]
      · simp only [Piece.foot, Value.ownBlock, Option.some.injEq] at h1
        exact h1.symm
    · exact hr.new p (List.mem_cons_of_mem _ hp)
end Go.Proofs.Ytcmcbiojkanlnaa
