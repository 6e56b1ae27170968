/- Statements that draw their order: operations that make memory stand among those that only read; one walk in the order of the text serves every order. -/
import Derived.Test.YthelgjfdkdaijaaDoorEng1
import Derived.StillTail
import Derived.OrdersIn
import Derived.TacticsIn
namespace Go.Qe
open Go.RowKit

/-- the fence that lets everything in; r: within a round of the loop r -/
abbrev fen (r : Option Nat) : Fence := { Fence.wide with round := r }
theorem fen_room (r : Option Nat) (k : Nat) : (fen r).room k := fun d hd => by cases hd
theorem callsIn_fen {P : Program} {f : FuncId} {args : Array Value} {w : World} {R : Ending → World → Prop} (r : Option Nat) (n : Nat) (h : Calls P f args w R) : CallsIn (fen r) n P f args w R := callsIn_wide.2 h
theorem defer_run {P : Program} {ρ : Operand → Value} {o : Oper} {c : Call} (h : o.op = .defer c) {w w' : World} {x : Next} (hr : (execOp ρ o).run P w = .ok x w') : ∃ d, x = .defer d := by
  simp only [execOp, h, Sem.run_bind] at hr
  generalize (resolve ρ c o.type).run P w = y at hr
  cases y with
  | ok d w2 => simp only [Result.andThen_ok, Sem.run_pure, Result.ok.injEq] at hr; exact ⟨d, hr.1.symm⟩
  | halt x w2 => simp [Result.andThen] at hr
theorem semAt_of {P : Program} {ρ : Operand → Value} {o : Oper} {w w' : World} {x : Next} (r : Option Nat) (hr : (execOp ρ o).run P w = .ok x w') (hx : ∀ d, x ≠ .defer d) : (o.semAt r ρ).run P w = .ok x w' := by
  rw [Oper.semAt_eq r ρ o fun c hc => by obtain ⟨d, hd⟩ := defer_run hc hr; exact hx d hd]
  exact hr
section
variable {P : Program} {r : Option Nat} {o : Oper} {a : Act} {w w' : World} {K : Act → World → Prop} {Q : Exit → Act → World → Prop}
theorem wpIn_value {v : Value} (hr : (execOp a.eval o).run P w = .ok (.value v) w') (h : K (a.put o.dst v) w') : o.wpIn (fen r) 0 P a w K Q := by
  refine ⟨fun _ _ => trivial, ?_⟩
  rw [semAt_of _ hr (fun d e => by cases e), Oper.uponIn_value]
  exact h
theorem wpIn_skipped (hr : (execOp a.eval o).run P w = .ok .skip w') (h : K (a.put o.dst undef) w') : o.wpIn (fen r) 0 P a w K Q := by
  refine ⟨fun _ _ => trivial, ?_⟩
  rw [semAt_of _ hr (fun d e => by cases e), Oper.uponIn_skip]
  exact h
theorem wpIn_enter {f : FuncId} {args : Array Value} (hr : (execOp a.eval o).run P w = .ok (.enter f args) w') (h : Calls P f args w' fun e w'' => ∃ v, e = .returned v ∧ K (a.put o.dst v) w'') : o.wpIn (fen r) 0 P a w K Q := by
  refine ⟨fun _ _ => trivial, ?_⟩
  rw [semAt_of _ hr (fun d e => by cases e), Oper.uponIn_enter]
  refine ⟨fun h => (by cases h), callsIn_fen _ _ (h.mono fun e w'' hh => ?_)⟩
  obtain ⟨v, rfl, hk⟩ := hh
  exact hk
end

/-- what a call that only makes memory leaves: the old as it was, and some new pieces -/
structure Ret (w w' : World) (L : Heap) : Prop where
  below : Below w.heap.size w w'
  apart : L.Pairwise Piece.apart
  new : ∀ p ∈ L, p.holds w' ∧ ∀ b, p.foot b → w.heap.size ≤ b
theorem Ret.nil {w w' : World} (h : Below w.heap.size w w') : Ret w w' [] := ⟨h, .nil, fun _ h => by cases h⟩
theorem KH.ret {w0 w w' : World} {H L : Heap} (h : KH w0 H w) (hr : Ret w w' L) : KH w0 (L ++ H) w' := h.add hr.below hr.apart hr.new
theorem KH.perm {w0 w : World} {H H' : Heap} (h : KH w0 H w) (hp : H.Perm H') : KH w0 H' w :=
  ⟨h.glob, (hp.pairwise_iff fun h => h.symm).1 h.apart, fun p hm => h.holds p (hp.mem_iff.2 hm)⟩
theorem KH.last {w0 w : World} {X H : Heap} (h : KH w0 (X ++ H) w) : KH w0 H w :=
  ⟨h.glob, (List.pairwise_append.1 h.apart).2.1, fun p hm => h.holds p (List.mem_append.2 (.inr hm))⟩

abbrev Spec := Value → Heap → Prop
def makesUpon (P : Program) (w : World) (R : Spec) : Result Next → Prop
  | .ok (.value v) w' => ∃ L, R v L ∧ Ret w w' L
  | .ok (.enter f args) w' => w' = w ∧ Calls P f args w fun e w'' => ∃ v L, e = .returned v ∧ R v L ∧ Ret w w'' L
  | _ => False
def makes (P : Program) (o : Oper) (a : Act) (w : World) (R : Spec) : Prop := makesUpon P w R ((execOp a.eval o).run P w)
theorem makes.some {P : Program} {o : Oper} {a : Act} {w : World} {R : Spec} (h : makes P o a w R) : ∃ v L, R v L := by
  unfold makes at h
  generalize (execOp a.eval o).run P w = r at h
  cases r with
  | halt x w' => exact h.elim
  | ok n w' =>
    cases n <;> first | exact h.elim | skip
    · obtain ⟨L, h, _⟩ := h; exact ⟨_, L, h⟩
    · obtain ⟨_, h⟩ := h
      obtain ⟨e, w2, fr, ⟨v, L, _, hR, _⟩, _⟩ := h []
      exact ⟨v, L, hR⟩

/-- what was made so far, each part under its operation's number -/
abbrev Tags := List (Nat × Heap)
def flat : Tags → Heap
  | [] => []
  | (_, L) :: r => L ++ flat r
def natIn (n : Nat) : List Nat → Bool
  | [] => false
  | d :: r => match Nat.beq d n with
    | true => true
    | false => natIn n r
/-- what the operations of some numbers made -/
def sel (D : List Nat) : Tags → Heap
  | [] => []
  | (i, L) :: r => match natIn i D with
    | true => L ++ sel D r
    | false => sel D r
/-- of the operations that make memory, or call: which other ones' memory they look at; what they leave, by what their operands hold -/
abbrev Specs := List (Nat × List Nat × (List Value → Spec))
def specAt : Specs → Nat → Option (List Nat × (List Value → Spec))
  | [], _ => none
  | (j, x) :: r, i => match Nat.beq j i with
    | true => some x
    | false => specAt r i
theorem specAt_mem : ∀ {Rs : Specs} {i : Nat} {x : List Nat × (List Value → Spec)}, specAt Rs i = some x → (i, x) ∈ Rs
  | (j, y) :: r, i, x, h => by
    simp only [specAt] at h
    split at h
    · rename_i hb
      have := Nat.eq_of_beq_eq_true hb
      subst this
      cases h
      exact List.mem_cons_self
    · exact List.mem_cons_of_mem _ (specAt_mem h)
theorem sel_no {D : List Nat} {i : Nat} {L : Heap} {X : Tags} (h : natIn i D = false) : sel D ((i, L) :: X) = sel D X := by simp [sel, h]
theorem natIn_mem : ∀ {D : List Nat} {n : Nat}, natIn n D = true → n ∈ D
  | d :: r, n, h => by
    simp only [natIn] at h
    split at h
    · rename_i hb
      have := Nat.eq_of_beq_eq_true hb
      subst this
      exact List.mem_cons_self
    · exact List.mem_cons_of_mem _ (natIn_mem h)
theorem sel_sub (D : List Nat) : ∀ X : Tags, (sel D X).Sublist (flat X)
  | [] => List.Sublist.refl _
  | (i, L) :: r => by
    simp only [sel, flat]
    split
    · exact List.Sublist.append (List.Sublist.refl L) (sel_sub D r)
    · exact (sel_sub D r).trans (List.sublist_append_right _ _)
theorem flat_perm {X Y : Tags} (h : X.Perm Y) : (flat X).Perm (flat Y) := by
  induction h with
  | nil => exact List.Perm.refl _
  | cons x _ ih => exact List.Perm.append_left _ ih
  | swap x y l =>
    simp only [flat]
    rw [← List.append_assoc, ← List.append_assoc]
    exact List.Perm.append_right _ List.perm_append_comm
  | trans _ _ ih1 ih2 => exact ih1.trans ih2
theorem sel_perm {D : List Nat} {X Y : Tags} (h : X.Perm Y) : (sel D X).Perm (sel D Y) := by
  induction h with
  | nil => exact List.Perm.refl _
  | cons x _ ih =>
    obtain ⟨i, L⟩ := x
    simp only [sel]
    split
    · exact List.Perm.append_left _ ih
    · exact ih
  | swap x y l =>
    obtain ⟨i, L⟩ := x
    obtain ⟨j, M⟩ := y
    simp only [sel]
    split <;> split <;> first | exact List.Perm.refl _ | skip
    rw [← List.append_assoc, ← List.append_assoc]
    exact List.Perm.append_right _ List.perm_append_comm
  | trans _ _ ih1 ih2 => exact ih1.trans ih2
theorem KH.sublist {w0 w : World} {H H' : Heap} (h : KH w0 H w) (hs : H'.Sublist H) : KH w0 H' w := ⟨h.glob, h.apart.sublist hs, fun p hp => h.holds p (hs.subset hp)⟩
section
variable {P : Program} {ops : Array Oper} {md : Region.Mode} {w0 : World} {H : Heap} {Rs : Specs}
/-- what an operation's operands hold -/
def opVals (o : Oper) (a : Act) : List Value := o.op.operands.toList.map a.eval
theorem opVals_put {o : Oper} {a : Act} {dst : Option Tmp} {v : Value} (h : ∀ d, dst = some d → d ∉ o.looksAt ops) : opVals o (a.put dst v) = opVals o a := by
  unfold opVals
  refine List.map_congr_left fun x hx => Act.eval_put fun d hd hxd => h d hd ?_
  subst hxd
  exact List.mem_append_left _ (List.mem_filterMap.2 ⟨.tmp d, by simpa using hx, rfl⟩)
/-- there is a world with all of that -/
def Real (w0 : World) (H : Heap) (X : Tags) : Prop := ∃ w, KH w0 (flat X ++ H) w
def lStep (P : Program) (ops : Array Oper) (w0 : World) (H : Heap) (Rs : Specs) (i : Nat) (o : Oper) (K : Act → Tags → Prop) (a : Act) (X : Tags) : Prop :=
  if Region.wanted o (yielded ops a.tmps) then
    match specAt Rs i with
    | some (D, R) => (∀ w, KH w0 (sel D X ++ H) w → makes P o a w (R (opVals o a))) ∧ ∀ v L, R (opVals o a) v L → Real w0 H ((i, L) :: X) → K (a.put o.dst v) ((i, L) :: X)
    | none => ∃ v, (∀ w, KH w0 H w → (execOp a.eval o).run P w = .ok (.value v) w) ∧ K (a.put o.dst v) X
  else K (a.put o.dst undef) X
def wpL (P : Program) (ops : Array Oper) (w0 : World) (H : Heap) (Rs : Specs) (Qf : Act → Tags → Prop) : List Oper → Nat → Act → Tags → Prop
  | [], _, a, X => Qf a X
  | o :: r, i, a, X => lStep P ops w0 H Rs i o (wpL P ops w0 H Rs Qf r (i + 1)) a X
theorem Real.base {X : Tags} (h : Real w0 H X) : ∃ w, KH w0 H w := let ⟨w, hw⟩ := h; ⟨w, hw.last⟩
theorem Real.perm {X Y : Tags} (h : Real w0 H X) (hp : X.Perm Y) : Real w0 H Y := let ⟨w, hw⟩ := h; ⟨w, hw.perm (List.Perm.append_right _ (flat_perm hp))⟩
theorem Real.drop {X : Tags} {i : Nat} {L : Heap} (h : Real w0 H ((i, L) :: X)) : Real w0 H X := by
  obtain ⟨w, hw⟩ := h
  refine ⟨w, hw.sublist ?_⟩
  simp only [flat, List.append_assoc]
  exact List.sublist_append_right _ _
theorem lStep_mono {i : Nat} {o : Oper} {K K' : Act → Tags → Prop} {a : Act} {X : Tags} (hX : Real w0 H X) (h : ∀ a Y, Real w0 H Y → K a Y → K' a Y) (hh : lStep P ops w0 H Rs i o K a X) : lStep P ops w0 H Rs i o K' a X := by
  unfold lStep at hh ⊢
  split
  · rename_i hw
    rw [if_pos hw] at hh
    cases hR : specAt Rs i with
    | some x => rw [hR] at hh; exact ⟨hh.1, fun v L hr hre => h _ _ hre (hh.2 v L hr hre)⟩
    | none => rw [hR] at hh; obtain ⟨v, h1, h2⟩ := hh; exact ⟨v, h1, h _ _ hX h2⟩
  · rename_i hw
    rw [if_neg hw] at hh
    exact h _ _ hX hh
theorem lStep_perm {i : Nat} {o : Oper} {K K' : Act → Tags → Prop} {a : Act} {X X' : Tags} (hp : X.Perm X') (h : ∀ a Y Y', Y.Perm Y' → K a Y → K' a Y') (hh : lStep P ops w0 H Rs i o K a X) : lStep P ops w0 H Rs i o K' a X' := by
  unfold lStep at hh ⊢
  split
  · rename_i hw
    rw [if_pos hw] at hh
    cases hR : specAt Rs i with
    | some x =>
      rw [hR] at hh
      refine ⟨fun w hw => hh.1 w (hw.perm (List.Perm.append_right _ (sel_perm hp.symm))), fun v L hr hre => h _ _ _ (List.Perm.cons _ hp) (hh.2 v L hr (hre.perm (List.Perm.cons _ hp.symm)))⟩
    | none => rw [hR] at hh; obtain ⟨v, h1, h2⟩ := hh; exact ⟨v, h1, h _ _ _ hp h2⟩
  · rename_i hw
    rw [if_neg hw] at hh
    exact h _ _ _ hp hh
/-- some outcome -/
theorem lStep_some {i : Nat} {o : Oper} {K : Act → Tags → Prop} {a : Act} {X : Tags} (hX : Real w0 H X) (hh : lStep P ops w0 H Rs i o K a X) : ∃ v Y, (Y = X ∨ ∃ L, Y = (i, L) :: X) ∧ Real w0 H Y ∧ K (a.put o.dst v) Y := by
  unfold lStep at hh
  split at hh
  · cases hR : specAt Rs i with
    | some x =>
      obtain ⟨D, R⟩ := x
      rw [hR] at hh
      obtain ⟨w, hw⟩ := hX
      have hm := hh.1 w (hw.sublist (List.Sublist.append (sel_sub D X) (List.Sublist.refl H)))
      unfold makes at hm
      have key : ∀ v L w', R (opVals o a) v L → Ret w w' L → ∃ v Y, (Y = X ∨ ∃ L, Y = (i, L) :: X) ∧ Real w0 H Y ∧ K (a.put o.dst v) Y := fun v L w' h1 h2 => by
        have hre : Real w0 H ((i, L) :: X) := ⟨w', by simp only [flat, List.append_assoc]; exact hw.ret h2⟩
        exact ⟨v, _, .inr ⟨L, rfl⟩, hre, hh.2 v L h1 hre⟩
      generalize (execOp a.eval o).run P w = r at hm
      cases r with
      | halt x w' => exact hm.elim
      | ok n w' =>
        cases n <;> first | exact hm.elim | skip
        · obtain ⟨L, h1, h2⟩ := hm; exact key _ L _ h1 h2
        · obtain ⟨_, hc⟩ := hm
          obtain ⟨e, w2, fr, ⟨v, L, _, h1, h2⟩, _⟩ := hc []
          exact key v L _ h1 h2
    | none => rw [hR] at hh; obtain ⟨v, h1, h2⟩ := hh; exact ⟨v, X, .inl rfl, hX, h2⟩
  · exact ⟨_, X, .inl rfl, hX, hh⟩
theorem Oper.apart_symm {oi oj : Oper} {a : Act} (hap : oi.apart ops oj = true) (hsi : ∀ cs b, oi.op ≠ .select cs b) (u : Value) :
    execOp (a.put oj.dst u).eval oi = execOp a.eval oi ∧ Region.wanted oi (yielded ops (a.put oj.dst u).tmps) = Region.wanted oi (yielded ops a.tmps) ∧ opVals oi (a.put oj.dst u) = opVals oi a := by
  obtain ⟨h1, h2, h3⟩ := Oper.apart_spec hap
  exact ⟨execOp_put oi hsi a oj.dst u h3, wanted_put oi a oj.dst u h3, opVals_put h3⟩
theorem lStep_comm {i j : Nat} {oi oj : Oper} (hap : oi.apart ops oj = true) (hsi : ∀ cs b, oi.op ≠ .select cs b) (hsj : ∀ cs b, oj.op ≠ .select cs b) (hij : ∀ D R, specAt Rs j = some (D, R) → natIn i D = false) (hji : ∀ D R, specAt Rs i = some (D, R) → natIn j D = false)
    {K K' : Act → Tags → Prop} (hK : ∀ a X X', X.Perm X' → K a X → K' a X') {a : Act} {X : Tags} (hX : Real w0 H X)
    (h : lStep P ops w0 H Rs i oi (lStep P ops w0 H Rs j oj K) a X) : lStep P ops w0 H Rs j oj (lStep P ops w0 H Rs i oi K') a X := by
  obtain ⟨g1, g2, g3⟩ := Oper.apart_spec hap
  have swap : ∀ (x y : Nat × Heap), ((x :: y :: X : Tags)).Perm (y :: x :: X) := fun x y => List.Perm.swap y x X
  -- what j does behind i
  have jb : ∀ (v : Value) (Y : Tags), (Y = X ∨ ∃ L, Y = (i, L) :: X) → lStep P ops w0 H Rs j oj K (a.put oi.dst v) Y →
      if Region.wanted oj (yielded ops a.tmps) then
        match specAt Rs j with
        | some (D, R) => (∀ w, KH w0 (sel D X ++ H) w → makes P oj a w (R (opVals oj a))) ∧ ∀ u L, R (opVals oj a) u L → Real w0 H ((j, L) :: Y) → K ((a.put oi.dst v).put oj.dst u) ((j, L) :: Y)
        | none => ∃ u, (∀ w, KH w0 H w → (execOp a.eval oj).run P w = .ok (.value u) w) ∧ K ((a.put oi.dst v).put oj.dst u) Y
      else K ((a.put oi.dst v).put oj.dst undef) Y := by
    intro v Y hY hh
    unfold lStep makes at hh
    unfold makes
    rw [wanted_put oj a oi.dst v g1, execOp_put oj hsj a oi.dst v g1, opVals_put g1] at hh
    split
    · rename_i hw
      rw [if_pos hw] at hh
      cases hR : specAt Rs j with
      | some x =>
        obtain ⟨D, R⟩ := x
        rw [hR] at hh
        refine ⟨fun w hw => hh.1 w ?_, hh.2⟩
        rcases hY with rfl | ⟨L, rfl⟩
        · exact hw
        · rw [sel_no (hij D R hR)]; exact hw
      | none => rw [hR] at hh; exact hh
    · rename_i hw
      rw [if_neg hw] at hh
      exact hh
  -- i behind j, once it is known what j did ahead of it
  have ib : ∀ (u : Value) (Z : Tags), (Z = X ∨ ∃ L, Z = (j, L) :: X) → lStep P ops w0 H Rs i oi (fun a' Y => ∀ Y', (Z = X ∧ Y' = Y ∨ ∃ M, Z = (j, M) :: X ∧ Y' = (j, M) :: Y) → Real w0 H Y' → K (a'.put oj.dst u) Y') a X →
      Real w0 H Z → lStep P ops w0 H Rs i oi K' (a.put oj.dst u) Z := by
    intro u Z hZ hh hre
    obtain ⟨e1, e2, e3⟩ := Oper.apart_symm (ops := ops) (a := a) hap hsi u
    have e : ∀ v, (a.put oj.dst u).put oi.dst v = (a.put oi.dst v).put oj.dst u := fun v => (Act.put_comm a v u g2).symm
    unfold lStep makes at hh ⊢
    rw [e1, e2, e3]
    simp only [e]
    split
    · rename_i hw
      rw [if_pos hw] at hh
      cases hR : specAt Rs i with
      | some x =>
        obtain ⟨D, R⟩ := x
        rw [hR] at hh
        refine ⟨fun w hw => hh.1 w ?_, fun v L hr hre2 => ?_⟩
        · rcases hZ with rfl | ⟨M, rfl⟩
          · exact hw
          · rw [sel_no (hji D R hR)] at hw; exact hw
        · rcases hZ with rfl | ⟨M, rfl⟩
          · exact hK _ _ _ (List.Perm.refl _) (hh.2 v L hr hre2 _ (.inl ⟨rfl, rfl⟩) hre2)
          · have hre3 := hre2.perm (swap _ _)
            exact hK _ _ _ (swap _ _) (hh.2 v L hr hre3.drop _ (.inr ⟨M, rfl, rfl⟩) hre3)
      | none =>
        rw [hR] at hh
        obtain ⟨v, h1, h2⟩ := hh
        refine ⟨v, h1, ?_⟩
        rcases hZ with rfl | ⟨M, rfl⟩
        · exact hK _ _ _ (List.Perm.refl _) (h2 _ (.inl ⟨rfl, rfl⟩) hre)
        · exact hK _ _ _ (List.Perm.refl _) (h2 _ (.inr ⟨M, rfl, rfl⟩) hre)
    · rename_i hw
      rw [if_neg hw] at hh
      rcases hZ with rfl | ⟨M, rfl⟩
      · exact hK _ _ _ (List.Perm.refl _) (hh _ (.inl ⟨rfl, rfl⟩) hre)
      · exact hK _ _ _ (List.Perm.refl _) (hh _ (.inr ⟨M, rfl, rfl⟩) hre)
  -- behind i, told about a state that i may leave
  have imono : ∀ {K2 : Act → Tags → Prop}, (∀ v Y, (Y = X ∨ ∃ L, Y = (i, L) :: X) → Real w0 H Y → lStep P ops w0 H Rs j oj K (a.put oi.dst v) Y → K2 (a.put oi.dst v) Y) → lStep P ops w0 H Rs i oi K2 a X := by
    intro K2 hk
    unfold lStep at h
    unfold lStep
    split
    · rename_i hw
      rw [if_pos hw] at h
      cases hR : specAt Rs i with
      | some x => rw [hR] at h; exact ⟨h.1, fun v L hr hre => hk v _ (.inr ⟨L, rfl⟩) hre (h.2 v L hr hre)⟩
      | none => rw [hR] at h; obtain ⟨v, h1, h2⟩ := h; exact ⟨v, h1, hk v _ (.inl rfl) hX h2⟩
    · rename_i hw
      rw [if_neg hw] at h
      exact hk _ _ (.inl rfl) hX h
  obtain ⟨v0, Y0, hY0, hre0, h0⟩ := lStep_some hX h
  have hj0 := jb v0 Y0 hY0 h0
  by_cases hwj : Region.wanted oj (yielded ops a.tmps) = true
  · rw [if_pos hwj] at hj0
    cases hRj : specAt Rs j with
    | some x =>
      obtain ⟨D, R⟩ := x
      rw [hRj] at hj0
      unfold lStep
      rw [if_pos hwj, hRj]
      refine ⟨hj0.1, fun u L hr hre => ib u _ (.inr ⟨L, rfl⟩) (imono fun v Y hY hreY hs Y' hY' hreY' => ?_) hre⟩
      have hb := jb v Y hY hs
      rw [if_pos hwj, hRj] at hb
      rcases hY' with ⟨he, _⟩ | ⟨M, he, rfl⟩
      · exact absurd (congrArg List.length he) (by simp)
      · cases he
        exact hb.2 u L hr hreY'
    | none =>
      rw [hRj] at hj0
      obtain ⟨u, hu, _⟩ := hj0
      unfold lStep
      rw [if_pos hwj, hRj]
      refine ⟨u, hu, ib u _ (.inl rfl) (imono fun v Y hY hreY hs Y' hY' hreY' => ?_) hX⟩
      have hb := jb v Y hY hs
      rw [if_pos hwj, hRj] at hb
      obtain ⟨u', hu', hk⟩ := hb
      obtain ⟨w, hw⟩ := hX.base
      have := (hu w hw).symm.trans (hu' w hw)
      simp only [Result.ok.injEq, Next.value.injEq, and_true] at this
      subst this
      rcases hY' with ⟨_, rfl⟩ | ⟨M, he, _⟩
      · exact hk
      · exact absurd (congrArg List.length he) (by simp)
  · unfold lStep
    rw [if_neg hwj]
    refine ib undef _ (.inl rfl) (imono fun v Y hY hreY hs Y' hY' hreY' => ?_) hX
    have hb := jb v Y hY hs
    rw [if_neg hwj] at hb
    rcases hY' with ⟨_, rfl⟩ | ⟨M, he, _⟩
    · exact hb
    · exact absurd (congrArg List.length he) (by simp)

/-- whatever order is picked, up to the tail -/
def anyX (P : Program) (md : Region.Mode) (ops : Array Oper) (w0 : World) (H : Heap) (Rs : Specs) (n : Nat) (Lf : Array Bool → Act → Tags → Prop) : Nat → Array Bool → Act → Tags → Prop
  | 0, listed, a, X => Lf listed a X
  | f + 1, listed, a, X => Region.ready md ops listed ≠ [] ∧ ∀ i ∈ Region.ready md ops listed, i < n ∧ ∀ o, ops[i]? = some o → lStep P ops w0 H Rs i o (anyX P md ops w0 H Rs n Lf f (listed.setIfInBounds i true)) a X
theorem anyX_perm {n : Nat} {Lf : Array Bool → Act → Tags → Prop} (hL : ∀ l a X X', X.Perm X' → Lf l a X → Lf l a X') : ∀ (f : Nat) (listed : Array Bool) (a : Act) (X X' : Tags), X.Perm X' →
    anyX P md ops w0 H Rs n Lf f listed a X → anyX P md ops w0 H Rs n Lf f listed a X'
  | 0, _, _, _, _, hp, h => hL _ _ _ _ hp h
  | f + 1, listed, a, X, X', hp, h => ⟨h.1, fun i hi => ⟨(h.2 i hi).1, fun o ho => lStep_perm hp (fun a' Y Y' hp' => anyX_perm hL f _ a' _ _ hp') ((h.2 i hi).2 o ho)⟩⟩
/-- it waits for it, or for one that does -/
def waitsT (md : Region.Mode) (ops : Array Oper) : Nat → Nat → Nat → Bool
  | 0, _, _ => false
  | k + 1, j, d => match ops[j]? with
    | some oj => oj.after.any fun e => Region.binds md e && (Nat.beq e.on d || waitsT md ops k e.on d)
    | none => false
theorem waitsT_spec {listed : Array Bool} (hcl : ∀ j oj, ops[j]? = some oj → listed.getD j false = true → ∀ e ∈ oj.after, Region.binds md e = true → listed.getD e.on false = true) {d : Nat} :
    ∀ (k j : Nat) (oj : Oper), ops[j]? = some oj → (∀ e ∈ oj.after, Region.binds md e = true → listed.getD e.on false = true) → waitsT md ops k j d = true → listed.getD d false = true
  | 0, _, _, _, _, h => by cases h
  | k + 1, j, oj, ho, hall, h => by
    unfold waitsT at h
    rw [ho] at h
    obtain ⟨e, he, hb⟩ := Array.any_eq_true'.1 h
    simp only [Bool.and_eq_true, Bool.or_eq_true] at hb
    rcases hb.2 with h1 | h1
    · rw [← Nat.eq_of_beq_eq_true h1]; exact hall e he hb.1
    · have h2 := hall e he hb.1
      cases ho' : ops[e.on]? with
      | none => cases k <;> unfold waitsT at h1 <;> simp [ho'] at h1
      | some o' => exact waitsT_spec hcl k e.on o' ho' (hcl _ _ ho' h2) h1
/-- each operation waits for those whose memory it looks at -/
def depsB (md : Region.Mode) (ops : Array Oper) (Rs : Specs) : Bool := Rs.all fun r => r.2.1.all fun d => waitsT md ops 3 r.1 d
theorem depsB_no {listed : Array Bool} (hd : depsB md ops Rs = true) {j i : Nat} {oj : Oper} (hj : ops[j]? = some oj) (hcl : ∀ j oj, ops[j]? = some oj → listed.getD j false = true → ∀ e ∈ oj.after, Region.binds md e = true → listed.getD e.on false = true)
    (hall : ∀ e ∈ oj.after, Region.binds md e = true → listed.getD e.on false = true) (hun : listed.getD i true = false) {D : List Nat} {R : List Value → Spec} (hR : specAt Rs j = some (D, R)) : natIn i D = false := by
  cases hb : natIn i D with
  | false => rfl
  | true =>
    have h1 := List.all_eq_true.1 hd _ (specAt_mem hR)
    have h2 := List.all_eq_true.1 h1 i (natIn_mem hb)
    have h3 := waitsT_spec hcl 3 j oj hj hall h2
    rw [getD_both hun] at h3
    cases h3
theorem anyX_first {n i : Nat} {oi : Oper} {Lf : Array Bool → Act → Tags → Prop} (hLp : ∀ l a X X', X.Perm X' → Lf l a X → Lf l a X') (hd : depsB md ops Rs = true) (hi : ops[i]? = some oi) (hsel : ∀ (j : Nat) (o : Oper) cs b, ops[j]? = some o → o.op ≠ .select cs b)
    (hwait : ∀ listed, HeadInv md ops n listed → ∀ i, i < n → listed.getD i true = false → ∀ t, n ≤ t → t ∉ Region.ready md ops listed) (hin : i < n)
    (hdone : ∀ listed a X, Lf listed a X → ∀ j ∈ Region.ready md ops listed, n ≤ j) :
    ∀ (f : Nat) (listed : Array Bool) (a : Act) (X : Tags), Real w0 H X → HeadInv md ops n listed →
      (∀ j oj, ops[j]? = some oj → j ≠ i → listed.getD j true = false → (∀ e ∈ oj.after, Region.binds md e = true → e.on ≠ i) → oi.apart ops oj = true) →
      i ∈ Region.ready md ops listed → lStep P ops w0 H Rs i oi (anyX P md ops w0 H Rs n Lf f (listed.setIfInBounds i true)) a X → anyX P md ops w0 H Rs n Lf (f + 1) listed a X := by
  intro f
  induction f with
  | zero =>
    intro listed a X hX inv _ hr HH
    have hun := (mem_ready.1 hr).1
    refine ⟨fun h => (by rw [h] at hr; cases hr), fun j hj => ?_⟩
    have hjn : j < n := by
      rcases Nat.lt_or_ge j n with h | h
      · exact h
      · exact absurd hj (hwait _ inv i hin hun j h)
    refine ⟨hjn, fun o ho => ?_⟩
    by_cases hji : j = i
    · subst hji
      have : o = oi := Option.some.inj (ho.symm.trans hi)
      subst this
      exact HH
    · obtain ⟨v, Y, _, _, hk⟩ := lStep_some hX HH
      have := hdone _ _ _ hk j (ready_mono hj hji)
      omega
  | succ f ih =>
    intro listed a X hX inv hfree hr HH
    have hun := (mem_ready.1 hr).1
    refine ⟨fun h => (by rw [h] at hr; cases hr), fun j hj => ?_⟩
    have hjn : j < n := by
      rcases Nat.lt_or_ge j n with h | h
      · exact h
      · exact absurd hj (hwait _ inv i hin hun j h)
    refine ⟨hjn, fun o ho => ?_⟩
    by_cases hji : j = i
    · subst hji
      have : o = oi := Option.some.inj (ho.symm.trans hi)
      subst this
      exact HH
    · obtain ⟨hjun, oj, hoj, hall⟩ := mem_ready.1 hj
      have : o = oj := Option.some.inj (ho.symm.trans hoj)
      subst this
      have hnot : ∀ e ∈ o.after, Region.binds md e = true → e.on ≠ i := fun e he hb heq => by
        have h1 := hall e he hb
        rw [heq, getD_both hun] at h1
        cases h1
      obtain ⟨_, oi', hoi', hall'⟩ := mem_ready.1 hr
      have : oi' = oi := Option.some.inj (hoi'.symm.trans hi)
      subst this
      have hnot' : ∀ e ∈ oi'.after, Region.binds md e = true → e.on ≠ j := fun e he hb heq => by
        have h1 := hall' e he hb
        rw [heq, getD_both hjun] at h1
        cases h1
      have hap := hfree j o hoj hji hjun hnot
      have H2 : lStep P ops w0 H Rs i oi' (lStep P ops w0 H Rs j o (anyX P md ops w0 H Rs n Lf f ((listed.setIfInBounds i true).setIfInBounds j true))) a X :=
        lStep_mono hX (fun a' Y _ hk => (hk.2 j (ready_mono hj hji)).2 o hoj) HH
      have H3 := lStep_comm (K' := anyX P md ops w0 H Rs n Lf f ((listed.setIfInBounds j true).setIfInBounds i true)) hap (fun cs b => hsel i oi' cs b hi) (fun cs b => hsel j o cs b hoj)
        (fun D R hR => depsB_no hd hoj inv.closed hall hun hR) (fun D R hR => depsB_no hd hi inv.closed hall' hjun hR)
        (fun a' Y Y' hp hk => by
          rw [Array.setIfInBounds_comm _ _ hji]
          exact anyX_perm hLp f _ a' Y Y' hp hk) hX H2
      have hfree' : ∀ k ok, ops[k]? = some ok → k ≠ i → (listed.setIfInBounds j true).getD k true = false →
          (∀ e ∈ ok.after, Region.binds md e = true → e.on ≠ i) → oi'.apart ops ok = true := fun k ok hk hki hun hno => by
        refine hfree k ok hk hki ?_ hno
        by_cases hjk : j = k
        · subst hjk; exact hjun
        · rw [getD_set_ne true hjk] at hun; exact hun
      exact lStep_mono hX (fun a' Y hY h3 => ih (listed.setIfInBounds j true) a' _ hY (inv.set hj hjn) hfree' (ready_mono hr (Ne.symm hji)) h3) H3
theorem anyX_lex {n g : Nat} {Lq : Act → Tags → Prop} (hLp : ∀ a X X', X.Perm X' → Lq a X → Lq a X') (hd : depsB md ops Rs = true) (hsel : Region.noSelect ops = true)
    (hwait : ∀ listed, HeadInv md ops n listed → ∀ i, i < n → listed.getD i true = false → ∀ t, n ≤ t → t ∉ Region.ready md ops listed) :
    ∀ (l : List Oper) (k : Nat) (listed : Array Bool) (a : Act) (X : Tags), Real w0 H X → (∀ j, j < l.length → l[j]? = ops[k + j]?) → k + l.length = n → HeadInv md ops n listed →
    Region.lexHead md ops g l.length k listed = true → wpL P ops w0 H Rs Lq l k a X →
    anyX P md ops w0 H Rs n (fun listed' a' X' => Region.seqB md ops g n listed' = true ∧ Lq a' X') l.length listed a X
  | [], k, listed, a, X, _, _, hk, _, hB, h => by
    have : k = n := by simpa using hk
    subst this
    exact ⟨by simpa [Region.lexHead] using hB, h⟩
  | o :: l, k, listed, a, X, hX, hl, hk, inv, hB, h => by
    have h0 : ops[k]? = some o := by simpa using (hl 0 (by simp)).symm
    simp only [List.length_cons, Region.lexHead, Bool.and_eq_true] at hB
    obtain ⟨⟨hr, hf⟩, hB'⟩ := hB
    have hkn : k < n := by simp only [List.length_cons] at hk; omega
    have hr' : k ∈ Region.ready md ops listed := by simpa using hr
    refine anyX_first (fun l a X X' hp hh => ⟨hh.1, hLp a X X' hp hh.2⟩) hd h0 (Region.noSelect_spec hsel) hwait hkn (fun listed' a' X' hL => seqB_ready hL.1) l.length listed a X hX inv (Region.free_spec h0 hf) hr' ?_
    refine lStep_mono hX (fun a' Y hY hk' => ?_) h
    exact anyX_lex hLp hd hsel hwait l (k + 1) _ a' _ hY (fun j hj => by have := hl (j + 1) (by simp; omega); simpa [Nat.add_assoc, Nat.add_comm 1 j] using this) (by simp only [List.length_cons] at hk; omega) (inv.set hr' hkn) hB' hk'
theorem wpOp_of_lStep {r : Option Nat} {w : World} {X : Tags} {i : Nat} {o : Oper} {a : Act} {K : Act → Tags → Prop} {K' : Act → World → Prop} {Q' : Exit → Act → World → Prop} (ho : ops[i]? = some o) (hw : KH w0 (flat X ++ H) w)
    (h : ∀ a Y w', KH w0 (flat Y ++ H) w' → K a Y → K' a w') (hh : lStep P ops w0 H Rs i o K a X) : wpOpIn (fen r) 0 P ops Q' i K' a w := by
  unfold wpOpIn
  unfold lStep at hh
  simp only [ho]
  split
  · rename_i hwt
    rw [if_pos hwt] at hh
    cases hR : specAt Rs i with
    | some x =>
      obtain ⟨D, R⟩ := x
      rw [hR] at hh
      have hm := hh.1 w (hw.sublist (List.Sublist.append (sel_sub D X) (List.Sublist.refl H)))
      have key : ∀ L w', Ret w w' L → KH w0 (flat ((i, L) :: X) ++ H) w' := fun L w' hr => by simp only [flat, List.append_assoc]; exact hw.ret hr
      unfold makes at hm
      generalize hr : (execOp a.eval o).run P w = x at hm
      cases x with
      | halt x w' => exact hm.elim
      | ok n w' =>
        cases n <;> first | exact hm.elim | skip
        · obtain ⟨L, hR', hret⟩ := hm
          exact wpIn_value hr (h _ _ _ (key L _ hret) (hh.2 _ L hR' ⟨_, key L _ hret⟩))
        · obtain ⟨rfl, hc⟩ := hm
          refine wpIn_enter hr (hc.mono fun e w'' hr => ?_)
          obtain ⟨v, L, he, hr, hret⟩ := hr
          exact ⟨v, he, h _ _ _ (key L _ hret) (hh.2 _ L hr ⟨_, key L _ hret⟩)⟩
    | none =>
      rw [hR] at hh
      obtain ⟨v, h1, h2⟩ := hh
      exact wpIn_value (h1 w hw.last) (h _ _ _ hw h2)
  · rename_i hwt
    rw [if_neg hwt] at hh
    exact ⟨fun _ _ => trivial, h _ _ _ hw hh⟩
theorem wpAny_of_anyX {r : Option Nat} {n g : Nat} {Lf : Array Bool → Act → Tags → Prop} {Q' : Exit → Act → World → Prop}
    (hL : ∀ listed a X w, KH w0 (flat X ++ H) w → Lf listed a X → wpAnyIn (fen r) 0 P md ops Q' g listed a w) :
    ∀ (f : Nat) (listed : Array Bool) (a : Act) (X : Tags) (w : World), KH w0 (flat X ++ H) w → anyX P md ops w0 H Rs n Lf f listed a X → wpAnyIn (fen r) 0 P md ops Q' (f + g) listed a w
  | 0, listed, a, X, w, hw, h => by rw [Nat.zero_add]; exact hL _ _ _ _ hw h
  | f + 1, listed, a, X, w, hw, h => by
    rw [show f + 1 + g = (f + g) + 1 by omega]
    refine ⟨fun h0 => absurd h0 h.1, fun i hi => ?_⟩
    obtain ⟨_, oi, hoi, _⟩ := mem_ready.1 hi
    exact wpOp_of_lStep hoi hw (fun a' Y w' hw' hk => wpAny_of_anyX hL f _ a' _ w' hw' hk) ((h.2 i hi).2 oi hoi)
theorem wpAnyIn_of_seq {F : Fence} {n : Nat} {Q' : Exit → Act → World → Prop} : ∀ (l : List Oper) (k : Nat) (listed : Array Bool) (a : Act) (w : World), (∀ j, l[j]? = ops[k + j]?) →
    Region.seqB md ops l.length k listed = true → wpListIn F n P ops Q' l a w → wpAnyIn F n P md ops Q' l.length listed a w
  | [], _, _, _, _, _, hB, h => ⟨by simpa [Region.seqB] using hB, h⟩
  | o :: l, k, listed, a, w, hl, hB, h => by
    have h0 : ops[k]? = some o := by simpa using (hl 0).symm
    simp only [List.length_cons, Region.seqB, Bool.and_eq_true, decide_eq_true_eq] at hB
    refine ⟨fun h1 => (by rw [hB.1] at h1; cases h1), fun i hi => ?_⟩
    rw [hB.1] at hi
    have hik : i = k := by simpa using hi
    subst hik
    have hw : wpOpIn F n P ops Q' i (wpListIn F n P ops Q' l) a w := by unfold wpOpIn; simp only [h0]; exact h
    exact wpOpIn_mono (fun a' w' h' => wpAnyIn_of_seq l (i + 1) _ a' w' (fun j => by have := hl (j + 1); simpa [Nat.add_assoc, Nat.add_comm 1 j] using this) hB.2 h') hw
/-- n: how many operations come in any order; behind them each waits for the one ahead of it -/
def lexAnyB (md : Region.Mode) (ops : Array Oper) (n : Nat) : Bool :=
  Region.noSelect ops && (Nat.beq n ops.size || (Nat.blt n ops.size && Region.sinkB md ops n && Region.chainB md ops n)) && Region.lexHead md ops (ops.size - n) n 0 (Array.replicate ops.size false)
theorem wp_region_loose {r : Option Nat} {id : Nat} {Q : Exit → Act → World → Prop} {a : Act} {w : World} (n : Nat) (hm : P.follows .mixedOrders = true) (hB : lexAnyB .any ops n = true) (hd : depsB .any ops Rs = true) (hw : KH w0 H w.drew)
    (h : wpL P ops w0 H Rs (fun a' X => ∀ w', KH w0 (flat X ++ H) w' → wpListIn (fen r) 0 P ops Q (ops.toList.drop n) a' w') (ops.toList.take n) 0 a []) : (Code.region id ops true).wpIn (fen r) 0 P Q a w := by
  simp only [lexAnyB, Bool.and_eq_true, Bool.or_eq_true] at hB
  obtain ⟨⟨hsel, hn⟩, hlex⟩ := hB
  have hn' : n ≤ ops.size := by
    rcases hn with hn | hn
    · exact Nat.le_of_eq (Nat.eq_of_beq_eq_true hn)
    · have h1 := hn.1.1
      rw [Nat.blt_eq] at h1
      omega
  have hwait : ∀ listed, HeadInv .any ops n listed → ∀ i, i < n → listed.getD i true = false → ∀ t, n ≤ t → t ∉ Region.ready .any ops listed := by
    intro listed inv i hi hun t ht
    rcases hn with hn | hn
    · have := Nat.eq_of_beq_eq_true hn
      subst this
      intro hr
      obtain ⟨_, o, ho, _⟩ := mem_ready.1 hr
      have := (Array.getElem?_eq_some_iff.1 ho).1
      omega
    · have h1 := hn.1.1
      rw [Nat.blt_eq] at h1
      exact tail_waits hn.1.2 hn.2 h1 inv _ i rfl hi hun t ht
  have htl : (ops.toList.take n).length = n := by simp; omega
  have hdl : (ops.toList.drop n).length = ops.size - n := by simp
  have inv0 : HeadInv .any ops n (Array.replicate ops.size false) :=
    ⟨by simp, fun j oj _ hl => (by rw [getD_replicate_false] at hl; cases hl), fun t _ ht => getD_in (by simpa using ht) (getD_replicate_false _ _)⟩
  have H1 := anyX_lex (md := .any) (g := ops.size - n) (fun a X X' hp hq w' hw' => hq w' (hw'.perm (List.Perm.append_right _ (flat_perm hp.symm)))) hd hsel hwait (ops.toList.take n) 0 _ a [] ⟨_, hw⟩ (fun j hj => by
    have hj' : j < n := by rw [htl] at hj; exact hj
    simp [hj']) (by simpa using htl) inv0 (by rw [htl]; exact hlex) h
  refine wpIn_region_any hm ?_
  have := wpAny_of_anyX (r := r) (Q' := Q) (g := ops.size - n) (fun listed a' X w' hw' hL => by
    have := wpAnyIn_of_seq (md := .any) (Q' := Q) (ops.toList.drop n) n listed a' w' (fun j => by simp [List.getElem?_drop]) (by rw [hdl]; exact hL.1) (hL.2 w' hw')
    rwa [hdl] at this) _ _ _ _ _ hw H1
  rw [htl, show n + (ops.size - n) = ops.size by omega] at this
  exact this
end
end Go.Qe
