/- Statements that draw their order: operations that make memory stand among those that only read; one walk in the order of the text serves every order. -/
import Derived.Test.YtcmcbiojkanlnaaEng1
import Derived.StillTail
import Derived.OrdersIn
import Derived.TacticsIn
namespace Go.Qe
open Go.RowKit

/-- the fence that lets everything in; r: within a round of the loop r -/
abbrev fen (r : Option Nat) : Fence := { Fence.wide with round := r }
theorem fen_room (r : Option Nat) (k : Nat) : (fen r).room k := fun d hd => by cases hd
theorem callsIn_fen {P : Program} {f : FuncId} {args : Array Value} {w : World} {R : Ending → World → Prop} (r : Option Nat) (n : Nat) (h : Calls P f args w R) : CallsIn (fen r) n P f args w R := callsIn_wide.2 h
theorem defer_run {P : Program} {ρ : Operand → Value} {o : Oper} {c : Call} (h : o.op = .defer c) {w w' : World} {x : Next} (hr : (execOp ρ o).run P w = .ok x w') : ∃ d, x = .defer d := by
  simp only [execOp, h, Sem.run_bind] at hr
  generalize (resolve ρ c o.type).run P w = y at hr
  cases y with
  | ok d w2 => simp only [Result.andThen_ok, Sem.run_pure, Result.ok.injEq] at hr; exact ⟨d, hr.1.symm⟩
  | halt x w2 => simp [Result.andThen] at hr
theorem semAt_of {P : Program} {ρ : Operand → Value} {o : Oper} {w w' : World} {x : Next} (r : Option Nat) (hr : (execOp ρ o).run P w = .ok x w') (hx : ∀ d, x ≠ .defer d) : (o.semAt r ρ).run P w = .ok x w' := by
  rw [Oper.semAt_eq r ρ o fun c hc => by obtain ⟨d, hd⟩ := defer_run hc hr; exact hx d hd]
  exact hr
section
variable {P : Program} {r : Option Nat} {o : Oper} {a : Act} {w w' : World} {K : Act → World → Prop} {Q : Exit → Act → World → Prop}
theorem wpIn_value {v : Value} (hr : (execOp a.eval o).run P w = .ok (.value v) w') (h : K (a.put o.dst v) w') : o.wpIn (fen r) 0 P a w K Q := by
  refine ⟨fun _ _ => trivial, ?_⟩
  rw [semAt_of _ hr (fun d e => by cases e), Oper.uponIn_value]
  exact h
theorem wpIn_skipped (hr : (execOp a.eval o).run P w = .ok .skip w') (h : K (a.put o.dst undef) w') : o.wpIn (fen r) 0 P a w K Q := by
  refine ⟨fun _ _ => trivial, ?_⟩
  rw [semAt_of _ hr (fun d e => by cases e), Oper.uponIn_skip]
  exact h
theorem wpIn_enter {f : FuncId} {args : Array Value} (hr : (execOp a.eval o).run P w = .ok (.enter f args) w') (h : Calls P f args w' fun e w'' => ∃ v, e = .returned v ∧ K (a.put o.dst v) w'') : o.wpIn (fen r) 0 P a w K Q := by
  refine ⟨fun _ _ => trivial, ?_⟩
  rw [semAt_of _ hr (fun d e => by cases e), Oper.uponIn_enter]
  refine ⟨fun h => (by cases h), callsIn_fen _ _ (h.mono fun e w'' hh => ?_)⟩
  obtain ⟨v, rfl, hk⟩ := hh
  exact hk
end

/-- what a call that only makes memory leaves: the old as it was, and some new pieces -/
structure Ret (w w' : World) (L : Heap) : Prop where
  below : Below w.heap.size w w'
  apart : L.Pairwise Piece.apart
  new : ∀ p ∈ L, p.holds w' ∧ ∀ b, p.foot b → w.heap.size ≤ b
theorem Ret.nil {w w' : World} (h : Below w.heap.size w w') : Ret w w' [] := ⟨h, .nil, fun _ h => by cases h⟩
theorem KH.ret {w0 w w' : World} {H L : Heap} (h : KH w0 H w) (hr : Ret w w' L) : KH w0 (L ++ H) w' := h.add hr.below hr.apart hr.new
theorem KH.perm {w0 w : World} {H H' : Heap} (h : KH w0 H w) (hp : H.Perm H') : KH w0 H' w :=
  ⟨h.glob, (hp.pairwise_iff fun h => h.symm).1 h.apart, fun p hm => h.holds p (hp.mem_iff.2 hm)⟩
theorem KH.last {w0 w : World} {X H : Heap} (h : KH w0 (X ++ H) w) : KH w0 H w :=
  ⟨h.glob, (List.pairwise_append.1 h.apart).2.1, fun p hm => h.holds p (List.mem_append.2 (.inr hm))⟩

abbrev Spec := Value → Heap → Prop
def makesUpon (P : Program) (w : World) (R : Spec) : Result Next → Prop
  | .ok (.value v) w' => ∃ L, R v L ∧ Ret w w' L
  | .ok (.enter f args) w' => w' = w ∧ Calls P f args w fun e w'' => ∃ v L, e = .returned v ∧ R v L ∧ Ret w w'' L
  | _ => False
def makes (P : Program) (o : Oper) (a : Act) (w : World) (R : Spec) : Prop := makesUpon P w R ((execOp a.eval o).run P w)
theorem makes.some {P : Program} {o : Oper} {a : Act} {w : World} {R : Spec} (h : makes P o a w R) : ∃ v L, R v L := by
  unfold makes at h
  generalize (execOp a.eval o).run P w = r at h
  cases r with
  | halt x w' => exact h.elim
  | ok n w' =>
    cases n <;> first | exact h.elim | skip
    · obtain ⟨L, h, _⟩ := h; exact ⟨_, L, h⟩
    · obtain ⟨_, h⟩ := h
      obtain ⟨e, w2, fr, ⟨v, L, _, hR, _⟩, _⟩ := h []
      exact ⟨v, L, hR⟩

section
variable {P : Program} {ops : Array Oper} {md : Region.Mode} {S : World → Prop} {Rs : Nat → Option (List Value → Spec)}
/-- what an operation's operands hold -/
def opVals (o : Oper) (a : Act) : List Value := o.op.operands.toList.map a.eval
theorem opVals_put {o : Oper} {a : Act} {dst : Option Tmp} {v : Value} (h : ∀ d, dst = some d → d ∉ o.looksAt ops) : opVals o (a.put dst v) = opVals o a := by
  unfold opVals
  refine List.map_congr_left fun x hx => Act.eval_put fun d hd hxd => h d hd ?_
  subst hxd
  exact List.mem_append_left _ (List.mem_filterMap.2 ⟨.tmp d, by simpa using hx, rfl⟩)
def lStep (P : Program) (ops : Array Oper) (S : World → Prop) (Rs : Nat → Option (List Value → Spec)) (i : Nat) (o : Oper) (K : Act → Heap → Prop) (a : Act) (X : Heap) : Prop :=
  if Region.wanted o (yielded ops a.tmps) then
    match Rs i with
    | some R => (∀ w, S w → makes P o a w (R (opVals o a))) ∧ ∀ v L, R (opVals o a) v L → K (a.put o.dst v) (L ++ X)
    | none => ∃ v, (∀ w, S w → (execOp a.eval o).run P w = .ok (.value v) w) ∧ K (a.put o.dst v) X
  else K (a.put o.dst undef) X
def wpL (P : Program) (ops : Array Oper) (S : World → Prop) (Rs : Nat → Option (List Value → Spec)) (Qf : Act → Heap → Prop) : List Oper → Nat → Act → Heap → Prop
  | [], _, a, X => Qf a X
  | o :: r, i, a, X => lStep P ops S Rs i o (wpL P ops S Rs Qf r (i + 1)) a X
theorem lStep_mono {i : Nat} {o : Oper} {K K' : Act → Heap → Prop} {a : Act} {X X' : Heap} (h : ∀ a L, K a (L ++ X) → K' a (L ++ X')) (hh : lStep P ops S Rs i o K a X) : lStep P ops S Rs i o K' a X' := by
  unfold lStep at hh ⊢
  split
  · rename_i hw
    rw [if_pos hw] at hh
    cases hR : Rs i with
    | some R => rw [hR] at hh; exact ⟨hh.1, fun v L hr => h _ _ (hh.2 v L hr)⟩
    | none => rw [hR] at hh; obtain ⟨v, h1, h2⟩ := hh; exact ⟨v, h1, h _ [] h2⟩
  · rename_i hw
    rw [if_neg hw] at hh
    exact h _ [] hh
theorem lStep_const {i : Nat} {o : Oper} {p : Prop} {a : Act} {X : Heap} {w : World} (hS : S w) (hh : lStep P ops S Rs i o (fun _ _ => p) a X) : p := by
  unfold lStep at hh
  split at hh
  · cases hR : Rs i with
    | some R =>
      rw [hR] at hh
      obtain ⟨v, L, hr⟩ := (hh.1 w hS).some
      exact hh.2 v L hr
    | none => rw [hR] at hh; obtain ⟨v, h1, h2⟩ := hh; exact h2
  · exact hh
theorem Oper.apart_symm {oi oj : Oper} {a : Act} (hap : oi.apart ops oj = true) (hsi : ∀ cs b, oi.op ≠ .select cs b) (u : Value) :
    execOp (a.put oj.dst u).eval oi = execOp a.eval oi ∧ Region.wanted oi (yielded ops (a.put oj.dst u).tmps) = Region.wanted oi (yielded ops a.tmps) ∧ opVals oi (a.put oj.dst u) = opVals oi a := by
  obtain ⟨h1, h2, h3⟩ := Oper.apart_spec hap
  exact ⟨execOp_put oi hsi a oj.dst u h3, wanted_put oi a oj.dst u h3, opVals_put h3⟩
theorem lStep_comm {i j : Nat} {oi oj : Oper} (hap : oi.apart ops oj = true) (hsi : ∀ cs b, oi.op ≠ .select cs b) (hsj : ∀ cs b, oj.op ≠ .select cs b) {w : World} (hS : S w)
    {K K' : Act → Heap → Prop} (hK : ∀ a X X', X.Perm X' → K a X → K' a X') {a : Act} {X : Heap}
    (h : lStep P ops S Rs i oi (lStep P ops S Rs j oj K) a X) : lStep P ops S Rs j oj (lStep P ops S Rs i oi K') a X := by
  have key : ∀ u L, lStep P ops S Rs i oi (fun a' X' => K (a'.put oj.dst u) (L ++ X')) a X → lStep P ops S Rs i oi K' (a.put oj.dst u) (L ++ X) := fun u L h => by
    obtain ⟨h1, h2, h3⟩ := Oper.apart_spec hap
    obtain ⟨e1, e2, e3⟩ := Oper.apart_symm (ops := ops) (a := a) hap hsi u
    unfold lStep makes at h ⊢
    rw [e1, e2, e3]
    have e : ∀ v, (a.put oj.dst u).put oi.dst v = (a.put oi.dst v).put oj.dst u := fun v => (Act.put_comm a v u h2).symm
    simp only [e]
    split
    · rename_i hw
      rw [if_pos hw] at h
      cases hR : Rs i with
      | some R =>
        rw [hR] at h
        refine ⟨h.1, fun v L' hr => hK _ _ _ ?_ (h.2 v L' hr)⟩
        rw [← List.append_assoc, ← List.append_assoc]
        exact List.Perm.append_right _ List.perm_append_comm
      | none =>
        rw [hR] at h
        obtain ⟨v, g1, g2⟩ := h
        exact ⟨v, g1, hK _ _ _ (List.Perm.refl _) g2⟩
    · rename_i hw
      rw [if_neg hw] at h
      exact hK _ _ _ (List.Perm.refl _) h
  -- what j does, whatever i has left
  have h' : lStep P ops S Rs i oi (fun a' X' => lStep P ops S Rs j oj K a' X') a X := h
  by_cases hwj : Region.wanted oj (yielded ops a.tmps) = true
  · cases hRj : Rs j with
    | some R =>
      have h1 : ∀ (v : Value) (X' : Heap), lStep P ops S Rs j oj K (a.put oi.dst v) X' → (∀ w, S w → makes P oj a w (R (opVals oj a))) ∧ ∀ u L, R (opVals oj a) u L → K ((a.put oi.dst v).put oj.dst u) (L ++ X') := fun v X' hh => by
        obtain ⟨g1, g2, g3⟩ := Oper.apart_spec hap
        unfold lStep makes at hh
        rw [wanted_put oj a oi.dst v g1, execOp_put oj hsj a oi.dst v g1, opVals_put g1, if_pos hwj, hRj] at hh
        exact hh
      have h2 : ∀ (v : Value) (X' : Heap), lStep P ops S Rs j oj K (a.put oi.dst v) X' → (∀ w, S w → makes P oj a w (R (opVals oj a))) := fun v X' hh => (h1 v X' hh).1
      have hm : ∀ w, S w → makes P oj a w (R (opVals oj a)) := by
        unfold lStep at h
        split at h
        · cases hR : Rs i with
          | some Ri =>
            rw [hR] at h
            obtain ⟨v, L, hr⟩ := (h.1 w hS).some
            exact h2 _ _ (h.2 v L hr)
          | none => rw [hR] at h; obtain ⟨v, _, g⟩ := h; exact h2 _ _ g
        · exact h2 _ _ h
      unfold lStep
      rw [if_pos hwj, hRj]
      refine ⟨hm, fun u L hr => key u L ?_⟩
      unfold lStep at h ⊢
      split
      · rename_i hw
        rw [if_pos hw] at h
        cases hR : Rs i with
        | some Ri =>
          rw [hR] at h
          exact ⟨h.1, fun v L' hr' => (h1 _ _ (h.2 v L' hr')).2 u L hr⟩
        | none => rw [hR] at h; obtain ⟨v, g1, g⟩ := h; exact ⟨v, g1, (h1 _ _ g).2 u L hr⟩
      · rename_i hw
        rw [if_neg hw] at h
        exact (h1 _ _ h).2 u L hr
    | none =>
      have h1 : ∀ (v : Value) (X' : Heap), lStep P ops S Rs j oj K (a.put oi.dst v) X' → ∃ u, (∀ w, S w → (execOp a.eval oj).run P w = .ok (.value u) w) ∧ K ((a.put oi.dst v).put oj.dst u) X' := fun v X' hh => by
        obtain ⟨g1, g2, g3⟩ := Oper.apart_spec hap
        unfold lStep at hh
        rw [wanted_put oj a oi.dst v g1, execOp_put oj hsj a oi.dst v g1, if_pos hwj, hRj] at hh
        exact hh
      have hu : ∃ u, ∀ w, S w → (execOp a.eval oj).run P w = .ok (.value u) w := by
        unfold lStep at h
        split at h
        · cases hR : Rs i with
          | some Ri =>
            rw [hR] at h
            obtain ⟨v, L, hr⟩ := (h.1 w hS).some
            obtain ⟨u, g, _⟩ := h1 _ _ (h.2 v L hr)
            exact ⟨u, g⟩
          | none => rw [hR] at h; obtain ⟨v, _, g⟩ := h; obtain ⟨u, g, _⟩ := h1 _ _ g; exact ⟨u, g⟩
        · obtain ⟨u, g, _⟩ := h1 _ _ h
          exact ⟨u, g⟩
      obtain ⟨u, hu⟩ := hu
      have h3 : ∀ (v : Value) (X' : Heap), lStep P ops S Rs j oj K (a.put oi.dst v) X' → K ((a.put oi.dst v).put oj.dst u) X' := fun v X' hh => by
        obtain ⟨u', g1, g2⟩ := h1 v X' hh
        have := (hu w hS).symm.trans (g1 w hS)
        simp only [Result.ok.injEq, Next.value.injEq, and_true] at this
        rw [this]
        exact g2
      unfold lStep
      rw [if_pos hwj, hRj]
      refine ⟨u, hu, ?_⟩
      have := key u [] ?_
      · exact this
      unfold lStep at h ⊢
      split
      · rename_i hw
        rw [if_pos hw] at h
        cases hR : Rs i with
        | some Ri =>
          rw [hR] at h
          exact ⟨h.1, fun v L' hr' => h3 _ _ (h.2 v L' hr')⟩
        | none => rw [hR] at h; obtain ⟨v, g1, g⟩ := h; exact ⟨v, g1, h3 _ _ g⟩
      · rename_i hw
        rw [if_neg hw] at h
        exact h3 _ _ h
  · have h1 : ∀ (v : Value) (X' : Heap), lStep P ops S Rs j oj K (a.put oi.dst v) X' → K ((a.put oi.dst v).put oj.dst undef) X' := fun v X' hh => by
      obtain ⟨g1, g2, g3⟩ := Oper.apart_spec hap
      unfold lStep at hh
      rw [wanted_put oj a oi.dst v g1, if_neg hwj] at hh
      exact hh
    unfold lStep
    rw [if_neg hwj]
    have := key undef [] ?_
    · exact this
    unfold lStep at h ⊢
    split
    · rename_i hw
      rw [if_pos hw] at h
      cases hR : Rs i with
      | some Ri =>
        rw [hR] at h
        exact ⟨h.1, fun v L' hr' => h1 _ _ (h.2 v L' hr')⟩
      | none => rw [hR] at h; obtain ⟨v, g1, g⟩ := h; exact ⟨v, g1, h1 _ _ g⟩
    · rename_i hw
      rw [if_neg hw] at h
      exact h1 _ _ h

/-- whatever order is picked, up to the tail -/
def anyX (P : Program) (md : Region.Mode) (ops : Array Oper) (S : World → Prop) (Rs : Nat → Option (List Value → Spec)) (n : Nat) (Lf : Array Bool → Act → Heap → Prop) : Nat → Array Bool → Act → Heap → Prop
  | 0, listed, a, X => Lf listed a X
  | f + 1, listed, a, X => Region.ready md ops listed ≠ [] ∧ ∀ i ∈ Region.ready md ops listed, i < n ∧ ∀ o, ops[i]? = some o → lStep P ops S Rs i o (anyX P md ops S Rs n Lf f (listed.setIfInBounds i true)) a X
theorem anyX_perm {n : Nat} {Lf : Array Bool → Act → Heap → Prop} (hL : ∀ l a X X', X.Perm X' → Lf l a X → Lf l a X') : ∀ (f : Nat) (listed : Array Bool) (a : Act) (X X' : Heap), X.Perm X' →
    anyX P md ops S Rs n Lf f listed a X → anyX P md ops S Rs n Lf f listed a X'
  | 0, _, _, _, _, hp, h => hL _ _ _ _ hp h
  | f + 1, listed, a, X, X', hp, h => ⟨h.1, fun i hi => ⟨(h.2 i hi).1, fun o ho => lStep_mono (fun a' L => anyX_perm hL f _ a' _ _ (List.Perm.append_left L hp)) ((h.2 i hi).2 o ho)⟩⟩
theorem anyX_first {n i : Nat} {oi : Oper} {Lf : Array Bool → Act → Heap → Prop} (hLp : ∀ l a X X', X.Perm X' → Lf l a X → Lf l a X') {w : World} (hS : S w) (hi : ops[i]? = some oi) (hsel : ∀ (j : Nat) (o : Oper) cs b, ops[j]? = some o → o.op ≠ .select cs b)
    (hwait : ∀ listed, HeadInv md ops n listed → ∀ i, i < n → listed.getD i true = false → ∀ t, n ≤ t → t ∉ Region.ready md ops listed) (hin : i < n)
    (hdone : ∀ listed a X, Lf listed a X → ∀ j ∈ Region.ready md ops listed, n ≤ j) :
    ∀ (f : Nat) (listed : Array Bool) (a : Act) (X : Heap), HeadInv md ops n listed →
      (∀ j oj, ops[j]? = some oj → j ≠ i → listed.getD j true = false → (∀ e ∈ oj.after, Region.binds md e = true → e.on ≠ i) → oi.apart ops oj = true) →
      i ∈ Region.ready md ops listed → lStep P ops S Rs i oi (anyX P md ops S Rs n Lf f (listed.setIfInBounds i true)) a X → anyX P md ops S Rs n Lf (f + 1) listed a X := by
  intro f
  induction f with
  | zero =>
    intro listed a X inv _ hr H
    have hun := (mem_ready.1 hr).1
    refine ⟨fun h => (by rw [h] at hr; cases hr), fun j hj => ?_⟩
    have hjn : j < n := by
      rcases Nat.lt_or_ge j n with h | h
      · exact h
      · exact absurd hj (hwait _ inv i hin hun j h)
    refine ⟨hjn, fun o ho => ?_⟩
    by_cases hji : j = i
    · subst hji
      have : o = oi := Option.some.inj (ho.symm.trans hi)
      subst this
      exact H
    · have h2 : n ≤ j := lStep_const (P := P) (ops := ops) (Rs := Rs) (a := a) (X := X) hS (lStep_mono (K' := fun _ _ => n ≤ j) (X' := X) (fun a' L hk => hdone _ _ _ hk j (ready_mono hj hji)) H)
      omega
  | succ f ih =>
    intro listed a X inv hfree hr H
    have hun := (mem_ready.1 hr).1
    refine ⟨fun h => (by rw [h] at hr; cases hr), fun j hj => ?_⟩
    have hjn : j < n := by
      rcases Nat.lt_or_ge j n with h | h
      · exact h
      · exact absurd hj (hwait _ inv i hin hun j h)
    refine ⟨hjn, fun o ho => ?_⟩
    by_cases hji : j = i
    · subst hji
      have : o = oi := Option.some.inj (ho.symm.trans hi)
      subst this
      exact H
    · obtain ⟨hjun, oj, hoj, hall⟩ := mem_ready.1 hj
      have : o = oj := Option.some.inj (ho.symm.trans hoj)
      subst this
      have hnot : ∀ e ∈ o.after, Region.binds md e = true → e.on ≠ i := fun e he hb heq => by
        have h1 := hall e he hb
        rw [heq, getD_both hun] at h1
        cases h1
      have hap := hfree j o hoj hji hjun hnot
      have H2 : lStep P ops S Rs i oi (lStep P ops S Rs j o (anyX P md ops S Rs n Lf f ((listed.setIfInBounds i true).setIfInBounds j true))) a X :=
        lStep_mono (X' := X) (fun a' L hk => (hk.2 j (ready_mono hj hji)).2 o hoj) H
      have H3 := lStep_comm (K' := anyX P md ops S Rs n Lf f ((listed.setIfInBounds j true).setIfInBounds i true)) hap (fun cs b => hsel i oi cs b hi) (fun cs b => hsel j o cs b hoj) hS
        (fun a' Y Y' hp hk => by
          rw [Array.setIfInBounds_comm _ _ hji]
          exact anyX_perm hLp f _ a' Y Y' hp hk) H2
      have hfree' : ∀ k ok, ops[k]? = some ok → k ≠ i → (listed.setIfInBounds j true).getD k true = false →
          (∀ e ∈ ok.after, Region.binds md e = true → e.on ≠ i) → oi.apart ops ok = true := fun k ok hk hki hun hno => by
        refine hfree k ok hk hki ?_ hno
        by_cases hjk : j = k
        · subst hjk; exact hjun
        · rw [getD_set_ne true hjk] at hun; exact hun
      exact lStep_mono (X' := X) (fun a' L h3 => ih (listed.setIfInBounds j true) a' _ (inv.set hj hjn) hfree' (ready_mono hr (Ne.symm hji)) h3) H3
theorem anyX_lex {n g : Nat} {Lq : Act → Heap → Prop} (hLp : ∀ a X X', X.Perm X' → Lq a X → Lq a X') {w : World} (hS : S w) (hsel : Region.noSelect ops = true)
    (hwait : ∀ listed, HeadInv md ops n listed → ∀ i, i < n → listed.getD i true = false → ∀ t, n ≤ t → t ∉ Region.ready md ops listed) :
    ∀ (l : List Oper) (k : Nat) (listed : Array Bool) (a : Act) (X : Heap), (∀ j, j < l.length → l[j]? = ops[k + j]?) → k + l.length = n → HeadInv md ops n listed →
    Region.lexHead md ops g l.length k listed = true → wpL P ops S Rs Lq l k a X →
    anyX P md ops S Rs n (fun listed' a' X' => Region.seqB md ops g n listed' = true ∧ Lq a' X') l.length listed a X
  | [], k, listed, a, X, _, hk, _, hB, h => by
    have : k = n := by simpa using hk
    subst this
    exact ⟨by simpa [Region.lexHead] using hB, h⟩
  | o :: l, k, listed, a, X, hl, hk, inv, hB, h => by
    have h0 : ops[k]? = some o := by simpa using (hl 0 (by simp)).symm
    simp only [List.length_cons, Region.lexHead, Bool.and_eq_true] at hB
    obtain ⟨⟨hr, hf⟩, hB'⟩ := hB
    have hkn : k < n := by simp only [List.length_cons] at hk; omega
    have hr' : k ∈ Region.ready md ops listed := by simpa using hr
    refine anyX_first (fun l a X X' hp hh => ⟨hh.1, hLp a X X' hp hh.2⟩) hS h0 (Region.noSelect_spec hsel) hwait hkn (fun listed' a' X' hL => seqB_ready hL.1) l.length listed a X inv (Region.free_spec h0 hf) hr' ?_
    refine lStep_mono (X' := X) (fun a' L hk' => ?_) h
    exact anyX_lex hLp hS hsel hwait l (k + 1) _ a' _ (fun j hj => by have := hl (j + 1) (by simp; omega); simpa [Nat.add_assoc, Nat.add_comm 1 j] using this) (by simp only [List.length_cons] at hk; omega) (inv.set hr' hkn) hB' hk'
theorem wpOp_of_lStep {r : Option Nat} {w0 w : World} {H X : Heap} {i : Nat} {o : Oper} {a : Act} {K : Act → Heap → Prop} {K' : Act → World → Prop} {Q' : Exit → Act → World → Prop} (ho : ops[i]? = some o) (hw : KH w0 (X ++ H) w)
    (h : ∀ a L w', KH w0 (L ++ X ++ H) w' → K a (L ++ X) → K' a w') (hh : lStep P ops (KH w0 H) Rs i o K a X) : wpOpIn (fen r) 0 P ops Q' i K' a w := by
  unfold wpOpIn
  unfold lStep at hh
  simp only [ho]
  split
  · rename_i hwt
    rw [if_pos hwt] at hh
    cases hR : Rs i with
    | some R =>
      rw [hR] at hh
      have hm := hh.1 w hw.last
      unfold makes at hm
      generalize hr : (execOp a.eval o).run P w = x at hm
      cases x with
      | halt x w' => exact hm.elim
      | ok n w' =>
        cases n <;> first | exact hm.elim | skip
        · obtain ⟨L, hR', hret⟩ := hm
          exact wpIn_value hr (h _ L _ (by rw [List.append_assoc]; exact hw.ret hret) (hh.2 _ L hR'))
        · obtain ⟨rfl, hc⟩ := hm
          refine wpIn_enter hr (hc.mono fun e w'' hr => ?_)
          obtain ⟨v, L, he, hr, hret⟩ := hr
          exact ⟨v, he, h _ L _ (by rw [List.append_assoc]; exact hw.ret hret) (hh.2 _ L hr)⟩
    | none =>
      rw [hR] at hh
      obtain ⟨v, h1, h2⟩ := hh
      exact wpIn_value (h1 w hw.last) (h _ [] _ hw h2)
  · rename_i hwt
    rw [if_neg hwt] at hh
    exact ⟨fun _ _ => trivial, h _ [] _ hw hh⟩
theorem wpAny_of_anyX {r : Option Nat} {w0 : World} {H : Heap} {n g : Nat} {Lf : Array Bool → Act → Heap → Prop} {Q' : Exit → Act → World → Prop}
    (hL : ∀ listed a X w, KH w0 (X ++ H) w → Lf listed a X → wpAnyIn (fen r) 0 P md ops Q' g listed a w) :
    ∀ (f : Nat) (listed : Array Bool) (a : Act) (X : Heap) (w : World), KH w0 (X ++ H) w → anyX P md ops (KH w0 H) Rs n Lf f listed a X → wpAnyIn (fen r) 0 P md ops Q' (f + g) listed a w
  | 0, listed, a, X, w, hw, h => by rw [Nat.zero_add]; exact hL _ _ _ _ hw h
  | f + 1, listed, a, X, w, hw, h => by
    rw [show f + 1 + g = (f + g) + 1 by omega]
    refine ⟨fun h0 => absurd h0 h.1, fun i hi => ?_⟩
    obtain ⟨_, oi, hoi, _⟩ := mem_ready.1 hi
    exact wpOp_of_lStep hoi hw (fun a' L w' hw' hk => wpAny_of_anyX hL f _ a' _ w' hw' hk) ((h.2 i hi).2 oi hoi)
theorem wpAnyIn_of_seq {F : Fence} {n : Nat} {Q' : Exit → Act → World → Prop} : ∀ (l : List Oper) (k : Nat) (listed : Array Bool) (a : Act) (w : World), (∀ j, l[j]? = ops[k + j]?) →
    Region.seqB md ops l.length k listed = true → wpListIn F n P ops Q' l a w → wpAnyIn F n P md ops Q' l.length listed a w
  | [], _, _, _, _, _, hB, h => ⟨by simpa [Region.seqB] using hB, h⟩
  | o :: l, k, listed, a, w, hl, hB, h => by
    have h0 : ops[k]? = some o := by simpa using (hl 0).symm
    simp only [List.length_cons, Region.seqB, Bool.and_eq_true, decide_eq_true_eq] at hB
    refine ⟨fun h1 => (by rw [hB.1] at h1; cases h1), fun i hi => ?_⟩
    rw [hB.1] at hi
    have hik : i = k := by simpa using hi
    subst hik
    have hw : wpOpIn F n P ops Q' i (wpListIn F n P ops Q' l) a w := by unfold wpOpIn; simp only [h0]; exact h
    exact wpOpIn_mono (fun a' w' h' => wpAnyIn_of_seq l (i + 1) _ a' w' (fun j => by have := hl (j + 1); simpa [Nat.add_assoc, Nat.add_comm 1 j] using this) hB.2 h') hw
/-- n: how many operations come in any order; behind them each waits for the one ahead of it -/
def lexAnyB (md : Region.Mode) (ops : Array Oper) (n : Nat) : Bool :=
  Region.noSelect ops && (Nat.beq n ops.size || (Nat.blt n ops.size && Region.sinkB md ops n && Region.chainB md ops n)) && Region.lexHead md ops (ops.size - n) n 0 (Array.replicate ops.size false)
theorem wp_region_loose {r : Option Nat} {w0 : World} {H : Heap} {id : Nat} {Q : Exit → Act → World → Prop} {a : Act} {w : World} (n : Nat) (hm : P.follows .mixedOrders = true) (hB : lexAnyB .any ops n = true) (hw : KH w0 H w.drew)
    (h : wpL P ops (KH w0 H) Rs (fun a' X => ∀ w', KH w0 (X ++ H) w' → wpListIn (fen r) 0 P ops Q (ops.toList.drop n) a' w') (ops.toList.take n) 0 a []) : (Code.region id ops true).wpIn (fen r) 0 P Q a w := by
  simp only [lexAnyB, Bool.and_eq_true, Bool.or_eq_true] at hB
  obtain ⟨⟨hsel, hn⟩, hlex⟩ := hB
  have hn' : n ≤ ops.size := by
    rcases hn with hn | hn
    · exact Nat.le_of_eq (Nat.eq_of_beq_eq_true hn)
    · have h1 := hn.1.1
      rw [Nat.blt_eq] at h1
      omega
  have hwait : ∀ listed, HeadInv .any ops n listed → ∀ i, i < n → listed.getD i true = false → ∀ t, n ≤ t → t ∉ Region.ready .any ops listed := by
    intro listed inv i hi hun t ht
    rcases hn with hn | hn
    · have := Nat.eq_of_beq_eq_true hn
      subst this
      intro hr
      obtain ⟨_, o, ho, _⟩ := mem_ready.1 hr
      have := (Array.getElem?_eq_some_iff.1 ho).1
      omega
    · have h1 := hn.1.1
      rw [Nat.blt_eq] at h1
      exact tail_waits hn.1.2 hn.2 h1 inv _ i rfl hi hun t ht
  have htl : (ops.toList.take n).length = n := by simp; omega
  have hdl : (ops.toList.drop n).length = ops.size - n := by simp
  have inv0 : HeadInv .any ops n (Array.replicate ops.size false) :=
    ⟨by simp, fun j oj _ hl => (by rw [getD_replicate_false] at hl; cases hl), fun t _ ht => getD_in (by simpa using ht) (getD_replicate_false _ _)⟩
  have H1 := anyX_lex (md := .any) (g := ops.size - n) (fun a X X' hp hq w' hw' => hq w' (hw'.perm (List.Perm.append_right _ hp.symm))) hw hsel hwait (ops.toList.take n) 0 _ a [] (fun j hj => by
    have hj' : j < n := by rw [htl] at hj; exact hj
    simp [hj']) (by simpa using htl) inv0 (by rw [htl]; exact hlex) h
  refine wpIn_region_any hm ?_
  have := wpAny_of_anyX (r := r) (Q' := Q) (g := ops.size - n) (fun listed a' X w' hw' hL => by
    have := wpAnyIn_of_seq (md := .any) (Q' := Q) (ops.toList.drop n) n listed a' w' (fun j => by simp [List.getElem?_drop]) (by rw [hdl]; exact hL.1) (hL.2 w' hw')
    rwa [hdl] at this) _ _ _ _ _ hw H1
  rw [htl, show n + (ops.size - n) = ops.size by omega] at this
  exact this
end
end Go.Qe
