/- Statements that draw their order, told with further edges: an extract may be taken as soon as it can be. -/
import Derived.Test.YthelgjfdkdaijaaDoorEngF
namespace Go.Qe
open Go.RowKit
def extraE (E : List (Nat × Nat)) (i : Nat) : Array Edge := ((E.filter fun e => Nat.beq e.1 i).map fun e => ({ on := e.2, ground := .data } : Edge)).toArray
def addL (E : List (Nat × Nat)) : Nat → List Oper → List Oper
  | _, [] => []
  | i, o :: r => { o with after := o.after ++ extraE E i } :: addL E (i + 1) r
def addE (E : List (Nat × Nat)) (ops : Array Oper) : Array Oper := (addL E 0 ops.toList).toArray
theorem addL_get (E : List (Nat × Nat)) : ∀ (l : List Oper) (i j : Nat), (addL E i l)[j]? = (l[j]?).map fun o => { o with after := o.after ++ extraE E (i + j) }
  | [], _, _ => by simp [addL]
  | o :: r, i, 0 => by simp [addL]
  | o :: r, i, j + 1 => by simp only [addL, List.getElem?_cons_succ]; rw [addL_get E r (i + 1) j, show i + 1 + j = i + (j + 1) by omega]
theorem addE_get (E : List (Nat × Nat)) (ops : Array Oper) (j : Nat) : (addE E ops)[j]? = (ops[j]?).map fun o => { o with after := o.after ++ extraE E j } := by
  have := addL_get E ops.toList 0 j
  rw [Nat.zero_add] at this
  simpa [addE] using this
theorem addL_length (E : List (Nat × Nat)) : ∀ (l : List Oper) (i : Nat), (addL E i l).length = l.length
  | [], _ => rfl
  | o :: r, i => by simp [addL, addL_length E r]
theorem addE_size (E : List (Nat × Nat)) (ops : Array Oper) : (addE E ops).size = ops.size := by simp [addE, addL_length]
theorem yielded_addE (E : List (Nat × Nat)) (ops : Array Oper) (t : Array Value) : yielded (addE E ops) t = yielded ops t := by
  funext j
  unfold yielded
  rw [addE_get]
  cases ops[j]? <;> rfl
section
variable {P : Program} {ops : Array Oper} {F : Fence} {n : Nat} {Q : Exit → Act → World → Prop}
theorem wpOp_addE {E : List (Nat × Nat)} {j : Nat} {K : Act → World → Prop} {a : Act} {w : World} (h : wpOpIn F n P (addE E ops) Q j K a w) : wpOpIn F n P ops Q j K a w := by
  unfold wpOpIn at h ⊢
  rw [addE_get] at h
  cases ho : ops[j]? with
  | none => rw [ho] at h; exact h
  | some o =>
    rw [ho] at h
    simp only [Option.map_some, yielded_addE] at h
    exact h
theorem ready_addE {E : List (Nat × Nat)} {listed : Array Bool} {j : Nat} : j ∈ Region.ready .any (addE E ops) listed ↔ j ∈ Region.ready .any ops listed ∧ ∀ e ∈ E, e.1 = j → listed.getD e.2 false = true := by
  rw [mem_ready, mem_ready]
  constructor
  · rintro ⟨h1, o, ho, hall⟩
    rw [addE_get] at ho
    cases ho' : ops[j]? with
    | none => rw [ho'] at ho; cases ho
    | some o' =>
      rw [ho'] at ho
      cases ho
      refine ⟨⟨h1, o', rfl, fun e he hb => hall e (Array.mem_append.2 (.inl he)) hb⟩, fun e he hj => ?_⟩
      refine hall ({ on := e.2, ground := .data } : Edge) (Array.mem_append.2 (.inr ?_)) rfl
      simp only [extraE, List.mem_toArray, List.mem_map, List.mem_filter]
      exact ⟨e, ⟨he, by simp [hj]⟩, rfl⟩
  · rintro ⟨⟨h1, o, ho, hall⟩, hE⟩
    refine ⟨h1, { o with after := o.after ++ extraE E j }, by rw [addE_get, ho]; rfl, fun e he hb => ?_⟩
    rcases Array.mem_append.1 he with he | he
    · exact hall e he hb
    · simp only [extraE, List.mem_toArray, List.mem_map, List.mem_filter] at he
      obtain ⟨e', ⟨h2, h3⟩, rfl⟩ := he
      exact hE e' h2 (Nat.eq_of_beq_eq_true h3)
def isEx : Op → Bool
  | .extract _ _ => true
  | _ => false
/-- what the further edges must be like -/
def chkE (ops : Array Oper) (E : List (Nat × Nat)) : Bool :=
  Region.noSelect ops && E.all fun e => (match ops[e.2]? with
    | some o => isEx o.op && o.guard.isNone && (o.after.all fun d => !Region.binds .any d || Region.waitsFor .any ops e.1 d.on) && ((List.range ops.size).all fun j => Nat.beq j e.2 || Region.waitsFor .any ops j e.2 || Region.waitsFor .any ops e.2 j || match ops[j]? with
      | some oj => o.apart ops oj
      | none => true)
    | none => false) && E.all fun e' => !Nat.beq e'.1 e.2
theorem ex_yields {o : Oper} (hx : isEx o.op = true) (hg : o.guard = none) (hro : F.round = none) {K : Act → World → Prop} {a : Act} {w : World} (h : o.wpIn F n P a w K Q) : ∃ v, YieldsFenced P ops o v a ∧ K (a.put o.dst v) w := by
  obtain ⟨dst, op, ty, pos, aft, gd⟩ := o
  cases op <;> simp only [isEx, Bool.false_eq_true] at hx
  rename_i x i
  simp only at hg
  subst hg
  have h2 := h.2
  rw [hro, Oper.semAt_none] at h2
  have hrun : ∀ w, (execOp a.eval ⟨dst, .extract x i, ty, pos, aft, none⟩).run P w = match a.eval x with
      | .tuple vs => match vs[i]? with
        | some v => .ok (.value v) w
        | none => (execOp a.eval ⟨dst, .extract x i, ty, pos, aft, none⟩).run P w
      | _ => (execOp a.eval ⟨dst, .extract x i, ty, pos, aft, none⟩).run P w := fun w => by
    simp only [execOp, Instr.extract]
    cases a.eval x <;> try rfl
    rename_i vs
    dsimp only
    cases vs[i]? <;> rfl
  rw [hrun] at h2
  have hstuck : ∀ s : String, Oper.uponIn F n P ⟨dst, .extract x i, ty, pos, aft, none⟩ a K Q (((stuck s : Sem Value) >>= fun v => pure (Next.value v)).run P w) → False := fun s hs => by
    simp only [Sem.run_bind, stuck] at hs
    exact hs
  cases hx : a.eval x with
  | tuple vs =>
    cases hi : vs[i]? with
    | some v =>
      rw [hx] at h2
      simp only [hi] at h2
      refine ⟨v, ⟨.inl ⟨rfl, fun w => ?_⟩, fun w => rfl⟩, h2⟩
      rw [hrun, hx]
      simp only [hi]
    | none =>
      rw [hx] at h2
      simp only [hi, execOp, Instr.extract, hx] at h2
      exact (hstuck _ h2).elim
  | _ =>
    rw [hx] at h2
    simp only [execOp, Instr.extract, hx] at h2
    exact (hstuck _ h2).elim
theorem any_edges {E : List (Nat × Nat)} (hro : F.round = none) (hc : chkE ops E = true) (hQ : PutInv Q) : ∀ (f : Nat) (listed : Array Bool) (a : Act) (w : World), listed.size = ops.size → wpAnyIn F n P .any (addE E ops) Q f listed a w → wpAnyIn F n P .any ops Q f listed a w := by
  simp only [chkE, Bool.and_eq_true] at hc
  obtain ⟨hsel, hE⟩ := hc
  have hE' := fun e he => List.all_eq_true.1 hE e he
  -- an operation that is ready, but for a further edge: then that edge's other end is ready
  have key : ∀ (listed : Array Bool) (i : Nat), listed.size = ops.size → i ∈ Region.ready .any ops listed → i ∉ Region.ready .any (addE E ops) listed → ∃ e ∈ E, e.2 ∈ Region.ready .any ops listed := by
    intro listed i hsz hi hn
    have : ¬ ∀ e ∈ E, e.1 = i → listed.getD e.2 false = true := fun h => hn (ready_addE.2 ⟨hi, h⟩)
    have : ∃ e ∈ E, e.1 = i ∧ ¬ listed.getD e.2 false = true := by
      refine Classical.byContradiction fun h => this fun e he h1 => Classical.byContradiction fun h2 => h ⟨e, he, h1, h2⟩
    obtain ⟨e, he, h1, h2⟩ := this
    have h3 := hE' e he
    cases ho : ops[e.2]? with
    | none => rw [ho] at h3; simp at h3
    | some o =>
      rw [ho] at h3
      simp only [Bool.and_eq_true] at h3
      refine ⟨e, he, mem_ready.2 ⟨?_, o, ho, fun d hd hb => ?_⟩⟩
      · -- it lies within what is listed, or the list is too short for any to be listed
        have h4 : listed.getD e.2 false = false := by simpa using h2
        exact getD_in (by rw [hsz]; exact (Array.getElem?_eq_some_iff.1 ho).1) h4
      · have h4 := Array.all_eq_true'.1 h3.1.1.2 d hd
        rw [hb] at h4
        simp only [Bool.not_true, Bool.false_or] at h4
        rw [h1] at h4
        obtain ⟨oi, hoi, d', hd', hb', hon⟩ := Region.waitsFor_spec h4
        obtain ⟨_, oi', hoi', hall⟩ := mem_ready.1 hi
        have : oi = oi' := Option.some.inj (hoi.symm.trans hoi')
        subst this
        rw [← hon]
        exact hall d' hd' hb'
  have sub : ∀ (listed : Array Bool) (i : Nat), i ∈ Region.ready .any (addE E ops) listed → i ∈ Region.ready .any ops listed := fun listed i hi => (ready_addE.1 hi).1
  -- the other end has no further edges
  have loose : ∀ (listed : Array Bool) e, e ∈ E → e.2 ∈ Region.ready .any ops listed → e.2 ∈ Region.ready .any (addE E ops) listed := fun listed e he hi => ready_addE.2 ⟨hi, fun e' he' hj => by
    have h3 := hE' e he
    simp only [Bool.and_eq_true] at h3
    have h4 := List.all_eq_true.1 h3.2 e' he'
    simp [hj] at h4⟩
  intro f
  induction f with
  | zero =>
    intro listed a w hsz H
    refine ⟨?_, H.2⟩
    cases hr : Region.ready .any ops listed with
    | nil => rfl
    | cons i r =>
      exfalso
      have hi : i ∈ Region.ready .any ops listed := by rw [hr]; exact List.mem_cons_self
      by_cases hi' : i ∈ Region.ready .any (addE E ops) listed
      · rw [H.1] at hi'; cases hi'
      · obtain ⟨e, he, h1⟩ := key listed i hsz hi hi'
        have := loose listed e he h1
        rw [H.1] at this; cases this
  | succ f ih =>
    intro listed a w hsz H
    by_cases hA : ∃ e ∈ E, e.2 ∈ Region.ready .any ops listed
    · obtain ⟨e, he, h1⟩ := hA
      have h2 := loose listed e he h1
      have h3 := hE' e he
      cases ho : ops[e.2]? with
      | none => rw [ho] at h3; simp at h3
      | some o =>
        rw [ho] at h3
        simp only [Bool.and_eq_true] at h3
        obtain ⟨⟨⟨⟨hx, hg⟩, _⟩, hfree⟩, _⟩ := h3
        have hg' : o.guard = none := by simpa using hg
        have h4 := wpOp_addE (H.2 e.2 h2)
        unfold wpOpIn at h4
        rw [ho] at h4
        have hwt : Region.wanted o (yielded ops a.tmps) = true := by simp [Region.wanted, hg']
        simp only [hwt, if_true] at h4
        obtain ⟨v, hy, hk⟩ := ex_yields (ops := ops) hx hg' hro h4
        have h5 := ih _ _ _ (by simpa using hsz) hk
        refine wpAnyIn_first hro ho (Region.noSelect_spec hsel) (fun c a w => hQ c a o.dst v w) f listed a w (fun j oj hj hne hun hno => ?_) h1 hy h5
        have h6 := List.all_eq_true.1 hfree j (List.mem_range.2 (Array.getElem?_eq_some_iff.1 hj).1)
        rw [hj] at h6
        simp only [Bool.or_eq_true] at h6
        rcases h6 with ((h6 | h6) | h6) | h6
        · exact absurd (Nat.eq_of_beq_eq_true h6) hne
        · obtain ⟨oj', hoj', d, hd, hb, hon⟩ := Region.waitsFor_spec h6
          have : oj' = oj := Option.some.inj (hoj'.symm.trans hj)
          subst this
          exact absurd hon (hno d hd hb)
        · obtain ⟨ox, hox, d, hd, hb, hon⟩ := Region.waitsFor_spec h6
          obtain ⟨_, o', ho', hall⟩ := mem_ready.1 h1
          have : o' = ox := Option.some.inj (ho'.symm.trans hox)
          subst this
          have h7 := hall d hd hb
          rw [hon] at h7
          exfalso
          rw [Array.getD_eq_getD_getElem?] at h7 hun
          cases hj2 : listed[j]? with
          | none => rw [hj2] at h7; simp at h7
          | some b => rw [hj2] at h7 hun; simp at h7 hun; rw [h7] at hun; cases hun
        · exact h6
    · have same : ∀ i, i ∈ Region.ready .any ops listed → i ∈ Region.ready .any (addE E ops) listed := fun i hi => Classical.byContradiction fun hn => hA (key listed i hsz hi hn)
      refine ⟨fun h0 => H.1 ?_, fun i hi => ?_⟩
      · cases hr : Region.ready .any (addE E ops) listed with
        | nil => rfl
        | cons i r =>
          have := sub listed i (by rw [hr]; exact List.mem_cons_self)
          rw [h0] at this; cases this
      · exact wpOpIn_mono (fun a' w' hk => ih _ _ _ (by simpa using hsz) hk) (wpOp_addE (H.2 i (same i hi)))
end
section
variable {P : Program} {Q : Exit → Act → World → Prop} {N : Cx} {w0 : World} {k k' : List Kont} {fr : Fr} {H : Heap} {L : List TyD}
/-- a statement that draws its order, with further edges -/
theorem WP.edges {id : Nat} {ops : Array Oper} (E : List (Nat × Nat)) (hQ : PutInv Q) (hN : N.round = none) (hn : norm 1000 k = .code (.region id ops true) :: k') (hm : P.follows .mixedOrders = true) (hc : chkE ops E = true)
    (h : WP P Q N w0 (.any (addE E ops) (Array.replicate ops.size false) ops.size :: k') fr H) : WP P Q N w0 k fr H := by
  refine WP.to hn fun a w ha hw => ?_
  refine wpIn_region_any hm ?_
  exact any_edges hN hc (putInv_sem hQ k') _ _ _ _ (by simp) (h a _ ha hw.drew)
/-- the operations of some places -/
def pickO (ops : Array Oper) : List Nat → Option (List Oper)
  | [] => some []
  | i :: t => match ops[i]?, pickO ops t with
    | some o, some l => some (o :: l)
    | _, _ => none
theorem pickO_map {ops : Array Oper} : ∀ (hs : List Nat) (l : List Oper), pickO ops hs = some l → hs.map (ops[·]?) = l.map some
  | [], l, h => by cases h; rfl
  | i :: t, l, h => by
    unfold pickO at h
    split at h
    · rename_i o l' h1 h2
      cases h
      rw [List.map_cons, List.map_cons, h1, pickO_map t l' h2]
    · cases h
/-- heads in any order; from there on any order, too -/
theorem WP.heads {ops : Array Oper} {listed : Array Bool} {f : Nat} (hs T : List Nat) (Rs : Specs) {lo : List Oper} (hn : norm 1000 k = .any ops listed f :: k')
    (hlt : Nat.beq (hs.length + T.length) f = true) (hnd : hs.Nodup) (hlo' : pickO ops hs = some lo) (hB : lexFA .any ops hs T listed (takeL hs listed) = true) (hD : depsK .any ops hs Rs = true)
    (h : WP P Q N w0 (.lops w0 H Rs ops lo [] 0 [] :: .any ops (takeL hs listed) T.length :: k') fr H) : WP P Q N w0 k fr H := by
  have hlo := pickO_map _ _ hlo'
  refine WP.to hn fun a w ha hw => ?_
  have e := Nat.eq_of_beq_eq_true hlt
  have := wpAny_floatA (r := N.round) (Q := sem P N.round Q k') hs T lo listed (takeL hs listed) T.length hnd hlo hB hD hw (wpL_mono (fun a X hq w' hw' => by have := hq w' hw'; unfold wpListIn at this; exact this) lo 0 a [] ⟨_, by simpa [flat] using hw⟩ (h a _ ha hw).2)
  rwa [e] at this
end
end Go.Qe
