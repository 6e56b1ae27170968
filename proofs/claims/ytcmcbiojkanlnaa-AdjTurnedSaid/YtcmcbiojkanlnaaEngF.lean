/- Statements that draw their order, some of whose operations hang loose behind those that write: taken first. -/
import Derived.Test.YtcmcbiojkanlnaaEng8
namespace Go.Qe
open Go.RowKit

section
variable {P : Program} {ops : Array Oper} {md : Region.Mode} {w0 : World} {H : Heap} {Rs : Specs}
def lexHd (md : Region.Mode) (ops : Array Oper) (fin : Array Bool → Bool) : Nat → Nat → Array Bool → Bool
  | 0, _, listed => fin listed
  | f + 1, k, listed => (Region.ready md ops listed).contains k && Region.free md ops listed k && lexHd md ops fin f (k + 1) (listed.setIfInBounds k true)
def seqT (md : Region.Mode) (ops : Array Oper) : List Nat → Array Bool → Bool
  | [], listed => (Region.ready md ops listed).isEmpty
  | t :: r, listed => decide (Region.ready md ops listed = [t]) && seqT md ops r (listed.setIfInBounds t true)
theorem anyX_firstI {Inv : Array Bool → Prop} {n i : Nat} {oi : Oper} {Lf : Array Bool → Act → Tags → Prop} (hLp : ∀ l a X X', X.Perm X' → Lf l a X → Lf l a X') (hd : depsB md ops Rs = true) (hi : ops[i]? = some oi) (hsel : ∀ (j : Nat) (o : Oper) cs b, ops[j]? = some o → o.op ≠ .select cs b)
    (hset : ∀ listed i, Inv listed → i ∈ Region.ready md ops listed → i < n → Inv (listed.setIfInBounds i true)) (hwait : ∀ listed, Inv listed → ∀ i, i < n → listed.getD i true = false → ∀ t, n ≤ t → t ∉ Region.ready md ops listed) (hin : i < n)
    (hdone : ∀ listed a X, Lf listed a X → ∀ j ∈ Region.ready md ops listed, n ≤ j) :
    ∀ (f : Nat) (listed : Array Bool) (a : Act) (X : Tags), Real w0 H X → Inv listed →
      (∀ j oj, ops[j]? = some oj → j ≠ i → listed.getD j true = false → (∀ e ∈ oj.after, Region.binds md e = true → e.on ≠ i) → oi.apart ops oj = true) →
      i ∈ Region.ready md ops listed → lStep P ops w0 H Rs i oi (anyX P md ops w0 H Rs n Lf f (listed.setIfInBounds i true)) a X → anyX P md ops w0 H Rs n Lf (f + 1) listed a X := by
  intro f
  induction f with
  | zero =>
    intro listed a X hX inv _ hr HH
    have hun := (mem_ready.1 hr).1
    refine ⟨fun h => (by rw [h] at hr; cases hr), fun j hj => ?_⟩
    have hjn : j < n := by
      rcases Nat.lt_or_ge j n with h | h
      · exact h
      · exact absurd hj (hwait _ inv i hin hun j h)
    refine ⟨hjn, fun o ho => ?_⟩
    by_cases hji : j = i
    · subst hji
      have : o = oi := Option.some.inj (ho.symm.trans hi)
      subst this
      exact HH
    · obtain ⟨v, Y, _, _, hk⟩ := lStep_some hX HH
      have := hdone _ _ _ hk j (ready_mono hj hji)
      omega
  | succ f ih =>
    intro listed a X hX inv hfree hr HH
    have hun := (mem_ready.1 hr).1
    refine ⟨fun h => (by rw [h] at hr; cases hr), fun j hj => ?_⟩
    have hjn : j < n := by
      rcases Nat.lt_or_ge j n with h | h
      · exact h
      · exact absurd hj (hwait _ inv i hin hun j h)
    refine ⟨hjn, fun o ho => ?_⟩
    by_cases hji : j = i
    · subst hji
      have : o = oi := Option.some.inj (ho.symm.trans hi)
      subst this
      exact HH
    · obtain ⟨hjun, oj, hoj, hall⟩ := mem_ready.1 hj
      have : o = oj := Option.some.inj (ho.symm.trans hoj)
      subst this
      have hnot : ∀ e ∈ o.after, Region.binds md e = true → e.on ≠ i := fun e he hb heq => by
        have h1 := hall e he hb
        rw [heq, getD_both hun] at h1
        cases h1
      obtain ⟨_, oi', hoi', hall'⟩ := mem_ready.1 hr
      have : oi' = oi := Option.some.inj (hoi'.symm.trans hi)
      subst this
      have hnot' : ∀ e ∈ oi'.after, Region.binds md e = true → e.on ≠ j := fun e he hb heq => by
        have h1 := hall' e he hb
        rw [heq, getD_both hjun] at h1
        cases h1
      have hap := hfree j o hoj hji hjun hnot
      have H2 : lStep P ops w0 H Rs i oi' (lStep P ops w0 H Rs j o (anyX P md ops w0 H Rs n Lf f ((listed.setIfInBounds i true).setIfInBounds j true))) a X :=
        lStep_mono hX (fun a' Y _ hk => (hk.2 j (ready_mono hj hji)).2 o hoj) HH
      have H3 := lStep_comm (K' := anyX P md ops w0 H Rs n Lf f ((listed.setIfInBounds j true).setIfInBounds i true)) hap (fun cs b => hsel i oi' cs b hi) (fun cs b => hsel j o cs b hoj)
        (fun D R hR => depsB_no (listed := listed) hd hoj hnot hR) (fun D R hR => depsB_no (listed := listed) hd hi hnot' hR)
        (fun a' Y Y' hp hk => by
          rw [Array.setIfInBounds_comm _ _ hji]
          exact anyX_perm hLp f _ a' Y Y' hp hk) hX H2
      have hfree' : ∀ k ok, ops[k]? = some ok → k ≠ i → (listed.setIfInBounds j true).getD k true = false →
          (∀ e ∈ ok.after, Region.binds md e = true → e.on ≠ i) → oi'.apart ops ok = true := fun k ok hk hki hun hno => by
        refine hfree k ok hk hki ?_ hno
        by_cases hjk : j = k
        · subst hjk; exact hjun
        · rw [getD_set_ne true hjk] at hun; exact hun
      exact lStep_mono hX (fun a' Y hY h3 => ih (listed.setIfInBounds j true) a' _ hY (hset _ _ inv hj hjn) hfree' (ready_mono hr (Ne.symm hji)) h3) H3
theorem anyX_lexI {Inv : Array Bool → Prop} {fin : Array Bool → Bool} {n : Nat} {Lq : Act → Tags → Prop} (hLp : ∀ a X X', X.Perm X' → Lq a X → Lq a X') (hd : depsB md ops Rs = true) (hsel : Region.noSelect ops = true) (hfin : ∀ listed, fin listed = true → ∀ j ∈ Region.ready md ops listed, n ≤ j)
    (hset : ∀ listed i, Inv listed → i ∈ Region.ready md ops listed → i < n → Inv (listed.setIfInBounds i true)) (hwait : ∀ listed, Inv listed → ∀ i, i < n → listed.getD i true = false → ∀ t, n ≤ t → t ∉ Region.ready md ops listed) :
    ∀ (l : List Oper) (k : Nat) (listed : Array Bool) (a : Act) (X : Tags), Real w0 H X → (∀ j, j < l.length → l[j]? = ops[k + j]?) → k + l.length = n → Inv listed →
    lexHd md ops fin l.length k listed = true → wpL P ops w0 H Rs Lq l k a X →
    anyX P md ops w0 H Rs n (fun listed' a' X' => fin listed' = true ∧ Lq a' X') l.length listed a X
  | [], k, listed, a, X, _, _, hk, _, hB, h => by
    have : k = n := by simpa using hk
    subst this
    exact ⟨by simpa [lexHd] using hB, h⟩
  | o :: l, k, listed, a, X, hX, hl, hk, inv, hB, h => by
    have h0 : ops[k]? = some o := by simpa using (hl 0 (by simp)).symm
    simp only [List.length_cons, lexHd, Bool.and_eq_true] at hB
    obtain ⟨⟨hr, hf⟩, hB'⟩ := hB
    have hkn : k < n := by simp only [List.length_cons] at hk; omega
    have hr' : k ∈ Region.ready md ops listed := by simpa using hr
    refine anyX_firstI (fun l a X X' hp hh => ⟨hh.1, hLp a X X' hp hh.2⟩) hd h0 (Region.noSelect_spec hsel) hset hwait hkn (fun listed' a' X' hL => hfin _ hL.1) l.length listed a X hX inv (Region.free_spec h0 hf) hr' ?_
    refine lStep_mono hX (fun a' Y hY hk' => ?_) h
    exact anyX_lexI hLp hd hsel hfin hset hwait l (k + 1) _ a' _ hY (fun j hj => by have := hl (j + 1) (by simp; omega); simpa [Nat.add_assoc, Nat.add_comm 1 j] using this) (by simp only [List.length_cons] at hk; omega) (hset _ _ inv hr' hkn) hB' hk'

structure HeadF (md : Region.Mode) (ops : Array Oper) (n : Nat) (T : List Nat) (listed : Array Bool) : Prop where
  size : listed.size = ops.size
  closed : ∀ j oj, ops[j]? = some oj → listed.getD j false = true → ∀ e ∈ oj.after, Region.binds md e = true → listed.getD e.on false = true
  tail : ∀ t ∈ T, listed.getD t true = false
  rest : ∀ t, n ≤ t → t < ops.size → t ∉ T → listed.getD t true = true
theorem HeadF.set {n i : Nat} {T : List Nat} {listed : Array Bool} (inv : HeadF md ops n T listed) (hT : ∀ t ∈ T, n ≤ t) (hi : i ∈ Region.ready md ops listed) (hin : i < n) : HeadF md ops n T (listed.setIfInBounds i true) := by
  obtain ⟨_, oi, hoi, hall⟩ := mem_ready.1 hi
  refine ⟨by simp [inv.size], fun j oj hj hl e he hb => ?_, fun t ht => by rw [getD_set_ne true (by have := hT t ht; omega)]; exact inv.tail t ht, fun t h1 h2 h3 => by rw [getD_set_ne true (by omega)]; exact inv.rest t h1 h2 h3⟩
  by_cases hij : i = j
  · subst hij
    have : oj = oi := Option.some.inj (hj.symm.trans hoi)
    subst this
    exact getD_set_true (hall e he hb)
  · rw [getD_set_ne false hij] at hl
    exact getD_set_true (inv.closed j oj hj hl e he hb)
def sinkT (md : Region.Mode) (ops : Array Oper) (n t0 : Nat) : Bool :=
  (List.range n).all fun i => Region.waitsFor md ops t0 i || (List.range n).any fun j => decide (i < j) && Region.waitsFor md ops j i
def chainT (md : Region.Mode) (ops : Array Oper) : List Nat → Bool
  | t :: t' :: r => Region.waitsFor md ops t' t && chainT md ops (t' :: r)
  | _ => true
theorem chainT_spec : ∀ {T : List Nat} {t0 : Nat}, chainT md ops (t0 :: T) = true → ∀ t ∈ T, ∃ t' ∈ t0 :: T, Region.waitsFor md ops t t' = true
  | t1 :: r, t0, h, t, ht => by
    simp only [chainT, Bool.and_eq_true] at h
    rcases List.mem_cons.1 ht with rfl | ht
    · exact ⟨t0, List.mem_cons_self, h.1⟩
    · obtain ⟨t', h1, h2⟩ := chainT_spec h.2 t ht
      exact ⟨t', List.mem_cons_of_mem _ h1, h2⟩
  | [], _, _, _, ht => by cases ht
theorem tailF_waits {n t0 : Nat} {T : List Nat} {listed : Array Bool} (hs : sinkT md ops n t0 = true) (hc : chainT md ops (t0 :: T) = true) (hn : n ≤ ops.size) (inv : HeadF md ops n (t0 :: T) listed) :
    ∀ (d i : Nat), n - i = d → i < n → listed.getD i true = false → ∀ t, n ≤ t → t ∉ Region.ready md ops listed := by
  intro d
  induction d using Nat.strongRecOn with
  | _ d ih =>
    intro i hd hi hun t ht hr
    obtain ⟨htu, ot, hot, hall⟩ := mem_ready.1 hr
    have htlt : t < ops.size := (Array.getElem?_eq_some_iff.1 hot).1
    by_cases hmem : t ∈ t0 :: T
    · by_cases htn : t = t0
      · subst htn
        have h1 := List.all_eq_true.1 hs i (List.mem_range.2 hi)
        simp only [Bool.or_eq_true] at h1
        rcases h1 with h1 | h1
        · obtain ⟨o', ho', e, he, hb, hon⟩ := Region.waitsFor_spec h1
          have : o' = ot := Option.some.inj (ho'.symm.trans hot)
          subst this
          have h2 := hall e he hb
          rw [hon, getD_both hun] at h2
          cases h2
        · obtain ⟨j, hj, hj2⟩ := List.any_eq_true.1 h1
          simp only [Bool.and_eq_true, decide_eq_true_eq] at hj2
          obtain ⟨oj, hoj, e, he, hb, hon⟩ := Region.waitsFor_spec hj2.2
          have hjn := List.mem_range.1 hj
          cases hl : listed.getD j false with
          | true =>
            have h2 := inv.closed j oj hoj hl e he hb
            rw [hon, getD_both hun] at h2
            cases h2
          | false =>
            have hjs : j < listed.size := by rw [inv.size]; omega
            exact ih (n - j) (by omega) j rfl hjn (getD_in hjs hl) t ht hr
      · have hm : t ∈ T := by
          rcases List.mem_cons.1 hmem with h | h
          · exact absurd h htn
          · exact h
        obtain ⟨t', h1, h2⟩ := chainT_spec hc t hm
        obtain ⟨o', ho', e, he, hb, hon⟩ := Region.waitsFor_spec h2
        have : o' = ot := Option.some.inj (ho'.symm.trans hot)
        subst this
        have h3 := hall e he hb
        rw [hon, getD_both (inv.tail t' h1)] at h3
        cases h3
    · rw [inv.rest t ht htlt hmem] at htu
      cases htu
theorem wpAnyIn_of_seqT {F : Fence} {m : Nat} {Q' : Exit → Act → World → Prop} : ∀ (T : List Nat) (listed : Array Bool) (a : Act) (w : World) (l : List Oper), T.map (ops[·]?) = l.map some →
    seqT md ops T listed = true → wpListIn F m P ops Q' l a w → wpAnyIn F m P md ops Q' T.length listed a w
  | [], _, _, _, l, hl, hB, h => by
    have : l = [] := by cases l <;> simp_all
    subst this
    exact ⟨by simpa [seqT] using hB, h⟩
  | t :: T, listed, a, w, l, hl, hB, h => by
    cases l with
    | nil => simp at hl
    | cons o l =>
      simp only [List.map_cons, List.cons.injEq] at hl
      simp only [seqT, Bool.and_eq_true, decide_eq_true_eq] at hB
      refine ⟨fun h1 => (by rw [hB.1] at h1; cases h1), fun i hi => ?_⟩
      rw [hB.1] at hi
      have hik : i = t := by simpa using hi
      subst hik
      have hw : wpOpIn F m P ops Q' i (wpListIn F m P ops Q' l) a w := by unfold wpOpIn; simp only [hl.1]; exact h
      exact wpOpIn_mono (fun a' w' h' => wpAnyIn_of_seqT T _ a' w' l hl.2 hB.2 h') hw
/-- what the region must be like: n operations that come in any order, 'T' behind them, one behind the other; the others have been taken -/
def lexFB (md : Region.Mode) (ops : Array Oper) (n : Nat) (T : List Nat) (listed : Array Bool) : Bool :=
  Region.noSelect ops && Nat.ble n ops.size && (T.all fun t => Nat.ble n t) && (match T with
    | t0 :: _ => sinkT md ops n t0 && chainT md ops T
    | [] => false) && lexHd md ops (seqT md ops T) n 0 listed && Nat.beq listed.size ops.size && ((List.range ops.size).all fun t => Nat.blt t n || T.contains t || listed.getD t true) && (T.all fun t => !listed.getD t true) &&
    ((List.range ops.size).all fun j => !listed.getD j false || match ops[j]? with
      | some oj => oj.after.all fun e => !Region.binds md e || listed.getD e.on false
      | none => true)
theorem wpAny_float {r : Option Nat} {Q : Exit → Act → World → Prop} {a : Act} {w : World} (n : Nat) (T : List Nat) (l : List Oper) (listed : Array Bool) (hl : T.map (ops[·]?) = l.map some) (hB : lexFB md ops n T listed = true) (hd : depsB md ops Rs = true) (hw : KH w0 H w)
    (h : wpL P ops w0 H Rs (fun a' X => ∀ w', KH w0 (flat X ++ H) w' → wpListIn (fen r) 0 P ops Q l a' w') (ops.toList.take n) 0 a []) : wpAnyIn (fen r) 0 P md ops Q (n + T.length) listed a w := by
  simp only [lexFB, Bool.and_eq_true] at hB
  obtain ⟨⟨⟨⟨⟨⟨⟨⟨hsel, hn⟩, hTn⟩, hst⟩, hlex⟩, hsz⟩, hrest⟩, htail⟩, hcl⟩ := hB
  have hn' := Nat.le_of_ble_eq_true hn
  have hT : ∀ t ∈ T, n ≤ t := fun t ht => Nat.le_of_ble_eq_true (List.all_eq_true.1 hTn t ht)
  cases T with
  | nil => cases hst
  | cons t0 T =>
    simp only [Bool.and_eq_true] at hst
    have inv0 : HeadF md ops n (t0 :: T) listed := by
      refine ⟨Nat.eq_of_beq_eq_true hsz, fun j oj hj hlj e he hb => ?_, fun t ht => ?_, fun t h1 h2 h3 => ?_⟩
      · have hjlt := (Array.getElem?_eq_some_iff.1 hj).1
        have h1 := List.all_eq_true.1 hcl j (List.mem_range.2 hjlt)
        rw [hj, hlj] at h1
        simp only [Bool.not_true, Bool.false_or] at h1
        have h2 := Array.all_eq_true'.1 h1 e he
        rw [hb] at h2
        simpa using h2
      · have := List.all_eq_true.1 htail t ht
        simpa using this
      · have h4 := List.all_eq_true.1 hrest t (List.mem_range.2 h2)
        simp only [Bool.or_eq_true] at h4
        rcases h4 with (h4 | h4) | h4
        · rw [Nat.blt_eq] at h4; omega
        · exact absurd (by simpa using h4) h3
        · exact h4
    have hfin : ∀ listed, seqT md ops (t0 :: T) listed = true → ∀ j ∈ Region.ready md ops listed, n ≤ j := fun listed hs j hj => by
      simp only [seqT, Bool.and_eq_true, decide_eq_true_eq] at hs
      rw [hs.1] at hj
      have : j = t0 := by simpa using hj
      subst this
      exact hT j List.mem_cons_self
    have hwait : ∀ listed, HeadF md ops n (t0 :: T) listed → ∀ i, i < n → listed.getD i true = false → ∀ t, n ≤ t → t ∉ Region.ready md ops listed := fun listed inv i hi hun t ht => tailF_waits hst.1 hst.2 hn' inv _ i rfl hi hun t ht
    have htl : (ops.toList.take n).length = n := by simp; omega
    have H1 := anyX_lexI (md := md) (Inv := HeadF md ops n (t0 :: T)) (fin := seqT md ops (t0 :: T)) (n := n) (fun a X X' hp hq w' hw' => hq w' (hw'.perm (List.Perm.append_right _ (flat_perm hp.symm)))) hd hsel hfin (fun _ _ inv hi hin => inv.set hT hi hin) hwait (ops.toList.take n) 0 listed a [] ⟨_, hw⟩ (fun j hj => by
      have hj' : j < n := by rw [htl] at hj; exact hj
      simp [hj']) (by simpa using htl) inv0 (by rw [htl]; exact hlex) h
    rw [htl] at H1
    exact wpAny_of_anyX (r := r) (Q' := Q) (g := (t0 :: T).length) (fun listed a' X w' hw' hL => wpAnyIn_of_seqT (t0 :: T) listed a' w' l hl hL.1 (hL.2 w' hw')) _ _ _ _ _ hw H1
end

/-- operations that hang loose: what they give, whatever lies in memory -/
def looseOp : Op → Bool
  | .move _ => true
  | .fieldAddr _ _ _ => true
  | .nilCheck _ => true
  | _ => false
def floats (L : List TyD) (sz : Nat) (ops : Array Oper) : List Nat → Fr → Option Fr
  | [], fr => some fr
  | i :: r, fr => match ops[i]? with
    | some o => match o.guard, o.dst with
      | none, some d => match looseOp o.op with
        | true => match evalOp true L fr o.op with
          | some (v, _) => match Nat.blt d sz with
            | true => floats L sz ops r ((d, v) :: fr)
            | false => none
          | none => none
        | false => none
      | _, _ => none
    | none => none
theorem loose_true {wr : Bool} {L : List TyD} {fr : Fr} {op : Op} {v : Value} {p : Prop} (ho : looseOp op = true) (h : evalOp wr L fr op = some (v, p)) : p := by
  cases op <;> simp only [looseOp, Bool.false_eq_true] at ho
  · simp only [evalOp] at h; split at h <;> cases h; trivial
  · simp only [evalOp] at h; split at h <;> cases h; trivial
  · simp only [evalOp] at h
    repeat' split at h
    all_goals first | (cases h; done) | (cases h; trivial)
theorem loose_about {P : Program} {o : Oper} (ho : looseOp o.op = true) (w : World) (ρ : Operand → Value) : o.about P w ρ = none := by
  unfold Oper.about
  cases h : o.op <;> simp only [h, looseOp, Bool.false_eq_true] at ho <;> rfl
theorem loose_all {P : Program} {L : List TyD} (hL : TyOk P L) {N : Cx} {fr : Fr} {a : Act} (ha : Knows N fr a) {o : Oper} {v : Value} {p : Prop} (ho : looseOp o.op = true) (h : evalOp true L fr o.op = some (v, p)) (w : World) : (execOp a.eval o).run P w = .ok (.value v) w := by
  have hp := loose_true ho h
  exact evalOp_ok (N := N) (w0 := w) (H := []) hL h hp a w ha ⟨Below.refl _ _, .nil, fun _ h => by cases h⟩
def PutInv (Q : Exit → Act → World → Prop) : Prop := ∀ c a d v w, Q (.panic c) (a.put d v) w → Q (.panic c) a w
theorem putInv_body {P : Program} {fn : Func} {R : Ending → World → Prop} : PutInv (bodyPost P fn R) := fun _ _ d _ _ h => by cases d <;> exact h
theorem putInv_sem {P : Program} {r : Option Nat} {Q : Exit → Act → World → Prop} (hQ : PutInv Q) : ∀ k : List Kont, PutInv (sem P r Q k)
  | [] => hQ
  | .code _ :: k => fun c a d v w h => putInv_sem hQ k c a d v w h
  | .ops _ _ :: k => fun c a d v w h => putInv_sem hQ k c a d v w h
  | .qops _ _ _ _ :: k => fun c a d v w h => putInv_sem hQ k c a d v w h
  | .lops _ _ _ _ _ _ _ _ :: k => fun c a d v w h => putInv_sem hQ k c a d v w h
  | .blk _ :: k => fun c a d v w h => putInv_sem hQ k c a d v w h
  | .stop _ :: k => fun c a d v w h => putInv_sem hQ k c a d v w h
def takeB (md : Region.Mode) (ops : Array Oper) : List Nat → Array Bool → Bool
  | [], _ => true
  | i :: r, listed => Region.free md ops listed i && (Region.ready md ops listed).contains i && takeB md ops r (listed.setIfInBounds i true)
def takeL : List Nat → Array Bool → Array Bool
  | [], listed => listed
  | i :: r, listed => takeL r (listed.setIfInBounds i true)
theorem floats_take {P : Program} {L : List TyD} (hL : TyOk P L) {N : Cx} {ops : Array Oper} {md : Region.Mode} {Q' : Exit → Act → World → Prop} (hN : N.round = none) (hQ : PutInv Q') (hs : Region.noSelect ops = true) {w : World} {g : Nat} :
    ∀ (Fl : List Nat) (fr fr' : Fr) (listed : Array Bool) (a : Act), Knows N fr a → floats L N.size ops Fl fr = some fr' → takeB md ops Fl listed = true → (∀ a', Knows N fr' a' → wpAnyIn (fen N.round) 0 P md ops Q' g (takeL Fl listed) a' w) → wpAnyIn (fen N.round) 0 P md ops Q' (Fl.length + g) listed a w := by
  intro Fl
  induction Fl with
  | nil => intro fr fr' listed a ha hf _ h; cases hf; rw [List.length_nil, Nat.zero_add]; exact h a ha
  | cons i r ih =>
    intro fr fr' listed a ha hf ht h
    simp only [floats] at hf
    split at hf
    · rename_i o ho
      split at hf
      · rename_i d hg hd
        split at hf
        · rename_i hlo
          split at hf
          · rename_i v p he
            split at hf
            · rename_i hdlt
              simp only [takeB, Bool.and_eq_true] at ht
              rw [List.length_cons, show r.length + 1 + g = (r.length + g) + 1 by omega]
              refine wpAnyIn_take (oi := o) (v := v) hN ho hs ht.1.1 ht.1.2 (fun c a w => hQ c a o.dst v w) ⟨.inl ⟨by simp [Region.wanted, hg], fun w => loose_all hL ha hlo he w⟩, fun w => loose_about hlo w _⟩ ?_
              rw [hd]
              exact ih _ fr' _ _ (ha.put hdlt) hf ht.2 h
            · cases hf
          · cases hf
        · cases hf
      · cases hf
    · cases hf
section
variable {P : Program} {Q : Exit → Act → World → Prop} {N : Cx} {w0 : World} {k k' : List Kont} {fr : Fr} {H : Heap} {L : List TyD}
theorem WP.drawF {id : Nat} {ops : Array Oper} (hL : TyOk P L) (n : Nat) (Fl T : List Nat) (Rs : Specs) {fr' : Fr} {l : List Oper} (hQ : PutInv Q) (hN : N.round = none) (hn : norm 1000 k = .code (.region id ops true) :: k') (hm : P.follows .mixedOrders = true) (hs : Region.noSelect ops = true)
    (hf : floats L N.size ops Fl fr = some fr') (hlt : Nat.beq (Fl.length + (n + T.length)) ops.size = true) (ht : takeB .any ops Fl (Array.replicate ops.size false) = true) (hl : T.map (ops[·]?) = l.map some) (hB : lexFB .any ops n T (takeL Fl (Array.replicate ops.size false)) = true) (hD : depsB .any ops Rs = true)
    (h : WP P Q N w0 (.lops w0 H Rs ops (ops.toList.take n) l 0 [] :: k') fr' H) : WP P Q N w0 k fr H := by
  refine WP.to hn fun a w ha hw => ?_
  refine wpIn_region_any hm ?_
  have e := Nat.eq_of_beq_eq_true hlt
  have := floats_take (P := P) (md := .any) (Q' := sem P N.round Q k') (w := { w with drawn := w.drawn + 1 }) (g := n + T.length) hL hN (putInv_sem hQ k') hs Fl fr fr' (Array.replicate ops.size false) a ha hf ht fun a' ha' =>
    wpAny_float n T l _ hl hB hD hw.drew (h a' _ ha' hw.drew).2
  rwa [e] at this
end
end Go.Qe
