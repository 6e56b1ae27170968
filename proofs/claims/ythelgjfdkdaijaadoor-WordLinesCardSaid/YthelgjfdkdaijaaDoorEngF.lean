/- Statements that draw their order, some of whose operations hang loose behind those that write: taken first. -/
import Derived.Test.YthelgjfdkdaijaaDoorEng8
namespace Go.Qe
open Go.RowKit

section
variable {P : Program} {ops : Array Oper} {md : Region.Mode} {w0 : World} {H : Heap} {Rs : Specs}
def seqT (md : Region.Mode) (ops : Array Oper) : List Nat → Array Bool → Bool
  | [], listed => (Region.ready md ops listed).isEmpty
  | t :: r, listed => decide (Region.ready md ops listed = [t]) && seqT md ops r (listed.setIfInBounds t true)
def anyK (P : Program) (md : Region.Mode) (ops : Array Oper) (w0 : World) (H : Heap) (Rs : Specs) (hs : List Nat) (Lf : Array Bool → Act → Tags → Prop) : Nat → Array Bool → Act → Tags → Prop
  | 0, listed, a, X => Lf listed a X
  | f + 1, listed, a, X => Region.ready md ops listed ≠ [] ∧ ∀ i ∈ Region.ready md ops listed, i ∈ hs ∧ ∀ o, ops[i]? = some o → lStep P ops w0 H Rs (hs.idxOf i) o (anyK P md ops w0 H Rs hs Lf f (listed.setIfInBounds i true)) a X
theorem anyK_perm {hs : List Nat} {Lf : Array Bool → Act → Tags → Prop} (hL : ∀ l a X X', X.Perm X' → Lf l a X → Lf l a X') : ∀ (f : Nat) (listed : Array Bool) (a : Act) (X X' : Tags), X.Perm X' →
    anyK P md ops w0 H Rs hs Lf f listed a X → anyK P md ops w0 H Rs hs Lf f listed a X'
  | 0, _, _, _, _, hp, h => hL _ _ _ _ hp h
  | f + 1, listed, a, X, X', hp, h => ⟨h.1, fun i hi => ⟨(h.2 i hi).1, fun o ho => lStep_perm hp (fun a' Y Y' hp' => anyK_perm hL f _ a' _ _ hp') ((h.2 i hi).2 o ho)⟩⟩
/-- each operation waits for those whose memory it looks at; operations are told by their place in the list of heads -/
def depsK (md : Region.Mode) (ops : Array Oper) (hs : List Nat) (Rs : Specs) : Bool := Rs.all fun r => match hs[r.1]? with
  | some j => r.2.1.all fun d => match hs[d]? with
    | some i => Region.waitsFor md ops j i
    | none => false
  | none => false
theorem idx_get {hs : List Nat} {i : Nat} (h : i ∈ hs) : hs[hs.idxOf i]? = some i := by
  have := List.idxOf_lt_length_of_mem h
  rw [List.getElem?_eq_getElem this, List.getElem_idxOf]
theorem depsK_no {hs : List Nat} (hd : depsK md ops hs Rs = true) {j i : Nat} {oj : Oper} (hj : ops[j]? = some oj) (hjm : j ∈ hs) (him : i ∈ hs) (hno : ∀ e ∈ oj.after, Region.binds md e = true → e.on ≠ i) {D : List Nat} {R : List Value → Spec} (hR : specAt Rs (hs.idxOf j) = some (D, R)) : natIn (hs.idxOf i) D = false := by
  cases hb : natIn (hs.idxOf i) D with
  | false => rfl
  | true =>
    have h1 := List.all_eq_true.1 hd _ (specAt_mem hR)
    dsimp only at h1
    rw [idx_get hjm] at h1
    have h2 := List.all_eq_true.1 h1 _ (natIn_mem hb)
    rw [idx_get him] at h2
    obtain ⟨o, ho, e, he, hb, hon⟩ := Region.waitsFor_spec h2
    have : o = oj := Option.some.inj (ho.symm.trans hj)
    subst this
    exact absurd hon (hno e he hb)
theorem anyK_first {Inv : Array Bool → Prop} {hs : List Nat} {i : Nat} {oi : Oper} {Lf : Array Bool → Act → Tags → Prop} (hLp : ∀ l a X X', X.Perm X' → Lf l a X → Lf l a X') (hd : depsK md ops hs Rs = true) (hi : ops[i]? = some oi) (hsel : ∀ (j : Nat) (o : Oper) cs b, ops[j]? = some o → o.op ≠ .select cs b)
    (hset : ∀ listed i, Inv listed → i ∈ Region.ready md ops listed → i ∈ hs → Inv (listed.setIfInBounds i true)) (hwait : ∀ listed, Inv listed → ∀ i, i ∈ hs → listed.getD i true = false → ∀ t, t ∉ hs → t ∉ Region.ready md ops listed) (hin : i ∈ hs)
    (hdone : ∀ listed a X, Lf listed a X → ∀ j ∈ Region.ready md ops listed, j ∉ hs) :
    ∀ (f : Nat) (listed : Array Bool) (a : Act) (X : Tags), Real w0 H X → Inv listed →
      (∀ j oj, ops[j]? = some oj → j ≠ i → listed.getD j true = false → (∀ e ∈ oj.after, Region.binds md e = true → e.on ≠ i) → oi.apart ops oj = true) →
      i ∈ Region.ready md ops listed → lStep P ops w0 H Rs (hs.idxOf i) oi (anyK P md ops w0 H Rs hs Lf f (listed.setIfInBounds i true)) a X → anyK P md ops w0 H Rs hs Lf (f + 1) listed a X := by
  intro f
  induction f with
  | zero =>
    intro listed a X hX inv _ hr HH
    have hun := (mem_ready.1 hr).1
    refine ⟨fun h => (by rw [h] at hr; cases hr), fun j hj => ?_⟩
    have hjn : j ∈ hs := by
      by_cases h : j ∈ hs
      · exact h
      · exact absurd hj (hwait _ inv i hin hun j h)
    refine ⟨hjn, fun o ho => ?_⟩
    by_cases hji : j = i
    · subst hji
      have : o = oi := Option.some.inj (ho.symm.trans hi)
      subst this
      exact HH
    · obtain ⟨v, Y, _, _, hk⟩ := lStep_some hX HH
      exact absurd hjn (hdone _ _ _ hk j (ready_mono hj hji))
  | succ f ih =>
    intro listed a X hX inv hfree hr HH
    have hun := (mem_ready.1 hr).1
    refine ⟨fun h => (by rw [h] at hr; cases hr), fun j hj => ?_⟩
    have hjn : j ∈ hs := by
      by_cases h : j ∈ hs
      · exact h
      · exact absurd hj (hwait _ inv i hin hun j h)
    refine ⟨hjn, fun o ho => ?_⟩
    by_cases hji : j = i
    · subst hji
      have : o = oi := Option.some.inj (ho.symm.trans hi)
      subst this
      exact HH
    · obtain ⟨hjun, oj, hoj, hall⟩ := mem_ready.1 hj
      have : o = oj := Option.some.inj (ho.symm.trans hoj)
      subst this
      have hnot : ∀ e ∈ o.after, Region.binds md e = true → e.on ≠ i := fun e he hb heq => by
        have h1 := hall e he hb
        rw [heq, getD_both hun] at h1
        cases h1
      obtain ⟨_, oi', hoi', hall'⟩ := mem_ready.1 hr
      have : oi' = oi := Option.some.inj (hoi'.symm.trans hi)
      subst this
      have hnot' : ∀ e ∈ oi'.after, Region.binds md e = true → e.on ≠ j := fun e he hb heq => by
        have h1 := hall' e he hb
        rw [heq, getD_both hjun] at h1
        cases h1
      have hap := hfree j o hoj hji hjun hnot
      have H2 : lStep P ops w0 H Rs (hs.idxOf i) oi' (lStep P ops w0 H Rs (hs.idxOf j) o (anyK P md ops w0 H Rs hs Lf f ((listed.setIfInBounds i true).setIfInBounds j true))) a X :=
        lStep_mono hX (fun a' Y _ hk => (hk.2 j (ready_mono hj hji)).2 o hoj) HH
      have H3 := lStep_comm (K' := anyK P md ops w0 H Rs hs Lf f ((listed.setIfInBounds j true).setIfInBounds i true)) hap (fun cs b => hsel i oi' cs b hi) (fun cs b => hsel j o cs b hoj)
        (fun D R hR => depsK_no hd hoj hjn hin hnot hR) (fun D R hR => depsK_no hd hi hin hjn hnot' hR)
        (fun a' Y Y' hp hk => by
          rw [Array.setIfInBounds_comm _ _ hji]
          exact anyK_perm hLp f _ a' Y Y' hp hk) hX H2
      have hfree' : ∀ k ok, ops[k]? = some ok → k ≠ i → (listed.setIfInBounds j true).getD k true = false →
          (∀ e ∈ ok.after, Region.binds md e = true → e.on ≠ i) → oi'.apart ops ok = true := fun k ok hk hki hun hno => by
        refine hfree k ok hk hki ?_ hno
        by_cases hjk : j = k
        · subst hjk; exact hjun
        · rw [getD_set_ne true hjk] at hun; exact hun
      exact lStep_mono hX (fun a' Y hY h3 => ih (listed.setIfInBounds j true) a' _ hY (hset _ _ inv hj hjn) hfree' (ready_mono hr (Ne.symm hji)) h3) H3
theorem wpOp_of_lStepK {r : Option Nat} {w : World} {X : Tags} {i key : Nat} {o : Oper} {a : Act} {K : Act → Tags → Prop} {K' : Act → World → Prop} {Q' : Exit → Act → World → Prop} (ho : ops[i]? = some o) (hw : KH w0 (flat X ++ H) w)
    (h : ∀ a Y w', KH w0 (flat Y ++ H) w' → K a Y → K' a w') (hh : lStep P ops w0 H Rs key o K a X) : wpOpIn (fen r) 0 P ops Q' i K' a w := by
  unfold wpOpIn
  unfold lStep at hh
  simp only [ho]
  split
  · rename_i hwt
    rw [if_pos hwt] at hh
    cases hR : specAt Rs key with
    | some x =>
      obtain ⟨D, R⟩ := x
      rw [hR] at hh
      have hm := hh.1 w (hw.sublist (List.Sublist.append (sel_sub D X) (List.Sublist.refl H)))
      have key : ∀ L w', Ret w w' L → KH w0 (flat ((key, L) :: X) ++ H) w' := fun L w' hr => by simp only [flat, List.append_assoc]; exact hw.ret hr
      unfold makes at hm
      generalize hr : (execOp a.eval o).run P w = x at hm
      cases x with
      | halt x w' => exact hm.elim
      | ok n w' =>
        cases n <;> first | exact hm.elim | skip
        · obtain ⟨L, hR', hret⟩ := hm
          exact wpIn_value hr (h _ _ _ (key L _ hret) (hh.2 _ L hR' ⟨_, key L _ hret⟩))
        · obtain ⟨rfl, hc⟩ := hm
          refine wpIn_enter hr (hc.mono fun e w'' hr => ?_)
          obtain ⟨v, L, he, hr, hret⟩ := hr
          exact ⟨v, he, h _ _ _ (key L _ hret) (hh.2 _ L hr ⟨_, key L _ hret⟩)⟩
    | none =>
      rw [hR] at hh
      obtain ⟨v, h1, h2⟩ := hh
      exact wpIn_value (h1 w hw.last) (h _ _ _ hw h2)
  · rename_i hwt
    rw [if_neg hwt] at hh
    exact ⟨fun _ _ => trivial, h _ _ _ hw hh⟩
theorem wpAny_of_anyK {r : Option Nat} {hs : List Nat} {g : Nat} {Lf : Array Bool → Act → Tags → Prop} {Q' : Exit → Act → World → Prop}
    (hL : ∀ listed a X w, KH w0 (flat X ++ H) w → Lf listed a X → wpAnyIn (fen r) 0 P md ops Q' g listed a w) :
    ∀ (f : Nat) (listed : Array Bool) (a : Act) (X : Tags) (w : World), KH w0 (flat X ++ H) w → anyK P md ops w0 H Rs hs Lf f listed a X → wpAnyIn (fen r) 0 P md ops Q' (f + g) listed a w
  | 0, listed, a, X, w, hw, h => by rw [Nat.zero_add]; exact hL _ _ _ _ hw h
  | f + 1, listed, a, X, w, hw, h => by
    rw [show f + 1 + g = (f + g) + 1 by omega]
    refine ⟨fun h0 => absurd h0 h.1, fun i hi => ?_⟩
    obtain ⟨_, oi, hoi, _⟩ := mem_ready.1 hi
    exact wpOp_of_lStepK hoi hw (fun a' Y w' hw' hk => wpAny_of_anyK hL f _ a' _ w' hw' hk) ((h.2 i hi).2 oi hoi)
def lexHdK (md : Region.Mode) (ops : Array Oper) (fin : Array Bool → Bool) : List Nat → Array Bool → Bool
  | [], listed => fin listed
  | k :: r, listed => (Region.ready md ops listed).contains k && Region.free md ops listed k && lexHdK md ops fin r (listed.setIfInBounds k true)
theorem anyK_lex {Inv : Array Bool → Prop} {fin : Array Bool → Bool} {hs : List Nat} {Lq : Act → Tags → Prop} (hnd : hs.Nodup) (hLp : ∀ a X X', X.Perm X' → Lq a X → Lq a X') (hd : depsK md ops hs Rs = true) (hsel : Region.noSelect ops = true) (hfin : ∀ listed, fin listed = true → ∀ j ∈ Region.ready md ops listed, j ∉ hs)
    (hset : ∀ listed i, Inv listed → i ∈ Region.ready md ops listed → i ∈ hs → Inv (listed.setIfInBounds i true)) (hwait : ∀ listed, Inv listed → ∀ i, i ∈ hs → listed.getD i true = false → ∀ t, t ∉ hs → t ∉ Region.ready md ops listed) :
    ∀ (l pre : List Nat) (lo : List Oper) (listed : Array Bool) (a : Act) (X : Tags), Real w0 H X → hs = pre ++ l → l.map (ops[·]?) = lo.map some → Inv listed →
    lexHdK md ops fin l listed = true → wpL P ops w0 H Rs Lq lo pre.length a X →
    anyK P md ops w0 H Rs hs (fun listed' a' X' => fin listed' = true ∧ Lq a' X') l.length listed a X
  | [], pre, lo, listed, a, X, _, _, hl, _, hB, h => by
    have : lo = [] := by cases lo <;> simp_all
    subst this
    exact ⟨by simpa [lexHdK] using hB, h⟩
  | k :: l, pre, [], listed, a, X, _, _, hl, _, _, _ => by simp at hl
  | k :: l, pre, o :: lo, listed, a, X, hX, hpre, hl, inv, hB, h => by
    simp only [List.map_cons, List.cons.injEq] at hl
    have h0 : ops[k]? = some o := hl.1
    simp only [lexHdK, Bool.and_eq_true] at hB
    obtain ⟨⟨hr, hf⟩, hB'⟩ := hB
    have hkm : k ∈ hs := by rw [hpre]; simp
    have hr' : k ∈ Region.ready md ops listed := by simpa using hr
    have hidx : hs.idxOf k = pre.length := by
      have hnp : k ∉ pre := by
        rw [hpre] at hnd
        intro hk
        exact (List.nodup_append.1 hnd).2.2 k hk k List.mem_cons_self rfl
      rw [hpre, List.idxOf_append, if_neg hnp, List.idxOf_cons_self]
      omega
    refine anyK_first (fun l a X X' hp hh => ⟨hh.1, hLp a X X' hp hh.2⟩) hd h0 (Region.noSelect_spec hsel) hset hwait hkm (fun listed' a' X' hL => hfin _ hL.1) l.length listed a X hX inv (Region.free_spec h0 hf) hr' ?_
    rw [hidx]
    refine lStep_mono hX (fun a' Y hY hk' => ?_) h
    exact anyK_lex hnd hLp hd hsel hfin hset hwait l (pre ++ [k]) lo _ a' _ hY (by rw [hpre]; simp) hl.2 (hset _ _ inv hr' hkm) hB' (by simpa using hk')

structure HeadF (md : Region.Mode) (ops : Array Oper) (hs : List Nat) (T : List Nat) (listed : Array Bool) : Prop where
  size : listed.size = ops.size
  closed : ∀ j oj, ops[j]? = some oj → listed.getD j false = true → ∀ e ∈ oj.after, Region.binds md e = true → listed.getD e.on false = true
  tail : ∀ t ∈ T, listed.getD t true = false
  rest : ∀ t, t ∉ hs → t < ops.size → t ∉ T → listed.getD t true = true
theorem HeadF.set {i : Nat} {hs T : List Nat} {listed : Array Bool} (inv : HeadF md ops hs T listed) (hT : ∀ t ∈ T, t ∉ hs) (hi : i ∈ Region.ready md ops listed) (hin : i ∈ hs) : HeadF md ops hs T (listed.setIfInBounds i true) := by
  obtain ⟨_, oi, hoi, hall⟩ := mem_ready.1 hi
  refine ⟨by simp [inv.size], fun j oj hj hl e he hb => ?_, fun t ht => by
    have hne : i ≠ t := by intro e; subst e; exact hT i ht hin
    rw [getD_set_ne true hne]; exact inv.tail t ht, fun t h1 h2 h3 => by
    have hne : i ≠ t := by intro e; subst e; exact h1 hin
    rw [getD_set_ne true hne]; exact inv.rest t h1 h2 h3⟩
  by_cases hij : i = j
  · subst hij
    have : oj = oi := Option.some.inj (hj.symm.trans hoi)
    subst this
    exact getD_set_true (hall e he hb)
  · rw [getD_set_ne false hij] at hl
    exact getD_set_true (inv.closed j oj hj hl e he hb)
def sinkK (md : Region.Mode) (ops : Array Oper) (t0 : Nat) : List Nat → Bool
  | [] => true
  | i :: r => (Region.waitsFor md ops t0 i || r.any fun j => Region.waitsFor md ops j i) && sinkK md ops t0 r
def chainT (md : Region.Mode) (ops : Array Oper) : List Nat → Bool
  | t :: t' :: r => Region.waitsFor md ops t' t && chainT md ops (t' :: r)
  | _ => true
theorem chainT_spec : ∀ {T : List Nat} {t0 : Nat}, chainT md ops (t0 :: T) = true → ∀ t ∈ T, ∃ t' ∈ t0 :: T, Region.waitsFor md ops t t' = true
  | t1 :: r, t0, h, t, ht => by
    simp only [chainT, Bool.and_eq_true] at h
    rcases List.mem_cons.1 ht with rfl | ht
    · exact ⟨t0, List.mem_cons_self, h.1⟩
    · obtain ⟨t', h1, h2⟩ := chainT_spec h.2 t ht
      exact ⟨t', List.mem_cons_of_mem _ h1, h2⟩
  | [], _, _, _, ht => by cases ht
theorem wait_no {listed : Array Bool} {t i : Nat} (hr : t ∈ Region.ready md ops listed) (hw : Region.waitsFor md ops t i = true) (hun : listed.getD i true = false) : False := by
  obtain ⟨_, ot, hot, hall⟩ := mem_ready.1 hr
  obtain ⟨o', ho', e, he, hb, hon⟩ := Region.waitsFor_spec hw
  have : o' = ot := Option.some.inj (ho'.symm.trans hot)
  subst this
  have h2 := hall e he hb
  rw [hon, getD_both hun] at h2
  cases h2
theorem sinkK_no {t0 : Nat} {listed : Array Bool} (hr : t0 ∈ Region.ready md ops listed) (hcl : ∀ j oj, ops[j]? = some oj → listed.getD j false = true → ∀ e ∈ oj.after, Region.binds md e = true → listed.getD e.on false = true) (hsz : listed.size = ops.size) :
    ∀ (l : List Nat), sinkK md ops t0 l = true → ∀ i ∈ l, listed.getD i true = false → False
  | [], _, _, h, _ => by cases h
  | k :: r, hs, i, hi, hun => by
    simp only [sinkK, Bool.and_eq_true, Bool.or_eq_true] at hs
    rcases List.mem_cons.1 hi with rfl | hi
    · rcases hs.1 with h1 | h1
      · exact wait_no hr h1 hun
      · obtain ⟨j, hj, hw⟩ := List.any_eq_true.1 h1
        obtain ⟨oj, hoj, e, he, hb, hon⟩ := Region.waitsFor_spec hw
        cases hl : listed.getD j false with
        | true =>
          have h2 := hcl j oj hoj hl e he hb
          rw [hon, getD_both hun] at h2
          cases h2
        | false => exact sinkK_no hr hcl hsz r hs.2 j hj (getD_in (by rw [hsz]; exact (Array.getElem?_eq_some_iff.1 hoj).1) hl)
    · exact sinkK_no hr hcl hsz r hs.2 i hi hun
theorem tailF_waits {t0 : Nat} {hs T : List Nat} {listed : Array Bool} (hsk : sinkK md ops t0 hs = true) (hc : chainT md ops (t0 :: T) = true) (inv : HeadF md ops hs (t0 :: T) listed) :
    ∀ i, i ∈ hs → listed.getD i true = false → ∀ t, t ∉ hs → t ∉ Region.ready md ops listed := by
  intro i hi hun t ht hr
  obtain ⟨htu, ot, hot, hall⟩ := mem_ready.1 hr
  have htlt : t < ops.size := (Array.getElem?_eq_some_iff.1 hot).1
  by_cases hmem : t ∈ t0 :: T
  · by_cases htn : t = t0
    · subst htn
      exact sinkK_no hr inv.closed inv.size hs hsk i hi hun
    · have hm : t ∈ T := by
        rcases List.mem_cons.1 hmem with h | h
        · exact absurd h htn
        · exact h
      obtain ⟨t', h1, h2⟩ := chainT_spec hc t hm
      exact wait_no hr h2 (inv.tail t' h1)
  · rw [inv.rest t ht htlt hmem] at htu
    cases htu
theorem wpAnyIn_of_seqT {F : Fence} {m : Nat} {Q' : Exit → Act → World → Prop} : ∀ (T : List Nat) (listed : Array Bool) (a : Act) (w : World) (l : List Oper), T.map (ops[·]?) = l.map some →
    seqT md ops T listed = true → wpListIn F m P ops Q' l a w → wpAnyIn F m P md ops Q' T.length listed a w
  | [], _, _, _, l, hl, hB, h => by
    have : l = [] := by cases l <;> simp_all
    subst this
    exact ⟨by simpa [seqT] using hB, h⟩
  | t :: T, listed, a, w, l, hl, hB, h => by
    cases l with
    | nil => simp at hl
    | cons o l =>
      simp only [List.map_cons, List.cons.injEq] at hl
      simp only [seqT, Bool.and_eq_true, decide_eq_true_eq] at hB
      refine ⟨fun h1 => (by rw [hB.1] at h1; cases h1), fun i hi => ?_⟩
      rw [hB.1] at hi
      have hik : i = t := by simpa using hi
      subst hik
      have hw : wpOpIn F m P ops Q' i (wpListIn F m P ops Q' l) a w := by unfold wpOpIn; simp only [hl.1]; exact h
      exact wpOpIn_mono (fun a' w' h' => wpAnyIn_of_seqT T _ a' w' l hl.2 hB.2 h') hw
/-- what the region must be like: heads that come in any order, 'T' behind them, one behind the other; the others have been taken -/
def lexFB (md : Region.Mode) (ops : Array Oper) (hs T : List Nat) (listed : Array Bool) : Bool :=
  Region.noSelect ops && (T.all fun t => !hs.contains t) && (match T with
    | t0 :: _ => sinkK md ops t0 hs && chainT md ops T
    | [] => false) && lexHdK md ops (seqT md ops T) hs listed && Nat.beq listed.size ops.size && ((List.range ops.size).all fun t => hs.contains t || T.contains t || listed.getD t true) && (T.all fun t => !listed.getD t true) &&
    ((List.range ops.size).all fun j => !listed.getD j false || match ops[j]? with
      | some oj => oj.after.all fun e => !Region.binds md e || listed.getD e.on false
      | none => true)
theorem wpAny_float {r : Option Nat} {Q : Exit → Act → World → Prop} {a : Act} {w : World} (hs T : List Nat) (lo l : List Oper) (listed : Array Bool) (hnd : hs.Nodup) (hlo : hs.map (ops[·]?) = lo.map some) (hl : T.map (ops[·]?) = l.map some) (hB : lexFB md ops hs T listed = true) (hd : depsK md ops hs Rs = true) (hw : KH w0 H w)
    (h : wpL P ops w0 H Rs (fun a' X => ∀ w', KH w0 (flat X ++ H) w' → wpListIn (fen r) 0 P ops Q l a' w') lo 0 a []) : wpAnyIn (fen r) 0 P md ops Q (hs.length + T.length) listed a w := by
  simp only [lexFB, Bool.and_eq_true] at hB
  obtain ⟨⟨⟨⟨⟨⟨⟨hsel, hTn⟩, hst⟩, hlex⟩, hsz⟩, hrest⟩, htail⟩, hcl⟩ := hB
  have hT : ∀ t ∈ T, t ∉ hs := fun t ht => by
    have := List.all_eq_true.1 hTn t ht
    simpa using this
  cases T with
  | nil => cases hst
  | cons t0 T =>
    simp only [Bool.and_eq_true] at hst
    have inv0 : HeadF md ops hs (t0 :: T) listed := by
      refine ⟨Nat.eq_of_beq_eq_true hsz, fun j oj hj hlj e he hb => ?_, fun t ht => ?_, fun t h1 h2 h3 => ?_⟩
      · have hjlt := (Array.getElem?_eq_some_iff.1 hj).1
        have h1 := List.all_eq_true.1 hcl j (List.mem_range.2 hjlt)
        rw [hj, hlj] at h1
        simp only [Bool.not_true, Bool.false_or] at h1
        have h2 := Array.all_eq_true'.1 h1 e he
        rw [hb] at h2
        simpa using h2
      · have := List.all_eq_true.1 htail t ht
        simpa using this
      · have h4 := List.all_eq_true.1 hrest t (List.mem_range.2 h2)
        simp only [Bool.or_eq_true] at h4
        rcases h4 with (h4 | h4) | h4
        · exact absurd (by simpa using h4) h1
        · exact absurd (by simpa using h4) h3
        · exact h4
    have hfin : ∀ listed, seqT md ops (t0 :: T) listed = true → ∀ j ∈ Region.ready md ops listed, j ∉ hs := fun listed hs j hj => by
      simp only [seqT, Bool.and_eq_true, decide_eq_true_eq] at hs
      rw [hs.1] at hj
      have : j = t0 := by simpa using hj
      subst this
      exact hT j List.mem_cons_self
    have H1 := anyK_lex (md := md) (Inv := HeadF md ops hs (t0 :: T)) (fin := seqT md ops (t0 :: T)) hnd (fun a X X' hp hq w' hw' => hq w' (hw'.perm (List.Perm.append_right _ (flat_perm hp.symm)))) hd hsel hfin (fun _ _ inv hi hin => inv.set hT hi hin) (fun listed inv => tailF_waits hst.1 hst.2 inv) hs [] lo listed a [] ⟨_, hw⟩ rfl hlo inv0 hlex h
    exact wpAny_of_anyK (r := r) (Q' := Q) (g := (t0 :: T).length) (fun listed a' X w' hw' hL => wpAnyIn_of_seqT (t0 :: T) listed a' w' l hl hL.1 (hL.2 w' hw')) _ _ _ _ _ hw H1
/-- the same, where what comes behind the heads comes in any order, too -/
def lexFA (md : Region.Mode) (ops : Array Oper) (hs T : List Nat) (listed listedH : Array Bool) : Bool :=
  Region.noSelect ops && (T.all fun t => !hs.contains t && sinkK md ops t hs) && lexHdK md ops (fun l => decide (l = listedH)) hs listed && Nat.beq listed.size ops.size && ((List.range ops.size).all fun t => hs.contains t || T.contains t || listed.getD t true) && (T.all fun t => !listed.getD t true) &&
    ((List.range ops.size).all fun j => !listed.getD j false || match ops[j]? with
      | some oj => oj.after.all fun e => !Region.binds md e || listed.getD e.on false
      | none => true) && (hs.all fun i => listedH.getD i true)
theorem wpAny_floatA {r : Option Nat} {Q : Exit → Act → World → Prop} {a : Act} {w : World} (hs T : List Nat) (lo : List Oper) (listed listedH : Array Bool) (g : Nat) (hnd : hs.Nodup) (hlo : hs.map (ops[·]?) = lo.map some) (hB : lexFA md ops hs T listed listedH = true) (hd : depsK md ops hs Rs = true) (hw : KH w0 H w)
    (h : wpL P ops w0 H Rs (fun a' X => ∀ w', KH w0 (flat X ++ H) w' → wpAnyIn (fen r) 0 P md ops Q g listedH a' w') lo 0 a []) : wpAnyIn (fen r) 0 P md ops Q (hs.length + g) listed a w := by
  simp only [lexFA, Bool.and_eq_true] at hB
  obtain ⟨⟨⟨⟨⟨⟨⟨hsel, hTn⟩, hlex⟩, hsz⟩, hrest⟩, htail⟩, hcl⟩, hH⟩ := hB
  have hT : ∀ t ∈ T, t ∉ hs ∧ sinkK md ops t hs = true := fun t ht => by
    have := List.all_eq_true.1 hTn t ht
    simpa using this
  have inv0 : HeadF md ops hs T listed := by
    refine ⟨Nat.eq_of_beq_eq_true hsz, fun j oj hj hlj e he hb => ?_, fun t ht => ?_, fun t h1 h2 h3 => ?_⟩
    · have hjlt := (Array.getElem?_eq_some_iff.1 hj).1
      have h1 := List.all_eq_true.1 hcl j (List.mem_range.2 hjlt)
      rw [hj, hlj] at h1
      simp only [Bool.not_true, Bool.false_or] at h1
      have h2 := Array.all_eq_true'.1 h1 e he
      rw [hb] at h2
      simpa using h2
    · have := List.all_eq_true.1 htail t ht
      simpa using this
    · have h4 := List.all_eq_true.1 hrest t (List.mem_range.2 h2)
      simp only [Bool.or_eq_true] at h4
      rcases h4 with (h4 | h4) | h4
      · exact absurd (by simpa using h4) h1
      · exact absurd (by simpa using h4) h3
      · exact h4
  have hwait : ∀ listed, HeadF md ops hs T listed → ∀ i, i ∈ hs → listed.getD i true = false → ∀ t, t ∉ hs → t ∉ Region.ready md ops listed := fun listed inv i hi hun t ht hr => by
    obtain ⟨htu, ot, hot, _⟩ := mem_ready.1 hr
    have htlt : t < ops.size := (Array.getElem?_eq_some_iff.1 hot).1
    by_cases hmem : t ∈ T
    · exact sinkK_no hr inv.closed inv.size hs (hT t hmem).2 i hi hun
    · rw [inv.rest t ht htlt hmem] at htu
      cases htu
  have hfin : ∀ l : Array Bool, decide (l = listedH) = true → ∀ j ∈ Region.ready md ops l, j ∉ hs := fun l hl j hj hm => by
    have := of_decide_eq_true hl
    subst this
    have h1 := (mem_ready.1 hj).1
    rw [List.all_eq_true.1 hH j hm] at h1
    cases h1
  have H1 := anyK_lex (md := md) (Inv := HeadF md ops hs T) (fin := fun l => decide (l = listedH)) hnd (fun a X X' hp hq w' hw' => hq w' (hw'.perm (List.Perm.append_right _ (flat_perm hp.symm)))) hd hsel hfin (fun _ _ inv hi hin => inv.set (fun t ht => (hT t ht).1) hi hin) hwait hs [] lo listed a [] ⟨_, hw⟩ rfl hlo inv0 hlex h
  exact wpAny_of_anyK (r := r) (Q' := Q) (g := g) (fun listed a' X w' hw' hL => by
    have := of_decide_eq_true hL.1
    subst this
    exact hL.2 w' hw') _ _ _ _ _ hw H1
end

/-- operations that hang loose: what they give, whatever lies in memory -/
def looseOp : Op → Bool
  | .move _ => true
  | .fieldAddr _ _ _ => true
  | .nilCheck _ => true
  | .assign _ => true
  | .extract _ _ => true
  | _ => false
def floats (L : List TyD) (sz : Nat) (ops : Array Oper) : List Nat → Fr → Option Fr
  | [], fr => some fr
  | i :: r, fr => match ops[i]? with
    | some o => match o.guard, o.dst with
      | none, some d => match looseOp o.op with
        | true => match evalOp true L fr o.op with
          | some (v, _) => match Nat.blt d sz with
            | true => floats L sz ops r ((d, v) :: fr)
            | false => none
          | none => none
        | false => none
      | _, _ => none
    | none => none
theorem loose_true {wr : Bool} {L : List TyD} {fr : Fr} {op : Op} {v : Value} {p : Prop} (ho : looseOp op = true) (h : evalOp wr L fr op = some (v, p)) : p := by
  cases op <;> simp only [looseOp, Bool.false_eq_true] at ho
  all_goals
    simp only [evalOp] at h
    repeat' split at h
    all_goals first | (cases h; done) | (cases h; trivial)
theorem loose_about {P : Program} {o : Oper} (ho : looseOp o.op = true) (w : World) (ρ : Operand → Value) : o.about P w ρ = none := by
  unfold Oper.about
  cases h : o.op <;> simp only [h, looseOp, Bool.false_eq_true] at ho <;> rfl
theorem loose_all {P : Program} {L : List TyD} (hL : TyOk P L) {N : Cx} {fr : Fr} {a : Act} (ha : Knows N fr a) {o : Oper} {v : Value} {p : Prop} (ho : looseOp o.op = true) (h : evalOp true L fr o.op = some (v, p)) (w : World) : (execOp a.eval o).run P w = .ok (.value v) w := by
  have hp := loose_true ho h
  exact evalOp_ok (N := N) (w0 := w) (H := []) hL h hp a w ha ⟨Below.refl _ _, .nil, fun _ h => by cases h⟩
def PutInv (Q : Exit → Act → World → Prop) : Prop := ∀ c a d v w, Q (.panic c) (a.put d v) w → Q (.panic c) a w
theorem putInv_body {P : Program} {fn : Func} {R : Ending → World → Prop} : PutInv (bodyPost P fn R) := fun _ _ d _ _ h => by cases d <;> exact h
theorem putInv_sem {P : Program} {r : Option Nat} {Q : Exit → Act → World → Prop} (hQ : PutInv Q) : ∀ k : List Kont, PutInv (sem P r Q k)
  | [] => hQ
  | .code _ :: k => fun c a d v w h => putInv_sem hQ k c a d v w h
  | .ops _ _ :: k => fun c a d v w h => putInv_sem hQ k c a d v w h
  | .qops _ _ _ _ :: k => fun c a d v w h => putInv_sem hQ k c a d v w h
  | .lops _ _ _ _ _ _ _ _ :: k => fun c a d v w h => putInv_sem hQ k c a d v w h
  | .any _ _ _ :: k => fun c a d v w h => putInv_sem hQ k c a d v w h
  | .blk _ :: k => fun c a d v w h => putInv_sem hQ k c a d v w h
  | .stop _ :: k => fun c a d v w h => putInv_sem hQ k c a d v w h
def takeB (md : Region.Mode) (ops : Array Oper) : List Nat → Array Bool → Bool
  | [], _ => true
  | i :: r, listed => Region.free md ops listed i && (Region.ready md ops listed).contains i && takeB md ops r (listed.setIfInBounds i true)
def takeL : List Nat → Array Bool → Array Bool
  | [], listed => listed
  | i :: r, listed => takeL r (listed.setIfInBounds i true)
theorem floats_take {P : Program} {L : List TyD} (hL : TyOk P L) {N : Cx} {ops : Array Oper} {md : Region.Mode} {Q' : Exit → Act → World → Prop} (hN : N.round = none) (hQ : PutInv Q') (hs : Region.noSelect ops = true) {w : World} {g : Nat} :
    ∀ (Fl : List Nat) (fr fr' : Fr) (listed : Array Bool) (a : Act), Knows N fr a → floats L N.size ops Fl fr = some fr' → takeB md ops Fl listed = true → (∀ a', Knows N fr' a' → wpAnyIn (fen N.round) 0 P md ops Q' g (takeL Fl listed) a' w) → wpAnyIn (fen N.round) 0 P md ops Q' (Fl.length + g) listed a w := by
  intro Fl
  induction Fl with
  | nil => intro fr fr' listed a ha hf _ h; cases hf; rw [List.length_nil, Nat.zero_add]; exact h a ha
  | cons i r ih =>
    intro fr fr' listed a ha hf ht h
    simp only [floats] at hf
    split at hf
    · rename_i o ho
      split at hf
      · rename_i d hg hd
        split at hf
        · rename_i hlo
          split at hf
          · rename_i v p he
            split at hf
            · rename_i hdlt
              simp only [takeB, Bool.and_eq_true] at ht
              rw [List.length_cons, show r.length + 1 + g = (r.length + g) + 1 by omega]
              refine wpAnyIn_take (oi := o) (v := v) hN ho hs ht.1.1 ht.1.2 (fun c a w => hQ c a o.dst v w) ⟨.inl ⟨by simp [Region.wanted, hg], fun w => loose_all hL ha hlo he w⟩, fun w => loose_about hlo w _⟩ ?_
              rw [hd]
              exact ih _ fr' _ _ (ha.put hdlt) hf ht.2 h
            · cases hf
          · cases hf
        · cases hf
      · cases hf
    · cases hf
section
variable {P : Program} {Q : Exit → Act → World → Prop} {N : Cx} {w0 : World} {k k' : List Kont} {fr : Fr} {H : Heap} {L : List TyD}
theorem WP.drawF {id : Nat} {ops : Array Oper} (hL : TyOk P L) (hs : List Nat) (Fl T : List Nat) (Rs : Specs) {fr' : Fr} {lo l : List Oper} (hQ : PutInv Q) (hN : N.round = none) (hn : norm 1000 k = .code (.region id ops true) :: k') (hm : P.follows .mixedOrders = true) (hns : Region.noSelect ops = true)
    (hf : floats L N.size ops Fl fr = some fr') (hlt : Nat.beq (Fl.length + (hs.length + T.length)) ops.size = true) (ht : takeB .any ops Fl (Array.replicate ops.size false) = true) (hnd : hs.Nodup) (hlo : hs.map (ops[·]?) = lo.map some) (hl : T.map (ops[·]?) = l.map some) (hB : lexFB .any ops hs T (takeL Fl (Array.replicate ops.size false)) = true) (hD : depsK .any ops hs Rs = true)
    (h : WP P Q N w0 (.lops w0 H Rs ops lo l 0 [] :: k') fr' H) : WP P Q N w0 k fr H := by
  refine WP.to hn fun a w ha hw => ?_
  refine wpIn_region_any hm ?_
  have e := Nat.eq_of_beq_eq_true hlt
  have := floats_take (P := P) (md := .any) (Q' := sem P N.round Q k') (w := { w with drawn := w.drawn + 1 }) (g := hs.length + T.length) hL hN (putInv_sem hQ k') hns Fl fr fr' (Array.replicate ops.size false) a ha hf ht fun a' ha' =>
    wpAny_float hs T lo l _ hnd hlo hl hB hD hw.drew (h a' _ ha' hw.drew).2
  rwa [e] at this
/-- a statement that draws its order, gone through in all orders -/
theorem WP.drawA {id : Nat} {ops : Array Oper} (hn : norm 1000 k = .code (.region id ops true) :: k') (hm : P.follows .mixedOrders = true)
    (h : WP P Q N w0 (.any ops (Array.replicate ops.size false) ops.size :: k') fr H) : WP P Q N w0 k fr H := by
  refine WP.to hn fun a w ha hw => ?_
  exact wpIn_region_any hm (h a _ ha hw.drew)
theorem WP.anyTake {ops : Array Oper} {listed : Array Bool} {f d : Nat} {o : Oper} {v : Value} {p : Prop} (i : Nat) (hL : TyOk P L) (hQ : PutInv Q) (hN : N.round = none) (hn : norm 1000 k = .any ops listed (f + 1) :: k') (ho : ops[i]? = some o) (hs : Region.noSelect ops = true) (ht : (Region.free .any ops listed i && (Region.ready .any ops listed).contains i) = true)
    (hg : o.guard = none) (hd : o.dst = some d) (hdN : Nat.blt d N.size = true) (hlo : looseOp o.op = true) (he : evalOp true L fr o.op = some (v, p))
    (h : WP P Q N w0 (.any ops (listed.setIfInBounds i true) f :: k') ((d, v) :: fr) H) : WP P Q N w0 k fr H := by
  refine WP.to hn fun a w ha hw => ?_
  simp only [Bool.and_eq_true] at ht
  refine wpAnyIn_take (oi := o) (v := v) hN ho hs ht.1 ht.2 (fun c a w => putInv_sem hQ k' c a o.dst v w) ⟨.inl ⟨by simp [Region.wanted, hg], fun w => loose_all hL ha hlo he w⟩, fun w => loose_about hlo w _⟩ ?_
  rw [hd]
  exact h _ w (ha.put hdN) hw
theorem uponIn_mono2 {F : Fence} {n : Nat} {o : Oper} {a : Act} {K K' : Act → World → Prop} {Q Q' : Exit → Act → World → Prop} {r : Result Next} (hK : ∀ a w, K a w → K' a w) (hP : ∀ c a w, Q (.panic c) a w → Q' (.panic c) a w) (hO : ∀ a w, Q .outgrown a w → Q' .outgrown a w) (h : o.uponIn F n P a K Q r) : o.uponIn F n P a K' Q' r := by
  unfold Oper.uponIn at h ⊢
  split at h
  · exact hK _ _ h
  · exact hK _ _ h
  · exact hK _ _ h
  · refine ⟨h.1, CallsIn.mono h.2 fun e w' hr => ?_⟩
    cases e with
    | returned v => exact hK _ _ hr
    | panicked c => exact hP _ _ _ hr
    | outgrown => obtain ⟨a, w, h⟩ := hr; exact ⟨a, w, hO _ _ h⟩
  · exact ⟨h.1, RowsIn.mono h.2 fun v w' hr => hK _ _ hr⟩
  · refine ⟨h.1, RoundIn.mono h.2 fun e w' hr => ?_⟩
    cases e with
    | returned v => exact hK _ _ hr
    | panicked c => exact hP _ _ _ hr
    | outgrown => obtain ⟨a, w, h⟩ := hr; exact ⟨a, w, hO _ _ h⟩
  · exact hP _ _ _ h
  · exact h.elim
theorem any_op {ops : Array Oper} {listed : Array Bool} {f i : Nat} {o : Oper} (ho : ops[i]? = some o) (h : WP P Q N w0 (.ops ops [o] :: .any ops listed f :: k') fr H) {a : Act} {w : World} (ha : Knows N fr a) (hw : KH w0 H w) :
    wpOpIn (fen N.round) 0 P ops (sem P N.round Q k') i (wpAnyIn (fen N.round) 0 P .any ops (sem P N.round Q k') f listed) a w := by
  have h' := h a w ha hw
  simp only [sem, Exit.then] at h'
  unfold wpListIn at h'
  unfold wpOpIn
  rw [ho]
  dsimp only
  split
  · rename_i hwt
    rw [if_pos hwt] at h'
    exact ⟨h'.1, uponIn_mono2 (fun a w hk => by unfold wpListIn at hk; exact hk) (fun c a w hq => hq) (fun a w hq => hq) h'.2⟩
  · rename_i hwt
    rw [if_neg hwt] at h'
    refine ⟨h'.1, ?_⟩
    have h2 := h'.2
    unfold wpListIn at h2
    exact h2
theorem WP.any1 {ops : Array Oper} {listed : Array Bool} {f : Nat} {o : Oper} (i : Nat) (hn : norm 1000 k = .any ops listed (f + 1) :: k') (hr : Region.ready .any ops listed = [i]) (ho : ops[i]? = some o)
    (h : WP P Q N w0 (.ops ops [o] :: .any ops (listed.setIfInBounds i true) f :: k') fr H) : WP P Q N w0 k fr H := by
  refine WP.to hn fun a w ha hw => ?_
  refine wpAnyIn_all hr (by simp) fun j hj => ?_
  have : j = i := by simpa using hj
  subst this
  exact any_op ho h ha hw
theorem WP.any2 {ops : Array Oper} {listed : Array Bool} {f : Nat} {o o' : Oper} (i i' : Nat) (hn : norm 1000 k = .any ops listed (f + 1) :: k') (hr : Region.ready .any ops listed = [i, i']) (ho : ops[i]? = some o) (ho' : ops[i']? = some o')
    (h : WP P Q N w0 (.ops ops [o] :: .any ops (listed.setIfInBounds i true) f :: k') fr H) (h' : WP P Q N w0 (.ops ops [o'] :: .any ops (listed.setIfInBounds i' true) f :: k') fr H) : WP P Q N w0 k fr H := by
  refine WP.to hn fun a w ha hw => ?_
  refine wpAnyIn_all hr (by simp) fun j hj => ?_
  have : j = i ∨ j = i' := by simpa using hj
  rcases this with rfl | rfl
  · exact any_op ho h ha hw
  · exact any_op ho' h' ha hw
theorem WP.any0 {ops : Array Oper} {listed : Array Bool} {f : Nat} (hn : norm 1000 k = .any ops listed f :: k') (hr : Region.ready .any ops listed = []) (h : WP P Q N w0 k' fr H) : WP P Q N w0 k fr H := by
  refine WP.to hn fun a w ha hw => ?_
  exact wpAnyIn_done hr (h a w ha hw) f
theorem wpL_mono {ops : Array Oper} {H : Heap} {Rs : Specs} {Qf Qg : Act → Tags → Prop} (hq : ∀ a X, Qf a X → Qg a X) : ∀ (l : List Oper) (i : Nat) (a : Act) (X : Tags), Real w0 H X → wpL P ops w0 H Rs Qf l i a X → wpL P ops w0 H Rs Qg l i a X
  | [], _, _, _, _, h => hq _ _ h
  | _ :: r, i, _, _, hX, h => lStep_mono hX (fun a' Y hY hk => wpL_mono hq r (i + 1) a' Y hY hk) h
/-- heads in any order, and what comes behind them in any order, too -/
theorem WP.drawG {id : Nat} {ops : Array Oper} (hL : TyOk P L) (hs : List Nat) (Fl T : List Nat) (Rs : Specs) {fr' : Fr} {lo : List Oper} (hQ : PutInv Q) (hN : N.round = none) (hn : norm 1000 k = .code (.region id ops true) :: k') (hm : P.follows .mixedOrders = true) (hns : Region.noSelect ops = true)
    (hf : floats L N.size ops Fl fr = some fr') (hlt : Nat.beq (Fl.length + (hs.length + T.length)) ops.size = true) (ht : takeB .any ops Fl (Array.replicate ops.size false) = true) (hnd : hs.Nodup) (hlo : hs.map (ops[·]?) = lo.map some) (hB : lexFA .any ops hs T (takeL Fl (Array.replicate ops.size false)) (takeL hs (takeL Fl (Array.replicate ops.size false))) = true) (hD : depsK .any ops hs Rs = true)
    (h : WP P Q N w0 (.lops w0 H Rs ops lo [] 0 [] :: .any ops (takeL hs (takeL Fl (Array.replicate ops.size false))) T.length :: k') fr' H) : WP P Q N w0 k fr H := by
  refine WP.to hn fun a w ha hw => ?_
  refine wpIn_region_any hm ?_
  have e := Nat.eq_of_beq_eq_true hlt
  have := floats_take (P := P) (md := .any) (Q' := sem P N.round Q k') (w := { w with drawn := w.drawn + 1 }) (g := hs.length + T.length) hL hN (putInv_sem hQ k') hns Fl fr fr' (Array.replicate ops.size false) a ha hf ht fun a' ha' =>
    wpAny_floatA hs T lo _ _ T.length hnd hlo hB hD hw.drew (wpL_mono (fun a X hq w' hw' => by have := hq w' hw'; unfold wpListIn at this; exact this) lo 0 a' [] ⟨_, by simpa [flat] using hw.drew⟩ (h a' _ ha' hw.drew).2)
  rwa [e] at this
theorem wpAny_monoQ {F : Fence} {n : Nat} {md : Region.Mode} {ops : Array Oper} {Q Q' : Exit → Act → World → Prop} (hQ : ∀ e a w, Q e a w → Q' e a w) : ∀ (f : Nat) (listed : Array Bool) (a : Act) (w : World), wpAnyIn F n P md ops Q f listed a w → wpAnyIn F n P md ops Q' f listed a w
  | 0, listed, a, w, h => ⟨h.1, hQ _ _ _ h.2⟩
  | f + 1, listed, a, w, h => ⟨fun h0 => hQ _ _ _ (h.1 h0), fun i hi => by
    have h2 := h.2 i hi
    unfold wpOpIn at h2 ⊢
    split
    · rename_i he
      simp only [he] at h2
      exact wpAny_monoQ hQ f _ _ _ h2
    · rename_i o he
      simp only [he] at h2
      split
      · rename_i hw
        rw [if_pos hw] at h2
        exact ⟨h2.1, uponIn_mono_ (fun a w hk => wpAny_monoQ hQ f _ a w hk) hQ h2.2⟩
      · rename_i hw
        rw [if_neg hw] at h2
        exact ⟨h2.1, wpAny_monoQ hQ f _ _ _ h2.2⟩⟩
theorem WP.joinA {α : Type} (J : α → Prop) (ff : α → Fr) (h : α → Heap) {ops : Array Oper} {listed : Array Bool} {f : Nat} (hn : norm 1000 k = .any ops listed f :: k')
    (h1 : WP P Q N w0 (.any ops listed f :: .stop (At N w0 J ff h) :: k') fr H) (h2 : ∀ x, J x → WP P Q N w0 k' (ff x) (h x)) : WP P Q N w0 k fr H := by
  refine WP.to hn fun a w ha hw => ?_
  refine wpAny_monoQ ?_ f listed a w (h1 a w ha hw)
  intro e a w h
  cases e with
  | normal => obtain ⟨x, hJ, hf, hH⟩ := h; exact h2 x hJ a w hf hH
  | exit id => exact h
  | goto l => exact h
  | ret => exact h
  | panic c => exact h
  | outgrown => exact h
end
end Go.Qe
