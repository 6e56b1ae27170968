/- Ranges over functions: what an iterator is told of a round, the call of yield, the statement, the way out. -/
import Derived.Test.YthelgjfdkdaijaaDoorEng7
import Derived.RangeFuncRecord
import Derived.RangeFuncSeq
namespace Go.Qe
open Go.RowKit

/-- what a round (or a whole loop) does: the frozen part Z becomes Z'; all else that was there is as it was -/
structure Turn (Z Z' : PH) (W W' : World) : Prop where
  glob : Below 0 W W'
  held : (Piece.fz Z').holds W'
  other : ∀ b, b < W.heap.size → Z b = none → W'.heap[b]? = W.heap[b]?
  foot : ∀ b, Z' b ≠ none → Z b ≠ none ∨ W.heap.size ≤ b
theorem KH.turnFz {w0 w w' : World} {H H1 : Heap} {Z Z' : PH} (h : KH w0 H w) (hr : Rem (.fz Z) H H1) (t : Turn Z Z' w w') : KH w0 (.fz Z' :: H1) w' :=
  h.turn hr t.glob (fun b hb hn => t.other b hb (by
    cases hz : Z b with
    | none => rfl
    | some o => exact absurd (by simp [Piece.foot, hz]) hn)) t.held (fun b hb => t.foot b hb)
/-- what the caller of an iterator offers: a round at each element, in their order; 'C': what it keeps between two rounds; 'Cx': what it has when it has left -/
def Yields {α : Type} (P : Program) (l : Nat) (encs : α → Array Value) (xs : List α) (C Cx : List α → PH → Prop) : Prop :=
  ∀ pre x Z W, (∃ post, xs = pre ++ x :: post) → C pre Z → (Piece.fz Z).holds W → YieldAt (fen none) 0 P l (encs x) W fun e W' =>
    (e = .returned (.bool true) ∧ ∃ Z', C (pre ++ [x]) Z' ∧ Turn Z Z' W W') ∨ (e = .returned (.bool false) ∧ ∃ Z', Cx (pre ++ [x]) Z' ∧ Turn Z Z' W W')
/-- an iterator: whatever its caller offers -/
def Iter {α : Type} (P : Program) (gf : FuncId) (lb : Array Value) (encs : α → Array Value) (xs : List α) (Hf : Heap) : Prop :=
  ∀ l C Cx Z w, Yields P l encs xs C Cx → C [] Z → KH w (.fz Z :: Hf) w → Calls P gf (#[.func (.yield l) #[] #[]] ++ lb) w fun e w' =>
    (∃ v, e = .returned v) ∧ ((∃ Z', C xs Z' ∧ Turn Z Z' w w') ∨ (∃ pre Z', Cx pre Z' ∧ Turn Z Z' w w'))
section
variable {P : Program} {Q : Exit → Act → World → Prop} {N : Cx} {w0 : World} {k k' : List Kont} {fr : Fr} {H H1 : Heap} {L : List TyD} {o : Oper}
theorem yield_run {a : Act} (ha : Knows N fr a) {l : Nat} {f : Operand} {args : Array Operand} {ats : Array TypeId} {vs : List Value} (ho : o.op = .call ⟨.value f, args, ats⟩) (hf : val fr f = some (.func (.yield l) #[] #[])) (hv : vals fr args.toList = some vs) (w : World) :
    (execOp a.eval o).run P w = (Instr.yield l vs.toArray).run P w := by
  have e1 : args.map a.eval = vs.toArray := by rw [← vals_eval ha hv, ← Array.toList_map]
  have e2 : (#[] : Array Value) ++ vs.toArray = vs.toArray := by simp
  have e3 : vs.toArray ++ (#[] : Array Value) = vs.toArray := by simp
  simp only [execOp, ho, resolve, ha.eval hf, Deferred.ofValue, e1, Sem.run_bind, Sem.run_pure, Result.andThen_ok, invoke, e2, e3]
/-- the call of yield -/
theorem WP.yield {α : Type} {encs : α → Array Value} {xs : List α} {C Cx : List α → PH → Prop} {l : Nat} (hy : Yields P l encs xs C Cx) {pre : List α} {x : α} {Z : PH} {all : Array Oper} {rest : List Oper} {d : Nat} {f : Operand} {args : Array Operand} {ats : Array TypeId} {vs : List Value}
    (hn : norm 1000 k = .ops all (o :: rest) :: k') (hd : o.dst = some d) (hN : Nat.blt d N.size = true) (hg : o.guard = none) (ho : o.op = .call ⟨.value f, args, ats⟩) (hf : val fr f = some (.func (.yield l) #[] #[])) (hv : vals fr args.toList = some vs)
    (he : encs x = vs.toArray) (hpre : ∃ post, xs = pre ++ x :: post) (hC : C pre Z) (hm : Rem (.fz Z) H H1)
    (h1 : ∀ Z', C (pre ++ [x]) Z' → WP P Q N w0 (.ops all rest :: k') ((d, .bool true) :: fr) (.fz Z' :: H1))
    (h2 : ∀ Z', Cx (pre ++ [x]) Z' → WP P Q N w0 (.ops all rest :: k') ((d, .bool false) :: fr) (.fz Z' :: H1)) : WP P Q N w0 k fr H := by
  refine WP.to hn fun a w ha hw => wpListIn_plain hg fun K hK => ?_
  obtain ⟨fn, tmps, assign, body, hyr, hR⟩ := hy pre x Z w hpre hC (hw.rem hm).1
  rw [he] at hyr
  have hr := (yield_run (P := P) ha ho hf hv w).trans hyr
  refine ⟨fun _ _ => trivial, ?_⟩
  rw [semAt_of _ hr (fun d e => by cases e), Oper.uponIn_round]
  refine ⟨fun h => (by cases h), RoundIn.mono hR fun e w' hh => ?_⟩
  rcases hh with ⟨rfl, Z', hc, ht⟩ | ⟨rfl, Z', hc, ht⟩
  · rw [hd]
    exact hK _ _ (h1 Z' hc _ w' (ha.put hN) (hw.turnFz hm ht))
  · rw [hd]
    exact hK _ _ (h2 Z' hc _ w' (ha.put hN) (hw.turnFz hm ht))

theorem below_putObj (w : World) (l : Nat) (o : Obj) : Below 0 w (w.putObj l o) := ⟨rfl, rfl, rfl, by simp, fun b hb => by omega⟩
/-- slots behind an assignment of yield's arguments -/
def parFr : List (Nat × Value) → Fr → Fr
  | [], fr => fr
  | (p, v) :: r, fr => parFr r ((p, v) :: fr)
def allLt (n : Nat) : List Nat → Bool
  | [] => true
  | p :: r => Nat.blt p n && allLt n r
theorem knows_par {n : Nat} {ro : Option Nat} : ∀ (l : List (Nat × Value)) (fr : Fr) (tmps : Array Value), allLt n (l.map (·.1)) = true → Knows ⟨ro, n, []⟩ fr { tmps := tmps, defers := [] } →
    Knows ⟨ro, n, []⟩ (parFr l fr) { tmps := l.foldl (fun t (p, v) => t.setIfInBounds p v) tmps, defers := [] }
  | [], fr, tmps, _, h => h
  | (p, v) :: r, fr, tmps, hb, h => by
    simp only [List.map_cons, allLt, Bool.and_eq_true] at hb
    have := h.put (v := v) hb.1
    exact knows_par r ((p, v) :: fr) _ hb.2 this
def codeOf : Exit → Option Code
  | .ret => some .ret
  | .exit id => some (.exit id)
  | .goto t => some (.goto t)
  | _ => none
/-- how the body of a round is left other than off its end -/
def Leaves {α σ : Type} (Jx : Code → List α → σ → Prop) (Hx : σ → Heap) (pre : List α) (W : World) (Zr : PH) : Exit → Act → World → Prop := fun e _ w' => ∃ c, codeOf e = some c ∧ ∃ st, Jx c pre st ∧ KH W (Hx st ++ [.fz Zr]) w'
theorem KH.app {w0 w : World} {A B : Heap} (h : KH w0 (A ++ B) w) : KH w0 A w ∧ KH w0 B w ∧ ∀ p ∈ A, ∀ q ∈ B, p.apart q := by
  obtain ⟨h1, h2, h3⟩ := List.pairwise_append.1 h.apart
  exact ⟨⟨h.glob, h1, fun p hp => h.holds p (by simp [hp])⟩, ⟨h.glob, h2, fun p hp => h.holds p (by simp [hp])⟩, h3⟩
/-- a part of memory that some pieces and two blocks make up -/
noncomputable def zOf (W : World) (l D : Nat) (Hs : Heap) : PH := fun b => by
  classical exact if b = l ∨ b = D ∨ ∃ p ∈ Hs, p.foot b then W.heap[b]? else none
theorem zOf_yes {W : World} {l D b : Nat} {Hs : Heap} (h : b = l ∨ b = D ∨ ∃ p ∈ Hs, p.foot b) : zOf W l D Hs b = W.heap[b]? := by simp only [zOf]; rw [if_pos h]
theorem zOf_no {W : World} {l D b : Nat} {Hs : Heap} (h : ¬ (b = l ∨ b = D ∨ ∃ p ∈ Hs, p.foot b)) : zOf W l D Hs b = none := by simp only [zOf]; rw [if_neg h]
theorem zOf_ne {W : World} {l D b : Nat} {Hs : Heap} (h : zOf W l D Hs b ≠ none) : b = l ∨ b = D ∨ ∃ p ∈ Hs, p.foot b := by
  apply Classical.byContradiction
  intro hn
  exact h (zOf_no hn)
theorem zOf_holds (W : World) (l D : Nat) (Hs : Heap) : (Piece.fz (zOf W l D Hs)).holds W := fun b o hb => by
  have h := zOf_ne (W := W) (l := l) (D := D) (b := b) (Hs := Hs) (by rw [hb]; simp)
  rwa [zOf_yes h] at hb
/-- 'the pieces Hs and the two blocks make up Z, whatever else there is' -/
structure Makes (Z : PH) (l D : Nat) (ol od : Obj) (Hs : Heap) : Prop where
  rec_ : Z l = some ol
  def_ : Z D = some od
  holds : ∀ W, (Piece.fz Z).holds W → ∀ p ∈ Hs, p.holds W
  apart : Hs.Pairwise Piece.apart
  foot : ∀ p ∈ Hs, ∀ b, p.foot b → Z b ≠ none ∧ b ≠ l ∧ b ≠ D
theorem Makes.of {w0 W : World} {l D : Nat} {ol od : Obj} {Hs : Heap} (h : KH w0 Hs W) (hl : W.heap[l]? = some ol) (hd : W.heap[D]? = some od) (hf : ∀ p ∈ Hs, ∀ b, p.foot b → b ≠ l ∧ b ≠ D) : Makes (zOf W l D Hs) l D ol od Hs := by
  refine ⟨by rw [zOf_yes (.inl rfl), hl], by rw [zOf_yes (.inr (.inl rfl)), hd], fun W' hW p hp => ?_, h.apart, fun p hp b hb => ⟨?_, hf p hp b hb⟩⟩
  · refine Piece.keep (h.holds p hp) fun b hb => ?_
    have hlt := Piece.lt (h.holds p hp) hb
    have e := zOf_yes (W := W) (l := l) (D := D) (b := b) (Hs := Hs) (.inr (.inr ⟨p, hp, hb⟩))
    rw [Array.getElem?_eq_getElem hlt] at e
    rw [hW b _ e, Array.getElem?_eq_getElem hlt]
  · rw [zOf_yes (.inr (.inr ⟨p, hp, hb⟩)), Array.getElem?_eq_getElem (Piece.lt (h.holds p hp) hb)]
    simp

/-- one round, walked: the caller's offer -/
theorem round_yields {α σ : Type} {n : Nat} {ps : Array Tmp} {assign body : Code} {encs : α → Array Value} {xs : List α} (hps : ∀ x, (encs x).size = ps.size) (hpn : allLt n ps.toList = true)
    {Jc : List α → σ → Prop} {Hc : σ → Heap} {Jx : Code → List α → σ → Prop} {fr1 : α → Fr}
    (hass : ∀ (l : Nat) (x : α) (W : World) (Zr : PH), WP P (fun _ _ _ => False) ⟨some l, n, []⟩ W [.code assign, .stop (At ⟨some l, n, []⟩ W (fun _ : Unit => True) (fun _ => fr1 x) (fun _ => [.fz Zr]))] (parFr (ps.toList.zip (encs x).toList) fr) [.fz Zr])
    (hbody : ∀ (l : Nat) (pre : List α) (x : α) (post : List α) (st : σ) (W : World) (Zr : PH), xs = pre ++ x :: post → Jc pre st →
      WP P (Leaves Jx Hc (pre ++ [x]) W Zr) ⟨some l, n, []⟩ W [.code body, .stop (At ⟨some l, n, []⟩ W (fun st' => Jc (pre ++ [x]) st') (fun _ => []) (fun st' => Hc st' ++ [.fz Zr]))] (fr1 x) (Hc st ++ [.fz Zr]))
    {fn : FuncId} {l D : Nat} (hlD : l ≠ D) {a : Act} (ha : Knows ⟨none, n, a.defers⟩ fr a) {rec_ : LoopState → Option Code → Loop} (hrec : rec_ = fun st pe => { state := st, pending := pe, fn, tmps := a.tmps, params := ps, assign, body, defers := D }) :
    Yields P l encs xs (fun pre Z => ∃ st, Jc pre st ∧ Makes Z l D (.loop (rec_ .ready none)) (.deferred (some [])) (Hc st))
      (fun pre Z => ∃ c st, Jx c pre st ∧ Makes Z l D (.loop (rec_ .done (some c))) (.deferred (some [])) (Hc st)) := by
  rintro pre x Z W ⟨post, hxs⟩ ⟨st, hJ, hM⟩ hZW
  have hl : W.heap[l]? = some (.loop (rec_ .ready none)) := hZW l _ hM.rec_
  have hD : W.heap[D]? = some (.deferred (some [])) := hZW D _ hM.def_
  have hllt := lt_of_some hl
  have hDlt := lt_of_some hD
  have hy := run_yield (P := P) (args := encs x) hl (by rw [hrec]; exact hps x)
  rw [hrec] at hy
  refine ⟨fn, _, assign, body, hy, roundIn_of_wpIn (F := fen none) trivial ?_⟩
  -- the assignment
  have hk0 : Knows ⟨some l, n, []⟩ (parFr (ps.toList.zip (encs x).toList) fr) { tmps := (ps.zip (encs x)).foldl (fun t (p, v) => t.setIfInBounds p v) a.tmps, defers := [] } := by
    have h0 : Knows ⟨some l, n, []⟩ fr { tmps := a.tmps, defers := [] } := ⟨ha.size, rfl, ha.get⟩
    have := knows_par (ps.toList.zip (encs x).toList) fr a.tmps (by
      have : (ps.toList.zip (encs x).toList).map (·.1) = ps.toList := by
        rw [List.map_fst_zip]
        simp [hps x]
      rw [this]; exact hpn) h0
    rw [← Array.foldl_toList, Array.toList_zip]
    exact this
  have h1 := hass l x W (PH.of W) _ W hk0 (KH.start W)
  have h1' : assign.wpIn (fen (some l)) 0 P (Exit.then (At ⟨some l, n, []⟩ W (fun _ : Unit => True) (fun _ => fr1 x) (fun _ => [.fz (PH.of W)])) (fun _ _ _ => False)) _ W := h1
  refine wpIn_mono h1' ?_
  intro e a1 w1 hq
  cases e with
  | exit id => exact hq.elim
  | goto t => exact hq.elim
  | ret => exact hq.elim
  | panic c => exact hq.elim
  | outgrown => exact hq.elim
  | normal =>
  obtain ⟨_, _, hk1, hw1⟩ := hq
  have hold : ∀ b o, W.heap[b]? = some o → w1.heap[b]? = some o := hw1.holds (.fz (PH.of W)) (by simp)
  have hsz : W.heap.size ≤ w1.heap.size := hw1.glob.size
  have hl1 := hold l _ hl
  -- the record is busy
  obtain ⟨w2, hw2⟩ : ∃ w2, w2 = w1.putObj l (.loop { rec_ .ready none with state := .busy }) := ⟨_, rfl⟩
  refine ⟨w2, by rw [hw2]; exact run_beginRound hl1 (by rw [hrec]), ?_⟩
  have hb2 : ∀ b o, b ≠ l → W.heap[b]? = some o → w2.heap[b]? = some o := fun b o hb ho => by rw [hw2, World.putObj_heap_other hb]; exact hold b o ho
  have hl2 : w2.heap[l]? = some (.loop { rec_ .ready none with state := .busy }) := by rw [hw2]; exact World.putObj_heap_same (lt_of_some hl1)
  have hs2 : w2.heap.size = w1.heap.size := by rw [hw2, World.putObj_size]
  have hg2 : Below 0 W w2 := by rw [hw2]; exact hw1.glob.trans (below_putObj w1 l _)
  -- the pieces, and all else
  obtain ⟨Zr, hZr⟩ : ∃ Zr : PH, ∀ b, ((∃ p ∈ Hc st, p.foot b) → Zr b = none) ∧ (¬ (∃ p ∈ Hc st, p.foot b) → Zr b = w2.heap[b]?) := by
    classical
    exact ⟨fun b => if ∃ p ∈ Hc st, p.foot b then none else w2.heap[b]?, fun b => ⟨fun h => by simp only [if_pos h], fun h => by simp only [if_neg h]⟩⟩
  have hp2 : ∀ p ∈ Hc st, p.holds w2 := fun p hp => Piece.keep (hM.holds W hZW p hp) fun b hb => by
    have hlt := Piece.lt (hM.holds W hZW p hp) hb
    rw [hb2 b _ (hM.foot p hp b hb).2.1 (Array.getElem?_eq_getElem hlt), Array.getElem?_eq_getElem hlt]
  have hK2 : KH w2 (Hc st ++ [.fz Zr]) w2 := by
    refine ⟨Below.refl _ _, List.pairwise_append.2 ⟨hM.apart, List.pairwise_singleton _ _, fun p hp q hq b h2 h3 => ?_⟩, fun p hp => ?_⟩
    · simp only [List.mem_singleton] at hq
      subst hq
      exact h3 ((hZr b).1 ⟨p, hp, h2⟩)
    · rcases List.mem_append.1 hp with hp | hp
      · exact hp2 p hp
      · simp only [List.mem_singleton] at hp
        subst hp
        intro b o hb
        by_cases h : ∃ p ∈ Hc st, p.foot b
        · rw [(hZr b).1 h] at hb; cases hb
        · rwa [(hZr b).2 h] at hb
  have hnl : ¬ ∃ p ∈ Hc st, p.foot l := fun ⟨p, hp, hb⟩ => (hM.foot p hp l hb).2.1 rfl
  have hnD : ¬ ∃ p ∈ Hc st, p.foot D := fun ⟨p, hp, hb⟩ => (hM.foot p hp D hb).2.2 rfl
  have hZl : Zr l = some (.loop { rec_ .ready none with state := .busy }) := by rw [(hZr l).2 hnl, hl2]
  have hZD : Zr D = some (.deferred (some [])) := by rw [(hZr D).2 hnD, hb2 D _ (Ne.symm hlD) hD]
  have h2 := hbody l pre x post st w2 Zr hxs hJ a1 w2 hk1 hK2
  have h2' : body.wpIn (fen (some l)) 0 P (Exit.then (At ⟨some l, n, []⟩ w2 (fun st' => Jc (pre ++ [x]) st') (fun _ => []) (fun st' => Hc st' ++ [.fz Zr])) (Leaves Jx Hc (pre ++ [x]) w2 Zr)) a1 w2 := h2
  -- what a round leaves, whichever way
  have fin : ∀ (jump : Option Code) (st' : σ) (w3 : World), KH w2 (Hc st' ++ [.fz Zr]) w3 →
      ∃ w4 Z', (Instr.endRound l jump).run P w3 = .ok (.bool jump.isNone) w4 ∧ Makes Z' l D (.loop (rec_ (if jump.isNone then .ready else .done) jump)) (.deferred (some [])) (Hc st') ∧ Turn Z Z' W w4 := by
    intro jump st' w3 hw3
    obtain ⟨h3a, h3b, h3c⟩ := hw3.app
    have hZr3 : (Piece.fz Zr).holds w3 := h3b.holds _ (by simp)
    have hl3 := hZr3 l _ hZl
    have hD3 := hZr3 D _ hZD
    have hend := run_endRound (P := P) jump hl3
    obtain ⟨w4, hw4⟩ : ∃ w4, w4 = w3.putObj l (.loop { { rec_ .ready none with state := .busy } with state := if jump.isNone then .ready else .done, pending := jump }) := ⟨_, rfl⟩
    rw [← hw4] at hend
    have e4 : (Loop.mk (if jump.isNone then .ready else .done) jump (rec_ .ready none).fn (rec_ .ready none).tmps (rec_ .ready none).params (rec_ .ready none).assign (rec_ .ready none).body (rec_ .ready none).defers) = rec_ (if jump.isNone then .ready else .done) jump := by rw [hrec]
    have hl4 : w4.heap[l]? = some (.loop (rec_ (if jump.isNone then .ready else .done) jump)) := by
      rw [hw4, World.putObj_heap_same (lt_of_some hl3), ← e4]
    have hoth : ∀ b, b ≠ l → w4.heap[b]? = w3.heap[b]? := fun b hb => by rw [hw4]; exact World.putObj_heap_other hb
    have hD4 : w4.heap[D]? = some (.deferred (some [])) := by rw [hoth D (Ne.symm hlD)]; exact hD3
    have hfoot : ∀ p ∈ Hc st', ∀ b, p.foot b → b ≠ l ∧ b ≠ D := fun p hp b hb => by
      refine ⟨fun e => ?_, fun e => ?_⟩
      · subst e; exact h3c p hp _ (List.mem_singleton.2 rfl) b hb (by show Zr b ≠ none; rw [hZl]; simp)
      · subst e; exact h3c p hp _ (List.mem_singleton.2 rfl) b hb (by show Zr b ≠ none; rw [hZD]; simp)
    have hK4 : KH w2 (Hc st') w4 := ⟨h3a.glob.trans (by rw [hw4]; exact below_putObj _ _ _), h3a.apart, fun p hp => Piece.keep (h3a.holds p hp) fun b hb => hoth b (hfoot p hp b hb).1⟩
    refine ⟨w4, zOf w4 l D (Hc st'), hend, Makes.of hK4 hl4 hD4 hfoot, ⟨hg2.trans hK4.glob, zOf_holds _ _ _ _, fun b hb hn => ?_, fun b hb => ?_⟩⟩
    · have hbl : b ≠ l := fun e => by subst e; rw [hM.rec_] at hn; cases hn
      have hnf : ¬ ∃ p ∈ Hc st, p.foot b := fun ⟨p, hp, h⟩ => (hM.foot p hp b h).1 hn
      have hWb := Array.getElem?_eq_getElem hb
      have h22 := hb2 b _ hbl hWb
      rw [hoth b hbl, hZr3 b _ (by rw [(hZr b).2 hnf]; exact h22), hWb]
    · rcases zOf_ne hb with h | h | ⟨p, hp, h⟩
      · subst h; left; rw [hM.rec_]; simp
      · subst h; left; rw [hM.def_]; simp
      · by_cases hlt : b < W.heap.size
        · left
          intro hn
          have hbl := (hfoot p hp b h).1
          have hnf : ¬ ∃ p ∈ Hc st, p.foot b := fun ⟨p, hp, h⟩ => (hM.foot p hp b h).1 hn
          refine h3c p hp _ (List.mem_singleton.2 rfl) b h ?_
          show Zr b ≠ none
          rw [(hZr b).2 hnf, hb2 b _ hbl (Array.getElem?_eq_getElem hlt)]
          simp
        · right; omega
  refine wpIn_mono h2' ?_
  intro e a3 w3 hq
  cases e with
  | normal =>
    obtain ⟨st', hJ', _, hw3⟩ := hq
    obtain ⟨w4, Z', he, hM', ht⟩ := fin none st' w3 hw3
    exact ⟨_, w4, he, .inl ⟨rfl, Z', ⟨st', hJ', hM'⟩, ht⟩⟩
  | ret =>
    obtain ⟨c, hc, st', hJ', hw3⟩ := hq
    cases hc
    obtain ⟨w4, Z', he, hM', ht⟩ := fin (some .ret) st' w3 hw3
    exact ⟨_, w4, he, .inr ⟨rfl, Z', ⟨_, st', hJ', hM'⟩, ht⟩⟩
  | exit id =>
    obtain ⟨c, hc, st', hJ', hw3⟩ := hq
    cases hc
    obtain ⟨w4, Z', he, hM', ht⟩ := fin (some (.exit id)) st' w3 hw3
    exact ⟨_, w4, he, .inr ⟨rfl, Z', ⟨_, st', hJ', hM'⟩, ht⟩⟩
  | goto t =>
    obtain ⟨c, hc, st', hJ', hw3⟩ := hq
    cases hc
    obtain ⟨w4, Z', he, hM', ht⟩ := fin (some (.goto t)) st' w3 hw3
    exact ⟨_, w4, he, .inr ⟨rfl, Z', ⟨_, st', hJ', hM'⟩, ht⟩⟩
  | panic c => obtain ⟨c, hc, _⟩ := hq; cases hc
  | outgrown => obtain ⟨c, hc, _⟩ := hq; cases hc

set_option maxHeartbeats 2000000 in
/-- a range over a function -/
theorem WP.rangeF {α σ : Type} {n gf : Nat} {ds : List Deferred} {g : Operand} {lb : Array Value} {ps : Array Tmp} {assign body : Code} {encs : α → Array Value} (xs : List α) {Jc : List α → σ → Prop} {Hc : σ → Heap} {Jx : Code → List α → σ → Prop} (fr1 : α → Fr) (Hf : Heap) (st0 : σ)
    (hn : norm 1000 k = .code (.rangeFunc g ps assign body) :: k') (hg : val fr g = some (.func (.func gf) #[] lb)) (hb : callable P gf = true)
    (hps : ∀ x, (encs x).size = ps.size) (hpn : allLt n ps.toList = true) (h0 : Jc [] st0) (hH : Pick (Hc st0 ++ Hf) H)
    (hit : Iter P gf lb encs xs Hf)
    (hass : ∀ (l : Nat) (x : α) (W : World) (Zr : PH), WP P (fun _ _ _ => False) ⟨some l, n, []⟩ W [.code assign, .stop (At ⟨some l, n, []⟩ W (fun _ : Unit => True) (fun _ => fr1 x) (fun _ => [.fz Zr]))] (parFr (ps.toList.zip (encs x).toList) fr) [.fz Zr])
    (hbody : ∀ (l : Nat) (pre : List α) (x : α) (post : List α) (st : σ) (W : World) (Zr : PH), xs = pre ++ x :: post → Jc pre st →
      WP P (Leaves Jx Hc (pre ++ [x]) W Zr) ⟨some l, n, []⟩ W [.code body, .stop (At ⟨some l, n, []⟩ W (fun st' => Jc (pre ++ [x]) st') (fun _ => []) (fun st' => Hc st' ++ [.fz Zr]))] (fr1 x) (Hc st ++ [.fz Zr]))
    (hdone : ∀ (D : Nat) (Zd : PH) (st : σ), Zd D = some (.deferred (some [])) → Jc xs st → WP P Q ⟨none, n, { target := .collected D, args := #[] } :: ds⟩ w0 k' fr (Hc st ++ (Hf ++ [.fz Zd])))
    (hleft : ∀ (D : Nat) (Zd : PH) (c : Code) (pre : List α) (st : σ), Zd D = some (.deferred (some [])) → Jx c pre st → WP P Q ⟨none, n, { target := .collected D, args := #[] } :: ds⟩ w0 (.code c :: k') fr (Hc st ++ (Hf ++ [.fz Zd]))) : WP P Q ⟨none, n, ds⟩ w0 k fr H := by
  refine WP.to hn fun a w ha hw => ?_
  show (Code.rangeFunc g ps assign body).wpIn (fen none) 0 P (sem P none Q k') a w
  obtain ⟨hwc, hwf, hap⟩ := (hw.pick hH).app
  have had := ha.defers
  refine wpIn_rangeFunc fun fn hfn => ?_
  obtain ⟨rec_, hrec⟩ : ∃ rec_ : LoopState → Option Code → Loop, rec_ = fun st pe => { state := st, pending := pe, fn, tmps := a.tmps, params := ps, assign, body, defers := w.heap.size } := ⟨_, rfl⟩
  obtain ⟨W1, hW1⟩ : ∃ W1, W1 = (w.alloc (.deferred (some []))).alloc (.loop (rec_ .ready none)) := ⟨_, rfl⟩
  have hL1 : W1.heap[w.heap.size + 1]? = some (.loop (rec_ .ready none)) := by
    rw [hW1]; have := World.alloc_heap_new (w.alloc (.deferred (some []))) (.loop (rec_ .ready none)); rwa [World.size_alloc] at this
  have hK1 : W1.heap[w.heap.size]? = some (.deferred (some [])) := by
    rw [hW1]; exact (Below.heap_alloc _ _ _ (by simp)).trans (World.alloc_heap_new w _)
  have hb1 : Below w.heap.size w W1 := by
    rw [hW1]; exact ((Below.refl _ w).alloc (Nat.le_refl _) _).alloc (by simp) _
  have hs1 : W1.heap.size = w.heap.size + 2 := by rw [hW1]; simp
  have hwc1 := hwc.below hb1
  have hwf1 := hwf.below hb1
  have hM0 : Makes (zOf W1 (w.heap.size + 1) w.heap.size (Hc st0)) (w.heap.size + 1) w.heap.size (.loop (rec_ .ready none)) (.deferred (some [])) (Hc st0) :=
    Makes.of hwc1 hL1 hK1 fun p hp b hb => by
      have := Piece.lt (hwc.holds p hp) hb
      exact ⟨by omega, by omega⟩
  have hy := round_yields (P := P) (l := w.heap.size + 1) (D := w.heap.size) (fn := fn) hps hpn hass hbody (by omega) (a := a) ⟨ha.size, rfl, ha.get⟩ (rec_ := rec_) (by rw [hrec])
  have hKW : KH W1 (.fz (zOf W1 (w.heap.size + 1) w.heap.size (Hc st0)) :: Hf) W1 := by
    refine ⟨Below.refl _ _, List.pairwise_cons.2 ⟨fun q hq b h1 h2 => ?_, hwf.apart⟩, fun p hp => ?_⟩
    · have hlt := Piece.lt (hwf.holds q hq) h2
      rcases zOf_ne h1 with h | h | ⟨p, hp, h⟩
      · omega
      · omega
      · exact hap p hp q hq b h h2
    · rcases List.mem_cons.1 hp with rfl | hp
      · exact zOf_holds _ _ _ _
      · exact hwf1.holds p hp
  have hcall := hit (w.heap.size + 1) _ _ _ W1 hy ⟨st0, h0, hM0⟩ hKW
  have c1 : (Instr.enterLoop fn a.tmps ps assign body none).run P w = .ok (w.heap.size + 1, [{ target := .collected w.heap.size, args := #[] }]) W1 := by
    rw [hW1, hrec]; exact run_enterLoop_outer _ _ _ _ _
  have c2 : (resolve a.eval (rangeCall g (w.heap.size + 1)) 0).run P W1 = .ok { target := .fn (.func gf) lb, args := #[.func (.yield (w.heap.size + 1)) #[] #[]] } W1 := by
    simp only [resolve, rangeCall, ha.eval hg, Deferred.ofValue, Sem.run_bind, Sem.run_pure, Result.andThen_ok]
    simp [Act.eval]
  have c3 : (invoke (.fn (.func gf) lb) #[.func (.yield (w.heap.size + 1)) #[] #[]]).run P W1 = .ok (.enter gf (#[.func (.yield (w.heap.size + 1)) #[] #[]] ++ lb)) W1 := by
    simp only [invoke]
    exact callFunc_run hb _ W1
  refine ⟨w.heap.size + 1, _, W1, _, W1, gf, _, W1, c1, c2, fun _ _ => trivial, c3, fun h => (by cases h), callsIn_fen none _ (Calls.mono hcall ?_)⟩
  -- behind the iterator
  have hend : ∀ (st : σ) (jump : Option Code) (state : LoopState) (Z' : PH) (W2 : World), state ≠ .busy →
      Makes Z' (w.heap.size + 1) w.heap.size (.loop (rec_ state jump)) (.deferred (some [])) (Hc st) → Turn (zOf W1 (w.heap.size + 1) w.heap.size (Hc st0)) Z' W1 W2 →
      ∃ W3, (Instr.endLoop (w.heap.size + 1)).run P W2 = .ok jump W3 ∧ ∃ Zd : PH, Zd w.heap.size = some (.deferred (some [])) ∧ KH w0 (Hc st ++ (Hf ++ [.fz Zd])) W3 := by
    intro st jump state Z' W2 hst hM ht
    have hl2 := ht.held _ _ hM.rec_
    have hD2 := ht.held _ _ hM.def_
    have e4 : (rec_ state jump).pending = jump := by rw [hrec]
    obtain ⟨o', he⟩ : ∃ o', (Instr.endLoop (w.heap.size + 1)).run P W2 = .ok jump (W2.putObj (w.heap.size + 1) o') :=
      ⟨_, (run_endLoop (P := P) hl2 (by rw [hrec]; exact hst)).trans (congrArg (fun j => Result.ok j _) e4)⟩
    refine ⟨_, he, fun b => if b = w.heap.size then some (.deferred (some [])) else none, by simp, ?_⟩
    have hoth : ∀ b, b ≠ w.heap.size + 1 → (W2.putObj (w.heap.size + 1) o').heap[b]? = W2.heap[b]? := fun b hb => World.putObj_heap_other hb
    have hq2 : ∀ q ∈ Hf, ∀ b, q.foot b → (W2.putObj (w.heap.size + 1) o').heap[b]? = w.heap[b]? := fun q hq b hb => by
      have hlt := Piece.lt (hwf.holds q hq) hb
      rw [hoth b (by omega), ht.other b (by omega) ?_, hb1.block b hlt]
      apply Classical.byContradiction
      intro hne
      rcases zOf_ne hne with h | h | ⟨p, hp, h⟩
      · omega
      · omega
      · exact hap p hp q hq b h hb
    refine ⟨hw.glob.trans ((hb1.mono (Nat.zero_le _)).trans (ht.glob.trans (below_putObj _ _ _))), ?_, ?_⟩
    · refine List.pairwise_append.2 ⟨hM.apart, List.pairwise_append.2 ⟨hwf.apart, List.pairwise_singleton _ _, fun q hq p hp b h1 h2 => ?_⟩, fun p hp q hq b h1 h2 => ?_⟩
      · simp only [List.mem_singleton] at hp
        subst hp
        have hlt := Piece.lt (hwf.holds q hq) h1
        simp only [Piece.foot] at h2
        rw [if_neg (by omega)] at h2
        exact h2 rfl
      · obtain ⟨hz, h4, h5⟩ := hM.foot p hp b h1
        rcases List.mem_append.1 hq with hq | hq
        · have hlt := Piece.lt (hwf.holds q hq) h2
          rcases ht.foot b hz with h | h
          · rcases zOf_ne h with h | h | ⟨p', hp', h⟩
            · omega
            · omega
            · exact hap p' hp' q hq b h h2
          · omega
        · simp only [List.mem_singleton] at hq
          subst hq
          simp only [Piece.foot] at h2
          rw [if_neg h5] at h2
          exact h2 rfl
    · intro p hp
      rcases List.mem_append.1 hp with hp | hp
      · exact Piece.keep (hM.holds W2 ht.held p hp) fun b hb => hoth b (hM.foot p hp b hb).2.1
      · rcases List.mem_append.1 hp with hp | hp
        · exact Piece.keep (hwf.holds p hp) fun b hb => hq2 p hp b hb
        · simp only [List.mem_singleton] at hp
          subst hp
          intro b o hb
          by_cases e : b = w.heap.size
          · subst e
            simp only [if_pos] at hb
            cases hb
            rw [hoth _ (by omega)]
            exact hD2
          · simp only [if_neg e] at hb; cases hb
  have hkn : ∀ D : Nat, Knows ⟨none, n, { target := .collected D, args := #[] } :: ds⟩ fr { a with defers := [{ target := .collected D, args := #[] }] ++ a.defers } := fun D => ⟨ha.size, by rw [had]; rfl, ha.get⟩
  rintro e W2 ⟨⟨v, rfl⟩, (⟨Z', ⟨st, hJ, hM⟩, ht⟩ | ⟨pre, Z', ⟨c, st, hJ, hM⟩, ht⟩)⟩
  · obtain ⟨W3, he, Zd, hZd, hK3⟩ := hend st none .ready Z' W2 (by simp) hM ht
    exact ⟨none, W3, he, hdone _ Zd st hZd hJ _ W3 (hkn _) hK3⟩
  · obtain ⟨W3, he, Zd, hZd, hK3⟩ := hend st (some c) .done Z' W2 (by simp) hM ht
    have := hleft _ Zd c pre st hZd hJ _ W3 (hkn _) hK3
    exact ⟨some c, W3, he, this⟩
/-- the way out of a function that holds a range over a function -/
theorem enterM_ {n : Nat} {f : FuncId} {fn : Func} {c : Code} {args : List Value} {w : World} {R : Ending → World → Prop} (hf : P.funcs[f]? = some fn) (hb : fn.body = some c) (hN : fn.ntmps = n) (hle : Nat.ble args.length n = true)
    (h : WP P (bodyPostM (fen none) 0 P fn R) ⟨none, n, []⟩ w [.code c] (argsFr 0 args) [.fz (PH.of w)]) : Calls P f args.toArray w R := by
  refine (callsIn_wide (n := 0)).1 (callsIn_of_wp_marks hf hb trivial ?_)
  subst hN
  exact enterKnows hle (KH.start w) h
theorem WP.retM1 {n : Nat} (hL : TyOk P L) {fn : Func} {R : Ending → World → Prop} {rs : List ResultVar} {vs : List Value} {D : Nat} {Zd : PH} (hn : norm 1000 k = .code .ret :: k') (hD : Zd D = some (.deferred (some []))) (hm : Rem (.fz Zd) H H1) (hr : fn.results.toList = rs) (hv : ResAt L fr H1 rs vs)
    (h : ∀ w, KH w0 H1 w → R (.returned (resVal vs)) w) : WP P (bodyPostM (fen none) 0 P fn R) ⟨none, n, [{ target := .collected D, args := #[] }]⟩ w0 k fr H := by
  refine WP.to hn fun a w ha hw => wpIn_ret (sem_ret _ _ _ ?_)
  have hd : w.heap[D]? = some (.deferred (some [])) := (hw.rem hm).1 D _ hD
  have hds : a.defers = [{ target := .collected D, args := #[] }] := ha.defers
  show LeavesInM (fen none) 0 P fn a.tmps R a.defers .returning w
  rw [hds]
  have hw1 : KH w0 H1 (w.putObj D (.deferred none)) := by
    have := hw.turn (p' := .fz fun _ => none) hm (below_putObj w D (.deferred none)) (fun b hb hp => ?_) (fun b o hb => by cases hb) (fun b hb => absurd rfl hb)
    · exact ⟨this.glob, (List.pairwise_cons.1 this.apart).2, fun p hp => this.holds p (List.mem_cons_of_mem _ hp)⟩
    · refine World.putObj_heap_other fun e => hp ?_
      subst e
      show Zd b ≠ none
      rw [hD]; simp
  refine ⟨by simp, .inl ⟨D, _, rfl, run_takeDeferred hd, ?_⟩⟩
  exact ⟨resVal vs, results_run (by rw [hr]; exact resAt_run (N := ⟨none, n, [{ target := .collected D, args := #[] }]⟩) hL ha hw1 rs vs hv), h _ hw1⟩

/-- all but a part -/
noncomputable def PH.but (w : World) (Z : PH) : PH := fun b => by classical exact if Z b = none then w.heap[b]? else none
theorem KH.split {w w0 : World} {H : Heap} {Z : PH} (h : KH w0 (.fz Z :: H) w) : KH w [.fz Z, .fz (PH.but w Z)] w := by
  refine ⟨Below.refl _ _, List.pairwise_cons.2 ⟨fun q hq b h1 h2 => ?_, List.pairwise_singleton _ _⟩, fun p hp => ?_⟩
  · simp only [List.mem_singleton] at hq
    subst hq
    simp only [Piece.foot, PH.but] at h1 h2
    rw [if_neg h1] at h2
    exact h2 rfl
  · rcases List.mem_cons.1 hp with rfl | hp
    · exact h.holds _ (by simp)
    · simp only [List.mem_singleton] at hp
      subst hp
      intro b o hb
      simp only [PH.but] at hb
      split at hb
      · exact hb
      · cases hb
theorem KH.butFz {w w0 : World} {H H1 : Heap} {Z Zg : PH} (h : KH w0 (.fz Z :: H) w) (hm : Rem (.fz Zg) H H1) : Zg.le (PH.but w Z) := fun b o hb => by
  have h1 : (Piece.fz Zg).holds w := h.holds _ (List.mem_cons_of_mem _ hm.mem.1)
  have h2 := (List.pairwise_cons.1 h.apart).1 _ hm.mem.1
  have hz : Z b = none := by
    cases hz : Z b with
    | none => rfl
    | some o' => exact (h2 b (by simp [Piece.foot, hz]) (by simp [Piece.foot, hb])).elim
  simp only [PH.but]
  rw [if_pos hz]
  exact h1 b o hb
theorem KH.butCell {w w0 : World} {H H1 : Heap} {Z : PH} {g j : Nat} {e : TypeId} {cs : List Value} {v : Value} (h : KH w0 (.fz Z :: H) w) (hm : Rem (.blk g e cs) H H1) (hc : lget cs j = some v) : Zc (PH.but w Z) g j = some v := by
  have h1 : w.heap[g]? = some (.cells cs.toArray e (0, 0)) := h.holds _ (List.mem_cons_of_mem _ hm.mem.1)
  have h2 := (List.pairwise_cons.1 h.apart).1 _ hm.mem.1
  have hz : Z g = none := by
    cases hz : Z g with
    | none => rfl
    | some o' => exact (h2 g (by simp [Piece.foot, hz]) rfl).elim
  rw [lget_eq] at hc
  have e : PH.but w Z g = w.heap[g]? := by simp only [PH.but]; rw [if_pos hz]
  simp [Zc, e, h1, hc]
theorem KH.toTurn {w w' : World} {H : Heap} {Z Z' : PH} (h : KH w H w') (hp : Pick [.fz Z', .fz (PH.but w Z)] H) : Turn Z Z' w w' := by
  have h' := h.pick hp
  have hb : (Piece.fz (PH.but w Z)).holds w' := h'.holds _ (by simp)
  refine ⟨h'.glob, h'.holds _ (by simp), fun b hlt hn => ?_, fun b hz => ?_⟩
  · have e : PH.but w Z b = w.heap[b]? := by simp only [PH.but]; rw [if_pos hn]
    rw [Array.getElem?_eq_getElem hlt] at e
    rw [hb b _ e, Array.getElem?_eq_getElem hlt]
  · by_cases hlt : b < w.heap.size
    · left
      intro hn
      refine (List.pairwise_cons.1 h'.apart).1 (.fz (PH.but w Z)) (by simp) b hz ?_
      show PH.but w Z b ≠ none
      simp only [PH.but]
      rw [if_pos hn, Array.getElem?_eq_getElem hlt]
      simp
    · right; omega
/-- a slice of the call's own: its shape; its cells -/
theorem WP.shape2 {v : Value} {e : TypeId} {z n : Nat} {cs : List Value} (hm : Rem (.own v e z n cs) H H1)
    (h : ∀ A c, v = .slice A n c → (0 < n → ∃ g, A = some ⟨g, 0, none⟩) → WP P Q N w0 k fr H) : WP P Q N w0 k fr H := fun a w ha hw => by
  have h' : w.ownsRow 0 e z v n cs := hw.mem hm.mem.1
  rcases h'.2 with ⟨rfl, rfl⟩ | ⟨g, cap, cur, rfl, _⟩
  · exact h _ _ rfl (fun h => by omega) a w ha hw
  · exact h _ _ rfl (fun _ => ⟨g, rfl⟩) a w ha hw
theorem CellAt.own {g n c o z : Nat} {e : TypeId} {cs : List Value} {v : Value} (hm : Rem (.own (.slice (some ⟨g, 0, none⟩) n c) e z n cs) H H1) (hc : lget cs o = some v) : CellAt H g o v := fun w0 w hw => by
  have h' : w.ownsRow 0 e z (.slice (some ⟨g, 0, none⟩) n c) n cs := hw.mem hm.mem.1
  rw [lget_eq] at hc
  have := h'.cells (g := g) rfl o v hc
  rw [add_addr] at this
  by_cases h0 : o = 0
  · subst h0; simpa using this
  · rw [if_neg h0] at this; simpa using this
end
end Go.Qe
