/- The layer: ranges over functions whose rounds make memory; folds; what iterators give. -/
import Derived.Test.YthelgjfdkdaijaaDoorEngG
namespace Go.Qe
open Go.RowKit
section
variable {P : Program} {Q : Exit → Act → World → Prop} {N : Cx} {w0 : World} {k k' : List Kont} {fr : Fr} {H H1 : Heap} {L : List TyD} {o : Oper}
/-- one round, walked: the caller's offer; its assignment may make memory -/
theorem round_yieldsG {α σ β : Type} {n : Nat} {ps : Array Tmp} {assign body : Code} {encs : α → Array Value} {xs : List α} (hps : ∀ x, (encs x).size = ps.size) (hpn : allLt n ps.toList = true)
    {Jc : List α → σ → Prop} {Hc : σ → Heap} {Jx : Code → List α → σ → Prop} {fr1 : α → β → Fr} {Ha : α → β → Heap}
    (hass : ∀ (l : Nat) (x : α) (W : World) (Zr : PH), WP P (fun _ _ _ => False) ⟨some l, n, []⟩ W [.code assign, .stop (At ⟨some l, n, []⟩ W (fun _ : β => True) (fun y => fr1 x y) (fun y => Ha x y ++ [.fz Zr]))] (parFr (ps.toList.zip (encs x).toList) fr) [.fz Zr])
    (hbody : ∀ (l : Nat) (pre : List α) (x : α) (post : List α) (st : σ) (y : β) (W : World) (Zr : PH), xs = pre ++ x :: post → Jc pre st →
      WP P (Leaves Jx Hc (pre ++ [x]) W Zr) ⟨some l, n, []⟩ W [.code body, .stop (At ⟨some l, n, []⟩ W (fun st' => Jc (pre ++ [x]) st') (fun _ => []) (fun st' => Hc st' ++ [.fz Zr]))] (fr1 x y) (Ha x y ++ (Hc st ++ [.fz Zr])))
    {fn : FuncId} {l D : Nat} (hlD : l ≠ D) {a : Act} (ha : Knows ⟨none, n, a.defers⟩ fr a) {rec_ : LoopState → Option Code → Loop} (hrec : rec_ = fun st pe => { state := st, pending := pe, fn, tmps := a.tmps, params := ps, assign, body, defers := D }) :
    Yields P l encs xs (fun pre Z => ∃ st, Jc pre st ∧ Makes Z l D (.loop (rec_ .ready none)) (.deferred (some [])) (Hc st))
      (fun pre Z => ∃ c st, Jx c pre st ∧ Makes Z l D (.loop (rec_ .done (some c))) (.deferred (some [])) (Hc st)) := by
  rintro pre x Z W ⟨post, hxs⟩ ⟨st, hJ, hM⟩ hZW
  have hl : W.heap[l]? = some (.loop (rec_ .ready none)) := hZW l _ hM.rec_
  have hD : W.heap[D]? = some (.deferred (some [])) := hZW D _ hM.def_
  have hllt := lt_of_some hl
  have hDlt := lt_of_some hD
  have hy := run_yield (P := P) (args := encs x) hl (by rw [hrec]; exact hps x)
  rw [hrec] at hy
  refine ⟨fn, _, assign, body, hy, roundIn_of_wpIn (F := fen none) trivial ?_⟩
  -- the assignment
  have hk0 : Knows ⟨some l, n, []⟩ (parFr (ps.toList.zip (encs x).toList) fr) { tmps := (ps.zip (encs x)).foldl (fun t (p, v) => t.setIfInBounds p v) a.tmps, defers := [] } := by
    have h0 : Knows ⟨some l, n, []⟩ fr { tmps := a.tmps, defers := [] } := ⟨ha.size, rfl, ha.get⟩
    have := knows_par (ps.toList.zip (encs x).toList) fr a.tmps (by
      have : (ps.toList.zip (encs x).toList).map (·.1) = ps.toList := by
        rw [List.map_fst_zip]
        simp [hps x]
      rw [this]; exact hpn) h0
    rw [← Array.foldl_toList, Array.toList_zip]
    exact this
  have h1 := hass l x W (PH.of W) _ W hk0 (KH.start W)
  have h1' : assign.wpIn (fen (some l)) 0 P (Exit.then (At ⟨some l, n, []⟩ W (fun _ : β => True) (fun y => fr1 x y) (fun y => Ha x y ++ [.fz (PH.of W)])) (fun _ _ _ => False)) _ W := h1
  refine wpIn_mono h1' ?_
  intro e a1 w1 hq
  cases e with
  | exit id => exact hq.elim
  | goto t => exact hq.elim
  | ret => exact hq.elim
  | panic c => exact hq.elim
  | outgrown => exact hq.elim
  | normal =>
  obtain ⟨y, _, hk1, hw1⟩ := hq
  obtain ⟨hwa, hwz, hapa⟩ := hw1.app
  have hold : ∀ b o, W.heap[b]? = some o → w1.heap[b]? = some o := hw1.holds (.fz (PH.of W)) (by simp)
  have hnew : ∀ p ∈ Ha x y, ∀ b, p.foot b → W.heap.size ≤ b := fun p hp b hb => by
    apply Classical.byContradiction
    intro hlt
    refine hapa p hp (.fz (PH.of W)) (by simp) b hb ?_
    show W.heap[b]? ≠ none
    rw [Array.getElem?_eq_getElem (by omega)]
    simp
  have hsz : W.heap.size ≤ w1.heap.size := hw1.glob.size
  have hl1 := hold l _ hl
  -- the record is busy
  obtain ⟨w2, hw2⟩ : ∃ w2, w2 = w1.putObj l (.loop { rec_ .ready none with state := .busy }) := ⟨_, rfl⟩
  refine ⟨w2, by rw [hw2]; exact run_beginRound hl1 (by rw [hrec]), ?_⟩
  have hb2 : ∀ b o, b ≠ l → W.heap[b]? = some o → w2.heap[b]? = some o := fun b o hb ho => by rw [hw2, World.putObj_heap_other hb]; exact hold b o ho
  have hl2 : w2.heap[l]? = some (.loop { rec_ .ready none with state := .busy }) := by rw [hw2]; exact World.putObj_heap_same (lt_of_some hl1)
  have hs2 : w2.heap.size = w1.heap.size := by rw [hw2, World.putObj_size]
  have hg2 : Below 0 W w2 := by rw [hw2]; exact hw1.glob.trans (below_putObj w1 l _)
  -- the pieces, and all else
  obtain ⟨Zr, hZr⟩ : ∃ Zr : PH, ∀ b, ((∃ p ∈ Ha x y ++ Hc st, p.foot b) → Zr b = none) ∧ (¬ (∃ p ∈ Ha x y ++ Hc st, p.foot b) → Zr b = w2.heap[b]?) := by
    classical
    exact ⟨fun b => if ∃ p ∈ Ha x y ++ Hc st, p.foot b then none else w2.heap[b]?, fun b => ⟨fun h => by simp only [if_pos h], fun h => by simp only [if_neg h]⟩⟩
  have hpa : ∀ p ∈ Ha x y, p.holds w2 := fun p hp => Piece.keep (hwa.holds p hp) fun b hb => by
    have hlt := Piece.lt (hwa.holds p hp) hb
    have hbl : b ≠ l := fun e => by have := hnew p hp b hb; have := lt_of_some hl; omega
    rw [hw2, World.putObj_heap_other hbl]
  have hp2 : ∀ p ∈ Hc st, p.holds w2 := fun p hp => Piece.keep (hM.holds W hZW p hp) fun b hb => by
    have hlt := Piece.lt (hM.holds W hZW p hp) hb
    rw [hb2 b _ (hM.foot p hp b hb).2.1 (Array.getElem?_eq_getElem hlt), Array.getElem?_eq_getElem hlt]
  have hpx : ∀ p ∈ Ha x y ++ Hc st, p.holds w2 := fun p hp => by
    rcases List.mem_append.1 hp with hp | hp
    · exact hpa p hp
    · exact hp2 p hp
  have hltW : ∀ p ∈ Hc st, ∀ b, p.foot b → b < W.heap.size := fun p hp b hb => Piece.lt (hM.holds W hZW p hp) hb
  have hpap : (Ha x y ++ Hc st).Pairwise Piece.apart := List.pairwise_append.2 ⟨hwa.apart, hM.apart, fun p hp q hq b h2 h3 => by
    have := hnew p hp b h2
    have := hltW q hq b h3
    omega⟩
  have hK2 : KH w2 (Ha x y ++ (Hc st ++ [.fz Zr])) w2 := by
    rw [← List.append_assoc]
    refine ⟨Below.refl _ _, List.pairwise_append.2 ⟨hpap, List.pairwise_singleton _ _, fun p hp q hq b h2 h3 => ?_⟩, fun p hp => ?_⟩
    · simp only [List.mem_singleton] at hq
      subst hq
      exact h3 ((hZr b).1 ⟨p, hp, h2⟩)
    · rcases List.mem_append.1 hp with hp | hp
      · exact hpx p hp
      · simp only [List.mem_singleton] at hp
        subst hp
        intro b o hb
        by_cases h : ∃ p ∈ Ha x y ++ Hc st, p.foot b
        · rw [(hZr b).1 h] at hb; cases hb
        · rwa [(hZr b).2 h] at hb
  have hnl : ¬ ∃ p ∈ Ha x y ++ Hc st, p.foot l := fun ⟨p, hp, hb⟩ => by
    rcases List.mem_append.1 hp with hp | hp
    · have := hnew p hp l hb; omega
    · exact (hM.foot p hp l hb).2.1 rfl
  have hnD : ¬ ∃ p ∈ Ha x y ++ Hc st, p.foot D := fun ⟨p, hp, hb⟩ => by
    rcases List.mem_append.1 hp with hp | hp
    · have := hnew p hp D hb; omega
    · exact (hM.foot p hp D hb).2.2 rfl
  have hZl : Zr l = some (.loop { rec_ .ready none with state := .busy }) := by rw [(hZr l).2 hnl, hl2]
  have hZD : Zr D = some (.deferred (some [])) := by rw [(hZr D).2 hnD, hb2 D _ (Ne.symm hlD) hD]
  have h2 := hbody l pre x post st y w2 Zr hxs hJ a1 w2 hk1 hK2
  have h2' : body.wpIn (fen (some l)) 0 P (Exit.then (At ⟨some l, n, []⟩ w2 (fun st' => Jc (pre ++ [x]) st') (fun _ => []) (fun st' => Hc st' ++ [.fz Zr])) (Leaves Jx Hc (pre ++ [x]) w2 Zr)) a1 w2 := h2
  -- what a round leaves, whichever way
  have fin : ∀ (jump : Option Code) (st' : σ) (w3 : World), KH w2 (Hc st' ++ [.fz Zr]) w3 →
      ∃ w4 Z', (Instr.endRound l jump).run P w3 = .ok (.bool jump.isNone) w4 ∧ Makes Z' l D (.loop (rec_ (if jump.isNone then .ready else .done) jump)) (.deferred (some [])) (Hc st') ∧ Turn Z Z' W w4 := by
    intro jump st' w3 hw3
    obtain ⟨h3a, h3b, h3c⟩ := hw3.app
    have hZr3 : (Piece.fz Zr).holds w3 := h3b.holds _ (by simp)
    have hl3 := hZr3 l _ hZl
    have hD3 := hZr3 D _ hZD
    have hend := run_endRound (P := P) jump hl3
    obtain ⟨w4, hw4⟩ : ∃ w4, w4 = w3.putObj l (.loop { { rec_ .ready none with state := .busy } with state := if jump.isNone then .ready else .done, pending := jump }) := ⟨_, rfl⟩
    rw [← hw4] at hend
    have e4 : (Loop.mk (if jump.isNone then .ready else .done) jump (rec_ .ready none).fn (rec_ .ready none).tmps (rec_ .ready none).params (rec_ .ready none).assign (rec_ .ready none).body (rec_ .ready none).defers) = rec_ (if jump.isNone then .ready else .done) jump := by rw [hrec]
    have hl4 : w4.heap[l]? = some (.loop (rec_ (if jump.isNone then .ready else .done) jump)) := by
      rw [hw4, World.putObj_heap_same (lt_of_some hl3), ← e4]
    have hoth : ∀ b, b ≠ l → w4.heap[b]? = w3.heap[b]? := fun b hb => by rw [hw4]; exact World.putObj_heap_other hb
    have hD4 : w4.heap[D]? = some (.deferred (some [])) := by rw [hoth D (Ne.symm hlD)]; exact hD3
    have hfoot : ∀ p ∈ Hc st', ∀ b, p.foot b → b ≠ l ∧ b ≠ D := fun p hp b hb => by
      refine ⟨fun e => ?_, fun e => ?_⟩
      · subst e; exact h3c p hp _ (List.mem_singleton.2 rfl) b hb (by show Zr b ≠ none; rw [hZl]; simp)
      · subst e; exact h3c p hp _ (List.mem_singleton.2 rfl) b hb (by show Zr b ≠ none; rw [hZD]; simp)
    have hK4 : KH w2 (Hc st') w4 := ⟨h3a.glob.trans (by rw [hw4]; exact below_putObj _ _ _), h3a.apart, fun p hp => Piece.keep (h3a.holds p hp) fun b hb => hoth b (hfoot p hp b hb).1⟩
    refine ⟨w4, zOf w4 l D (Hc st'), hend, Makes.of hK4 hl4 hD4 hfoot, ⟨hg2.trans hK4.glob, zOf_holds _ _ _ _, fun b hb hn => ?_, fun b hb => ?_⟩⟩
    · have hbl : b ≠ l := fun e => by subst e; rw [hM.rec_] at hn; cases hn
      have hnf : ¬ ∃ p ∈ Ha x y ++ Hc st, p.foot b := fun ⟨p, hp, h⟩ => by
        rcases List.mem_append.1 hp with hp | hp
        · have := hnew p hp b h; omega
        · exact (hM.foot p hp b h).1 hn
      have hWb := Array.getElem?_eq_getElem hb
      have h22 := hb2 b _ hbl hWb
      rw [hoth b hbl, hZr3 b _ (by rw [(hZr b).2 hnf]; exact h22), hWb]
    · rcases zOf_ne hb with h | h | ⟨p, hp, h⟩
      · subst h; left; rw [hM.rec_]; simp
      · subst h; left; rw [hM.def_]; simp
      · by_cases hlt : b < W.heap.size
        · left
          intro hn
          have hbl := (hfoot p hp b h).1
          have hnf : ¬ ∃ p ∈ Ha x y ++ Hc st, p.foot b := fun ⟨p, hp, h⟩ => by
            rcases List.mem_append.1 hp with hp | hp
            · have := hnew p hp b h; omega
            · exact (hM.foot p hp b h).1 hn
          refine h3c p hp _ (List.mem_singleton.2 rfl) b h ?_
          show Zr b ≠ none
          rw [(hZr b).2 hnf, hb2 b _ hbl (Array.getElem?_eq_getElem hlt)]
          simp
        · right; omega
  refine wpIn_mono h2' ?_
  intro e a3 w3 hq
  cases e with
  | normal =>
    obtain ⟨st', hJ', _, hw3⟩ := hq
    obtain ⟨w4, Z', he, hM', ht⟩ := fin none st' w3 hw3
    exact ⟨_, w4, he, .inl ⟨rfl, Z', ⟨st', hJ', hM'⟩, ht⟩⟩
  | ret =>
    obtain ⟨c, hc, st', hJ', hw3⟩ := hq
    cases hc
    obtain ⟨w4, Z', he, hM', ht⟩ := fin (some .ret) st' w3 hw3
    exact ⟨_, w4, he, .inr ⟨rfl, Z', ⟨_, st', hJ', hM'⟩, ht⟩⟩
  | exit id =>
    obtain ⟨c, hc, st', hJ', hw3⟩ := hq
    cases hc
    obtain ⟨w4, Z', he, hM', ht⟩ := fin (some (.exit id)) st' w3 hw3
    exact ⟨_, w4, he, .inr ⟨rfl, Z', ⟨_, st', hJ', hM'⟩, ht⟩⟩
  | goto t =>
    obtain ⟨c, hc, st', hJ', hw3⟩ := hq
    cases hc
    obtain ⟨w4, Z', he, hM', ht⟩ := fin (some (.goto t)) st' w3 hw3
    exact ⟨_, w4, he, .inr ⟨rfl, Z', ⟨_, st', hJ', hM'⟩, ht⟩⟩
  | panic c => obtain ⟨c, hc, _⟩ := hq; cases hc
  | outgrown => obtain ⟨c, hc, _⟩ := hq; cases hc

set_option maxHeartbeats 2000000 in
/-- a range over a function; the assignment of a round may make memory -/
theorem WP.rangeG {α σ β : Type} {n gf : Nat} {ds : List Deferred} {g : Operand} {lb : Array Value} {ps : Array Tmp} {assign body : Code} {encs : α → Array Value} (xs : List α) {Jc : List α → σ → Prop} {Hc : σ → Heap} {Jx : Code → List α → σ → Prop} (fr1 : α → β → Fr) (Ha : α → β → Heap) (Hf : Heap) (st0 : σ)
    (hn : norm 1000 k = .code (.rangeFunc g ps assign body) :: k') (hg : val fr g = some (.func (.func gf) #[] lb)) (hb : callable P gf = true)
    (hps : ∀ x, (encs x).size = ps.size) (hpn : allLt n ps.toList = true) (h0 : Jc [] st0) (hH : Pick (Hc st0 ++ Hf) H)
    (hit : Iter P gf lb encs xs Hf)
    (hass : ∀ (l : Nat) (x : α) (W : World) (Zr : PH), WP P (fun _ _ _ => False) ⟨some l, n, []⟩ W [.code assign, .stop (At ⟨some l, n, []⟩ W (fun _ : β => True) (fun y => fr1 x y) (fun y => Ha x y ++ [.fz Zr]))] (parFr (ps.toList.zip (encs x).toList) fr) [.fz Zr])
    (hbody : ∀ (l : Nat) (pre : List α) (x : α) (post : List α) (st : σ) (y : β) (W : World) (Zr : PH), xs = pre ++ x :: post → Jc pre st →
      WP P (Leaves Jx Hc (pre ++ [x]) W Zr) ⟨some l, n, []⟩ W [.code body, .stop (At ⟨some l, n, []⟩ W (fun st' => Jc (pre ++ [x]) st') (fun _ => []) (fun st' => Hc st' ++ [.fz Zr]))] (fr1 x y) (Ha x y ++ (Hc st ++ [.fz Zr])))
    (hdone : ∀ (D : Nat) (Zd : PH) (st : σ), Zd D = some (.deferred (some [])) → Jc xs st → WP P Q ⟨none, n, { target := .collected D, args := #[] } :: ds⟩ w0 k' fr (Hc st ++ (Hf ++ [.fz Zd])))
    (hleft : ∀ (D : Nat) (Zd : PH) (c : Code) (pre : List α) (st : σ), Zd D = some (.deferred (some [])) → Jx c pre st → WP P Q ⟨none, n, { target := .collected D, args := #[] } :: ds⟩ w0 (.code c :: k') fr (Hc st ++ (Hf ++ [.fz Zd]))) : WP P Q ⟨none, n, ds⟩ w0 k fr H := by
  refine WP.to hn fun a w ha hw => ?_
  show (Code.rangeFunc g ps assign body).wpIn (fen none) 0 P (sem P none Q k') a w
  obtain ⟨hwc, hwf, hap⟩ := (hw.pick hH).app
  have had := ha.defers
  refine wpIn_rangeFunc fun fn hfn => ?_
  obtain ⟨rec_, hrec⟩ : ∃ rec_ : LoopState → Option Code → Loop, rec_ = fun st pe => { state := st, pending := pe, fn, tmps := a.tmps, params := ps, assign, body, defers := w.heap.size } := ⟨_, rfl⟩
  obtain ⟨W1, hW1⟩ : ∃ W1, W1 = (w.alloc (.deferred (some []))).alloc (.loop (rec_ .ready none)) := ⟨_, rfl⟩
  have hL1 : W1.heap[w.heap.size + 1]? = some (.loop (rec_ .ready none)) := by
    rw [hW1]; have := World.alloc_heap_new (w.alloc (.deferred (some []))) (.loop (rec_ .ready none)); rwa [World.size_alloc] at this
  have hK1 : W1.heap[w.heap.size]? = some (.deferred (some [])) := by
    rw [hW1]; exact (Below.heap_alloc _ _ _ (by simp)).trans (World.alloc_heap_new w _)
  have hb1 : Below w.heap.size w W1 := by
    rw [hW1]; exact ((Below.refl _ w).alloc (Nat.le_refl _) _).alloc (by simp) _
  have hs1 : W1.heap.size = w.heap.size + 2 := by rw [hW1]; simp
  have hwc1 := hwc.below hb1
  have hwf1 := hwf.below hb1
  have hM0 : Makes (zOf W1 (w.heap.size + 1) w.heap.size (Hc st0)) (w.heap.size + 1) w.heap.size (.loop (rec_ .ready none)) (.deferred (some [])) (Hc st0) :=
    Makes.of hwc1 hL1 hK1 fun p hp b hb => by
      have := Piece.lt (hwc.holds p hp) hb
      exact ⟨by omega, by omega⟩
  have hy := round_yieldsG (P := P) (l := w.heap.size + 1) (D := w.heap.size) (fn := fn) hps hpn hass hbody (by omega) (a := a) ⟨ha.size, rfl, ha.get⟩ (rec_ := rec_) (by rw [hrec])
  have hKW : KH W1 (.fz (zOf W1 (w.heap.size + 1) w.heap.size (Hc st0)) :: Hf) W1 := by
    refine ⟨Below.refl _ _, List.pairwise_cons.2 ⟨fun q hq b h1 h2 => ?_, hwf.apart⟩, fun p hp => ?_⟩
    · have hlt := Piece.lt (hwf.holds q hq) h2
      rcases zOf_ne h1 with h | h | ⟨p, hp, h⟩
      · omega
      · omega
      · exact hap p hp q hq b h h2
    · rcases List.mem_cons.1 hp with rfl | hp
      · exact zOf_holds _ _ _ _
      · exact hwf1.holds p hp
  have hcall := hit (w.heap.size + 1) _ _ _ W1 hy ⟨st0, h0, hM0⟩ hKW
  have c1 : (Instr.enterLoop fn a.tmps ps assign body none).run P w = .ok (w.heap.size + 1, [{ target := .collected w.heap.size, args := #[] }]) W1 := by
    rw [hW1, hrec]; exact run_enterLoop_outer _ _ _ _ _
  have c2 : (resolve a.eval (rangeCall g (w.heap.size + 1)) 0).run P W1 = .ok { target := .fn (.func gf) lb, args := #[.func (.yield (w.heap.size + 1)) #[] #[]] } W1 := by
    simp only [resolve, rangeCall, ha.eval hg, Deferred.ofValue, Sem.run_bind, Sem.run_pure, Result.andThen_ok]
    simp [Act.eval]
  have c3 : (invoke (.fn (.func gf) lb) #[.func (.yield (w.heap.size + 1)) #[] #[]]).run P W1 = .ok (.enter gf (#[.func (.yield (w.heap.size + 1)) #[] #[]] ++ lb)) W1 := by
    simp only [invoke]
    exact callFunc_run hb _ W1
  refine ⟨w.heap.size + 1, _, W1, _, W1, gf, _, W1, c1, c2, fun _ _ => trivial, c3, fun h => (by cases h), callsIn_fen none _ (Calls.mono hcall ?_)⟩
  -- behind the iterator
  have hend : ∀ (st : σ) (jump : Option Code) (state : LoopState) (Z' : PH) (W2 : World), state ≠ .busy →
      Makes Z' (w.heap.size + 1) w.heap.size (.loop (rec_ state jump)) (.deferred (some [])) (Hc st) → Turn (zOf W1 (w.heap.size + 1) w.heap.size (Hc st0)) Z' W1 W2 →
      ∃ W3, (Instr.endLoop (w.heap.size + 1)).run P W2 = .ok jump W3 ∧ ∃ Zd : PH, Zd w.heap.size = some (.deferred (some [])) ∧ KH w0 (Hc st ++ (Hf ++ [.fz Zd])) W3 := by
    intro st jump state Z' W2 hst hM ht
    have hl2 := ht.held _ _ hM.rec_
    have hD2 := ht.held _ _ hM.def_
    have e4 : (rec_ state jump).pending = jump := by rw [hrec]
    obtain ⟨o', he⟩ : ∃ o', (Instr.endLoop (w.heap.size + 1)).run P W2 = .ok jump (W2.putObj (w.heap.size + 1) o') :=
      ⟨_, (run_endLoop (P := P) hl2 (by rw [hrec]; exact hst)).trans (congrArg (fun j => Result.ok j _) e4)⟩
    refine ⟨_, he, fun b => if b = w.heap.size then some (.deferred (some [])) else none, by simp, ?_⟩
    have hoth : ∀ b, b ≠ w.heap.size + 1 → (W2.putObj (w.heap.size + 1) o').heap[b]? = W2.heap[b]? := fun b hb => World.putObj_heap_other hb
    have hq2 : ∀ q ∈ Hf, ∀ b, q.foot b → (W2.putObj (w.heap.size + 1) o').heap[b]? = w.heap[b]? := fun q hq b hb => by
      have hlt := Piece.lt (hwf.holds q hq) hb
      rw [hoth b (by omega), ht.other b (by omega) ?_, hb1.block b hlt]
      apply Classical.byContradiction
      intro hne
      rcases zOf_ne hne with h | h | ⟨p, hp, h⟩
      · omega
      · omega
      · exact hap p hp q hq b h hb
    refine ⟨hw.glob.trans ((hb1.mono (Nat.zero_le _)).trans (ht.glob.trans (below_putObj _ _ _))), ?_, ?_⟩
    · refine List.pairwise_append.2 ⟨hM.apart, List.pairwise_append.2 ⟨hwf.apart, List.pairwise_singleton _ _, fun q hq p hp b h1 h2 => ?_⟩, fun p hp q hq b h1 h2 => ?_⟩
      · simp only [List.mem_singleton] at hp
        subst hp
        have hlt := Piece.lt (hwf.holds q hq) h1
        simp only [Piece.foot] at h2
        rw [if_neg (by omega)] at h2
        exact h2 rfl
      · obtain ⟨hz, h4, h5⟩ := hM.foot p hp b h1
        rcases List.mem_append.1 hq with hq | hq
        · have hlt := Piece.lt (hwf.holds q hq) h2
          rcases ht.foot b hz with h | h
          · rcases zOf_ne h with h | h | ⟨p', hp', h⟩
            · omega
            · omega
            · exact hap p' hp' q hq b h h2
          · omega
        · simp only [List.mem_singleton] at hq
          subst hq
          simp only [Piece.foot] at h2
          rw [if_neg h5] at h2
          exact h2 rfl
    · intro p hp
      rcases List.mem_append.1 hp with hp | hp
      · exact Piece.keep (hM.holds W2 ht.held p hp) fun b hb => hoth b (hM.foot p hp b hb).2.1
      · rcases List.mem_append.1 hp with hp | hp
        · exact Piece.keep (hwf.holds p hp) fun b hb => hq2 p hp b hb
        · simp only [List.mem_singleton] at hp
          subst hp
          intro b o hb
          by_cases e : b = w.heap.size
          · subst e
            simp only [if_pos] at hb
            cases hb
            rw [hoth _ (by omega)]
            exact hD2
          · simp only [if_neg e] at hb; cases hb
  have hkn : ∀ D : Nat, Knows ⟨none, n, { target := .collected D, args := #[] } :: ds⟩ fr { a with defers := [{ target := .collected D, args := #[] }] ++ a.defers } := fun D => ⟨ha.size, by rw [had]; rfl, ha.get⟩
  rintro e W2 ⟨⟨v, rfl⟩, (⟨Z', ⟨st, hJ, hM⟩, ht⟩ | ⟨pre, Z', ⟨c, st, hJ, hM⟩, ht⟩)⟩
  · obtain ⟨W3, he, Zd, hZd, hK3⟩ := hend st none .ready Z' W2 (by simp) hM ht
    exact ⟨none, W3, he, hdone _ Zd st hZd hJ _ W3 (hkn _) hK3⟩
  · obtain ⟨W3, he, Zd, hZd, hK3⟩ := hend st (some c) .done Z' W2 (by simp) hM ht
    have := hleft _ Zd c pre st hZd hJ _ W3 (hkn _) hK3
    exact ⟨some c, W3, he, this⟩
/-- a round left for good -/
theorem WP.leaveRet {α σ : Type} {Jx : Code → List α → σ → Prop} {Hx : σ → Heap} {pre : List α} {Zr : PH} (st : σ) (hn : norm 1000 k = .code .ret :: k') (hJ : Jx .ret pre st) (hH : Pick (Hx st ++ [.fz Zr]) H) : WP P (Leaves Jx Hx pre w0 Zr) N w0 k fr H :=
  WP.to hn fun a w ha hw => wpIn_ret (sem_ret _ _ _ ⟨.ret, rfl, st, hJ, hw.pick hH⟩)
end
/-- a loop over a list, as a plain function -/
def fe {α σ ρ : Type} (body : α → (σ → Option ρ) → σ → Option ρ) : List α → (σ → Option ρ) → σ → Option ρ
  | [], k, s => k s
  | x :: xs, k, s => body x (fun s' => fe body xs k s') s
theorem fe_cons {α σ ρ : Type} {body : α → (σ → Option ρ) → σ → Option ρ} {x : α} {xs : List α} {k : σ → Option ρ} {s : σ} {r : ρ} (h : fe body (x :: xs) k s = some r) : body x (fun s' => fe body xs k s') s = some r := h
theorem cancel_post {α : Type} {xs pre post post' : List α} {x : α} (h : xs = pre ++ x :: post) (h' : xs = pre ++ post') : post' = x :: post := (List.append_cancel_left (h.symm.trans h')).symm
theorem snoc_post {α : Type} {xs pre post : List α} {x : α} (h : xs = pre ++ x :: post) : xs = (pre ++ [x]) ++ post := by rw [h]; simp
end Go.Qe
