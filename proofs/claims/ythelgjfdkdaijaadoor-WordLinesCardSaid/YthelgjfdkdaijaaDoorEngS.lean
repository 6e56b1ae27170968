/- The layer: strings; ranges over them; iterators that write what they captured. -/
import Derived.Test.YthelgjfdkdaijaaDoorEngJ
import Derived.Test.YthelgjfdkdaijaaDoorEngR
import Derived.Lib.OthersKept
import Derived.WideLaws
import Derived.Laws.BytesArg
namespace Go.Qe
open Go.RowKit
/-- what an iterator leaves that writes some pieces -/
structure TurnM (Hm : Heap) (Z Z' : PH) (W W' : World) : Prop where
  glob : Below 0 W W'
  held : (Piece.fz Z').holds W'
  other : ∀ b, b < W.heap.size → Z b = none → (¬ ∃ p ∈ Hm, p.foot b) → W'.heap[b]? = W.heap[b]?
  foot : ∀ b, Z' b ≠ none → Z b ≠ none ∨ W.heap.size ≤ b
def IterM {α : Type} (P : Program) (gf : FuncId) (lb : Array Value) (encs : α → Array Value) (xs : List α) (Hm Hf : Heap) : Prop :=
  ∀ l C Cx Z w, Yields P l encs xs C Cx → C [] Z → KH w (.fz Z :: (Hm ++ Hf)) w → Calls P gf (#[.func (.yield l) #[] #[]] ++ lb) w fun e w' =>
    (∃ v, e = .returned v) ∧ ((∃ Z', C xs Z' ∧ TurnM Hm Z Z' w w') ∨ (∃ pre Z', Cx pre Z' ∧ TurnM Hm Z Z' w w'))
/-- all but some parts -/
noncomputable def PH.butM (w : World) (Z : PH) (Hm : Heap) : PH := fun b => by classical exact if Z b = none ∧ ¬ ∃ p ∈ Hm, p.foot b then w.heap[b]? else none
theorem butM_yes {w : World} {Z : PH} {Hm : Heap} {b : Nat} (h : Z b = none ∧ ¬ ∃ p ∈ Hm, p.foot b) : PH.butM w Z Hm b = w.heap[b]? := by simp only [PH.butM]; rw [if_pos h]
theorem butM_no {w : World} {Z : PH} {Hm : Heap} {b : Nat} (h : ¬ (Z b = none ∧ ¬ ∃ p ∈ Hm, p.foot b)) : PH.butM w Z Hm b = none := by simp only [PH.butM]; rw [if_neg h]
theorem KH.splitM {w w0 : World} {Hm Hf : Heap} {Z : PH} (h : KH w0 (.fz Z :: (Hm ++ Hf)) w) : KH w (.fz Z :: (Hm ++ [.fz (PH.butM w Z Hm)])) w := by
  have hp := List.pairwise_cons.1 h.apart
  have hq := List.pairwise_append.1 hp.2
  refine ⟨Below.refl _ _, List.pairwise_cons.2 ⟨fun q hq2 b h1 h2 => ?_, List.pairwise_append.2 ⟨hq.1, List.pairwise_singleton _ _, fun p hp2 q hq2 b h1 h2 => ?_⟩⟩, fun p hp2 => ?_⟩
  · rcases List.mem_append.1 hq2 with hq2 | hq2
    · exact hp.1 q (List.mem_append.2 (.inl hq2)) b h1 h2
    · simp only [List.mem_singleton] at hq2
      subst hq2
      exact h2 (butM_no fun e => h1 e.1)
  · simp only [List.mem_singleton] at hq2
    subst hq2
    exact h2 (butM_no fun e => e.2 ⟨p, hp2, h1⟩)
  · rcases List.mem_cons.1 hp2 with rfl | hp2
    · exact h.holds _ (by simp)
    · rcases List.mem_append.1 hp2 with hp2 | hp2
      · exact h.holds _ (List.mem_cons_of_mem _ (List.mem_append.2 (.inl hp2)))
      · simp only [List.mem_singleton] at hp2
        subst hp2
        intro b o hb
        by_cases e : Z b = none ∧ ¬ ∃ p ∈ Hm, p.foot b
        · rwa [butM_yes e] at hb
        · rw [butM_no e] at hb; cases hb
theorem KH.butMfree {w w0 : World} {Hm Hf : Heap} {Z : PH} (h : KH w0 (.fz Z :: (Hm ++ Hf)) w) {q : Piece} (hm : q ∈ Hf) {b : Nat} (hb : q.foot b) : Z b = none ∧ ¬ ∃ p ∈ Hm, p.foot b := by
  have hp := List.pairwise_cons.1 h.apart
  have hq := List.pairwise_append.1 hp.2
  refine ⟨?_, fun ⟨p, hp2, h2⟩ => hq.2.2 p hp2 q hm b h2 hb⟩
  apply Classical.byContradiction
  intro hn
  exact hp.1 q (List.mem_append.2 (.inr hm)) b hn hb
theorem KH.butMFz {w w0 : World} {Hm Hf : Heap} {Z Zg : PH} (h : KH w0 (.fz Z :: (Hm ++ Hf)) w) (hm : Piece.fz Zg ∈ Hf) : Zg.le (PH.butM w Z Hm) := fun b o hb => by
  have h1 : (Piece.fz Zg).holds w := h.holds _ (List.mem_cons_of_mem _ (List.mem_append.2 (.inr hm)))
  rw [butM_yes (h.butMfree hm (by simp [Piece.foot, hb]))]
  exact h1 b o hb
theorem KH.butMCell {w w0 : World} {Hm Hf : Heap} {Z : PH} {g j : Nat} {e : TypeId} {cs : List Value} {v : Value} (h : KH w0 (.fz Z :: (Hm ++ Hf)) w) (hm : Piece.blk g e cs ∈ Hf) (hc : lget cs j = some v) : Zc (PH.butM w Z Hm) g j = some v := by
  have h1 : w.heap[g]? = some (.cells cs.toArray e (0, 0)) := h.holds _ (List.mem_cons_of_mem _ (List.mem_append.2 (.inr hm)))
  rw [lget_eq] at hc
  have e := butM_yes (w := w) (h.butMfree hm (b := g) rfl)
  simp [Zc, e, h1, hc]
theorem KH.toTurnM {w w' : World} {H Hm Hm' : Heap} {Z Z' : PH} (h : KH w H w') (hp : Pick (.fz Z' :: .fz (PH.butM w Z Hm) :: Hm') H) (hf : ∀ b, (∃ p ∈ Hm, p.foot b) → ∃ p ∈ Hm', p.foot b) : TurnM Hm Z Z' w w' := by
  have h' := h.pick hp
  have hb : (Piece.fz (PH.butM w Z Hm)).holds w' := h'.holds _ (by simp)
  have ha := List.pairwise_cons.1 h'.apart
  refine ⟨h'.glob, h'.holds _ (by simp), fun b hlt hn hm => ?_, fun b hz => ?_⟩
  · have e := butM_yes (w := w) ⟨hn, hm⟩
    rw [Array.getElem?_eq_getElem hlt] at e
    rw [hb b _ e, Array.getElem?_eq_getElem hlt]
  · by_cases hlt : b < w.heap.size
    · left
      intro hn
      by_cases hm : ∃ p ∈ Hm, p.foot b
      · obtain ⟨p, hp2, hb2⟩ := hf b hm
        exact ha.1 p (List.mem_cons_of_mem _ hp2) b hz hb2
      · refine ha.1 (.fz (PH.butM w Z Hm)) (by simp) b hz ?_
        show PH.butM w Z Hm b ≠ none
        rw [butM_yes ⟨hn, hm⟩, Array.getElem?_eq_getElem hlt]
        simp
    · right; omega
theorem KH.toTurnM' {w w' : World} {H Hm Hm' : Heap} {Z Z' ZB : PH} (hZ : ZB = PH.butM w Z Hm) (h : KH w H w') (hp : Pick (.fz Z' :: .fz ZB :: Hm') H) (hf : ∀ b, (∃ p ∈ Hm, p.foot b) → ∃ p ∈ Hm', p.foot b) : TurnM Hm Z Z' w w' := by
  subst hZ; exact h.toTurnM hp hf
inductive SameFeet : Heap → Heap → Prop
  | nil : SameFeet [] []
  | cons {g : Nat} {e e' : TypeId} {cs cs' : List Value} {H H' : Heap} : SameFeet H H' → SameFeet (.blk g e cs :: H) (.blk g e' cs' :: H')
theorem foot_keep {H H' : Heap} (h : SameFeet H H') : ∀ b, (∃ p ∈ H, p.foot b) → ∃ p ∈ H', p.foot b := by
  induction h with
  | nil => rintro b ⟨p, hp, _⟩; cases hp
  | cons _ ih =>
    rintro b ⟨p, hp, hb⟩
    rcases List.mem_cons.1 hp with rfl | hp
    · exact ⟨_, List.mem_cons_self, hb⟩
    · obtain ⟨q, hq, hb⟩ := ih b ⟨p, hp, hb⟩
      exact ⟨q, List.mem_cons_of_mem _ hq, hb⟩
section
variable {P : Program} {Q : Exit → Act → World → Prop} {N : Cx} {w0 : World} {k k' : List Kont} {fr : Fr} {H H1 : Heap} {L : List TyD} {o : Oper}
set_option maxHeartbeats 2000000 in
/-- a range over an iterator that writes what it captured -/
theorem WP.rangeM {α σ β : Type} {n gf : Nat} {ds : List Deferred} {g : Operand} {lb : Array Value} {ps : Array Tmp} {assign body : Code} {encs : α → Array Value} (xs : List α) {Jc : List α → σ → Prop} {Hc : σ → Heap} {Jx : Code → List α → σ → Prop} (fr1 : α → β → Fr) (Ha : α → β → Heap) (Hm Hf : Heap) (st0 : σ)
    (hn : norm 1000 k = .code (.rangeFunc g ps assign body) :: k') (hg : val fr g = some (.func (.func gf) #[] lb)) (hb : callable P gf = true)
    (hps : ∀ x, (encs x).size = ps.size) (hpn : allLt n ps.toList = true) (h0 : Jc [] st0) (hH : Pick (Hc st0 ++ (Hm ++ Hf)) H)
    (hit : IterM P gf lb encs xs Hm Hf)
    (hass : ∀ (l : Nat) (x : α) (W : World) (Zr : PH), WP P (fun _ _ _ => False) ⟨some l, n, []⟩ W [.code assign, .stop (At ⟨some l, n, []⟩ W (fun _ : β => True) (fun y => fr1 x y) (fun y => Ha x y ++ [.fz Zr]))] (parFr (ps.toList.zip (encs x).toList) fr) [.fz Zr])
    (hbody : ∀ (l : Nat) (pre : List α) (x : α) (post : List α) (st : σ) (y : β) (W : World) (Zr : PH), xs = pre ++ x :: post → Jc pre st →
      WP P (Leaves Jx Hc (pre ++ [x]) W Zr) ⟨some l, n, []⟩ W [.code body, .stop (At ⟨some l, n, []⟩ W (fun st' => Jc (pre ++ [x]) st') (fun _ => []) (fun st' => Hc st' ++ [.fz Zr]))] (fr1 x y) (Ha x y ++ (Hc st ++ [.fz Zr])))
    (hdone : ∀ (D : Nat) (Zd : PH) (st : σ), Zd D = some (.deferred (some [])) → Jc xs st → WP P Q ⟨none, n, { target := .collected D, args := #[] } :: ds⟩ w0 k' fr (Hc st ++ (Hf ++ [.fz Zd])))
    (hleft : ∀ (D : Nat) (Zd : PH) (c : Code) (pre : List α) (st : σ), Zd D = some (.deferred (some [])) → Jx c pre st → WP P Q ⟨none, n, { target := .collected D, args := #[] } :: ds⟩ w0 (.code c :: k') fr (Hc st ++ (Hf ++ [.fz Zd]))) : WP P Q ⟨none, n, ds⟩ w0 k fr H := by
  refine WP.to hn fun a w ha hw => ?_
  show (Code.rangeFunc g ps assign body).wpIn (fen none) 0 P (sem P none Q k') a w
  obtain ⟨hwc, hwf, hap⟩ := (hw.pick hH).app
  have had := ha.defers
  refine wpIn_rangeFunc fun fn hfn => ?_
  obtain ⟨rec_, hrec⟩ : ∃ rec_ : LoopState → Option Code → Loop, rec_ = fun st pe => { state := st, pending := pe, fn, tmps := a.tmps, params := ps, assign, body, defers := w.heap.size } := ⟨_, rfl⟩
  obtain ⟨W1, hW1⟩ : ∃ W1, W1 = (w.alloc (.deferred (some []))).alloc (.loop (rec_ .ready none)) := ⟨_, rfl⟩
  have hL1 : W1.heap[w.heap.size + 1]? = some (.loop (rec_ .ready none)) := by
    rw [hW1]; have := World.alloc_heap_new (w.alloc (.deferred (some []))) (.loop (rec_ .ready none)); rwa [World.size_alloc] at this
  have hK1 : W1.heap[w.heap.size]? = some (.deferred (some [])) := by
    rw [hW1]; exact (Below.heap_alloc _ _ _ (by simp)).trans (World.alloc_heap_new w _)
  have hb1 : Below w.heap.size w W1 := by
    rw [hW1]; exact ((Below.refl _ w).alloc (Nat.le_refl _) _).alloc (by simp) _
  have hs1 : W1.heap.size = w.heap.size + 2 := by rw [hW1]; simp
  have hwc1 := hwc.below hb1
  have hwf1 := hwf.below hb1
  have hM0 : Makes (zOf W1 (w.heap.size + 1) w.heap.size (Hc st0)) (w.heap.size + 1) w.heap.size (.loop (rec_ .ready none)) (.deferred (some [])) (Hc st0) :=
    Makes.of hwc1 hL1 hK1 fun p hp b hb => by
      have := Piece.lt (hwc.holds p hp) hb
      exact ⟨by omega, by omega⟩
  have hy := round_yieldsG (P := P) (l := w.heap.size + 1) (D := w.heap.size) (fn := fn) hps hpn hass hbody (by omega) (a := a) ⟨ha.size, rfl, ha.get⟩ (rec_ := rec_) (by rw [hrec])
  have hKW : KH W1 (.fz (zOf W1 (w.heap.size + 1) w.heap.size (Hc st0)) :: (Hm ++ Hf)) W1 := by
    refine ⟨Below.refl _ _, List.pairwise_cons.2 ⟨fun q hq b h1 h2 => ?_, hwf.apart⟩, fun p hp => ?_⟩
    · have hlt := Piece.lt (hwf.holds q hq) h2
      rcases zOf_ne h1 with h | h | ⟨p, hp, h⟩
      · omega
      · omega
      · exact hap p hp q hq b h h2
    · rcases List.mem_cons.1 hp with rfl | hp
      · exact zOf_holds _ _ _ _
      · exact hwf1.holds p hp
  have hcall := hit (w.heap.size + 1) _ _ _ W1 hy ⟨st0, h0, hM0⟩ hKW
  have c1 : (Instr.enterLoop fn a.tmps ps assign body none).run P w = .ok (w.heap.size + 1, [{ target := .collected w.heap.size, args := #[] }]) W1 := by
    rw [hW1, hrec]; exact run_enterLoop_outer _ _ _ _ _
  have c2 : (resolve a.eval (rangeCall g (w.heap.size + 1)) 0).run P W1 = .ok { target := .fn (.func gf) lb, args := #[.func (.yield (w.heap.size + 1)) #[] #[]] } W1 := by
    simp only [resolve, rangeCall, ha.eval hg, Deferred.ofValue, Sem.run_bind, Sem.run_pure, Result.andThen_ok]
    simp [Act.eval]
  have c3 : (invoke (.fn (.func gf) lb) #[.func (.yield (w.heap.size + 1)) #[] #[]]).run P W1 = .ok (.enter gf (#[.func (.yield (w.heap.size + 1)) #[] #[]] ++ lb)) W1 := by
    simp only [invoke]
    exact callFunc_run hb _ W1
  refine ⟨w.heap.size + 1, _, W1, _, W1, gf, _, W1, c1, c2, fun _ _ => trivial, c3, fun h => (by cases h), callsIn_fen none _ (Calls.mono hcall ?_)⟩
  -- behind the iterator
  have hend : ∀ (st : σ) (jump : Option Code) (state : LoopState) (Z' : PH) (W2 : World), state ≠ .busy →
      Makes Z' (w.heap.size + 1) w.heap.size (.loop (rec_ state jump)) (.deferred (some [])) (Hc st) → TurnM Hm (zOf W1 (w.heap.size + 1) w.heap.size (Hc st0)) Z' W1 W2 →
      ∃ W3, (Instr.endLoop (w.heap.size + 1)).run P W2 = .ok jump W3 ∧ ∃ Zd : PH, Zd w.heap.size = some (.deferred (some [])) ∧ KH w0 (Hc st ++ (Hf ++ [.fz Zd])) W3 := by
    intro st jump state Z' W2 hst hM ht
    have hl2 := ht.held _ _ hM.rec_
    have hD2 := ht.held _ _ hM.def_
    have e4 : (rec_ state jump).pending = jump := by rw [hrec]
    obtain ⟨o', he⟩ : ∃ o', (Instr.endLoop (w.heap.size + 1)).run P W2 = .ok jump (W2.putObj (w.heap.size + 1) o') :=
      ⟨_, (run_endLoop (P := P) hl2 (by rw [hrec]; exact hst)).trans (congrArg (fun j => Result.ok j _) e4)⟩
    refine ⟨_, he, fun b => if b = w.heap.size then some (.deferred (some [])) else none, by simp, ?_⟩
    have hoth : ∀ b, b ≠ w.heap.size + 1 → (W2.putObj (w.heap.size + 1) o').heap[b]? = W2.heap[b]? := fun b hb => World.putObj_heap_other hb
    have hmf : ∀ p ∈ Hm, ∀ q ∈ Hf, p.apart q := (List.pairwise_append.1 hwf.apart).2.2
    have hq2 : ∀ q ∈ Hf, ∀ b, q.foot b → (W2.putObj (w.heap.size + 1) o').heap[b]? = w.heap[b]? := fun q hq b hb => by
      have hlt := Piece.lt (hwf.holds q (List.mem_append.2 (.inr hq))) hb
      rw [hoth b (by omega), ht.other b (by omega) ?_ (fun ⟨p, hp, h⟩ => hmf p hp q hq b h hb), hb1.block b hlt]
      apply Classical.byContradiction
      intro hne
      rcases zOf_ne hne with h | h | ⟨p, hp, h⟩
      · omega
      · omega
      · exact hap p hp q (List.mem_append.2 (.inr hq)) b h hb
    refine ⟨hw.glob.trans ((hb1.mono (Nat.zero_le _)).trans (ht.glob.trans (below_putObj _ _ _))), ?_, ?_⟩
    · refine List.pairwise_append.2 ⟨hM.apart, List.pairwise_append.2 ⟨(List.pairwise_append.1 hwf.apart).2.1, List.pairwise_singleton _ _, fun q hq p hp b h1 h2 => ?_⟩, fun p hp q hq b h1 h2 => ?_⟩
      · simp only [List.mem_singleton] at hp
        subst hp
        have hlt := Piece.lt (hwf.holds q (List.mem_append.2 (.inr hq))) h1
        simp only [Piece.foot] at h2
        rw [if_neg (by omega)] at h2
        exact h2 rfl
      · obtain ⟨hz, h4, h5⟩ := hM.foot p hp b h1
        rcases List.mem_append.1 hq with hq | hq
        · have hlt := Piece.lt (hwf.holds q (List.mem_append.2 (.inr hq))) h2
          rcases ht.foot b hz with h | h
          · rcases zOf_ne h with h | h | ⟨p', hp', h⟩
            · omega
            · omega
            · exact hap p' hp' q (List.mem_append.2 (.inr hq)) b h h2
          · omega
        · simp only [List.mem_singleton] at hq
          subst hq
          simp only [Piece.foot] at h2
          rw [if_neg h5] at h2
          exact h2 rfl
    · intro p hp
      rcases List.mem_append.1 hp with hp | hp
      · exact Piece.keep (hM.holds W2 ht.held p hp) fun b hb => hoth b (hM.foot p hp b hb).2.1
      · rcases List.mem_append.1 hp with hp | hp
        · exact Piece.keep (hwf.holds p (List.mem_append.2 (.inr hp))) fun b hb => hq2 p hp b hb
        · simp only [List.mem_singleton] at hp
          subst hp
          intro b o hb
          by_cases e : b = w.heap.size
          · subst e
            simp only [if_pos] at hb
            cases hb
            rw [hoth _ (by omega)]
            exact hD2
          · simp only [if_neg e] at hb; cases hb
  have hkn : ∀ D : Nat, Knows ⟨none, n, { target := .collected D, args := #[] } :: ds⟩ fr { a with defers := [{ target := .collected D, args := #[] }] ++ a.defers } := fun D => ⟨ha.size, by rw [had]; rfl, ha.get⟩
  rintro e W2 ⟨⟨v, rfl⟩, (⟨Z', ⟨st, hJ, hM⟩, ht⟩ | ⟨pre, Z', ⟨c, st, hJ, hM⟩, ht⟩)⟩
  · obtain ⟨W3, he, Zd, hZd, hK3⟩ := hend st none .ready Z' W2 (by simp) hM ht
    exact ⟨none, W3, he, hdone _ Zd st hZd hJ _ W3 (hkn _) hK3⟩
  · obtain ⟨W3, he, Zd, hZd, hK3⟩ := hend st (some c) .done Z' W2 (by simp) hM ht
    have := hleft _ Zd c pre st hZd hJ _ W3 (hkn _) hK3
    exact ⟨some c, W3, he, this⟩
/-- a byte of a string -/
def bt (s : ByteArray) (j : Int) : Int := match s[j.toNat]? with
  | some b => (b.toNat : Int)
  | none => 0
theorem WP.sidx (hL : TyOk P L) {all : Array Oper} {c : Prop} {d : Nat} {t : TypeId} {x ix : Operand} {z b : Nat} {sv : Value} {s : ByteArray} {ki : IntKind} {j : Int} (hn : headOp w0 H (norm 1000 k) = some (all, o, k', c)) (hc : c) (hd : o.dst = some d) (hN : Nat.blt d N.size = true) (hg : o.guard = none)
    (ho : o.op = .index t x ix) (ht : tget L t = some ⟨.str, z, b, sv⟩) (hx : val fr x = some (.string s)) (hi : val fr ix = some (.int ki j)) (hj : 0 ≤ j ∧ j < (s.size : Int)) (h : WP P Q N w0 k' ((d, .int .u8 (bt s j)) :: fr) H) : WP P Q N w0 k fr H :=
  WP.rd hn hc hd hN hg (fun a w ha hw => by
    have hlt : j.toNat < s.size := by omega
    have e : s[j.toNat]? = some s[j.toNat] := getElem?_pos s j.toNat hlt
    simp only [execOp, ho, ha.eval hx, ha.eval hi, Instr.index, asIntOf, Sem.run_bind, Sem.run_pure, Result.andThen_ok, run_underlying (hL.str ht), if_pos hj.1, e, bt]) h
/-- a part of a string -/
theorem WP.sslc (l h : Int) (hL : TyOk P L) {all : Array Oper} {cc : Prop} {d : Nat} {t : TypeId} {x : Operand} {lo hi : Option Operand} {sz sb : Nat} {sv : Value} {s : ByteArray} (hn : headOp w0 H (norm 1000 k) = some (all, o, k', cc)) (hc : cc) (hd : o.dst = some d)
    (hN : Nat.blt d N.size = true) (hg : o.guard = none) (ho : o.op = .slice t x lo hi none) (ht : tget L t = some ⟨.str, sz, sb, sv⟩) (hx : val fr x = some (.string s)) (hl : bndI fr lo 0 l) (hh : bndI fr hi s.size h) (hb : 0 ≤ l ∧ l ≤ h ∧ h ≤ (s.size : Int))
    (hk : WP P Q N w0 k' ((d, .string (s.extract l.toNat h.toNat)) :: fr) H) : WP P Q N w0 k fr H := by
  obtain ⟨l', rfl⟩ := Int.eq_ofNat_of_zero_le hb.1
  obtain ⟨h', rfl⟩ := Int.eq_ofNat_of_zero_le (show 0 ≤ h by omega)
  refine WP.rd hn hc hd hN hg (fun a w ha hw => ?_) hk
  have hbr := bounds_run (P := P) ha (fun _ => rfl) (mx := none) (c := s.size) (m := s.size) rfl (h := h') hh.to (l := l') (bndI.to (d := 0) hl) (by omega) (by omega) (Nat.le_refl _) false w
  simp only [execOp, ho, ha.eval hx, Instr.sliceAt, Instr.slice, Sem.run_bind, Sem.run_pure, Result.andThen_ok, run_underlying (hL.str ht), Option.map_none, Option.isSome_none, Bool.false_eq_true, if_false, Int.toNat_natCast] at hbr ⊢
  simp only [hbr, Result.andThen_ok, Sem.run_pure]
/-- where a range over a string stands -/
def itZ (g : Nat) (s : ByteArray) (p : Nat) : PH := fun b => if b = g then some (.stringIter s p) else none
theorem WP.rng (hL : TyOk P L) {all : Array Oper} {rest : List Oper} {d : Nat} {t : TypeId} {x : Operand} {sz sb : Nat} {sv : Value} {s : ByteArray} (hn : norm 1000 k = .ops all (o :: rest) :: k') (hd : o.dst = some d) (hN : Nat.blt d N.size = true) (hg : o.guard = none)
    (ho : o.op = .range t x) (ht : tget L t = some ⟨.str, sz, sb, sv⟩) (hx : val fr x = some (.string s)) (h : ∀ g, WP P Q N w0 (.ops all rest :: k') ((d, .pointer (some ⟨g, 0, none⟩)) :: fr) (.fz (itZ g s 0) :: H)) : WP P Q N w0 k fr H := by
  refine WP.eff hn hd hN hg fun a w ha hw => ⟨.pointer (some ⟨w.heap.size, 0, none⟩), w.alloc (.stringIter s 0), _, ?_, ?_, h w.heap.size⟩
  · simp only [execOp, ho, Instr.range, Sem.run_bind, run_underlying (hL.str ht), Result.andThen_ok, ha.eval hx, Sem.run_pure]
    simp [newObj, Sem.run, bind, Sem.bind, pure]
  · have := hw.add (L := [.fz (itZ w.heap.size s 0)]) (below_alloc w (.stringIter s 0)) (List.pairwise_singleton _ _) (fun p hp => by
      simp only [List.mem_singleton] at hp
      subst hp
      refine ⟨fun b o hb => ?_, fun b hb => ?_⟩
      · unfold itZ at hb
        split at hb
        · rename_i e; cases hb; subst e; exact heap_alloc_new w _
        · cases hb
      · have hb' : itZ w.heap.size s 0 b ≠ none := hb
        unfold itZ at hb'
        split at hb'
        · omega
        · exact absurd rfl hb')
    exact this
theorem WP.nxtF {all : Array Oper} {rest : List Oper} {d : Nat} {x : Operand} {g p : Nat} {s : ByteArray} (hn : norm 1000 k = .ops all (o :: rest) :: k') (hd : o.dst = some d) (hN : Nat.blt d N.size = true) (hg : o.guard = none)
    (ho : o.op = .next x true) (hx : val fr x = some (.pointer (some ⟨g, 0, none⟩))) (hm : Rem (.fz (itZ g s p)) H H1) (hp : ¬ p < s.size) (h : WP P Q N w0 (.ops all rest :: k') ((d, .tuple #[.bool false]) :: fr) (.fz (itZ g s p) :: H1)) : WP P Q N w0 k fr H := by
  refine WP.repiece hm rfl ?_
  refine WP.eff hn hd hN hg fun a w ha hw => ⟨.tuple #[.bool false], w, _, ?_, hw, h⟩
  have hk : w.heap[g]? = some (.stringIter s p) := hw.holds (.fz (itZ g s p)) (by simp) g _ (by simp [itZ])
  simp only [execOp, ho, ha.eval hx, Sem.run_bind, Lib.run_next_end_at w g s p _ hk hp, Result.andThen_ok, Sem.run_pure]
theorem WP.nxtT {all : Array Oper} {rest : List Oper} {d : Nat} {x : Operand} {g p : Nat} {s : ByteArray} (hn : norm 1000 k = .ops all (o :: rest) :: k') (hd : o.dst = some d) (hN : Nat.blt d N.size = true) (hg : o.guard = none)
    (ho : o.op = .next x true) (hx : val fr x = some (.pointer (some ⟨g, 0, none⟩))) (hm : Rem (.fz (itZ g s p)) H H1) (hp : p < s.size)
    (h : WP P Q N w0 (.ops all rest :: k') ((d, .tuple #[.bool true, .int .i64 (p : Nat), .int .i32 ((Utf8.decode s p).1 : Nat)]) :: fr) (.fz (itZ g s (p + (Utf8.decode s p).2)) :: H1)) : WP P Q N w0 k fr H := by
  refine WP.eff hn hd hN hg fun a w ha hw => ⟨_, w.iterAt g s (p + (Utf8.decode s p).2), _, ?_, ?_, h⟩
  · have hk : w.heap[g]? = some (.stringIter s p) := (hw.rem hm).1 g _ (by simp [itZ])
    simp only [execOp, ho, ha.eval hx, Sem.run_bind, Lib.run_next_any_at w g s p _ hk hp, Result.andThen_ok, Sem.run_pure]
  · have hk : w.heap[g]? = some (.stringIter s p) := (hw.rem hm).1 g _ (by simp [itZ])
    have hi := Lib.iterAt_heap w g s p (p + (Utf8.decode s p).2) hk
    refine hw.turn hm ?_ (fun b _ hb => ?_) (fun b o hb => ?_) (fun b hb => .inl ?_)
    · exact Lib.below_iterAt (Below.refl _ _) (Nat.zero_le _) s _
    · refine Lib.iterAt_other w g b s _ fun e => hb ?_
      show itZ g s p b ≠ none
      simp [itZ, ← e]
    · unfold itZ at hb
      split at hb
      · rename_i e; cases hb; subst e; exact hi
      · cases hb
    · have hb' : itZ g s (p + (Utf8.decode s p).2) b ≠ none := hb
      show itZ g s p b ≠ none
      unfold itZ at hb' ⊢
      split at hb'
      · rename_i e; rw [if_pos e]; simp
      · exact absurd rfl hb'
/-- an interface compared with nil -/
theorem WP.eqNil (b : Bool) (neq : Bool) {all : Array Oper} {c : Prop} {d : Nat} {t t2 : TypeId} {x : Operand} {v : Value} (hn : headOp w0 H (norm 1000 k) = some (all, o, k', c)) (hc : c) (hd : o.dst = some d) (hN : Nat.blt d N.size = true) (hg : o.guard = none)
    (ho : o.op = .binOp (if neq then .neq else .eql) t x (.const .nilIface) t2) (hx : val fr x = some v) (hv : v = .nilIface ∧ b = true ∨ (∃ T p, v = .iface T p) ∧ b = false) (hu : P.underlying t = some (.interface (P.methodsAt t)))
    (h : WP P Q N w0 k' ((d, .bool (if neq then !b else b)) :: fr) H) : WP P Q N w0 k fr H :=
  WP.rd hn hc hd hN hg (fun a w ha hw => by
    have e0 : a.eval (.const .nilIface) = .nilIface := rfl
    have e1 := run_eql_nil_nil w t hu
    have e2 := run_neq_nil_nil w t hu
    rcases hv with ⟨rfl, rfl⟩ | ⟨⟨T, p, rfl⟩, rfl⟩
    · cases neq
      · simp only [Bool.false_eq_true, if_false] at ho ⊢
        simp [execOp, ho, ha.eval hx, e0, eqGuard, e1]
      · simp only [if_true] at ho ⊢
        simp [execOp, ho, ha.eval hx, e0, eqGuard, e2]
    · have e3 := run_eql_held_nil w t T p hu
      have e4 := run_neq_held_nil w t T p hu
      cases neq
      · simp only [Bool.false_eq_true, if_false] at ho ⊢
        simp [execOp, ho, ha.eval hx, e0, eqGuard, e3]
      · simp only [if_true] at ho ⊢
        simp [execOp, ho, ha.eval hx, e0, eqGuard, e4]) h
/-- the first ones of a slice of the call's own: the rest is given up -/
theorem KH.cut {α : Type} {f : Fl α} {xs : List α} {A : Option Addr} {n c m : Nat} {e : TypeId} {w : World} (h : KH w0 H w) (hm : Rem (Ow f e A n c xs) H H1) (hf : OwF A n xs) (hl : m ≤ n) : KH w0 (Ow f e A m c (xs.take m) :: H1) w := by
  obtain ⟨h1, h2, h3⟩ := h.rem hm
  have hlen := hf.len
  subst hlen
  have h1' : w.ownsRow 0 e f.z (.slice A xs.length c) xs.length (cl f xs) := h1
  refine ⟨h2.glob, List.pairwise_cons.2 ⟨fun q hq b hb => h3 q hq b ?_, h2.apart⟩, fun p hp => ?_⟩
  · cases A with
    | none => exact hb
    | some a => exact hb
  · rcases List.mem_cons.1 hp with rfl | hp
    · show w.ownsRow 0 e f.z (.slice A m c) m (cl f (xs.take m))
      refine ⟨by rw [cl_length, List.length_take, Nat.min_eq_left hl], ?_⟩
      rcases h1'.2 with ⟨e1, e2⟩ | ⟨g, cap, cur, e1, hb, hh, hn, hc, hs, ht⟩
      · injection e1 with e3 _ e4
        exact .inl ⟨by rw [e3, e4, show m = 0 by omega], by omega⟩
      · injection e1 with e3 _ e4
        refine .inr ⟨g, cap, cur, by rw [e3, e4], hb, hh, by omega, hc, hs, ?_⟩
        have hl' : (cl f (xs.take m)).length = m * f.z := by rw [cl_length, List.length_take, Nat.min_eq_left hl]
        have : cl f (xs.take m) = (cl f xs).take (m * f.z) := by
          conv => rhs; rw [show cl f xs = cl f (xs.take m) ++ cl f (xs.drop m) by rw [cl_append, List.take_append_drop]]
          rw [List.take_append_of_le_length (by omega)]
          exact (List.take_of_length_le (by omega)).symm
        rw [this, ← ht, List.take_take, Nat.min_eq_left (Nat.mul_le_mul_right _ hl)]
    · exact h2.holds p hp
theorem OwF.cut {α : Type} {xs : List α} {A : Option Addr} {n m : Nat} (hf : OwF A n xs) (hl : m ≤ n) : OwF A m (xs.take m) := ⟨by rw [List.length_take, hf.len]; omega, fun h => hf.ex (by omega)⟩
/-- l[:h], l given up -/
theorem WP.slP {α : Type} {f : Fl α} {xs zs : List α} (h : Int) (hL : TyOk P L) {all : Array Oper} {cc : Prop} {d : Nat} {t e : TypeId} {x : Operand} {hi : Option Operand} {sz sb eb n c : Nat} {sv ev : Value} {td : TD} {A : Option Addr} (hn : headOp w0 H (norm 1000 k) = some (all, o, k', cc)) (hc : cc) (hd : o.dst = some d)
    (hN : Nat.blt d N.size = true) (hg : o.guard = none) (ho : o.op = .slice t x none hi none) (ht : tget L t = some ⟨.slice e, sz, sb, sv⟩) (he : tget L e = some ⟨td, f.z, eb, ev⟩) (hx : val fr x = some (.slice A n c)) (hh : bndI fr hi n h)
    (hm : Rem (Ow f e A n c xs) H H1) (hf : OwF A n xs) (hb : 0 ≤ h ∧ h ≤ xs.length) (hz : zs = xs.take h.toNat) (hA : 0 < f.z)
    (hk : OwF A h.toNat zs → WP P Q N w0 k' ((d, .slice A h.toNat c) :: fr) (Ow f e A h.toNat c zs :: H1)) : WP P Q N w0 k fr H := by
  have hlen := hf.len
  refine WP.fact (p := n ≤ c ∧ (∃ b, A = some ⟨b, 0, none⟩) ∨ A = none ∧ n = 0 ∧ c = 0) (fun w hw => ?_) fun hnc => ?_
  · have h1 : w.ownsRow 0 e f.z (.slice A n c) n (cl f xs) := hw.mem hm.mem.1
    rcases h1.2 with ⟨e1, e2⟩ | ⟨g, cap, cur, e1, hb', hh', hn', _⟩
    · injection e1 with e3 e4 e5
      exact .inr ⟨e3, e4, e5⟩
    · injection e1 with e3 e4 e5
      exact .inl ⟨by omega, g, e3⟩
  subst hz
  obtain ⟨h', rfl⟩ := Int.eq_ofNat_of_zero_le hb.1
  have hle : h' ≤ n := by omega
  have hA' : (if c = 0 then A else A.map (·.add (0 * (⟨td, f.z, eb, ev⟩ : TyD).size))) = A := by
    split
    · rfl
    · rcases hnc with ⟨_, b, rfl⟩ | ⟨rfl, _⟩
      · simp [Addr.add]
      · rfl
  refine WP.rd hn hc hd hN hg (slG hL ho ht he hx (fun _ => rfl) (m := c) rfl (h := h') hh.to (l := 0) rfl (by omega) (by rcases hnc with ⟨h1, _⟩ | ⟨_, _, _⟩ <;> omega) (Nat.le_refl _)) ?_
  rw [Nat.sub_zero, Nat.sub_zero, hA']
  intro a w ha hw
  simp only [Int.toNat_natCast] at hk
  exact hk (hf.cut hle) a w ha (hw.cut hm hf hle)
/-- bytes made a string -/
theorem WP.b2s (hL : TyOk P L) {all : Array Oper} {c : Prop} {d : Nat} {src dst e : TypeId} {x : Operand} {sz sb dz db cx n : Nat} {sv dv : Value} {A : Option Addr} {xs : List Int} (hn : headOp w0 H (norm 1000 k) = some (all, o, k', c)) (hc : c) (hd : o.dst = some d) (hN : Nat.blt d N.size = true) (hg : o.guard = none)
    (ho : o.op = .convert src dst x) (ht : tget L src = some ⟨.slice e, sz, sb, sv⟩) (he : P.underlying e = some (.int .u8)) (hd' : tget L dst = some ⟨.str, dz, db, dv⟩) (hx : val fr x = some (.slice A n cx)) (hlen : xs.length = n)
    (hs : 0 < xs.length → ∃ b off, A = some ⟨b, off, none⟩ ∧ SegAt H b off (cl (fI .u8) xs)) (hA : 0 < n) (h : WP P Q N w0 k' ((d, .string (strOfNums xs)) :: fr) H) : WP P Q N w0 k fr H := by
  subst hlen
  obtain ⟨b, off, rfl, hseg⟩ := hs hA
  refine WP.rd hn hc hd hN hg (fun a w ha hw => ?_) h
  have := run_convert_bytes_arg (P := P) w src e (hL.slice ht) he b off xs.length cx xs rfl (fun i hi => by
    have h1 := hseg w0 w hw i (.int .u8 (xs.getD i 0)) (by
      rw [show cl (fI .u8) xs = xs.map (Value.int .u8) from (kints_cl .u8 xs).symm, List.getElem?_map, List.getD, List.getElem?_eq_getElem hi]; rfl)
    exact h1) dst (hL.str hd')
  simp only [execOp, ho, ha.eval hx, Sem.run_bind, this, Result.andThen_ok, Sem.run_pure]
end
end Go.Qe
