/- The layer's operations on memory: addresses of elements, loads, stores, new blocks, appends. -/
import Derived.Test.YthelgjfdkdaijaaDoorEng4
import Derived.Maps.AppendAt
namespace Go.Qe
open Go.RowKit

abbrev PH := Nat → Option Obj
def Zc (Z : PH) (b o : Nat) : Option Value :=
  match Z b with
  | some (.cells c _ _) => c[o]?
  | _ => none
def PH.of (w : World) : PH := fun b => w.heap[b]?
theorem Zc_of (w : World) (b o : Nat) : Zc (PH.of w) b o = w.cell? ⟨b, o, none⟩ := by
  unfold Zc PH.of World.cell?
  cases w.heap[b]? with
  | none => rfl
  | some x => cases x <;> rfl
def PH.le (Z Z' : PH) : Prop := ∀ b o, Z b = some o → Z' b = some o
theorem PH.le.cell {Z Z' : PH} (h : Z.le Z') {b o : Nat} {v : Value} (hc : Zc Z b o = some v) : Zc Z' b o = some v := by
  unfold Zc at hc ⊢
  split at hc
  · rename_i c _ _ hz; rw [h b _ hz]; exact hc
  · cases hc
theorem le_of_holds {Z : PH} {w : World} (h : (Piece.fz Z).holds w) : Z.le (PH.of w) := h

section
variable {P : Program} {Q : Exit → Act → World → Prop} {N : Cx} {w0 : World} {k k' : List Kont} {fr : Fr} {H H1 : Heap} {L : List TyD} {o : Oper}

/-- the address of a slice's element -/
theorem ixG (hL : TyOk P L) {t e : TypeId} {x ix : Operand} {sz sb : Nat} {sv : Value} {de : TyD} {b off n c j : Nat} {ki : IntKind} (ho : o.op = .indexAddr t x ix) (ht : tget L t = some ⟨.slice e, sz, sb, sv⟩) (he : tget L e = some de)
    (hx : val fr x = some (.slice (some ⟨b, off, none⟩) n c)) (hi : val fr ix = some (.int ki (Int.ofNat j))) (hj : j < n) : Gives P N w0 fr H o (.pointer (some ⟨b, off + j * de.size, none⟩)) := by
  intro a w ha _
  have hsz := hL.sizeOf he w
  have h2 : (0 : Int) ≤ Int.ofNat j ∧ Int.ofNat j < (n : Int) := ⟨by simp, by simpa using hj⟩
  simp only [execOp, ho, ha.eval hx, ha.eval hi, Instr.indexAt, Sem.run_bind, run_underlying (hL.slice ht), Result.andThen_ok, asIntOf, Sem.run_pure, if_pos h2, hsz, show (Int.ofNat j).toNat = j from rfl, add_addr]
  by_cases h0 : j * de.size = 0
  · rw [if_pos h0, h0]; simp
  · rw [if_neg h0]
theorem ix1G (hL : TyOk P L) {t e : TypeId} {x ix : Operand} {sz sb eb : Nat} {sv ev : Value} {td : TD} {b off n c j : Nat} {ki : IntKind} (ho : o.op = .indexAddr t x ix) (ht : tget L t = some ⟨.slice e, sz, sb, sv⟩) (he : tget L e = some ⟨td, 1, eb, ev⟩)
    (hx : val fr x = some (.slice (some ⟨b, off, none⟩) n c)) (hi : val fr ix = some (.int ki (Int.ofNat j))) (hj : j < n) : Gives P N w0 fr H o (.pointer (some ⟨b, off + j, none⟩)) := by
  have := ixG (N := N) (w0 := w0) (H := H) hL ho ht he hx hi hj
  simpa using this
theorem WP.ix1 (hL : TyOk P L) {all : Array Oper} {c : Prop} {d : Nat} {t e : TypeId} {x ix : Operand} {sz sb eb : Nat} {sv ev : Value} {td : TD} {b off n cc j : Nat} {ki : IntKind} (hn : headOp w0 H (norm 1000 k) = some (all, o, k', c)) (hc : c) (hd : o.dst = some d)
    (hN : Nat.blt d N.size = true) (hg : o.guard = none) (ho : o.op = .indexAddr t x ix) (ht : tget L t = some ⟨.slice e, sz, sb, sv⟩) (he : tget L e = some ⟨td, 1, eb, ev⟩)
    (hx : val fr x = some (.slice (some ⟨b, off, none⟩) n cc)) (hi : val fr ix = some (.int ki (Int.ofNat j))) (hj : j < n)
    (h : WP P Q N w0 k' ((d, .pointer (some ⟨b, off + j, none⟩)) :: fr) H) : WP P Q N w0 k fr H := WP.rd hn hc hd hN hg (ix1G hL ho ht he hx hi hj) h
theorem WP.ix (hL : TyOk P L) {all : Array Oper} {c : Prop} {d : Nat} {t e : TypeId} {x ix : Operand} {sz sb eb z : Nat} {sv ev : Value} {td : TD} {b off n cc j : Nat} {ki : IntKind} (hn : headOp w0 H (norm 1000 k) = some (all, o, k', c)) (hc : c) (hd : o.dst = some d)
    (hN : Nat.blt d N.size = true) (hg : o.guard = none) (ho : o.op = .indexAddr t x ix) (ht : tget L t = some ⟨.slice e, sz, sb, sv⟩) (he : tget L e = some ⟨td, z, eb, ev⟩)
    (hx : val fr x = some (.slice (some ⟨b, off, none⟩) n cc)) (hi : val fr ix = some (.int ki (Int.ofNat j))) (hj : j < n)
    (h : WP P Q N w0 k' ((d, .pointer (some ⟨b, off + j * z, none⟩)) :: fr) H) : WP P Q N w0 k fr H := WP.rd hn hc hd hN hg (ixG hL ho ht he hx hi hj) h
/-- a generic step of the first kind -/
theorem WP.st (hL : TyOk P L) (wr : Bool) {all : Array Oper} {c p : Prop} {d : Nat} {v : Value} (hn : headOp w0 H (norm 1000 k) = some (all, o, k', c)) (hc : c) (hd : o.dst = some d) (hN : Nat.blt d N.size = true) (hg : o.guard = none)
    (hv : evalOp wr L fr o.op = some (v, p)) (hp : p) (h : WP P Q N w0 k' ((d, v) :: fr) H) : WP P Q N w0 k fr H := WP.rd hn hc hd hN hg (evalOp_ok hL hv hp) h

/-- reading one cell, or several, at a place -/
def CellAt (H : Heap) (b o : Nat) (v : Value) : Prop := ∀ w0 w, KH w0 H w → w.cell? ⟨b, o, none⟩ = some v
def SegAt (H : Heap) (b o : Nat) (l : List Value) : Prop := ∀ w0 w, KH w0 H w → ∀ j u, l[j]? = some u → w.cell? ⟨b, o + j, none⟩ = some u
theorem CellAt.fz {Z : PH} {b o : Nat} {v : Value} (hm : Piece.fz Z ∈ H) (hc : Zc Z b o = some v) : CellAt H b o v := fun w0 w hw => by
  rw [← Zc_of]
  exact PH.le.cell (le_of_holds (hw.mem hm)) hc
theorem cell_blk {g : Nat} {e : TypeId} {cs : List Value} {w : World} (h : w.heap[g]? = some (.cells cs.toArray e (0, 0))) (j : Nat) : w.cell? ⟨g, j, none⟩ = cs[j]? := by
  rw [cell_of_row w g j cs.toArray e (0, 0) h]; simp
theorem CellAt.blk {g o : Nat} {e : TypeId} {cs : List Value} {v : Value} (hm : Rem (.blk g e cs) H H1) (hc : lget cs o = some v) : CellAt H g o v := fun w0 w hw => by
  have hb : w.heap[g]? = some (.cells cs.toArray e (0, 0)) := hw.mem hm.mem.1
  rw [cell_blk hb, ← lget_eq]
  exact hc
theorem SegAt.fz {Z : PH} {b o : Nat} {l : List Value} (hm : Piece.fz Z ∈ H) (hc : ∀ j u, l[j]? = some u → Zc Z b (o + j) = some u) : SegAt H b o l := fun w0 w hw j u hj => by
  rw [← Zc_of]
  exact PH.le.cell (le_of_holds (hw.mem hm)) (hc j u hj)
/-- so many cells of a list, from a place on -/
def seg : List Value → Nat → Nat → Option (List Value)
  | _, 0, 0 => some []
  | x :: r, 0, n + 1 => match seg r 0 n with
    | some l => some (x :: l)
    | none => none
  | _ :: r, o + 1, n => seg r o n
  | [], _, _ => none
theorem seg_get : ∀ (cs : List Value) (o n : Nat) (l : List Value), seg cs o n = some l → l.length = n ∧ ∀ j u, l[j]? = some u → cs[o + j]? = some u
  | cs, 0, 0, l, h => by simp only [seg] at h; cases h; exact ⟨rfl, fun j u hj => by simp at hj⟩
  | x :: r, 0, n + 1, l, h => by
    simp only [seg] at h
    split at h
    · rename_i l' hl
      cases h
      obtain ⟨h1, h2⟩ := seg_get r 0 n l' hl
      refine ⟨by simp [h1], fun j u hj => ?_⟩
      cases j with
      | zero => simpa using hj
      | succ j => have := h2 j u (by simpa using hj); simpa [Nat.add_comm] using this
    · cases h
  | x :: r, o + 1, n, l, h => by
    simp only [seg] at h
    obtain ⟨h1, h2⟩ := seg_get r o n l h
    refine ⟨h1, fun j u hj => ?_⟩
    have := h2 j u hj
    rw [show o + 1 + j = o + j + 1 by omega]
    simpa using this
  | [], o + 1, n, l, h => by simp [seg] at h
  | [], 0, n + 1, l, h => by simp [seg] at h
theorem SegAt.blk {g o n : Nat} {e : TypeId} {cs l : List Value} (hm : Rem (.blk g e cs) H H1) (hc : seg cs o n = some l) : SegAt H g o l := fun w0 w hw j u hj => by
  have hb : w.heap[g]? = some (.cells cs.toArray e (0, 0)) := hw.mem hm.mem.1
  rw [cell_blk hb]
  exact (seg_get cs o n l hc).2 j u hj
theorem SegAt.blk' {g o z : Nat} {e : TypeId} {cs l : List Value} (hm : Rem (.blk g e cs) H H1) (hc : seg cs o z = some l) : SegAt H g o l ∧ l.length = z := ⟨SegAt.blk hm hc, (seg_get cs o z l hc).1⟩
theorem loadG1 (hL : TyOk P L) {t : TypeId} {x : Operand} {b off z by_ : Nat} {zv v : Value} {td : TD} (ho : o.op = .load t x) (ht : tget L t = some ⟨td, z, by_, zv⟩) (ha' : td.agg = some false)
    (hx : val fr x = some (.pointer (some ⟨b, off, none⟩))) (hc : CellAt H b off v) : Gives P N w0 fr H o v := by
  intro a w ha hw
  simp only [execOp, ho, ha.eval hx, Instr.loadAt, Instr.sureAddr, Sem.run_bind, Sem.run_pure, Result.andThen_ok, loadVar, hL.agg ht ha', Bool.false_eq_true, if_false, run_load, hc w0 w hw]
theorem loadGn (hL : TyOk P L) {t : TypeId} {x : Operand} {b off z by_ : Nat} {zv : Value} {l : List Value} {td : TD} (ho : o.op = .load t x) (ht : tget L t = some ⟨td, z, by_, zv⟩) (ha' : td.agg = some true)
    (hx : val fr x = some (.pointer (some ⟨b, off, none⟩))) (hl : l.length = z) (hc : SegAt H b off l) : Gives P N w0 fr H o (.agg l.toArray) := by
  intro a w ha hw
  have hld := run_loadCells_list (P := P) w ⟨b, off, none⟩ l (fun j u hj => by
    have := hc w0 w hw j u hj
    have e : (⟨b, off, none⟩ : Addr).add j = ⟨b, off + j, none⟩ := by
      rw [add_addr]
      by_cases h0 : j = 0
      · subst h0; simp
      · rw [if_neg h0]
    rw [e]
    exact this)
  rw [hl] at hld
  have hs := hL.sizeOf ht w
  simp only [execOp, ho, ha.eval hx, Instr.loadAt, Instr.sureAddr, Sem.run_bind, Sem.run_pure, Result.andThen_ok, loadVar, hL.agg ht ha', if_true, hs, hld]
theorem WP.ld (hL : TyOk P L) {all : Array Oper} {c : Prop} {d : Nat} {t : TypeId} {x : Operand} {b off z by_ : Nat} {zv : Value} {td : TD} (hn : headOp w0 H (norm 1000 k) = some (all, o, k', c)) (hc : c) (hd : o.dst = some d) (hN : Nat.blt d N.size = true) (hg : o.guard = none)
    (ho : o.op = .load t x) (ht : tget L t = some ⟨td, z, by_, zv⟩) (ha' : td.agg = some false) (hx : val fr x = some (.pointer (some ⟨b, off, none⟩)))
    (h : ∃ v, CellAt H b off v ∧ WP P Q N w0 k' ((d, v) :: fr) H) : WP P Q N w0 k fr H := let ⟨_, hv, h⟩ := h; WP.rd hn hc hd hN hg (loadG1 hL ho ht ha' hx hv) h
theorem ex2 {α : Type} {p q : α → Prop} (v : α) (h1 : p v) (h2 : q v) : ∃ v, p v ∧ q v := ⟨v, h1, h2⟩
theorem WP.ldn (hL : TyOk P L) {all : Array Oper} {c : Prop} {d : Nat} {t : TypeId} {x : Operand} {b off z by_ : Nat} {zv : Value} {td : TD} (hn : headOp w0 H (norm 1000 k) = some (all, o, k', c)) (hc : c) (hd : o.dst = some d) (hN : Nat.blt d N.size = true) (hg : o.guard = none)
    (ho : o.op = .load t x) (ht : tget L t = some ⟨td, z, by_, zv⟩) (ha' : td.agg = some true) (hx : val fr x = some (.pointer (some ⟨b, off, none⟩)))
    (h : ∃ l, (SegAt H b off l ∧ l.length = z) ∧ WP P Q N w0 k' ((d, .agg l.toArray) :: fr) H) : WP P Q N w0 k fr H := let ⟨_, hv, h⟩ := h; WP.rd hn hc hd hN hg (loadGn hL ho ht ha' hx hv.2 hv.1) h

theorem ex3 {α β γ : Type} {p q r : α → β → γ → Prop} {x : α} {y : β} {z : γ} (h1 : p x y z) (h2 : q x y z) (h3 : r x y z) : ∃ x y z, p x y z ∧ q x y z ∧ r x y z := ⟨_, _, _, h1, h2, h3⟩
/-- an operation that changes memory, in a walk that is not a quiet one -/
theorem WP.eff {all : Array Oper} {rest : List Oper} {d : Nat} (hn : norm 1000 k = .ops all (o :: rest) :: k') (hd : o.dst = some d) (hN : Nat.blt d N.size = true) (hg : o.guard = none)
    (h : ∀ a w, Knows N fr a → KH w0 H w → ∃ v w' H', (execOp a.eval o).run P w = .ok (.value v) w' ∧ KH w0 H' w' ∧ WP P Q N w0 (.ops all rest :: k') ((d, v) :: fr) H') : WP P Q N w0 k fr H := by
  refine WP.to hn fun a w ha hw => wpListIn_plain hg fun K hK => ?_
  obtain ⟨v, w', H', hr, hw', hk⟩ := h a w ha hw
  refine wpIn_value hr ?_
  rw [hd]
  exact hK _ _ (hk _ w' (ha.put hN) hw')
theorem WP.eff0 {all : Array Oper} {rest : List Oper} (hn : norm 1000 k = .ops all (o :: rest) :: k') (hd : o.dst = none) (hg : o.guard = none)
    (h : ∀ a w, Knows N fr a → KH w0 H w → ∃ w' H', (execOp a.eval o).run P w = .ok .skip w' ∧ KH w0 H' w' ∧ WP P Q N w0 (.ops all rest :: k') fr H') : WP P Q N w0 k fr H := by
  refine WP.to hn fun a w ha hw => wpListIn_plain hg fun K hK => ?_
  obtain ⟨w', H', hr, hw', hk⟩ := h a w ha hw
  refine wpIn_skipped hr ?_
  rw [hd]
  exact hK _ _ (hk a w' ha hw')
theorem newRow_run (e : TypeId) (cs : Array Value) (w : World) : (newRow e cs).run P w = .ok ⟨w.heap.size, 0, none⟩ (w.alloc (.cells cs e)) := by
  simp [newRow, newObj, Sem.run, bind, Sem.bind, pure]
/-- a new variable -/
theorem WP.al (hL : TyOk P L) {all : Array Oper} {rest : List Oper} {d : Nat} {t : TypeId} {td : TyD} (hn : norm 1000 k = .ops all (o :: rest) :: k') (hd : o.dst = some d) (hN : Nat.blt d N.size = true) (hg : o.guard = none) (ho : o.op = .alloc t) (ht : tget L t = some td)
    (h : ∀ g, WP P Q N w0 (.ops all rest :: k') ((d, .pointer (some ⟨g, 0, none⟩)) :: fr) (.blk g t td.zero.cells.toList :: H)) : WP P Q N w0 k fr H := by
  refine WP.eff hn hd hN hg fun a w ha hw => ⟨.pointer (some ⟨w.heap.size, 0, none⟩), w.alloc (.cells td.zero.cells t), _, ?_, ?_, h w.heap.size⟩
  · simp only [execOp, ho, Instr.alloc, Sem.run_bind, hL.zero ht w, Result.andThen_ok, newVar, newRow_run, Sem.run_pure]
  · have := hw.alloc t td.zero.cells.toList
    simpa using this
theorem WP.box {all : Array Oper} {rest : List Oper} {d : Nat} {t : TypeId} {x : Operand} {v : Value} (hn : norm 1000 k = .ops all (o :: rest) :: k') (hd : o.dst = some d) (hN : Nat.blt d N.size = true) (hg : o.guard = none) (ho : o.op = .box t x) (hx : val fr x = some v)
    (h : ∀ g, WP P Q N w0 (.ops all rest :: k') ((d, .pointer (some ⟨g, 0, none⟩)) :: fr) (.blk g t v.cells.toList :: H)) : WP P Q N w0 k fr H := by
  refine WP.eff hn hd hN hg fun a w ha hw => ⟨.pointer (some ⟨w.heap.size, 0, none⟩), w.alloc (.cells v.cells t), _, ?_, ?_, h w.heap.size⟩
  · simp only [execOp, ho, Instr.box, ha.eval hx, Sem.run_bind, Result.andThen_ok, newVar, newRow_run, Sem.run_pure]
  · have := hw.alloc t v.cells.toList
    simpa using this
theorem one_of {u : Value} (h : u.oneCell' = true) : ∀ cs, u ≠ .agg cs := by rintro cs rfl; simp [Value.oneCell'] at h
/-- a store into a block known whole -/
def setN (cs : List Value) (o : Nat) (l : List Value) : List Value := cs.take o ++ l ++ cs.drop (o + l.length)
def oneCells : List Value → Bool
  | [] => true
  | v :: r => v.oneCell' && oneCells r
theorem oneCells_all : ∀ {l : List Value}, oneCells l = true → ∀ v ∈ l, v.oneCell' = true
  | v :: r, h, u, hu => by
    simp only [oneCells, Bool.and_eq_true] at h
    rcases List.mem_cons.1 hu with rfl | hu
    · exact h.1
    · exact oneCells_all h.2 u hu
theorem storeG (hL : TyOk P L) {a : Act} {w : World} (ha : Knows N fr a) {t : TypeId} {x y : Operand} {td : TyD} {g off : Nat} {e : TypeId} {cs : List Value} {v : Value} (ho : o.op = .store t x y) (ht : tget L t = some td) (hx : val fr x = some (.pointer (some ⟨g, off, none⟩))) (hy : val fr y = some v)
    (hz : v.cells.toList.length = td.size) (h1 : oneCells v.cells.toList = true) (hw : KH w0 H w) (hm : Rem (.blk g e cs) H H1) (hfit : off + td.size ≤ cs.length) :
    ∃ w', (execOp a.eval o).run P w = .ok .skip w' ∧ KH w0 (.blk g e (setN cs off v.cells.toList) :: H1) w' := by
  have hb : w.heap[g]? = some (.cells cs.toArray e (0, 0)) := hw.mem hm.mem.1
  have hs := hL.sizeOf ht w
  have hz' : v.cells.size = td.size := by simpa using hz
  have hst := run_storeCells_at P g off e v.cells.toList 0 cs.toArray w hb (by rw [hz]; simpa using hfit) (oneCells_all h1)
  simp only [Nat.add_zero] at hst
  refine ⟨w.setRow g (cs.take off ++ v.cells.toList ++ cs.drop (off + v.cells.toList.length)).toArray, ?_, ?_⟩
  · simp only [execOp, ho, ha.eval hx, ha.eval hy, Instr.storeAt, Instr.sureAddr, Sem.run_bind, Sem.run_pure, Result.andThen_ok, storeVar, hs, hz', ne_eq, not_true_eq_false, if_false, hst]
  refine hw.turn hm ⟨rfl, rfl, rfl, by simp, fun k hk => by omega⟩ (fun b _ hp => setRow_other w g b _ (fun e => hp e)) ?_ (fun b hb => .inl hb)
  exact setRow_heap w g _ _ e _ hb
theorem WP.sto (hL : TyOk P L) {all : Array Oper} {rest : List Oper} {t : TypeId} {x y : Operand} {td : TyD} {g off : Nat} {v : Value} (hn : norm 1000 k = .ops all (o :: rest) :: k') (hd : o.dst = none) (hg : o.guard = none)
    (ho : o.op = .store t x y) (ht : tget L t = some td) (hx : val fr x = some (.pointer (some ⟨g, off, none⟩))) (hy : val fr y = some v) (hz : v.cells.toList.length = td.size) (h1 : oneCells v.cells.toList = true)
    (h : ∃ (e : TypeId) (cs : List Value) (H1 : Heap), Rem (.blk g e cs) H H1 ∧ off + td.size ≤ cs.length ∧ WP P Q N w0 (.ops all rest :: k') fr (.blk g e (setN cs off v.cells.toList) :: H1)) : WP P Q N w0 k fr H :=
  let ⟨_, _, _, hm, hfit, h⟩ := h
  WP.eff0 hn hd hg fun a w ha hw => let ⟨w', h2, h3⟩ := storeG hL ha ho ht hx hy hz h1 hw hm hfit; ⟨w', _, h2, h3, h⟩
end
end Go.Qe
