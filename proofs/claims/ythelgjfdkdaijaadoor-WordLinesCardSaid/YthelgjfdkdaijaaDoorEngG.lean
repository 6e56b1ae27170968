/- Statements gone through in all orders: three ways on; states that several orders come to are walked once. Calls that turn pieces of their caller's. -/
import Derived.Test.YthelgjfdkdaijaaDoorExt
namespace Go.Qe
open Go.RowKit
abbrev iv (x : Int) : Value := .int .i64 x
section
variable {P : Program} {Q : Exit → Act → World → Prop} {N : Cx} {w0 : World} {k k' : List Kont} {fr fr2 : Fr} {H H2 : Heap} {L : List TyD}
/-- one step, told by one function -/
def stStep (L : List TyD) (sz : Nat) (w0 : World) (H : Heap) (fr : Fr) (k : List Kont) : Option (List Kont × Fr × Prop) :=
  match headOp w0 H (norm 1000 k) with
  | some (_, o, k', c) => match o.dst, o.guard, evalOp true L fr o.op with
    | some d, none, some (v, p) => match Nat.blt d sz with
      | true => some (k', (d, v) :: fr, c ∧ p)
      | false => none
    | _, _, _ => none
  | none => none
theorem WP.sx (hL : TyOk P L) {q : Prop} {fr' : Fr} (hs : stStep L N.size w0 H fr k = some (k', fr', q)) (hq : q) (h : WP P Q N w0 k' fr' H) : WP P Q N w0 k fr H := by
  unfold stStep at hs
  split at hs
  · rename_i all o k1 c hn
    split at hs
    · rename_i d v p hd hg he
      split at hs
      · rename_i hlt
        cases hs
        exact WP.st hL true hn hq.1 hd hlt hg he hq.2 h
      · cases hs
    · cases hs
  · cases hs
/-- a load: where it reads -/
def ldStep (L : List TyD) (sz : Nat) (w0 : World) (H : Heap) (fr : Fr) (k : List Kont) : Option (List Kont × Nat × Nat × Nat × Nat × Bool × Prop) :=
  match headOp w0 H (norm 1000 k) with
  | some (_, o, k', c) => match o.dst, o.guard, o.op with
    | some d, none, .load t x => match Nat.blt d sz, tget L t, val fr x with
      | true, some ⟨td, z, _, _⟩, some (.pointer (some ⟨b, off, none⟩)) => match td.agg with
        | some g => some (k', d, b, off, z, g, c)
        | none => none
      | _, _, _ => none
    | _, _, _ => none
  | none => none
theorem ldStep_spec {d b off z : Nat} {g : Bool} {c : Prop} (hs : ldStep L N.size w0 H fr k = some (k', d, b, off, z, g, c)) : ∃ (all : Array Oper) (o : Oper) (t : TypeId) (x : Operand) (td : TD) (by_ : Nat) (zv : Value), headOp w0 H (norm 1000 k) = some (all, o, k', c) ∧ o.dst = some d ∧ Nat.blt d N.size = true ∧ o.guard = none ∧ o.op = .load t x ∧ tget L t = some ⟨td, z, by_, zv⟩ ∧ td.agg = some g ∧ val fr x = some (.pointer (some ⟨b, off, none⟩)) := by
  unfold ldStep at hs
  split at hs
  · rename_i all o k1 c' hn
    split at hs
    · rename_i d' t x hd hg ho
      split at hs
      · rename_i td z' by_ zv b' off' hlt ht hx
        split at hs
        · rename_i g' hag
          cases hs
          exact ⟨all, o, t, x, td, by_, zv, hn, hd, hlt, hg, ho, ht, hag, hx⟩
        · cases hs
      · cases hs
    · cases hs
  · cases hs
theorem WP.lx (hL : TyOk P L) {d b off z : Nat} {c : Prop} {v : Value} (hs : ldStep L N.size w0 H fr k = some (k', d, b, off, z, false, c)) (hc : c) (hv : CellAt H b off v) (h : WP P Q N w0 k' ((d, v) :: fr) H) : WP P Q N w0 k fr H := by
  obtain ⟨_, _, _, _, _, _, _, hn, hd, hlt, hg, ho, ht, hag, hx⟩ := ldStep_spec hs
  exact WP.ld1 hL hn hc hd hlt hg ho ht hag hx hv h
theorem WP.mx_ (hL : TyOk P L) {d b off z : Nat} {c : Prop} {l : List Value} (hs : ldStep L N.size w0 H fr k = some (k', d, b, off, z, true, c)) (hc : c) (hv : SegAt H b off l ∧ l.length = z) (h : WP P Q N w0 k' ((d, .agg l.toArray) :: fr) H) : WP P Q N w0 k fr H := by
  obtain ⟨_, _, _, _, _, _, _, hn, hd, hlt, hg, ho, ht, hag, hx⟩ := ldStep_spec hs
  exact WP.ldm hL hn hc hd hlt hg ho ht hag hx hv h
theorem WP.any3 {ops : Array Oper} {listed : Array Bool} {f : Nat} {o o' o'' : Oper} (i i' i'' : Nat) (hn : norm 1000 k = .any ops listed (f + 1) :: k') (hr : Region.ready .any ops listed = [i, i', i'']) (ho : ops[i]? = some o) (ho' : ops[i']? = some o') (ho'' : ops[i'']? = some o'')
    (h : WP P Q N w0 (.ops ops [o] :: .any ops (listed.setIfInBounds i true) f :: k') fr H) (h' : WP P Q N w0 (.ops ops [o'] :: .any ops (listed.setIfInBounds i' true) f :: k') fr H) (h'' : WP P Q N w0 (.ops ops [o''] :: .any ops (listed.setIfInBounds i'' true) f :: k') fr H) : WP P Q N w0 k fr H := by
  refine WP.to hn fun a w ha hw => ?_
  refine wpAnyIn_all hr (by simp) fun j hj => ?_
  have : j = i ∨ j = i' ∨ j = i'' := by simpa using hj
  rcases this with rfl | rfl | rfl
  · exact any_op ho h ha hw
  · exact any_op ho' h' ha hw
  · exact any_op ho'' h'' ha hw
theorem WP.any4 {ops : Array Oper} {listed : Array Bool} {f : Nat} {o o' o'' o3 : Oper} (i i' i'' i3 : Nat) (hn : norm 1000 k = .any ops listed (f + 1) :: k') (hr : Region.ready .any ops listed = [i, i', i'', i3]) (ho : ops[i]? = some o) (ho' : ops[i']? = some o') (ho'' : ops[i'']? = some o'') (ho3 : ops[i3]? = some o3)
    (h : WP P Q N w0 (.ops ops [o] :: .any ops (listed.setIfInBounds i true) f :: k') fr H) (h' : WP P Q N w0 (.ops ops [o'] :: .any ops (listed.setIfInBounds i' true) f :: k') fr H) (h'' : WP P Q N w0 (.ops ops [o''] :: .any ops (listed.setIfInBounds i'' true) f :: k') fr H) (h3 : WP P Q N w0 (.ops ops [o3] :: .any ops (listed.setIfInBounds i3 true) f :: k') fr H) : WP P Q N w0 k fr H := by
  refine WP.to hn fun a w ha hw => ?_
  refine wpAnyIn_all hr (by simp) fun j hj => ?_
  have : j = i ∨ j = i' ∨ j = i'' ∨ j = i3 := by simpa using hj
  rcases this with rfl | rfl | rfl | rfl
  · exact any_op ho h ha hw
  · exact any_op ho' h' ha hw
  · exact any_op ho'' h'' ha hw
  · exact any_op ho3 h3 ha hw
theorem WP.any5 {ops : Array Oper} {listed : Array Bool} {f : Nat} {o0 o1 o2 o3 o4 : Oper} (i0 i1 i2 i3 i4 : Nat) (hn : norm 1000 k = .any ops listed (f + 1) :: k') (hr : Region.ready .any ops listed = [i0, i1, i2, i3, i4]) (ho0 : ops[i0]? = some o0) (ho1 : ops[i1]? = some o1) (ho2 : ops[i2]? = some o2) (ho3 : ops[i3]? = some o3) (ho4 : ops[i4]? = some o4)
    (h0 : WP P Q N w0 (.ops ops [o0] :: .any ops (listed.setIfInBounds i0 true) f :: k') fr H) (h1 : WP P Q N w0 (.ops ops [o1] :: .any ops (listed.setIfInBounds i1 true) f :: k') fr H) (h2 : WP P Q N w0 (.ops ops [o2] :: .any ops (listed.setIfInBounds i2 true) f :: k') fr H) (h3 : WP P Q N w0 (.ops ops [o3] :: .any ops (listed.setIfInBounds i3 true) f :: k') fr H) (h4 : WP P Q N w0 (.ops ops [o4] :: .any ops (listed.setIfInBounds i4 true) f :: k') fr H) : WP P Q N w0 k fr H := by
  refine WP.to hn fun a w ha hw => ?_
  refine wpAnyIn_all hr (by simp) fun j hj => ?_
  have : j = i0 ∨ j = i1 ∨ j = i2 ∨ j = i3 ∨ j = i4 := by simpa using hj
  rcases this with rfl | rfl | rfl | rfl | rfl
  · exact any_op ho0 h0 ha hw
  · exact any_op ho1 h1 ha hw
  · exact any_op ho2 h2 ha hw
  · exact any_op ho3 h3 ha hw
  · exact any_op ho4 h4 ha hw
theorem WP.any6 {ops : Array Oper} {listed : Array Bool} {f : Nat} {o0 o1 o2 o3 o4 o5 : Oper} (i0 i1 i2 i3 i4 i5 : Nat) (hn : norm 1000 k = .any ops listed (f + 1) :: k') (hr : Region.ready .any ops listed = [i0, i1, i2, i3, i4, i5]) (ho0 : ops[i0]? = some o0) (ho1 : ops[i1]? = some o1) (ho2 : ops[i2]? = some o2) (ho3 : ops[i3]? = some o3) (ho4 : ops[i4]? = some o4) (ho5 : ops[i5]? = some o5)
    (h0 : WP P Q N w0 (.ops ops [o0] :: .any ops (listed.setIfInBounds i0 true) f :: k') fr H) (h1 : WP P Q N w0 (.ops ops [o1] :: .any ops (listed.setIfInBounds i1 true) f :: k') fr H) (h2 : WP P Q N w0 (.ops ops [o2] :: .any ops (listed.setIfInBounds i2 true) f :: k') fr H) (h3 : WP P Q N w0 (.ops ops [o3] :: .any ops (listed.setIfInBounds i3 true) f :: k') fr H) (h4 : WP P Q N w0 (.ops ops [o4] :: .any ops (listed.setIfInBounds i4 true) f :: k') fr H) (h5 : WP P Q N w0 (.ops ops [o5] :: .any ops (listed.setIfInBounds i5 true) f :: k') fr H) : WP P Q N w0 k fr H := by
  refine WP.to hn fun a w ha hw => ?_
  refine wpAnyIn_all hr (by simp) fun j hj => ?_
  have : j = i0 ∨ j = i1 ∨ j = i2 ∨ j = i3 ∨ j = i4 ∨ j = i5 := by simpa using hj
  rcases this with rfl | rfl | rfl | rfl | rfl | rfl
  · exact any_op ho0 h0 ha hw
  · exact any_op ho1 h1 ha hw
  · exact any_op ho2 h2 ha hw
  · exact any_op ho3 h3 ha hw
  · exact any_op ho4 h4 ha hw
  · exact any_op ho5 h5 ha hw
theorem WP.any7 {ops : Array Oper} {listed : Array Bool} {f : Nat} {o0 o1 o2 o3 o4 o5 o6 : Oper} (i0 i1 i2 i3 i4 i5 i6 : Nat) (hn : norm 1000 k = .any ops listed (f + 1) :: k') (hr : Region.ready .any ops listed = [i0, i1, i2, i3, i4, i5, i6]) (ho0 : ops[i0]? = some o0) (ho1 : ops[i1]? = some o1) (ho2 : ops[i2]? = some o2) (ho3 : ops[i3]? = some o3) (ho4 : ops[i4]? = some o4) (ho5 : ops[i5]? = some o5) (ho6 : ops[i6]? = some o6)
    (h0 : WP P Q N w0 (.ops ops [o0] :: .any ops (listed.setIfInBounds i0 true) f :: k') fr H) (h1 : WP P Q N w0 (.ops ops [o1] :: .any ops (listed.setIfInBounds i1 true) f :: k') fr H) (h2 : WP P Q N w0 (.ops ops [o2] :: .any ops (listed.setIfInBounds i2 true) f :: k') fr H) (h3 : WP P Q N w0 (.ops ops [o3] :: .any ops (listed.setIfInBounds i3 true) f :: k') fr H) (h4 : WP P Q N w0 (.ops ops [o4] :: .any ops (listed.setIfInBounds i4 true) f :: k') fr H) (h5 : WP P Q N w0 (.ops ops [o5] :: .any ops (listed.setIfInBounds i5 true) f :: k') fr H) (h6 : WP P Q N w0 (.ops ops [o6] :: .any ops (listed.setIfInBounds i6 true) f :: k') fr H) : WP P Q N w0 k fr H := by
  refine WP.to hn fun a w ha hw => ?_
  refine wpAnyIn_all hr (by simp) fun j hj => ?_
  have : j = i0 ∨ j = i1 ∨ j = i2 ∨ j = i3 ∨ j = i4 ∨ j = i5 ∨ j = i6 := by simpa using hj
  rcases this with rfl | rfl | rfl | rfl | rfl | rfl | rfl
  · exact any_op ho0 h0 ha hw
  · exact any_op ho1 h1 ha hw
  · exact any_op ho2 h2 ha hw
  · exact any_op ho3 h3 ha hw
  · exact any_op ho4 h4 ha hw
  · exact any_op ho5 h5 ha hw
  · exact any_op ho6 h6 ha hw
theorem WP.cutA {ops : Array Oper} {listed : Array Bool} {f : Nat} (listed2 : Array Bool) (f2 : Nat) (fr2 : Fr) (H2 : Heap) (hn : norm 1000 k = .any ops listed f :: k')
    (h1 : WP P Q N w0 (.any ops listed2 f2 :: k') fr2 H2) (h2 : WP P Q N w0 (.any ops listed2 f2 :: k') fr2 H2 → WP P Q N w0 (.any ops listed f :: k') fr H) : WP P Q N w0 k fr H :=
  WP.to hn (h2 h1)
theorem WP.useA {ops : Array Oper} {l1 l2 : Array Bool} {f : Nat} (m : WP P Q N w0 (.any ops l2 f :: k') fr2 H2) (hn : norm 1000 k = .any ops l1 f :: k') (hl : l1 = l2) (hf : subF fr fr2) (hH : Pick H2 H) : WP P Q N w0 k fr H := by
  subst hl
  exact WP.to hn fun a w ha hw => m a w (ha.sub hf) (hw.pick hH)
/-- the same for families of states: what the operations ahead brought in -/
theorem WP.cutF {α : Type} (J : α → Prop) {ops : Array Oper} {listed : Array Bool} {f : Nat} (listed2 : Array Bool) (f2 : Nat) (fr2 : α → Fr) (H2 : α → Heap) (hn : norm 1000 k = .any ops listed f :: k')
    (h1 : ∀ x, J x → WP P Q N w0 (.any ops listed2 f2 :: k') (fr2 x) (H2 x)) (h2 : (∀ x, J x → WP P Q N w0 (.any ops listed2 f2 :: k') (fr2 x) (H2 x)) → WP P Q N w0 (.any ops listed f :: k') fr H) : WP P Q N w0 k fr H :=
  WP.to hn (h2 h1)
theorem WP.useF {α : Type} {J : α → Prop} {ops : Array Oper} {l1 l2 : Array Bool} {f : Nat} {fr2 : α → Fr} {H2 : α → Heap} (m : ∀ x, J x → WP P Q N w0 (.any ops l2 f :: k') (fr2 x) (H2 x)) (x : α) (hJ : J x) (hn : norm 1000 k = .any ops l1 f :: k') (hl : l1 = l2) (hf : subF fr (fr2 x)) (hH : Pick (H2 x) H) : WP P Q N w0 k fr H := by
  subst hl
  exact WP.to hn fun a w ha hw => m x hJ a w (ha.sub hf) (hw.pick hH)
def notCall : Op → Bool
  | .call _ => false
  | _ => true
theorem notCall_about {P : Program} {o : Oper} (ho : notCall o.op = true) (w : World) (ρ : Operand → Value) : o.about P w ρ = none := by
  unfold Oper.about
  cases h : o.op <;> simp only [h, notCall, Bool.false_eq_true] at ho <;> rfl
/-- an operation that looks at no memory is taken first -/
theorem WP.anyP {ops : Array Oper} {listed : Array Bool} {f d : Nat} {o : Oper} {v : Value} {p : Prop} (i : Nat) (hL : TyOk P L) (hQ : PutInv Q) (hN : N.round = none) (hn : norm 1000 k = .any ops listed (f + 1) :: k') (ho : ops[i]? = some o) (hs : Region.noSelect ops = true) (ht : (Region.free .any ops listed i && (Region.ready .any ops listed).contains i) = true)
    (hg : o.guard = none) (hd : o.dst = some d) (hdN : Nat.blt d N.size = true) (hlo : notCall o.op = true) (he : evalOp true L fr o.op = some (v, p)) (hp : p)
    (h : WP P Q N w0 (.any ops (listed.setIfInBounds i true) f :: k') ((d, v) :: fr) H) : WP P Q N w0 k fr H := by
  refine WP.to hn fun a w ha hw => ?_
  simp only [Bool.and_eq_true] at ht
  refine wpAnyIn_take (oi := o) (v := v) hN ho hs ht.1 ht.2 (fun c a w => putInv_sem hQ k' c a o.dst v w) ⟨.inl ⟨by simp [Region.wanted, hg], fun w => evalOp_ok (N := N) (w0 := w) (H := []) hL he hp a w ha ⟨Below.refl _ _, .nil, fun _ h => by cases h⟩⟩, fun w => notCall_about hlo w _⟩ ?_
  rw [hd]
  exact h _ w (ha.put hdN) hw
/-- the same behind a guard that lets it -/
theorem WP.anyY {ops : Array Oper} {listed : Array Bool} {f d s : Nat} {o : Oper} {v : Value} {p : Prop} {b want : Bool} (i : Nat) (hL : TyOk P L) (hQ : PutInv Q) (hN : N.round = none) (hn : norm 1000 k = .any ops listed (f + 1) :: k') (ho : ops[i]? = some o) (hs : Region.noSelect ops = true) (ht : (Region.free .any ops listed i && (Region.ready .any ops listed).contains i) = true)
    (hg : guardOf ops fr o = some (s, b, want)) (hb : b = want) (hd : o.dst = some d) (hdN : Nat.blt d N.size = true) (hlo : notCall o.op = true) (he : evalOp true L fr o.op = some (v, p)) (hp : p)
    (h : WP P Q N w0 (.any ops (listed.setIfInBounds i true) f :: k') ((d, v) :: (s, .bool want) :: fr) H) : WP P Q N w0 k fr H := by
  refine WP.to hn fun a w ha hw => ?_
  simp only [Bool.and_eq_true] at ht
  obtain ⟨hwt, hs'⟩ := guardOf_spec ha hg
  subst hb
  simp only [beq_self_eq_true] at hwt
  refine wpAnyIn_take (oi := o) (v := v) hN ho hs ht.1 ht.2 (fun c a w => putInv_sem hQ k' c a o.dst v w) ⟨.inl ⟨hwt, fun w => evalOp_ok (N := N) (w0 := w) (H := []) hL he hp a w ha ⟨Below.refl _ _, .nil, fun _ h => by cases h⟩⟩, fun w => notCall_about hlo w _⟩ ?_
  rw [hd]
  exact h _ w ((ha.retell hs' rfl).put hdN) hw
/-- an operation that is passed over -/
theorem WP.anyN {ops : Array Oper} {listed : Array Bool} {f d s : Nat} {o : Oper} {b want : Bool} (i : Nat) (hQ : PutInv Q) (hN : N.round = none) (hn : norm 1000 k = .any ops listed (f + 1) :: k') (ho : ops[i]? = some o) (hs : Region.noSelect ops = true) (ht : (Region.free .any ops listed i && (Region.ready .any ops listed).contains i) = true)
    (hg : guardOf ops fr o = some (s, b, want)) (hb : b = !want) (hd : o.dst = some d) (hdN : Nat.blt d N.size = true) (hlo : notCall o.op = true)
    (h : WP P Q N w0 (.any ops (listed.setIfInBounds i true) f :: k') ((d, undef) :: (s, .bool (!want)) :: fr) H) : WP P Q N w0 k fr H := by
  refine WP.to hn fun a w ha hw => ?_
  simp only [Bool.and_eq_true] at ht
  obtain ⟨hwt, hs'⟩ := guardOf_spec ha hg
  have hwt' : Region.wanted o (yielded ops a.tmps) = false := by rw [hwt, hb]; cases want <;> rfl
  refine wpAnyIn_take (oi := o) (v := undef) hN ho hs ht.1 ht.2 (fun c a w => putInv_sem hQ k' c a o.dst undef w) ⟨.inr ⟨hwt', rfl⟩, fun w => notCall_about hlo w _⟩ ?_
  rw [hd]
  exact h _ w ((ha.retell hs' (by rw [hb])).put hdN) hw
theorem WP.anyU {ops : Array Oper} {listed : Array Bool} {f d : Nat} {o : Oper} (i : Nat) (hQ : PutInv Q) (hN : N.round = none) (hn : norm 1000 k = .any ops listed (f + 1) :: k') (ho : ops[i]? = some o) (hs : Region.noSelect ops = true) (ht : (Region.free .any ops listed i && (Region.ready .any ops listed).contains i) = true)
    (hg : guardU ops fr o = true) (hd : o.dst = some d) (hdN : Nat.blt d N.size = true) (hlo : notCall o.op = true)
    (h : WP P Q N w0 (.any ops (listed.setIfInBounds i true) f :: k') ((d, undef) :: fr) H) : WP P Q N w0 k fr H := by
  refine WP.to hn fun a w ha hw => ?_
  simp only [Bool.and_eq_true] at ht
  refine wpAnyIn_take (oi := o) (v := undef) hN ho hs ht.1 ht.2 (fun c a w => putInv_sem hQ k' c a o.dst undef w) ⟨.inr ⟨guardU_spec ha hg, rfl⟩, fun w => notCall_about hlo w _⟩ ?_
  rw [hd]
  exact h _ w (ha.put hdN) hw
/-- all bits the other way round -/
theorem WP.unx {o : Oper} {all : Array Oper} {c : Prop} {d : Nat} {t : TypeId} {x : Operand} {kd : IntKind} {n : Int} (m : Int) (hn : headOp w0 H (norm 1000 k) = some (all, o, k', c)) (hc : c) (hd : o.dst = some d) (hN : Nat.blt d N.size = true) (hg : o.guard = none)
    (ho : o.op = .unOp .xor t x) (hx : val fr x = some (.int kd n)) (hm : (if kd.signed then (-1 : Int) else kd.max) = m) (h : WP P Q N w0 k' ((d, .int kd (bits .xor kd m n)) :: fr) H) : WP P Q N w0 k fr H :=
  WP.rd hn hc hd hN hg (fun a w ha hw => by
    subst hm
    simp only [execOp, ho, ha.eval hx, Op.unary, Op.intBits, Sem.run_bind, Sem.run_pure, Result.andThen_ok]
    rfl) h
/-- 'make' of elements of several cells -/
theorem toList_made {cs : List Value} {z : Nat} (hz : cs.length = z) (h0 : 0 < z) (n : Nat) : (madeCells cs.toArray (n * z)).toList = (List.replicate n cs).flatten := by
  apply List.ext_getElem?
  intro j
  have hl : (List.replicate n cs).flatten.length = n * z := by simp [hz]
  by_cases hj : j < n * z
  · have hm : j % z < z := Nat.mod_lt _ h0
    have hr : (List.replicate n cs).flatten[j]? = cs[j % z]? := by
      clear hl
      induction n generalizing j with
      | zero => simp at hj
      | succ n ih =>
        rw [List.replicate_succ, List.flatten_cons]
        by_cases h1 : j < z
        · rw [List.getElem?_append_left (by omega), Nat.mod_eq_of_lt h1]
        · have e : j % z = (j - z) % z := Nat.mod_eq_sub_mod (by omega)
          have hj' : j - z < n * z := by rw [Nat.succ_mul] at hj; omega
          rw [List.getElem?_append_right (by omega), hz, ih (j - z) hj' (Nat.mod_lt _ h0), e]
    rw [hr]
    simp [madeCells, hj, hz, hm]
  · have e1 : (List.replicate n cs).flatten[j]? = none := List.getElem?_eq_none (by omega)
    rw [e1]
    simp [madeCells, hj]
theorem mkz_run (hL : TyOk P L) {a : Act} (ha : Knows N fr a) {o : Oper} {t e : TypeId} {sz sb eb n z : Nat} {sv ev : Value} {td : TD} {x y : Operand} {ki kj : IntKind} {cs : List Value}
    (ho : o.op = .makeSlice t x y) (ht : tget L t = some ⟨.slice e, sz, sb, sv⟩) (he : tget L e = some ⟨td, z, eb, ev⟩) (hev : ev.cells = cs.toArray) (hcs : cs.length = z) (h0 : 0 < z) (hx : val fr x = some (.int ki (Int.ofNat n))) (hy : val fr y = some (.int kj (Int.ofNat n))) (hby : eb * n ≤ 281474976710656) (h63 : n ≤ 9223372036854775807) (w : World) :
    (execOp a.eval o).run P w = .ok (.value (.slice (some ⟨w.heap.size, 0, none⟩) n n)) (w.alloc (.cells (List.replicate n cs).flatten.toArray e)) := by
  obtain ⟨i, h1, h2, h3, h4, _⟩ := hL.parts he
  have hb : (i.bytes : Int) * (n : Int) ≤ 281474976710656 := by
    have h : ((i.bytes * n : Nat) : Int) ≤ 281474976710656 := by rw [h3]; simp only; omega
    rwa [Int.natCast_mul] at h
  have hr := run_make (P := P) w t e i ev (hL.slice ht) h1 h4 ki kj n n (by omega) (by omega) hb (by omega)
  simp only [Int.toNat_natCast] at hr
  have hm : madeCells ev.cells (n * i.size) = (List.replicate n cs).flatten.toArray := by
    apply Array.ext'
    rw [h2, hev]
    exact toList_made hcs h0 n
  rw [hm] at hr
  simp only [execOp, ho, ha.eval hx, ha.eval hy, Sem.run_bind]
  have hr' : (Instr.makeSlice t (.int ki (Int.ofNat n)) (.int kj (Int.ofNat n))).run P w = _ := hr
  rw [hr']
  rfl
theorem WP.mkZ {α : Type} {f : Fl α} (x0 : α) (hL : TyOk P L) {o : Oper} {all : Array Oper} {rest : List Oper} {d : Nat} {t e : TypeId} {sz sb eb : Nat} {sv ev : Value} {td : TD} {x : Operand} {ki : IntKind} {m : Int} (hn : norm 1000 k = .ops all (o :: rest) :: k') (hd : o.dst = some d) (hN : Nat.blt d N.size = true) (hg : o.guard = none)
    (ho : o.op = .makeSlice t x x) (ht : tget L t = some ⟨.slice e, sz, sb, sv⟩) (he : tget L e = some ⟨td, f.z, eb, ev⟩) (hev : ev.cells = (f.cells x0).toArray) (hz : Nat.blt 0 f.z = true) (hx : val fr x = some (.int ki m)) (heb : Nat.ble eb 128 = true) (hm : 0 ≤ m ∧ m ≤ (lim : Nat))
    (h : ∀ g, OwF (some ⟨g, 0, none⟩) m.toNat (List.replicate m.toNat x0) → WP P Q N w0 (.ops all rest :: k') ((d, .slice (some ⟨g, 0, none⟩) m.toNat m.toNat) :: fr) (Ow f e (some ⟨g, 0, none⟩) m.toNat m.toNat (List.replicate m.toNat x0) :: H)) : WP P Q N w0 k fr H := by
  obtain ⟨q, rfl⟩ := Int.eq_ofNat_of_zero_le hm.1
  have heb' := Nat.le_of_ble_eq_true heb
  have hz' : 0 < f.z := by rwa [Nat.blt_eq] at hz
  have hq : q ≤ 1000000000000 := by have := hm.2; simp only [lim] at this; omega
  have hb : eb * q ≤ 128 * q := Nat.mul_le_mul_right _ heb'
  have e1 : (List.replicate q (f.cells x0)).flatten = cl f (List.replicate q x0) := by
    clear h hm hb hq hx
    induction q with
    | zero => rfl
    | succ q ih => rw [List.replicate_succ, List.replicate_succ, List.flatten_cons, ih]; rfl
  refine WP.eff hn hd hN hg fun a w ha hw => ⟨.slice (some ⟨w.heap.size, 0, none⟩) q q, w.alloc (.cells (List.replicate q (f.cells x0)).flatten.toArray e), .blk w.heap.size e (List.replicate q (f.cells x0)).flatten :: H, mkz_run hL ha ho ht he hev (f.len x0) hz' hx hx (by omega) (by omega) w, hw.alloc e _, ?_⟩
  rw [e1]
  exact WP.shut0 (z := f.z) .head (by omega) (by rw [cl_length, List.length_replicate, Int.toNat_natCast]) (h w.heap.size ⟨by simp, fun _ => ⟨_, rfl⟩⟩)
/-- the same within a statement that draws its order -/
def mkSpecZ (e : TypeId) (n : Nat) (cs : List Value) : Spec := fun v L => ∃ g, v = .slice (some ⟨g, 0, none⟩) n n ∧ L = [.blk g e (List.replicate n cs).flatten]
theorem WP.lmZ (cs : List Value) (hL : TyOk P L) {o : Oper} {all : Array Oper} {rest tl : List Oper} {w1 : World} {H2 : Heap} {X : Tags} {Rs : Specs} {i d : Nat} {t e : TypeId} {sz sb eb z : Nat} {sv ev : Value} {td : TD} {x : Operand} {ki : IntKind} {m : Int}
    (hn : norm 1000 k = .lops w1 H2 Rs all (o :: rest) tl i X :: k') (hc' : w1 = w0 ∧ H2 = H) (hR : specAt Rs i = some ([], fun _ => mkSpecZ e m.toNat cs)) (hd : o.dst = some d) (hN : Nat.blt d N.size = true) (hg : o.guard = none)
    (ho : o.op = .makeSlice t x x) (ht : tget L t = some ⟨.slice e, sz, sb, sv⟩) (he : tget L e = some ⟨td, z, eb, ev⟩) (hev : ev.cells = cs.toArray) (hz : Nat.beq cs.length z = true) (h0 : Nat.blt 0 z = true) (hx : val fr x = some (.int ki m)) (heb : Nat.ble eb 128 = true) (hm : 0 ≤ m ∧ m ≤ (lim : Nat))
    (h : ∀ g, WP P Q N w0 (.lops w1 H2 Rs all rest tl (i + 1) ((i, [.blk g e (List.replicate m.toNat cs).flatten]) :: X) :: k') ((d, .slice (some ⟨g, 0, none⟩) m.toNat m.toNat) :: fr) H) : WP P Q N w0 k fr H := by
  obtain ⟨q, rfl⟩ := Int.eq_ofNat_of_zero_le hm.1
  have heb' := Nat.le_of_ble_eq_true heb
  have hq : q ≤ 1000000000000 := by have := hm.2; simp only [lim] at this; omega
  have hb : eb * q ≤ 128 * q := Nat.mul_le_mul_right _ heb'
  exact WP.lmk (fun g => .slice (some ⟨g, 0, none⟩) q q) hn hc' ⟨_, hR, fun _ _ => rfl⟩ hd hN hg (fun a w ha hw => mkz_run hL ha ho ht he hev (Nat.eq_of_beq_eq_true hz) (by rwa [Nat.blt_eq] at h0) hx hx (by omega) (by omega) w) h
theorem WP.shutZ {α : Type} {f : Fl α} (x0 : α) {g : Nat} {e : TypeId} {m : Int} {H1 : Heap} (hr : Rem (.blk g e (List.replicate m.toNat (f.cells x0)).flatten) H H1) (hm : 0 ≤ m ∧ m ≤ (lim : Nat))
    (h : OwF (some ⟨g, 0, none⟩) m.toNat (List.replicate m.toNat x0) → WP P Q N w0 k fr (Ow f e (some ⟨g, 0, none⟩) m.toNat m.toNat (List.replicate m.toNat x0) :: H1)) : WP P Q N w0 k fr H := by
  have hq : m.toNat ≤ 1000000000000 := by have := hm.2; simp only [lim] at this; omega
  clear hm
  generalize m.toNat = q at *
  have e1 : (List.replicate q (f.cells x0)).flatten = cl f (List.replicate q x0) := by
    clear h hr hq
    induction q with
    | zero => rfl
    | succ q ih => rw [List.replicate_succ, List.replicate_succ, List.flatten_cons, ih]; rfl
  rw [e1] at hr
  refine WP.shut0 (n := q) (z := f.z) hr (by omega) (by rw [cl_length, List.length_replicate]) (h ⟨by simp, fun _ => ⟨g, rfl⟩⟩)
/-- calls that turn some pieces, and leave the others -/
theorem WP.callT {o : Oper} (F : Heap) (S : Value → Heap → Prop) {all : Array Oper} {rest : List Oper} {d : Nat} {f : Operand} {args : Array Operand} {ats : Array TypeId} {fid : FuncId} {fst cap : Array Value} {vs : List Value} (hn : norm 1000 k = .ops all (o :: rest) :: k') (hd : o.dst = some d) (hN : Nat.blt d N.size = true) (hg : o.guard = none)
    (ho : o.op = .call ⟨.value f, args, ats⟩) (hf : val fr f = some (.func (.func fid) fst cap)) (hv : vals fr args.toList = some vs) (hb : callable P fid = true)
    (hc : ∀ w, KH w0 H w → Calls P fid (fst ++ vs.toArray ++ cap) w fun e w' => ∃ v L, e = .returned v ∧ S v L ∧ KH w0 (L ++ F) w')
    (h : ∀ v L, S v L → WP P Q N w0 (.ops all rest :: k') ((d, v) :: fr) (L ++ F)) : WP P Q N w0 k fr H :=
  WP.call (α := Value × Heap) (fun x => x.1) (fun x => x.2 ++ F) (fun x => S x.1 x.2) hn hd hN hg ho hf hv hb (fun w hw => (hc w hw).mono fun _ _ ⟨v, L, he, hs, hr⟩ => ⟨(v, L), he, hs, hr⟩) (fun x hx => h x.1 x.2 hx)
theorem Held.cons {Z : PH} {p : Piece} (h : Held H Z) : Held (p :: H) Z := fun w0 w hw => h w0 w ⟨hw.glob, (List.pairwise_cons.1 hw.apart).2, fun q hq => hw.holds q (List.mem_cons_of_mem _ hq)⟩
theorem Held.none_ : Held H (fun _ => none) := fun _ _ _ b o h => by cases h
theorem Rem.perm_ {p : Piece} {H H1 : Heap} (h : Rem p H H1) : H.Perm (p :: H1) := by
  induction h with
  | head => exact .refl _
  | tail h ih => exact (List.Perm.cons _ ih).trans (List.Perm.swap _ _ _)
/-- a call hands back the caller's memory as it was, but for what it turned -/
theorem KH.sort {w w0 : World} {H' : Heap} (h : KH w0 H w) (hp : Pick H' H) : KH w0 H' w := h.pick hp
theorem Pick.skip {p : Piece} {H' : Heap} (h : Pick H' H) : Pick H' (p :: H) := by
  induction h with
  | nil => exact .nil
  | cons hr _ ih => exact .cons (.tail hr) ih
theorem Pick.self : ∀ {H : Heap}, Pick H H
  | [] => .nil
  | _ :: _ => .cons .head Pick.self
/-- results that may lie in what came in, or in what is new -/
theorem PH.new_le_or {w0 w : World} {Z : PH} (hZ : Z.le (PH.of w0)) : (PH.new w0 w).le (Z.or (PH.new w0 w)) := fun b o h => by
  have hn : Z b = none := by
    cases hb : Z b with
    | none => rfl
    | some o' =>
      have h1 : w0.heap[b]? = some o' := hZ b o' hb
      have h2 := lt_of_some h1
      simp [PH.new, h2] at h
  simp [PH.or, hn, h]
theorem PH.ri_or {Z Z' Y : PH} (h1 : Z.le Y) (h2 : Z'.le Y) : Z'.le (Z.or Z') := fun b o h => by
  unfold PH.or
  cases hb : Z b with
  | none => exact h
  | some o' =>
    have e1 := h1 b o' hb
    have e2 := h2 b o h
    rw [e1] at e2
    simpa using e2
theorem KH.owFz {α : Type} {f : Fl α} {e : TypeId} {A : Option Addr} {n c : Nat} {xs : List α} {w0 w : World} {Z : PH} (h : KH w0 H w) (hp : Pick [Ow f e A n c xs, .fz (PH.of w0)] H) (hZ : Z.le (PH.of w0)) (ho : OwF A n xs) : FzS f (Z.or (PH.new w0 w)) A c xs :=
  (ow_sl (h.held hp) ho.len fun _ hb => h.isNew hp hb).le' (PH.new_le_or hZ)
theorem KH.fzNew {w0 w : World} {Zk : PH} (h : KH w0 H w) (hp : Pick [.fz Zk, .fz (PH.of w0)] H) : Zk.le (PH.new w0 w) := fun b o hb => by
  have h1 : w.heap[b]? = some o := h.held hp b o hb
  have h2 := h.isNew hp (b := b) (show Zk b ≠ none by rw [hb]; simp)
  rw [h2]; exact h1
theorem PH.le.rfl_ {A : PH} : A.le A := fun _ _ h => h
theorem SlF.of_n {α : Type} {f : Fl α} {Z : PH} {A : Option Addr} {n c : Nat} {xs : List α} (h : FzS f Z A c xs) (ho : OwF A n xs) : SlF f Z (.slice A n c) xs := ⟨A, c, by rw [ho.len], h⟩
/-- a slice of the call's own, frozen -/
theorem WP.freezeO {α : Type} {f : Fl α} {e : TypeId} {A : Option Addr} {n c : Nat} {xs : List α} {H1 : Heap} (hm : Rem (Ow f e A n c xs) H H1) (ho : OwF A n xs) (h : ∀ Zp : PH, FzS f Zp A c xs → WP P Q N w0 k fr (.fz Zp :: H1)) : WP P Q N w0 k fr H := fun a w ha hw => by
  obtain ⟨h1, h2, h3⟩ := hw.rem hm
  have h1' : w.ownsRow 0 e f.z (.slice A n c) n (cl f xs) := h1
  refine h (fun b => if (Value.slice A n c).ownBlock = some b then w.heap[b]? else none) (ow_sl h1' ho.len fun b hb => by simp [hb]) a w ha ⟨h2.glob, List.pairwise_cons.2 ⟨fun q hq b hb hb2 => h3 q hq b ?_ hb2, h2.apart⟩, fun p hp => ?_⟩
  · show (Value.slice A n c).ownBlock = some b
    by_cases hc : (Value.slice A n c).ownBlock = some b
    · exact hc
    · exact absurd (by simp [hc]) hb
  · rcases List.mem_cons.1 hp with rfl | hp
    · intro b o hb
      by_cases hc : (Value.slice A n c).ownBlock = some b
      · simpa [hc] using hb
      · simp [hc] at hb
    · exact h2.holds p hp
end
/-- short words for what walks tell often -/
abbrev sn : Value := .slice none 0 0
abbrev pt (g : Nat) : Value := .pointer (some ⟨g, 0, none⟩)
theorem Pick.all : ∀ {H : Heap}, Pick H H
  | [] => .nil
  | _ :: _ => .cons .head Pick.all
end Go.Qe
