/- Statements gone through in all orders: three ways on; states that several orders come to are walked once. Calls that turn pieces of their caller's. -/
import Derived.Test.YtpnohbdfgmjdbaaExt
namespace Go.Qe
open Go.RowKit
abbrev iv (x : Int) : Value := .int .i64 x
section
variable {P : Program} {Q : Exit → Act → World → Prop} {N : Cx} {w0 : World} {k k' : List Kont} {fr fr2 : Fr} {H H2 : Heap} {L : List TyD}
theorem WP.any3 {ops : Array Oper} {listed : Array Bool} {f : Nat} {o o' o'' : Oper} (i i' i'' : Nat) (hn : norm 1000 k = .any ops listed (f + 1) :: k') (hr : Region.ready .any ops listed = [i, i', i'']) (ho : ops[i]? = some o) (ho' : ops[i']? = some o') (ho'' : ops[i'']? = some o'')
    (h : WP P Q N w0 (.ops ops [o] :: .any ops (listed.setIfInBounds i true) f :: k') fr H) (h' : WP P Q N w0 (.ops ops [o'] :: .any ops (listed.setIfInBounds i' true) f :: k') fr H) (h'' : WP P Q N w0 (.ops ops [o''] :: .any ops (listed.setIfInBounds i'' true) f :: k') fr H) : WP P Q N w0 k fr H := by
  refine WP.to hn fun a w ha hw => ?_
  refine wpAnyIn_all hr (by simp) fun j hj => ?_
  have : j = i ∨ j = i' ∨ j = i'' := by simpa using hj
  rcases this with rfl | rfl | rfl
  · exact any_op ho h ha hw
  · exact any_op ho' h' ha hw
  · exact any_op ho'' h'' ha hw
theorem WP.cutA {ops : Array Oper} {listed : Array Bool} {f : Nat} (listed2 : Array Bool) (f2 : Nat) (fr2 : Fr) (H2 : Heap) (hn : norm 1000 k = .any ops listed f :: k')
    (h1 : WP P Q N w0 (.any ops listed2 f2 :: k') fr2 H2) (h2 : WP P Q N w0 (.any ops listed2 f2 :: k') fr2 H2 → WP P Q N w0 (.any ops listed f :: k') fr H) : WP P Q N w0 k fr H :=
  WP.to hn (h2 h1)
theorem WP.useA {ops : Array Oper} {l1 l2 : Array Bool} {f : Nat} (m : WP P Q N w0 (.any ops l2 f :: k') fr2 H2) (hn : norm 1000 k = .any ops l1 f :: k') (hl : l1 = l2) (hf : subF fr fr2) (hH : Pick H2 H) : WP P Q N w0 k fr H := by
  subst hl
  exact WP.to hn fun a w ha hw => m a w (ha.sub hf) (hw.pick hH)
def notCall : Op → Bool
  | .call _ => false
  | _ => true
theorem notCall_about {P : Program} {o : Oper} (ho : notCall o.op = true) (w : World) (ρ : Operand → Value) : o.about P w ρ = none := by
  unfold Oper.about
  cases h : o.op <;> simp only [h, notCall, Bool.false_eq_true] at ho <;> rfl
/-- an operation that looks at no memory is taken first -/
theorem WP.anyP {ops : Array Oper} {listed : Array Bool} {f d : Nat} {o : Oper} {v : Value} {p : Prop} (i : Nat) (hL : TyOk P L) (hQ : PutInv Q) (hN : N.round = none) (hn : norm 1000 k = .any ops listed (f + 1) :: k') (ho : ops[i]? = some o) (hs : Region.noSelect ops = true) (ht : (Region.free .any ops listed i && (Region.ready .any ops listed).contains i) = true)
    (hg : o.guard = none) (hd : o.dst = some d) (hdN : Nat.blt d N.size = true) (hlo : notCall o.op = true) (he : evalOp true L fr o.op = some (v, p)) (hp : p)
    (h : WP P Q N w0 (.any ops (listed.setIfInBounds i true) f :: k') ((d, v) :: fr) H) : WP P Q N w0 k fr H := by
  refine WP.to hn fun a w ha hw => ?_
  simp only [Bool.and_eq_true] at ht
  refine wpAnyIn_take (oi := o) (v := v) hN ho hs ht.1 ht.2 (fun c a w => putInv_sem hQ k' c a o.dst v w) ⟨.inl ⟨by simp [Region.wanted, hg], fun w => evalOp_ok (N := N) (w0 := w) (H := []) hL he hp a w ha ⟨Below.refl _ _, .nil, fun _ h => by cases h⟩⟩, fun w => notCall_about hlo w _⟩ ?_
  rw [hd]
  exact h _ w (ha.put hdN) hw
/-- the same behind a guard that lets it -/
theorem WP.anyY {ops : Array Oper} {listed : Array Bool} {f d s : Nat} {o : Oper} {v : Value} {p : Prop} {b want : Bool} (i : Nat) (hL : TyOk P L) (hQ : PutInv Q) (hN : N.round = none) (hn : norm 1000 k = .any ops listed (f + 1) :: k') (ho : ops[i]? = some o) (hs : Region.noSelect ops = true) (ht : (Region.free .any ops listed i && (Region.ready .any ops listed).contains i) = true)
    (hg : guardOf ops fr o = some (s, b, want)) (hb : b = want) (hd : o.dst = some d) (hdN : Nat.blt d N.size = true) (hlo : notCall o.op = true) (he : evalOp true L fr o.op = some (v, p)) (hp : p)
    (h : WP P Q N w0 (.any ops (listed.setIfInBounds i true) f :: k') ((d, v) :: (s, .bool want) :: fr) H) : WP P Q N w0 k fr H := by
  refine WP.to hn fun a w ha hw => ?_
  simp only [Bool.and_eq_true] at ht
  obtain ⟨hwt, hs'⟩ := guardOf_spec ha hg
  subst hb
  simp only [beq_self_eq_true] at hwt
  refine wpAnyIn_take (oi := o) (v := v) hN ho hs ht.1 ht.2 (fun c a w => putInv_sem hQ k' c a o.dst v w) ⟨.inl ⟨hwt, fun w => evalOp_ok (N := N) (w0 := w) (H := []) hL he hp a w ha ⟨Below.refl _ _, .nil, fun _ h => by cases h⟩⟩, fun w => notCall_about hlo w _⟩ ?_
  rw [hd]
  exact h _ w ((ha.retell hs' rfl).put hdN) hw
/-- an operation that is passed over -/
theorem WP.anyN {ops : Array Oper} {listed : Array Bool} {f d s : Nat} {o : Oper} {b want : Bool} (i : Nat) (hQ : PutInv Q) (hN : N.round = none) (hn : norm 1000 k = .any ops listed (f + 1) :: k') (ho : ops[i]? = some o) (hs : Region.noSelect ops = true) (ht : (Region.free .any ops listed i && (Region.ready .any ops listed).contains i) = true)
    (hg : guardOf ops fr o = some (s, b, want)) (hb : b = !want) (hd : o.dst = some d) (hdN : Nat.blt d N.size = true) (hlo : notCall o.op = true)
    (h : WP P Q N w0 (.any ops (listed.setIfInBounds i true) f :: k') ((d, undef) :: (s, .bool (!want)) :: fr) H) : WP P Q N w0 k fr H := by
  refine WP.to hn fun a w ha hw => ?_
  simp only [Bool.and_eq_true] at ht
  obtain ⟨hwt, hs'⟩ := guardOf_spec ha hg
  have hwt' : Region.wanted o (yielded ops a.tmps) = false := by rw [hwt, hb]; cases want <;> rfl
  refine wpAnyIn_take (oi := o) (v := undef) hN ho hs ht.1 ht.2 (fun c a w => putInv_sem hQ k' c a o.dst undef w) ⟨.inr ⟨hwt', rfl⟩, fun w => notCall_about hlo w _⟩ ?_
  rw [hd]
  exact h _ w ((ha.retell hs' (by rw [hb])).put hdN) hw
theorem WP.anyU {ops : Array Oper} {listed : Array Bool} {f d : Nat} {o : Oper} (i : Nat) (hQ : PutInv Q) (hN : N.round = none) (hn : norm 1000 k = .any ops listed (f + 1) :: k') (ho : ops[i]? = some o) (hs : Region.noSelect ops = true) (ht : (Region.free .any ops listed i && (Region.ready .any ops listed).contains i) = true)
    (hg : guardU ops fr o = true) (hd : o.dst = some d) (hdN : Nat.blt d N.size = true) (hlo : notCall o.op = true)
    (h : WP P Q N w0 (.any ops (listed.setIfInBounds i true) f :: k') ((d, undef) :: fr) H) : WP P Q N w0 k fr H := by
  refine WP.to hn fun a w ha hw => ?_
  simp only [Bool.and_eq_true] at ht
  refine wpAnyIn_take (oi := o) (v := undef) hN ho hs ht.1 ht.2 (fun c a w => putInv_sem hQ k' c a o.dst undef w) ⟨.inr ⟨guardU_spec ha hg, rfl⟩, fun w => notCall_about hlo w _⟩ ?_
  rw [hd]
  exact h _ w (ha.put hdN) hw
end
end Go.Qe
