/- The layer's judgement: from a frame of which some slots are known, and from memory of which some pieces are known, what is left of a function's text ends as asked. -/
import Derived.Test.YthelgjfdkdaijaaDoorEngL
import Derived.StillTail
namespace Go.Qe
open Go.RowKit

abbrev Fr := List (Nat × Value)
def Fr.get : Fr → Nat → Option Value
  | [], _ => none
  | (m, v) :: r, n => match Nat.beq m n with
    | true => some v
    | false => Fr.get r n
/-- within a round of which loop, if any; how many slots; which deferred calls -/
structure Cx where
  round : Option Nat
  size : Nat
  defers : List Deferred
structure Knows (N : Cx) (fr : Fr) (a : Act) : Prop where
  size : a.tmps.size = N.size
  defers : a.defers = N.defers
  get : ∀ d v, fr.get d = some v → a.tmps[d]? = some v
def val (fr : Fr) : Operand → Option Value
  | .tmp t => fr.get t
  | .const v => some v
  | .global g => some (.pointer (some ⟨g, 0, none⟩))
  | .func f => some (.func (.func f) #[] #[])

section
variable {N : Cx} {fr : Fr} {a : Act}
theorem Knows.eval (h : Knows N fr a) {x : Operand} {v : Value} (hx : val fr x = some v) : a.eval x = v := by
  cases x with
  | tmp t => have := h.get t v hx; simp [Act.eval, Array.getD_eq_getD_getElem?, this]
  | const u => simpa [val, Act.eval] using hx
  | global g => simpa [val, Act.eval] using hx
  | func f => simpa [val, Act.eval] using hx
theorem Knows.put (h : Knows N fr a) {d : Nat} {v : Value} (hd : Nat.blt d N.size = true) : Knows N ((d, v) :: fr) (a.put (some d) v) := by
  have hd' : d < N.size := by rwa [Nat.blt_eq] at hd
  refine ⟨by simpa [Act.put] using h.size, h.defers, fun d' v' hg => ?_⟩
  have hs : d < a.tmps.size := by rw [h.size]; exact hd'
  simp only [Fr.get] at hg
  cases hb : Nat.beq d d' with
  | true =>
    have : d = d' := Nat.eq_of_beq_eq_true hb
    subst this
    simp only [hb, Option.some.injEq] at hg
    simp [Act.put, hs, hg]
  | false =>
    have : d ≠ d' := Nat.ne_of_beq_eq_false hb
    simp only [hb] at hg
    have := h.get d' v' hg
    simp only [Act.put]
    rw [Array.getElem?_setIfInBounds_ne (by omega)]
    exact this
/-- all of one frame's slots are found in another one -/
def subF (fr : Fr) : Fr → Prop
  | [] => True
  | (d, v) :: r => fr.get d = some v ∧ subF fr r
theorem subF_get {fr fr' : Fr} (h : subF fr fr') {d : Nat} {v : Value} (hg : fr'.get d = some v) : fr.get d = some v := by
  induction fr' with
  | nil => cases hg
  | cons p r ih =>
    obtain ⟨m, u⟩ := p
    obtain ⟨h1, h2⟩ := h
    simp only [Fr.get] at hg
    cases hb : Nat.beq m d with
    | true =>
      have : m = d := Nat.eq_of_beq_eq_true hb
      subst this
      simp only [hb, Option.some.injEq] at hg
      rw [h1, hg]
    | false => simp only [hb] at hg; exact ih h2 hg
theorem Knows.sub {fr' : Fr} (h : Knows N fr a) (hs : subF fr fr') : Knows N fr' a := ⟨h.size, h.defers, fun d v hg => h.get d v (subF_get hs hg)⟩
end

inductive Kont where
  | code (c : Code)
  | ops (all : Array Oper) (l : List Oper)
  | qops (C : World → Prop) (all : Array Oper) (l tl : List Oper)
  | lops (w0 : World) (H : Heap) (Rs : Specs) (all : Array Oper) (l tl : List Oper) (i : Nat) (X : Tags)
  | any (all : Array Oper) (listed : Array Bool) (f : Nat)
  | blk (id : Nat)
  | stop (J : Act → World → Prop)

section
variable (P : Program) (r : Option Nat) (Q : Exit → Act → World → Prop)
def sem : List Kont → Exit → Act → World → Prop
  | [] => Q
  | .code c :: k => Exit.then (fun a w => c.wpIn (fen r) 0 P (sem k) a w) (sem k)
  | .ops all l :: k => Exit.then (fun a w => wpListIn (fen r) 0 P all (sem k) l a w) (sem k)
  | .qops C all l tl :: k => Exit.then (fun a w => C w ∧ wpQuiet P all C (fun a' => ∀ w', C w' → wpListIn (fen r) 0 P all (sem k) tl a' w') l a) (sem k)
  | .lops w0 H Rs all l tl i X :: k => Exit.then (fun a w => KH w0 H w ∧ wpL P all w0 H Rs (fun a' X' => ∀ w', KH w0 (flat X' ++ H) w' → wpListIn (fen r) 0 P all (sem k) tl a' w') l i a X) (sem k)
  | .any all listed f :: k => Exit.then (fun a w => wpAnyIn (fen r) 0 P .any all (sem k) f listed a w) (sem k)
  | .blk id :: k => Exit.inBlock id (sem k)
  | .stop J :: k => Exit.then J (sem k)
def popTo (id : Nat) : List Kont → List Kont
  | .blk id' :: k => match Nat.beq id' id with
    | true => k
    | false => popTo id k
  | .code _ :: k => popTo id k
  | .ops _ _ :: k => popTo id k
  | .qops _ _ _ _ :: k => popTo id k
  | .lops _ _ _ _ _ _ _ _ :: k => popTo id k
  | .any _ _ _ :: k => popTo id k
  | .stop _ :: k => popTo id k
  | [] => [.stop fun _ _ => False]
def norm : Nat → List Kont → List Kont
  | 0, k => k
  | n + 1, .code (.seq a b) :: k => norm n (.code a :: .code b :: k)
  | n + 1, .code .skip :: k => norm n k
  | n + 1, .code (.label _) :: k => norm n k
  | n + 1, .code (.block id c) :: k => norm n (.code c :: .blk id :: k)
  | n + 1, .code (.region _ ops false) :: k => norm n (.ops ops ops.toList :: k)
  | n + 1, .code (.exit id) :: k => norm n (popTo id k)
  | n + 1, .blk _ :: k => norm n k
  | n + 1, .ops _ [] :: k => norm n k
  | _ + 1, k => k
/-- the same, but a region stays a statement -/
def normC : Nat → List Kont → List Kont
  | 0, k => k
  | n + 1, .code (.seq a b) :: k => normC n (.code a :: .code b :: k)
  | n + 1, .code .skip :: k => normC n k
  | n + 1, .code (.label _) :: k => normC n k
  | n + 1, .code (.exit id) :: k => normC n (popTo id k)
  | n + 1, .blk _ :: k => normC n k
  | n + 1, .ops _ [] :: k => normC n k
  | _ + 1, k => k
end
section
variable (P : Program) (Q : Exit → Act → World → Prop)
def WP (N : Cx) (w0 : World) (k : List Kont) (fr : Fr) (H : Heap) : Prop := ∀ a w, Knows N fr a → KH w0 H w → sem P N.round Q k .normal a w
end
section
variable {P : Program} {r : Option Nat} {Q : Exit → Act → World → Prop}
theorem sem_popTo (id : Nat) : ∀ (k : List Kont) {a : Act} {w : World}, sem P r Q (popTo id k) .normal a w → sem P r Q k (.exit id) a w
  | [], _, _, h => h.elim
  | .blk id' :: k, a, w, h => by
    simp only [popTo] at h
    cases hb : Nat.beq id' id with
    | true =>
      simp only [hb] at h
      have : id' = id := Nat.eq_of_beq_eq_true hb
      subst this
      simpa [sem, Exit.inBlock] using h
    | false =>
      simp only [hb] at h
      have : id' ≠ id := Nat.ne_of_beq_eq_false hb
      have h' := sem_popTo id k h
      simp only [sem, Exit.inBlock]
      rw [if_neg (by omega)]
      exact h'
  | .code _ :: k, _, _, h => sem_popTo id k h
  | .ops _ _ :: k, _, _, h => sem_popTo id k h
  | .qops _ _ _ _ :: k, _, _, h => sem_popTo id k h
  | .lops _ _ _ _ _ _ _ _ :: k, _, _, h => sem_popTo id k h
  | .any _ _ _ :: k, _, _, h => sem_popTo id k h
  | .stop _ :: k, _, _, h => sem_popTo id k h
theorem sem_norm : ∀ (n : Nat) (k : List Kont) {a : Act} {w : World}, sem P r Q (norm n k) .normal a w → sem P r Q k .normal a w := by
  intro n
  induction n with
  | zero => intro k a w h; exact h
  | succ n ih =>
    intro k a w h
    unfold norm at h
    split at h
    case h_1 he => cases he
    case h_2 he => cases he; exact wpIn_seq (ih _ h)
    case h_3 he => cases he; exact wpIn_skip (ih _ h)
    case h_4 he => cases he; exact wpIn_label (ih _ h)
    case h_5 he => cases he; exact wpIn_block (ih _ h)
    case h_6 he => cases he; exact wpIn_region_list (ih _ h)
    case h_7 he => cases he; exact wpIn_exit (sem_popTo _ _ (ih _ h))
    case h_8 he => cases he; have h2 := ih _ h; exact h2
    case h_9 he => cases he; have h2 := ih _ h; exact h2
    case h_10 he => exact h
theorem sem_normC : ∀ (n : Nat) (k : List Kont) {a : Act} {w : World}, sem P r Q (normC n k) .normal a w → sem P r Q k .normal a w := by
  intro n
  induction n with
  | zero => intro k a w h; exact h
  | succ n ih =>
    intro k a w h
    unfold normC at h
    split at h
    case h_1 he => cases he
    case h_2 he => cases he; exact wpIn_seq (ih _ h)
    case h_3 he => cases he; exact wpIn_skip (ih _ h)
    case h_4 he => cases he; exact wpIn_label (ih _ h)
    case h_5 he => cases he; exact wpIn_exit (sem_popTo _ _ (ih _ h))
    case h_6 he => cases he; have h2 := ih _ h; exact h2
    case h_7 he => cases he; have h2 := ih _ h; exact h2
    case h_8 he => exact h
end
theorem least_ {S : Nat → Prop} (n : Nat) : S n → ∃ m, S m ∧ ∀ j, S j → m ≤ j := by
  induction n using Nat.strongRecOn with
  | _ n ih =>
    intro hn
    by_cases h : ∃ j, j < n ∧ S j
    · obtain ⟨j, hj, hs⟩ := h; exact ih j hj hs
    · exact ⟨n, hn, fun j hs => Nat.le_of_not_lt fun hlt => h ⟨j, hlt, hs⟩⟩
theorem wp_loop_fam {α : Type} {F : Fence} {n : Nat} {P : Program} {Q : Exit → Act → World → Prop} {c : Code} (St : α → Act → World → Prop) (μ : α → Nat)
    (round : ∀ x a w, St x a w → c.wpIn F n P (Exit.then (fun a' w' => ∃ y, St y a' w' ∧ μ y < μ x) Q) a w) {x0 : α} {a : Act} {w : World} (h0 : St x0 a w) : (Code.loop c).wpIn F n P Q a w := by
  have pick : ∀ a w, ∃ m, (∃ x, St x a w) → (∃ x, μ x = m ∧ St x a w) ∧ ∀ j, (∃ x, μ x = j ∧ St x a w) → m ≤ j := fun a w => by
    by_cases h : ∃ x, St x a w
    · obtain ⟨x, hx⟩ := h
      obtain ⟨m, hm⟩ := least_ (S := fun j => ∃ x, μ x = j ∧ St x a w) (μ x) ⟨x, rfl, hx⟩
      exact ⟨m, fun _ => hm⟩
    · exact ⟨0, fun h' => absurd h' h⟩
  refine wpIn_loop (fun a w => ∃ x, St x a w) (fun a w => Classical.choose (pick a w)) ⟨x0, h0⟩ fun a w hI => ?_
  obtain ⟨⟨x, hx, hs⟩, _⟩ := Classical.choose_spec (pick a w) hI
  refine wpIn_mono (round x a w hs) fun e a' w' hq => ?_
  cases e with
  | normal =>
    obtain ⟨y, hy, hlt⟩ := hq
    refine ⟨⟨y, hy⟩, ?_⟩
    have := (Classical.choose_spec (pick a' w') ⟨y, hy⟩).2 (μ y) ⟨y, rfl, hy⟩
    exact Nat.lt_of_le_of_lt this (hx ▸ hlt)
  | exit id => exact hq
  | goto l => exact hq
  | ret => exact hq
  | panic c => exact hq
  | outgrown => exact hq

section
variable {P : Program} {Q : Exit → Act → World → Prop} {N : Cx} {w0 : World} {k k' : List Kont} {fr : Fr} {H : Heap}
theorem WP.norm_ (h : WP P Q N w0 (norm 1000 k) fr H) : WP P Q N w0 k fr H := fun a w ha hw => sem_norm _ _ (h a w ha hw)
theorem WP.to (hn : norm 1000 k = k') (h : WP P Q N w0 k' fr H) : WP P Q N w0 k fr H := WP.norm_ (by rw [hn]; exact h)
/-- forget slots and pieces -/
theorem WP.weaken {fr' : Fr} {H' : Heap} (hf : subF fr fr') (hH : Pick H' H) (h : WP P Q N w0 k fr' H') : WP P Q N w0 k fr H := fun a w ha hw => h a w (ha.sub hf) (hw.pick hH)

/-- the operation that stands next, all operations of its region, and what comes behind it; in a quiet walk: what must be so -/
def headOp (w0 : World) (H : Heap) : List Kont → Option (Array Oper × Oper × List Kont × Prop)
  | .ops all (o :: rest) :: k => some (all, o, .ops all rest :: k, True)
  | .qops C all (o :: rest) tl :: k => some (all, o, .qops C all rest tl :: k, C = KH w0 H)
  | .lops w1 H1 Rs all (o :: rest) tl i X :: k => some (all, o, .lops w1 H1 Rs all rest tl (i + 1) X :: k, (w1 = w0 ∧ H1 = H) ∧ specAt Rs i = none)
  | _ => none
/-- an operation that gives one value, whatever world of the class it is done in, and leaves the world as it was -/
def Gives (P : Program) (N : Cx) (w0 : World) (fr : Fr) (H : Heap) (o : Oper) (v : Value) : Prop :=
  ∀ a w, Knows N fr a → KH w0 H w → (execOp a.eval o).run P w = .ok (.value v) w
theorem WP.rd {all : Array Oper} {o : Oper} {d : Nat} {v : Value} {c : Prop} (hn : headOp w0 H (norm 1000 k) = some (all, o, k', c)) (hc : c) (hd : o.dst = some d) (hN : Nat.blt d N.size = true) (hg : o.guard = none)
    (hv : Gives P N w0 fr H o v) (h : WP P Q N w0 k' ((d, v) :: fr) H) : WP P Q N w0 k fr H := by
  refine WP.norm_ ?_
  generalize norm 1000 k = k1 at hn
  intro a w ha hw
  unfold headOp at hn
  split at hn
  · rename_i all' o' rest k2
    cases hn
    refine wpListIn_plain hg fun K hK => wpIn_value (hv a w ha hw) ?_
    rw [hd]
    exact hK _ _ (h _ w (ha.put hN) hw)
  · rename_i C all' o' rest tl k2
    cases hn
    subst hc
    refine ⟨hw, wpQuiet_step fun K hK => ?_⟩
    simp only [Region.wanted, hg, if_true]
    refine ⟨v, fun w' hw' => ?_, ?_⟩
    · unfold Oper.quietAt
      rw [hv a w' ha hw']
      exact ⟨rfl, rfl⟩
    · rw [hd]
      exact hK _ (h _ w (ha.put hN) hw).2
  · rename_i w1 H1 Rs all' o' rest tl i X k2
    cases hn
    obtain ⟨⟨rfl, rfl⟩, hR⟩ := hc
    refine ⟨hw, ?_⟩
    unfold wpL lStep
    simp only [Region.wanted, hg, if_true, hR]
    refine ⟨v, fun w' hw' => hv a w' ha hw', ?_⟩
    rw [hd]
    exact (h _ w (ha.put hN) hw).2
  · cases hn
/-- the slot that an operation's guard looks at, what it holds, and what is wanted -/
def guardOf (all : Array Oper) (fr : Fr) (o : Oper) : Option (Nat × Bool × Bool) :=
  match o.guard with
  | none => none
  | some (j, want) => match all[j]? with
    | none => none
    | some oj => match oj.dst with
      | none => none
      | some s => match fr.get s with
        | some (.bool b) => some (s, b, want)
        | _ => none
theorem guardOf_spec {all : Array Oper} {o : Oper} {s : Nat} {b want : Bool} {a : Act} (ha : Knows N fr a) (hg : guardOf all fr o = some (s, b, want)) : Region.wanted o (yielded all a.tmps) = (b == want) ∧ fr.get s = some (.bool b) := by
  unfold guardOf at hg
  split at hg
  · cases hg
  rename_i j want' hgd
  split at hg
  · cases hg
  rename_i oj hj
  split at hg
  · cases hg
  rename_i s' hs
  split at hg
  · rename_i b' hb'
    cases hg
    have := ha.get s _ hb'
    refine ⟨?_, hb'⟩
    simp only [Region.wanted, hgd, yielded, hj, Option.bind_some, hs, this]
    simp
  · cases hg
/-- what a slot holds, told in other words -/
theorem Knows.retell {a : Act} (ha : Knows N fr a) {s : Nat} {v u : Value} (h : fr.get s = some v) (e : v = u) : Knows N ((s, u) :: fr) a := by
  subst e
  refine ⟨ha.size, ha.defers, fun d w hg => ?_⟩
  simp only [Fr.get] at hg
  cases hb : Nat.beq s d with
  | true =>
    have : s = d := Nat.eq_of_beq_eq_true hb
    subst this
    simp only [hb, Option.some.injEq] at hg
    subst hg
    exact ha.get s _ h
  | false => simp only [hb] at hg; exact ha.get d w hg
theorem WP.retell {s : Nat} {v : Value} (u : Value) (h : fr.get s = some v) (e : v = u) (hk : WP P Q N w0 k ((s, u) :: fr) H) : WP P Q N w0 k fr H := fun a w ha hw => hk a w (ha.retell h e) hw
def Oper.free (o : Oper) : Oper := { o with guard := none }
def pushOp (o : Oper) : List Kont → List Kont
  | .ops all l :: k => .ops all (o :: l) :: k
  | .qops C all l tl :: k => .qops C all (o :: l) tl :: k
  | .lops w1 H1 Rs all l tl (i + 1) X :: k => .lops w1 H1 Rs all (o :: l) tl i X :: k
  | k => k
theorem WP.yes {all : Array Oper} {o : Oper} {s : Nat} {b want : Bool} {c : Prop} (hn : headOp w0 H (norm 1000 k) = some (all, o, k', c)) (hg : guardOf all fr o = some (s, b, want)) (hb : b = want)
    (h : WP P Q N w0 (pushOp (Oper.free o) k') ((s, .bool want) :: fr) H) : WP P Q N w0 k fr H := by
  refine WP.norm_ ?_
  generalize norm 1000 k = k1 at hn
  intro a w ha hw
  obtain ⟨hwt, hs⟩ := guardOf_spec ha hg
  subst hb
  simp only [beq_self_eq_true] at hwt
  have h' := h a w (ha.retell hs rfl) hw
  unfold headOp at hn
  split at hn
  · cases hn
    simp only [pushOp, sem, Exit.then] at h' ⊢
    unfold wpListIn at h' ⊢
    simp only [Region.wanted, Oper.free, if_true] at h'
    rw [if_pos hwt]
    exact h'
  · cases hn
    refine ⟨h'.1, ?_⟩
    have h2 := h'.2
    unfold wpQuiet at h2 ⊢
    simp only [Region.wanted, Oper.free, if_true] at h2
    rw [if_pos hwt]
    exact h2
  · cases hn
    refine ⟨h'.1, ?_⟩
    have h2 := h'.2
    unfold wpL lStep makes at h2 ⊢
    simp only [Region.wanted, Oper.free, if_true] at h2
    rw [if_pos hwt]
    exact h2
  · cases hn
theorem WP.no {all : Array Oper} {o : Oper} {s : Nat} {b want : Bool} {c : Prop} {d : Nat} (hn : headOp w0 H (norm 1000 k) = some (all, o, k', c)) (hg : guardOf all fr o = some (s, b, want)) (hb : b = !want) (hd : o.dst = some d) (hN : Nat.blt d N.size = true)
    (h : WP P Q N w0 k' ((d, undef) :: (s, .bool (!want)) :: fr) H) : WP P Q N w0 k fr H := by
  refine WP.norm_ ?_
  generalize norm 1000 k = k1 at hn
  intro a w ha hw
  obtain ⟨hwt, hs⟩ := guardOf_spec ha hg
  have hwt' : ¬ Region.wanted o (yielded all a.tmps) = true := by rw [hwt, hb]; cases want <;> simp
  have h' := h _ w ((ha.retell hs (by rw [hb])).put (v := undef) hN) hw
  unfold headOp at hn
  split at hn
  · cases hn
    simp only [sem, Exit.then] at h' ⊢
    unfold wpListIn
    rw [if_neg hwt', hd]
    exact ⟨fun _ _ => trivial, h'⟩
  · cases hn
    refine ⟨h'.1, ?_⟩
    unfold wpQuiet
    rw [if_neg hwt', hd]
    exact h'.2
  · cases hn
    refine ⟨h'.1, ?_⟩
    unfold wpL lStep
    rw [if_neg hwt', hd]
    exact h'.2
  · cases hn
/-- the slot that a guard looks at holds nothing: the operation that fills it was passed over -/
def guardU (all : Array Oper) (fr : Fr) (o : Oper) : Bool :=
  match o.guard with
  | none => false
  | some (j, _) => match all[j]? with
    | none => false
    | some oj => match oj.dst with
      | none => false
      | some s => match fr.get s with
        | some (.tuple _) => true
        | _ => false
theorem guardU_spec {all : Array Oper} {o : Oper} {a : Act} (ha : Knows N fr a) (hg : guardU all fr o = true) : Region.wanted o (yielded all a.tmps) = false := by
  unfold guardU at hg
  split at hg
  · cases hg
  rename_i j want' hgd
  split at hg
  · cases hg
  rename_i oj hj
  split at hg
  · cases hg
  rename_i s' hs
  split at hg
  · rename_i vs hb'
    have := ha.get s' _ hb'
    simp [Region.wanted, hgd, yielded, hj, Option.bind_some, hs, this]
  · cases hg
theorem WP.noU {all : Array Oper} {o : Oper} {c : Prop} {d : Nat} (hn : headOp w0 H (norm 1000 k) = some (all, o, k', c)) (hg : guardU all fr o = true) (hd : o.dst = some d) (hN : Nat.blt d N.size = true)
    (h : WP P Q N w0 k' ((d, undef) :: fr) H) : WP P Q N w0 k fr H := by
  refine WP.norm_ ?_
  generalize norm 1000 k = k1 at hn
  intro a w ha hw
  have hwt := guardU_spec ha hg
  have hwt' : ¬ Region.wanted o (yielded all a.tmps) = true := by rw [hwt]; simp
  have h' := h _ w (ha.put (v := undef) hN) hw
  unfold headOp at hn
  split at hn
  · cases hn
    simp only [sem, Exit.then] at h' ⊢
    unfold wpListIn
    rw [if_neg hwt', hd]
    exact ⟨fun _ _ => trivial, h'⟩
  · cases hn
    refine ⟨h'.1, ?_⟩
    unfold wpQuiet
    rw [if_neg hwt', hd]
    exact h'.2
  · cases hn
    refine ⟨h'.1, ?_⟩
    unfold wpL lStep
    rw [if_neg hwt', hd]
    exact h'.2
  · cases hn
theorem WP.gs {all : Array Oper} {o : Oper} {s : Nat} {b want : Bool} {c : Prop} {d : Nat} (hn : headOp w0 H (norm 1000 k) = some (all, o, k', c)) (hg : guardOf all fr o = some (s, b, want)) (hd : o.dst = some d) (hN : Nat.blt d N.size = true)
    (h1 : b = want → WP P Q N w0 (pushOp (Oper.free o) k') ((s, .bool want) :: fr) H) (h2 : b = !want → WP P Q N w0 k' ((d, undef) :: (s, .bool (!want)) :: fr) H) : WP P Q N w0 k fr H := by
  by_cases hb : b = want
  · exact WP.yes hn hg hb (h1 hb)
  · have hb' : b = !want := by cases b <;> cases want <;> simp_all
    exact WP.no hn hg hb' hd hN (h2 hb')
/-- an 'if' over a Bool -/
theorem WP.cond {c : Operand} {x y : Code} {t : Bool} (hn : norm 1000 k = .code (.cond c x y) :: k') (hc : val fr c = some (.bool t))
    (h1 : t = true → WP P Q N w0 (.code x :: k') fr H) (h2 : t = false → WP P Q N w0 (.code y :: k') fr H) : WP P Q N w0 k fr H := by
  refine WP.to hn fun a w ha hw => ?_
  exact wpIn_cond_split (ha.eval hc) (fun ht => h1 ht a w ha hw) (fun ht => h2 ht a w ha hw)
theorem WP.cond_d {c : Operand} {x y : Code} {p : Prop} [Decidable p] (hn : norm 1000 k = .code (.cond c x y) :: k') (hc : val fr c = some (.bool (decide p)))
    (h1 : p → WP P Q N w0 (.code x :: k') fr H) (h2 : ¬ p → WP P Q N w0 (.code y :: k') fr H) : WP P Q N w0 k fr H :=
  WP.cond hn hc (fun h => h1 (of_decide_eq_true h)) (fun h => h2 (of_decide_eq_false h))
theorem WP.condT {c : Operand} {x y : Code} (hn : norm 1000 k = .code (.cond c x y) :: k') (hc : val fr c = some (.bool true)) (h1 : WP P Q N w0 (.code x :: k') fr H) : WP P Q N w0 k fr H :=
  WP.cond hn hc (fun _ => h1) (fun h => by cases h)
theorem WP.condF {c : Operand} {x y : Code} (hn : norm 1000 k = .code (.cond c x y) :: k') (hc : val fr c = some (.bool false)) (h1 : WP P Q N w0 (.code y :: k') fr H) : WP P Q N w0 k fr H :=
  WP.cond hn hc (fun h => by cases h) (fun _ => h1)
/-- a family of states: at each place of α some slots and some pieces are known -/
def At (N : Cx) (w0 : World) {α : Type} (J : α → Prop) (f : α → Fr) (h : α → Heap) (a : Act) (w : World) : Prop := ∃ x, J x ∧ Knows N (f x) a ∧ KH w0 (h x) w
theorem WP.stop {α : Type} {J : α → Prop} {f : α → Fr} {h : α → Heap} (hn : norm 1000 k = .stop (At N w0 J f h) :: k') (x : α) (hJ : J x) (hf : subF fr (f x)) (hH : Pick (h x) H) : WP P Q N w0 k fr H := by
  refine WP.to hn fun a w ha hw => ?_
  exact ⟨x, hJ, ha.sub hf, hw.pick hH⟩
/-- the statement that stands next is walked up to a family of states; from there the walk goes on, once -/
theorem WP.join {α : Type} (J : α → Prop) (f : α → Fr) (h : α → Heap) {c : Code} (hn : normC 1000 k = .code c :: k')
    (h1 : WP P Q N w0 (.code c :: .stop (At N w0 J f h) :: k') fr H) (h2 : ∀ x, J x → WP P Q N w0 k' (f x) (h x)) : WP P Q N w0 k fr H := by
  intro a w ha hw
  refine sem_normC 1000 _ ?_
  rw [hn]
  refine wpIn_mono (h1 a w ha hw) ?_
  intro e a w h
  cases e with
  | normal => obtain ⟨x, hJ, hf, hH⟩ := h; exact h2 x hJ a w hf hH
  | exit id => exact h
  | goto l => exact h
  | ret => exact h
  | panic c => exact h
  | outgrown => exact h
theorem uponIn_mono_ {F : Fence} {n : Nat} {o : Oper} {a : Act} {K K' : Act → World → Prop} {Q Q' : Exit → Act → World → Prop} {r : Result Next} (hK : ∀ a w, K a w → K' a w) (hQ : ∀ e a w, Q e a w → Q' e a w) (h : o.uponIn F n P a K Q r) : o.uponIn F n P a K' Q' r := by
  unfold Oper.uponIn at h ⊢
  split at h
  · exact hK _ _ h
  · exact hK _ _ h
  · exact hK _ _ h
  · refine ⟨h.1, CallsIn.mono h.2 fun e w' hr => ?_⟩
    cases e with
    | returned v => exact hK _ _ hr
    | panicked c => exact hQ _ _ _ hr
    | outgrown => obtain ⟨a, w, h⟩ := hr; exact ⟨a, w, hQ _ _ _ h⟩
  · exact ⟨h.1, RowsIn.mono h.2 fun v w' hr => hK _ _ hr⟩
  · refine ⟨h.1, RoundIn.mono h.2 fun e w' hr => ?_⟩
    cases e with
    | returned v => exact hK _ _ hr
    | panicked c => exact hQ _ _ _ hr
    | outgrown => obtain ⟨a, w, h⟩ := hr; exact ⟨a, w, hQ _ _ _ h⟩
  · exact hQ _ _ _ h
  · exact h.elim
theorem wpList_mono_ {F : Fence} {n : Nat} {ops : Array Oper} {Q Q' : Exit → Act → World → Prop} (hQ : ∀ e a w, Q e a w → Q' e a w) : ∀ (l : List Oper) (a : Act) (w : World), wpListIn F n P ops Q l a w → wpListIn F n P ops Q' l a w
  | [], a, w, h => hQ _ _ _ h
  | o :: r, a, w, h => by
    unfold wpListIn at h ⊢
    split
    · rename_i hw
      rw [if_pos hw] at h
      exact ⟨h.1, uponIn_mono_ (fun a w hk => wpList_mono_ hQ r a w hk) hQ h.2⟩
    · rename_i hw
      rw [if_neg hw] at h
      exact ⟨h.1, wpList_mono_ hQ r _ w h.2⟩
/-- the same, in the middle of a statement's operations -/
theorem WP.joinO {α : Type} (J : α → Prop) (f : α → Fr) (h : α → Heap) {all : Array Oper} {l : List Oper} (hn : norm 1000 k = .ops all l :: k')
    (h1 : WP P Q N w0 (.ops all l :: .stop (At N w0 J f h) :: k') fr H) (h2 : ∀ x, J x → WP P Q N w0 k' (f x) (h x)) : WP P Q N w0 k fr H := by
  refine WP.to hn fun a w ha hw => ?_
  refine wpList_mono_ ?_ l a w (h1 a w ha hw)
  intro e a w h
  cases e with
  | normal => obtain ⟨x, hJ, hf, hH⟩ := h; exact h2 x hJ a w hf hH
  | exit id => exact h
  | goto l => exact h
  | ret => exact h
  | panic c => exact h
  | outgrown => exact h
/-- a loop: a family of states that each round leads back into, at a lower measure -/
theorem WP.loop {α : Type} (J : α → Prop) (f : α → Fr) (h : α → Heap) (μ : α → Nat) {c : Code} (hn : norm 1000 k = .code (.loop c) :: k') (x0 : α) (hJ : J x0) (hf : subF fr (f x0)) (hH : Pick (h x0) H)
    (h1 : ∀ x, J x → WP P Q N w0 (.code c :: .stop (At N w0 (fun y => J y ∧ μ y < μ x) f h) :: k') (f x) (h x)) : WP P Q N w0 k fr H := by
  refine WP.to hn fun a w ha hw => ?_
  refine wp_loop_fam (fun x a w => J x ∧ Knows N (f x) a ∧ KH w0 (h x) w) μ (fun x a w hs => ?_) ⟨hJ, ha.sub hf, hw.pick hH⟩
  refine wpIn_mono (h1 x hs.1 a w hs.2.1 hs.2.2) fun e a' w' hq => ?_
  cases e with
  | normal => obtain ⟨y, ⟨hJy, hlt⟩, hfy, hhy⟩ := hq; exact ⟨y, ⟨hJy, hfy, hhy⟩, hlt⟩
  | exit id => exact hq
  | goto l => exact hq
  | ret => exact hq
  | panic c => exact hq
  | outgrown => exact hq
end
end Go.Qe
