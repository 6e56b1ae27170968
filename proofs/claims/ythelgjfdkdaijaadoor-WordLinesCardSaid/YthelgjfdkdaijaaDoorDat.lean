/- Data in memory, told by dictionaries; the rules of the walks that a program of mine prints; loops as plain functions. -/
import Derived.Test.YthelgjfdkdaijaaDoorRd
import Derived.Test.YthelgjfdkdaijaaDoorEngE
import Derived.Laws.StructEq
import Derived.Laws.Externs
namespace Go.Qe
open Go.RowKit

/-- data of one type that lie in cells without a pointer -/
structure Fl (α : Type) where
  z : Nat
  cells : α → List Value
  len : ∀ x, (cells x).length = z
  one : ∀ x, oneCells (cells x) = true
def fI (k : IntKind) : Fl Int := ⟨1, fun x => [.int k x], fun _ => rfl, fun _ => rfl⟩
def fB : Fl Bool := ⟨1, fun x => [.bool x], fun _ => rfl, fun _ => rfl⟩
def fS : Fl ByteArray := ⟨1, fun x => [.string x], fun _ => rfl, fun _ => rfl⟩
def fA : Fl Arc := ⟨5, Arc.cells, fun _ => rfl, fun _ => rfl⟩
def cl {α : Type} (f : Fl α) (xs : List α) : List Value := xs.flatMap f.cells
def gt {α : Type} [Inhabited α] (xs : List α) (j : Int) : α := xs.getD j.toNat default
abbrev w64 (x : Int) : Int := IntKind.i64.wrap x
def lim : Nat := 1000000000000
section
variable {α : Type} {f : Fl α} {xs ys : List α}
theorem cl_length : (cl f xs).length = xs.length * f.z := by
  induction xs with
  | nil => simp [cl]
  | cons a l ih =>
    have : cl f (a :: l) = f.cells a ++ cl f l := rfl
    rw [this, List.length_append, f.len, ih, List.length_cons, Nat.succ_mul]; omega
theorem cl_append : cl f xs ++ cl f ys = cl f (xs ++ ys) := by simp [cl]
theorem oneCells_app {l m : List Value} (h1 : oneCells l = true) (h2 : oneCells m = true) : oneCells (l ++ m) = true := by
  induction l with
  | nil => exact h2
  | cons v r ih => simp only [oneCells, Bool.and_eq_true, List.cons_append] at h1 ⊢; exact ⟨h1.1, ih h1.2⟩
theorem cl_one : oneCells (cl f xs) = true := by
  induction xs with
  | nil => rfl
  | cons a l ih => exact oneCells_app (f.one a) ih
theorem lt_len {x : α} {o : Nat} {v : Value} (h : (f.cells x)[o]? = some v) : o < f.z := by
  have := (List.getElem?_eq_some_iff.1 h).1
  rwa [f.len] at this
theorem cl_get : ∀ {xs : List α} {k : Nat} {x : α} {o : Nat} {v : Value}, xs[k]? = some x → (f.cells x)[o]? = some v → (cl f xs)[k * f.z + o]? = some v
  | a :: l, 0, x, o, v, h, ho => by
    have e : cl f (a :: l) = f.cells a ++ cl f l := rfl
    have : a = x := by simpa using h
    subst this
    rw [e, Nat.zero_mul, Nat.zero_add, List.getElem?_append_left (by rw [f.len]; exact lt_len ho), ho]
  | a :: l, k + 1, x, o, v, h, ho => by
    have e : cl f (a :: l) = f.cells a ++ cl f l := rfl
    have h' : l[k]? = some x := by simpa using h
    have e2 : (k + 1) * f.z + o = f.z + (k * f.z + o) := by rw [Nat.succ_mul]; omega
    rw [e, e2, List.getElem?_append_right (by rw [f.len]; omega), f.len, Nat.add_sub_cancel_left]
    exact cl_get h' ho
theorem gt_some [Inhabited α] {j : Int} (h : 0 ≤ j ∧ j < xs.length) : xs[j.toNat]? = some (gt xs j) := by
  have hlt : j.toNat < xs.length := by omega
  simp [gt, List.getElem?_eq_getElem hlt]
theorem setN_split {p l s : List Value} {m : List Value} {o : Nat} (h : o + l.length ≤ m.length) : setN (p ++ m ++ s) (p.length + o) l = p ++ setN m o l ++ s := by
  simp only [setN, List.append_assoc]
  have h1 : o ≤ m.length := by omega
  rw [List.take_append, List.take_of_length_le (by omega), Nat.add_sub_cancel_left, List.take_append_of_le_length h1]
  rw [List.drop_append, List.drop_of_length_le (by omega), show p.length + o + l.length - p.length = o + l.length by omega, List.drop_append_of_le_length h]
  simp [List.append_assoc]
theorem cl_set [Inhabited α] {k o : Nat} {l : List Value} {y : α} (h : k < xs.length) (ho : o + l.length ≤ f.z) (hb : setN (f.cells (xs.getD k default)) o l = f.cells y) :
    setN (cl f xs) (k * f.z + o) l = cl f (xs.set k y) := by
  have e1 : xs = xs.take k ++ [xs.getD k default] ++ xs.drop (k + 1) := by
    have hd : xs.getD k default = xs[k] := by simp [List.getElem?_eq_getElem h]
    rw [hd, List.append_assoc, List.singleton_append, List.getElem_cons_drop, List.take_append_drop]
  have e2 : cl f xs = cl f (xs.take k) ++ f.cells (xs.getD k default) ++ cl f (xs.drop (k + 1)) := by
    conv => lhs; rw [e1]
    rw [← cl_append, ← cl_append]
    simp [cl]
  have hl : (cl f (xs.take k)).length = k * f.z := by rw [cl_length, List.length_take, Nat.min_eq_left (by omega)]
  rw [e2, ← hl, setN_split (by rw [f.len]; exact ho), hb, List.set_eq_take_append_cons_drop, if_pos h, ← cl_append]
  have : cl f (y :: xs.drop (k + 1)) = f.cells y ++ cl f (xs.drop (k + 1)) := rfl
  rw [List.append_assoc]
  conv => rhs; rw [show (y :: xs.drop (k + 1)) = [y] ++ xs.drop (k + 1) from rfl]
  rw [← cl_append]
  simp [cl]
end

/-- memory that stays as it is, of which the walk knows -/
def Held (H : Heap) (Z : PH) : Prop := ∀ w0 w, KH w0 H w → Z.le (PH.of w)
theorem Held.mem {H : Heap} {Z : PH} (h : Piece.fz Z ∈ H) : Held H Z := fun _ _ hw => hw.le h
theorem Held.sub {H : Heap} {Z Z' : PH} (h : Held H Z') (hz : Z.le Z') : Held H Z := fun _ _ hw => hz.trans (h _ _ hw)
def PH.or (Z Z' : PH) : PH := fun b => match Z b with
  | some o => some o
  | none => Z' b
theorem PH.le_or (Z Z' : PH) : Z.le (Z.or Z') := fun b o h => by simp [PH.or, h]
theorem PH.or_le {Z Z' Y : PH} (h1 : Z.le Y) (h2 : Z'.le Y) : (Z.or Z').le Y := fun b o h => by
  unfold PH.or at h
  split at h
  · rename_i o' hz; cases h; exact h1 b _ hz
  · exact h2 b o h
theorem Held.or {H : Heap} {Z Z' : PH} (h1 : Held H Z) (h2 : Held H Z') : Held H (Z.or Z') := fun _ _ hw => PH.or_le (h1 _ _ hw) (h2 _ _ hw)
theorem Held.cell {H : Heap} {Z : PH} (h : Held H Z) {b o : Nat} {v : Value} (hc : Zc Z b o = some v) : CellAt H b o v := fun w0 w hw => by
  rw [← Zc_of]; exact PH.le.cell (h w0 w hw) hc

/-- a slice of flat data that lies in memory that stays as it is -/
structure FzS {α : Type} (f : Fl α) (Z : PH) (A : Option Addr) (c : Nat) (xs : List α) : Prop where
  le : xs.length ≤ c
  cap : c ≤ 9223372036854775807
  cell : 0 < xs.length → ∃ b off, A = some ⟨b, off, none⟩ ∧ ∀ j x, xs[j]? = some x → ∀ o v, (f.cells x)[o]? = some v → Zc Z b (off + (j * f.z + o)) = some v
def SlF {α : Type} (f : Fl α) (Z : PH) (v : Value) (xs : List α) : Prop := ∃ A c, v = .slice A xs.length c ∧ FzS f Z A c xs
section
variable {α : Type} {f : Fl α} {xs : List α} {Z Z' : PH} {A : Option Addr} {c b off : Nat} {H H1 : Heap} {v : Value}
theorem FzS.le' (h : FzS f Z A c xs) (hz : Z.le Z') : FzS f Z' A c xs := ⟨h.le, h.cap, fun hp => let ⟨b, off, e, hc⟩ := h.cell hp; ⟨b, off, e, fun j x hj o v ho => hz.cell (hc j x hj o v ho)⟩⟩
theorem SlF.le (h : SlF f Z v xs) (hz : Z.le Z') : SlF f Z' v xs := let ⟨A, c, e, h⟩ := h; ⟨A, c, e, h.le' hz⟩
theorem FzS.of (h : FzS f Z A c xs) : SlF f Z (.slice A xs.length c) xs := ⟨A, c, rfl, h⟩
theorem FzS.nil_ : FzS f Z none 0 [] := ⟨Nat.le_refl _, by omega, fun h => by simp at h⟩
theorem SlF.nil_ : SlF f Z (.slice none 0 0) [] := ⟨_, _, rfl, .nil_⟩
theorem FzS.ex [Inhabited α] (h : FzS f Z A c xs) {j : Int} (hj : 0 ≤ j ∧ j < xs.length) : ∃ b off, A = some ⟨b, off, none⟩ := let ⟨b, off, e, _⟩ := h.cell (by omega); ⟨b, off, e⟩
theorem FzS.zc (h : FzS f Z A c xs) (hA : A = some ⟨b, off, none⟩) {k o : Nat} {x : α} (hk : xs[k]? = some x) (ho : (f.cells x)[o]? = some v) : Zc Z b (off + (k * f.z + o)) = some v := by
  have hlt := (List.getElem?_eq_some_iff.1 hk).1
  obtain ⟨b', off', e, hc⟩ := h.cell (by omega)
  rw [hA] at e
  cases e
  exact hc k x hk o v ho
theorem FzS.at [Inhabited α] (h : FzS f Z A c xs) (hA : A = some ⟨b, off, none⟩) (hH : Held H Z) {j : Int} (hj : 0 ≤ j ∧ j < xs.length) (o : Nat) (ho : (f.cells (gt xs j))[o]? = some v) : CellAt H b (off + j.toNat * f.z + o) v := by
  rw [Nat.add_assoc]
  exact hH.cell (h.zc hA (gt_some hj) ho)
theorem FzS.at0 [Inhabited α] (h : FzS f Z A c xs) (hA : A = some ⟨b, off, none⟩) (hH : Held H Z) {j : Int} (hj : 0 ≤ j ∧ j < xs.length) (ho : (f.cells (gt xs j))[0]? = some v) : CellAt H b (off + j.toNat * f.z) v := h.at hA hH hj 0 ho
theorem FzS.seg [Inhabited α] (h : FzS f Z A c xs) (hA : A = some ⟨b, off, none⟩) (hH : Held H Z) {j : Int} (hj : 0 ≤ j ∧ j < xs.length) : SegAt H b (off + j.toNat * f.z) (f.cells (gt xs j)) ∧ (f.cells (gt xs j)).length = f.z := by
  refine ⟨fun w0 w hw o u ho => ?_, f.len _⟩
  exact h.at hA hH hj o ho w0 w hw
/-- the whole slice, for an append -/
theorem FzS.all (h : FzS f Z A c xs) (hA : A = some ⟨b, off, none⟩) (hH : Held H Z) : SegAt H b off (cl f xs) := by
  intro w0 w hw i u hi
  have hlt := (List.getElem?_eq_some_iff.1 hi).1
  rw [cl_length] at hlt
  have hz : 0 < f.z := Nat.pos_of_ne_zero fun e => by rw [e] at hlt; omega
  have hk : i / f.z < xs.length := (Nat.div_lt_iff_lt_mul hz).2 hlt
  have hx := List.getElem?_eq_getElem hk
  have ho : i % f.z < f.z := Nat.mod_lt _ hz
  have hg := cl_get (f := f) (o := i % f.z) hx (List.getElem?_eq_getElem (by rw [f.len]; exact ho))
  have e : i / f.z * f.z + i % f.z = i := Nat.div_add_mod' i f.z
  rw [e, hi] at hg
  have := h.zc hA hx (o := i % f.z) (v := u) (by rw [List.getElem?_eq_getElem (by rw [f.len]; exact ho), ← hg])
  rw [e] at this
  exact hH.cell this w0 w hw
end

/-- a slice of the call's own: its data, told apart from its length -/
abbrev Ow {α : Type} (f : Fl α) (e : TypeId) (A : Option Addr) (n c : Nat) (xs : List α) : Piece := .own (.slice A n c) e f.z n (cl f xs)
structure OwF {α : Type} (A : Option Addr) (n : Nat) (xs : List α) : Prop where
  len : xs.length = n
  ex : 0 < n → ∃ g, A = some ⟨g, 0, none⟩
theorem OwF.nil_ {α : Type} : OwF none 0 ([] : List α) := ⟨rfl, fun h => by omega⟩
section
variable {α : Type} {f : Fl α} {xs : List α} {Z Z' : PH} {A : Option Addr} {n c g : Nat} {H H1 : Heap} {v u : Value} {e : TypeId}
theorem ow_sl {w : World} {base : Nat} (h : w.ownsRow base e f.z (.slice A n c) n (cl f xs)) (hn : xs.length = n) (hz : ∀ b, (Value.slice A n c).ownBlock = some b → Z b = w.heap[b]?) : FzS f Z A c xs := by
  subst hn
  rcases h.2 with ⟨h1, h0⟩ | ⟨g, cap, cur, h0, hb, hg, h1, h2, h3, h4⟩
  · have : xs = [] := List.eq_nil_of_length_eq_zero h0
    subst this
    cases h1
    exact .nil_
  · cases h0
    refine ⟨h1, by simpa [maxLen] using h2, fun hn => ⟨g, 0, rfl, fun j x hj o v ho => ?_⟩⟩
    have := h.cells (g := g) rfl (j * f.z + o) v (cl_get hj ho)
    rw [add_addr] at this
    have e2 : Zc (PH.of w) g (j * f.z + o) = some v := by
      rw [Zc_of]
      by_cases h0 : j * f.z + o = 0
      · rw [h0]; rw [if_pos h0] at this; exact this
      · rw [if_neg h0] at this; rw [Nat.zero_add] at this; exact this
    rw [← e2, Nat.zero_add]
    unfold Zc
    rw [hz g rfl]
    rfl
/-- it reads, in the world as it is -/
theorem KH.ow {w0 w : World} (h : KH w0 H w) (hm : Rem (Ow f e A n c xs) H H1) (ho : OwF A n xs) : SlF f (PH.of w) (.slice A n c) xs := ⟨A, c, by rw [ho.len], ow_sl (h.mem hm.mem.1) ho.len fun _ _ => rfl⟩
theorem KH.owNew {w0 w : World} (h : KH w0 H w) (hp : Pick [Ow f e A n c xs, .fz (PH.of w0)] H) (ho : OwF A n xs) : SlF f (PH.new w0 w) (.slice A n c) xs := ⟨A, c, by rw [ho.len], ow_sl (h.held hp) ho.len fun _ hb => h.isNew hp hb⟩
/-- literals that the statement itself built -/
theorem KH.blL {w0 w : World} {cs : List Value} (h : KH w0 H w) (xs : List α) (hm : Rem (.blk g e cs) H H1) (hxs : cs = cl f xs) (hn : xs.length = n) (hc : Nat.ble n 1000000000 = true) : SlF f (PH.of w) (.slice (some ⟨g, 0, none⟩) n n) xs := by
  have hc := Nat.le_of_ble_eq_true hc
  subst hxs
  exact ⟨_, n, by rw [hn], by omega, by omega, fun _ => ⟨g, 0, rfl, fun j x hj o v ho => by
    rw [Zc_of, Nat.zero_add]
    exact CellAt.blk hm (by first | exact cl_get hj ho | rw [lget_eq]; exact cl_get hj ho) w0 w h⟩⟩
theorem KH.blM {w0 w : World} {ev : Value} {m : Int} (h : KH w0 H w) (x0 : α) (hr : Rem (.blk g e (List.replicate m.toNat ev)) H H1) (hz : f.z = 1) (h0 : f.cells x0 = [ev]) (hm : 0 ≤ m ∧ m ≤ (lim : Nat)) : SlF f (PH.of w) (.slice (some ⟨g, 0, none⟩) m.toNat m.toNat) (List.replicate m.toNat x0) := by
  have hq : m.toNat ≤ 1000000000000 := by have := hm.2; simp only [lim] at this; omega
  have e1 : List.replicate m.toNat ev = cl f (List.replicate m.toNat x0) := by
    clear h hr hq
    induction m.toNat with
    | zero => rfl
    | succ q ih => rw [List.replicate_succ, List.replicate_succ, ih]; show _ = f.cells x0 ++ _; rw [h0]; rfl
  rw [e1] at hr
  exact ⟨_, _, by rw [List.length_replicate], by rw [List.length_replicate]; exact Nat.le_refl _, by omega, fun _ => ⟨g, 0, rfl, fun j x hj o v ho => by
    rw [Zc_of, Nat.zero_add]
    exact CellAt.blk hr (by first | exact cl_get hj ho | rw [lget_eq]; exact cl_get hj ho) w0 w h⟩⟩
theorem OwS.at [Inhabited α] (hm : Rem (Ow f e A n c xs) H H1) (hA : A = some ⟨g, 0, none⟩) {j : Int} (hj : 0 ≤ j ∧ j < xs.length) (o : Nat) (ho : (f.cells (gt xs j))[o]? = some v) : CellAt H g (j.toNat * f.z + o) v := by
  subst hA
  exact CellAt.own hm (by rw [lget_eq]; exact cl_get (gt_some hj) ho)
theorem OwS.at0 [Inhabited α] (hm : Rem (Ow f e A n c xs) H H1) (hA : A = some ⟨g, 0, none⟩) {j : Int} (hj : 0 ≤ j ∧ j < xs.length) (ho : (f.cells (gt xs j))[0]? = some v) : CellAt H g (j.toNat * f.z) v := OwS.at hm hA hj 0 ho
theorem OwS.seg [Inhabited α] (hm : Rem (Ow f e A n c xs) H H1) (hA : A = some ⟨g, 0, none⟩) {j : Int} (hj : 0 ≤ j ∧ j < xs.length) : SegAt H g (j.toNat * f.z) (f.cells (gt xs j)) ∧ (f.cells (gt xs j)).length = f.z :=
  ⟨fun w0 w hw o u ho => OwS.at hm hA hj o ho w0 w hw, f.len _⟩
theorem OwS.all (hm : Rem (Ow f e A n c xs) H H1) (hA : A = some ⟨g, 0, none⟩) : SegAt H g 0 (cl f xs) := fun w0 w hw j u hj => by
  subst hA
  rw [Nat.zero_add]
  exact CellAt.own hm (by rw [lget_eq]; exact hj) w0 w hw
end

/-- loops, as plain functions -/
def lp {σ ρ : Type} (body : (σ → Option ρ) → σ → Option ρ) : Nat → σ → Option ρ
  | 0, _ => none
  | n + 1, s => body (lp body n) s
def big : Nat := 4611686018427387904
section
variable {σ ρ : Type} {body : (σ → Option ρ) → σ → Option ρ} {s : σ} {r : ρ} {n : Nat}
theorem lp_no (h : lp body 0 s = some r) : False := by cases h
theorem lp_succ (h : lp body (n + 1) s = some r) : body (lp body n) s = some r := h
theorem lp_run {T : Option ρ → Prop} (I : σ → Prop) (μ : σ → Nat) (h : ∀ k s, I s → (∀ s', I s' → μ s' < μ s → T (k s')) → T (body k s)) : ∀ n s, I s → μ s < n → T (lp body n s)
  | 0, s, _, hn => by omega
  | n + 1, s, hI, hn => h (lp body n) s hI fun s' hI' hl => lp_run I μ h n s' hI' (by omega)
theorem ck_some {p : Prop} [Decidable p] {x : Option ρ} (h : (if p then x else none) = some r) : p ∧ x = some r := by
  by_cases hp : p
  · rw [if_pos hp] at h; exact ⟨hp, h⟩
  · rw [if_neg hp] at h; cases h
theorem bind_some {α : Type} {x : Option α} {K : α → Option ρ} (h : x.bind K = some r) : ∃ y, x = some y ∧ K y = some r := Option.bind_eq_some_iff.1 h
def lt {α β : Type} (x : α) (K : α → β) : β := K x
theorem lt_some {α : Type} {x : α} {K : α → Option ρ} (h : lt x K = some r) : ∃ y, y = x ∧ K y = some r := ⟨x, rfl, h⟩
end
def upd {α : Type} (xs : List α) (j : Int) (y : α) : List α := xs.set j.toNat y

section
variable {P : Program} {Q : Exit → Act → World → Prop} {N : Cx} {w0 : World} {k k' : List Kont} {fr : Fr} {H H1 : Heap} {L : List TyD} {o : Oper} {α : Type}
theorem WP.fact {p : Prop} (hp : ∀ w, KH w0 H w → p) (h : p → WP P Q N w0 k fr H) : WP P Q N w0 k fr H := fun a w ha hw => h (hp w hw) a w ha hw
/-- a piece told in other words -/
theorem WP.repiece {p p' : Piece} (hm : Rem p H H1) (e : p = p') (h : WP P Q N w0 k fr (p' :: H1)) : WP P Q N w0 k fr H := by
  subst e
  intro a w ha hw
  obtain ⟨h1, h2, h3⟩ := hw.rem hm
  exact h a w ha ⟨h2.glob, List.pairwise_cons.2 ⟨h3, h2.apart⟩, fun p hp => by
    rcases List.mem_cons.1 hp with rfl | hp
    · exact h1
    · exact h2.holds p hp⟩
/-- an element's address -/
theorem WP.ixA (hL : TyOk P L) {all : Array Oper} {c : Prop} {d : Nat} {t e : TypeId} {x ix : Operand} {sz sb eb z : Nat} {sv ev : Value} {td : TD} {A : Option Addr} {n cc : Nat} {j : Int} {ki : IntKind} (hn : headOp w0 H (norm 1000 k) = some (all, o, k', c)) (hc : c) (hd : o.dst = some d)
    (hN : Nat.blt d N.size = true) (hg : o.guard = none) (ho : o.op = .indexAddr t x ix) (ht : tget L t = some ⟨.slice e, sz, sb, sv⟩) (he : tget L e = some ⟨td, z, eb, ev⟩)
    (hx : val fr x = some (.slice A n cc)) (hi : val fr ix = some (.int ki j)) (hj : 0 ≤ j ∧ j < n) (hA : ∃ b off, A = some ⟨b, off, none⟩)
    (h : ∀ b off, A = some ⟨b, off, none⟩ → WP P Q N w0 k' ((d, .pointer (some ⟨b, off + j.toNat * z, none⟩)) :: fr) H) : WP P Q N w0 k fr H := by
  obtain ⟨b, off, rfl⟩ := hA
  obtain ⟨m, rfl⟩ := Int.eq_ofNat_of_zero_le hj.1
  exact WP.ix hL hn hc hd hN hg ho ht he hx hi (by omega) (h b off rfl)
theorem WP.ixO (hL : TyOk P L) {all : Array Oper} {c : Prop} {d : Nat} {t e : TypeId} {x ix : Operand} {sz sb eb z : Nat} {sv ev : Value} {td : TD} {A : Option Addr} {n cc : Nat} {j : Int} {ki : IntKind} {xs : List α} (hn : headOp w0 H (norm 1000 k) = some (all, o, k', c)) (hc : c) (hd : o.dst = some d)
    (hN : Nat.blt d N.size = true) (hg : o.guard = none) (ho : o.op = .indexAddr t x ix) (ht : tget L t = some ⟨.slice e, sz, sb, sv⟩) (he : tget L e = some ⟨td, z, eb, ev⟩)
    (hx : val fr x = some (.slice A n cc)) (hi : val fr ix = some (.int ki j)) (hf : OwF A n xs) (hj : 0 ≤ j ∧ j < xs.length)
    (h : ∀ g, A = some ⟨g, 0, none⟩ → WP P Q N w0 k' ((d, .pointer (some ⟨g, j.toNat * z, none⟩)) :: fr) H) : WP P Q N w0 k fr H := by
  rw [hf.len] at hj
  obtain ⟨g, rfl⟩ := hf.ex (by omega)
  obtain ⟨m, rfl⟩ := Int.eq_ofNat_of_zero_le hj.1
  refine WP.ix hL hn hc hd hN hg ho ht he hx hi (by omega) ?_
  rw [Nat.zero_add]
  exact h g rfl
/-- how long a slice of the call's own is -/
theorem WP.lenO (hL : TyOk P L) {all : Array Oper} {c : Prop} {d n cc sz sb : Nat} {t e : TypeId} {x : Operand} {sv : Value} {A : Option Addr} {xs : List α} (hn : headOp w0 H (norm 1000 k) = some (all, o, k', c)) (hc : c) (hd : o.dst = some d) (hN : Nat.blt d N.size = true) (hg : o.guard = none)
    (ho : o.op = .call ⟨.builtin .len, #[x], #[t]⟩) (ht : tget L t = some ⟨.slice e, sz, sb, sv⟩) (hx : val fr x = some (.slice A n cc)) (hf : OwF A n xs) (h : WP P Q N w0 k' ((d, .int .i64 (xs.length : Nat)) :: fr) H) : WP P Q N w0 k fr H :=
  WP.rd hn hc hd hN hg (fun a w ha hw => by
    rw [hf.len]
    simp [execOp, ho, resolve, invoke, builtin, Builtin.len_, run_underlying (hL.slice ht), ha.eval hx, goInt]) h
/-- loads: of one cell, of several -/
theorem WP.ld1 (hL : TyOk P L) {all : Array Oper} {c : Prop} {d : Nat} {t : TypeId} {x : Operand} {b off z by_ : Nat} {zv v : Value} {td : TD} (hn : headOp w0 H (norm 1000 k) = some (all, o, k', c)) (hc : c) (hd : o.dst = some d) (hN : Nat.blt d N.size = true) (hg : o.guard = none)
    (ho : o.op = .load t x) (ht : tget L t = some ⟨td, z, by_, zv⟩) (ha' : td.agg = some false) (hx : val fr x = some (.pointer (some ⟨b, off, none⟩)))
    (hv : CellAt H b off v) (h : WP P Q N w0 k' ((d, v) :: fr) H) : WP P Q N w0 k fr H := WP.rd hn hc hd hN hg (loadG1 hL ho ht ha' hx hv) h
theorem WP.ldm (hL : TyOk P L) {all : Array Oper} {c : Prop} {d : Nat} {t : TypeId} {x : Operand} {b off z by_ : Nat} {zv : Value} {l : List Value} {td : TD} (hn : headOp w0 H (norm 1000 k) = some (all, o, k', c)) (hc : c) (hd : o.dst = some d) (hN : Nat.blt d N.size = true) (hg : o.guard = none)
    (ho : o.op = .load t x) (ht : tget L t = some ⟨td, z, by_, zv⟩) (ha' : td.agg = some true) (hx : val fr x = some (.pointer (some ⟨b, off, none⟩)))
    (hv : SegAt H b off l ∧ l.length = z) (h : WP P Q N w0 k' ((d, .agg l.toArray) :: fr) H) : WP P Q N w0 k fr H := WP.rd hn hc hd hN hg (loadGn hL ho ht ha' hx hv.2 hv.1) h
/-- a store into a block known whole; what it leaves, told -/
theorem WP.sto' (hL : TyOk P L) (cs' : List Value) {all : Array Oper} {rest : List Oper} {t : TypeId} {x y : Operand} {td : TyD} {g off : Nat} {e : TypeId} {cs : List Value} {v : Value} (hn : norm 1000 k = .ops all (o :: rest) :: k') (hd : o.dst = none) (hg : o.guard = none)
    (ho : o.op = .store t x y) (ht : tget L t = some td) (hx : val fr x = some (.pointer (some ⟨g, off, none⟩))) (hy : val fr y = some v) (hz : v.cells.toList.length = td.size) (h1 : oneCells v.cells.toList = true)
    (hm : Rem (.blk g e cs) H H1) (hfit : Nat.ble (off + td.size) cs.length = true) (hcs : setN cs off v.cells.toList = cs') (h : WP P Q N w0 (.ops all rest :: k') fr (.blk g e cs' :: H1)) : WP P Q N w0 k fr H := by
  subst hcs
  exact WP.sto hL hn hd hg ho ht hx hy hz h1 ⟨e, cs, H1, hm, Nat.le_of_ble_eq_true hfit, h⟩
/-- a store into a slice of the call's own -/
theorem WP.stoO [Inhabited α] {f : Fl α} {xs zs : List α} {A : Option Addr} {n c g j' : Nat} {j : Int} {e : TypeId} (oo : Nat) (y : α) (hL : TyOk P L) {all : Array Oper} {rest : List Oper} {t : TypeId} {x yy : Operand} {td : TyD} {v : Value} (hn : norm 1000 k = .ops all (o :: rest) :: k') (hd : o.dst = none) (hg : o.guard = none)
    (ho : o.op = .store t x yy) (ht : tget L t = some td) (hx : val fr x = some (.pointer (some ⟨g, j', none⟩))) (hy : val fr yy = some v) (hz : v.cells.toList.length = td.size) (h1 : oneCells v.cells.toList = true)
    (hm : Rem (Ow f e A n c xs) H H1) (hA : A = some ⟨g, 0, none⟩) (hf : OwF A n xs) (hj : 0 ≤ j ∧ j < xs.length) (hj' : j' = j.toNat * f.z + oo) (hoo : Nat.ble (oo + td.size) f.z = true) (hset : setN (f.cells (gt xs j)) oo v.cells.toList = f.cells y) (hzs : zs = upd xs j y)
    (h : OwF A n zs → WP P Q N w0 (.ops all rest :: k') fr (Ow f e A n c zs :: H1)) : WP P Q N w0 k fr H := by
  subst hA hj' hzs
  have h := h ⟨by simp [upd, hf.len], hf.ex⟩
  have hoo' := Nat.le_of_ble_eq_true hoo
  have hlt : j.toNat < xs.length := by omega
  have hnl := hf.len
  subst hnl
  refine WP.open_ hm (fun h0 => by cases h0) fun g' cap sl h0 h2 h3 h4 h5 => ?_
  cases h0
  have hfit : j.toNat * f.z + oo + td.size ≤ (cl f xs).length := by
    rw [cl_length]
    have : (j.toNat + 1) * f.z ≤ xs.length * f.z := Nat.mul_le_mul_right _ (by omega)
    rw [Nat.succ_mul] at this
    omega
  refine WP.sto hL hn hd hg ho ht hx hy hz h1 ⟨e, _, H1, .head, ?_, ?_⟩
  · rw [List.length_append]; omega
  have e1 : setN (cl f xs ++ sl) (j.toNat * f.z + oo) v.cells.toList = cl f (xs.set j.toNat y) ++ sl := by
    have := setN_split (p := []) (m := cl f xs) (s := sl) (o := j.toNat * f.z + oo) (l := v.cells.toList) (by rw [hz]; exact hfit)
    simp only [List.nil_append, List.length_nil, Nat.zero_add] at this
    rw [this, cl_set hlt (by rw [hz]; exact hoo') hset]
  rw [e1]
  refine WP.shut (n := xs.length) (cap := c) (z := f.z) .head h2 h3 ?_ (by rw [cl_length, List.length_set]) h
  rw [← h4, List.length_append, List.length_append, cl_length, cl_length, List.length_set]
/-- append -/
theorem WP.appO {f : Fl α} {xs ys zs : List α} (hL : TyOk P L) {all : Array Oper} {rest : List Oper} {d : Nat} {t e : TypeId} {sz sb eb cx c m n : Nat} {sv ev : Value} {td : TD} {s x : Operand} {A0 A : Option Addr} (hn : norm 1000 k = .ops all (o :: rest) :: k') (hd : o.dst = some d) (hN : Nat.blt d N.size = true) (hg : o.guard = none)
    (ho : o.op = .call ⟨.builtin .append, #[s, x], #[t, t]⟩) (ht : tget L t = some ⟨.slice e, sz, sb, sv⟩) (he : tget L e = some ⟨td, f.z, eb, ev⟩) (hev : Nat.beq ev.cells.toList.length f.z = true) (hz : Nat.blt 0 f.z = true) (heb : Nat.ble eb 128 = true)
    (hs : val fr s = some (.slice A0 n c)) (hx : val fr x = some (.slice A m cx)) (hm : Rem (Ow f e A0 n c xs) H H1) (hf : OwF A0 n xs) (hlen : ys.length = m) (hA : 0 < ys.length → ∃ b off, A = some ⟨b, off, none⟩ ∧ SegAt H b off (cl f ys)) (hlim : xs.length + ys.length ≤ lim) (hzs : zs = xs ++ ys)
    (h : ∀ A c, OwF A zs.length zs → WP P Q N w0 (.ops all rest :: k') ((d, .slice A zs.length c) :: fr) (Ow f e A zs.length c zs :: H1)) : WP P Q N w0 k fr H := by
  subst hlen hzs
  have hnl := hf.len
  subst hnl
  have heb' := Nat.le_of_ble_eq_true heb
  simp only [lim] at hlim
  have hfin : ∀ v', WP P Q N w0 (.ops all rest :: k') ((d, v') :: fr) (.own v' e f.z (xs.length + ys.length) (cl f xs ++ cl f ys) :: H1) := fun v' => by
    refine WP.shape2 .head fun A c h1 h2 => ?_
    subst h1
    have := h A c ⟨rfl, by rwa [List.length_append]⟩
    refine WP.reown (n' := (xs ++ ys).length) (cs' := cl f (xs ++ ys)) .head (List.length_append).symm cl_append ?_
    simpa only [Ow, List.length_append] using this
  by_cases h0 : 0 < ys.length
  · obtain ⟨b, off, rfl, hsrc⟩ := hA h0
    refine WP.app hL hn hd hN hg ho ht he hev hz hs hx ⟨cl f xs, xs.length, H1, hm, cl f ys, ⟨hsrc, cl_length⟩, cl_one, by omega, ?_, hfin⟩
    have : (xs.length + ys.length) * eb ≤ (xs.length + ys.length) * 128 := Nat.mul_le_mul_left _ heb'
    omega
  · have hy : ys = [] := List.eq_nil_of_length_eq_zero (by omega)
    subst hy
    refine WP.app0 hL hn hd hN hg ho ht he hs hx ⟨cl f xs, xs.length, H1, hm, ?_⟩
    intro a w ha hw
    refine (hfin _) a w ha ?_
    obtain ⟨h1, h2, h3⟩ := hw.rem hm
    refine ⟨h2.glob, List.pairwise_cons.2 ⟨h3, h2.apart⟩, fun p hp => ?_⟩
    rcases List.mem_cons.1 hp with rfl | hp
    · have e1 : cl f xs ++ cl f [] = cl f xs := by simp [cl]
      rw [e1]
      exact h1
    · exact h2.holds p hp
theorem FzS.app {f : Fl α} {Z : PH} {A : Option Addr} {c : Nat} {ys : List α} (h : FzS f Z A c ys) (hH : Held H Z) (h0 : 0 < ys.length) : ∃ b off, A = some ⟨b, off, none⟩ ∧ SegAt H b off (cl f ys) :=
  let ⟨b, off, e, _⟩ := h.cell h0; ⟨b, off, e, h.all e hH⟩
theorem OwS.app {f : Fl α} {A : Option Addr} {n c : Nat} {e : TypeId} {ys : List α} (hm : Rem (Ow f e A n c ys) H H1) (hf : OwF A n ys) (h0 : 0 < ys.length) : ∃ b off, A = some ⟨b, off, none⟩ ∧ SegAt H b off (cl f ys) :=
  let ⟨g, e⟩ := hf.ex (by have := hf.len; omega); ⟨g, 0, e, OwS.all hm e⟩
/-- a literal of a slice -/
theorem WP.bsO {f : Fl α} (xs : List α) (hL : TyOk P L) {all : Array Oper} {rest : List Oper} {d : Nat} {t e : TypeId} {len sz sb eb : Nat} {sv ev : Value} {td : TD} {ps : Array (Nat × Operand)} {vs : List Value}
    (hn : norm 1000 k = .ops all (o :: rest) :: k') (hd : o.dst = some d) (hN : Nat.blt d N.size = true) (hg : o.guard = none) (ho : o.op = .buildSlice t len ps) (ht : tget L t = some ⟨.slice e, sz, sb, sv⟩) (he : tget L e = some ⟨td, f.z, eb, ev⟩)
    (hv : bsVals fr ps.toList 0 = some vs) (hz : allSize f.z vs = true) (hlen : Nat.beq vs.length len = true) (hsm : Nat.ble (len * f.z) 16777216 = true) (hpos : Nat.blt 0 (len * f.z) = true) (hxs : cellsOf vs = cl f xs) (hl2 : xs.length = len)
    (h : ∀ g, OwF (some ⟨g, 0, none⟩) len xs → WP P Q N w0 (.ops all rest :: k') ((d, .slice (some ⟨g, 0, none⟩) len len) :: fr) (Ow f e (some ⟨g, 0, none⟩) len len xs :: H)) : WP P Q N w0 k fr H := by
  refine WP.bs hL hn hd hN hg ho ht he hv hz hlen hsm hpos fun g => ?_
  rw [hxs]
  have hsm' := Nat.le_of_ble_eq_true hsm
  have hz0 : 0 < f.z := Nat.pos_of_ne_zero fun e => by rw [e] at hpos; simp at hpos
  have : len * 1 ≤ len * f.z := Nat.mul_le_mul_left _ hz0
  exact WP.shut0 .head (by omega) (by rw [cl_length, hl2]) (h g ⟨hl2, fun _ => ⟨g, rfl⟩⟩)
/-- 'make' of elements of one cell -/
theorem WP.mkO {f : Fl α} (x0 : α) (hL : TyOk P L) {all : Array Oper} {rest : List Oper} {d : Nat} {t e : TypeId} {sz sb eb : Nat} {sv ev : Value} {td : TD} {x : Operand} {ki : IntKind} {m : Int} (hn : norm 1000 k = .ops all (o :: rest) :: k') (hd : o.dst = some d) (hN : Nat.blt d N.size = true) (hg : o.guard = none)
    (ho : o.op = .makeSlice t x x) (ht : tget L t = some ⟨.slice e, sz, sb, sv⟩) (he : tget L e = some ⟨td, 1, eb, ev⟩) (hev : ev.cells = #[ev]) (hx : val fr x = some (.int ki m)) (hz : f.z = 1) (h0 : f.cells x0 = [ev]) (heb : Nat.ble eb 128 = true) (hm : 0 ≤ m ∧ m ≤ (lim : Nat))
    (h : ∀ g, OwF (some ⟨g, 0, none⟩) m.toNat (List.replicate m.toNat x0) → WP P Q N w0 (.ops all rest :: k') ((d, .slice (some ⟨g, 0, none⟩) m.toNat m.toNat) :: fr) (Ow f e (some ⟨g, 0, none⟩) m.toNat m.toNat (List.replicate m.toNat x0) :: H)) : WP P Q N w0 k fr H := by
  obtain ⟨q, rfl⟩ := Int.eq_ofNat_of_zero_le hm.1
  have heb' := Nat.le_of_ble_eq_true heb
  have hq : q ≤ 1000000000000 := by have := hm.2; simp only [lim] at this; omega
  have : eb * q ≤ 128 * q := Nat.mul_le_mul_right _ heb'
  refine WP.mk1 hL hn hd hN hg ho ht he hev hx hx (by omega) (by omega) fun g => ?_
  have e1 : List.replicate q ev = cl f (List.replicate q x0) := by
    clear h hm this hq hx
    induction q with
    | zero => rfl
    | succ q ih => rw [List.replicate_succ, List.replicate_succ, ih]; show _ = f.cells x0 ++ _; rw [h0]; rfl
  rw [e1]
  exact WP.shut0 (z := f.z) .head (by omega) (by rw [cl_length, List.length_replicate, Int.toNat_natCast]) (h g ⟨by simp, fun _ => ⟨g, rfl⟩⟩)
/-- branches over what is told the other way round -/
theorem WP.cond_nd {c : Operand} {x y : Code} {p : Prop} [Decidable p] (hn : norm 1000 k = .code (.cond c x y) :: k') (hc : val fr c = some (.bool (!decide p)))
    (h1 : ¬ p → WP P Q N w0 (.code x :: k') fr H) (h2 : p → WP P Q N w0 (.code y :: k') fr H) : WP P Q N w0 k fr H :=
  WP.cond hn hc (fun h => h1 (by simpa using h)) (fun h => h2 (by simpa using h))
theorem WP.cond_n {c : Operand} {x y : Code} {b : Bool} (hn : norm 1000 k = .code (.cond c x y) :: k') (hc : val fr c = some (.bool (!b)))
    (h1 : b = false → WP P Q N w0 (.code x :: k') fr H) (h2 : b = true → WP P Q N w0 (.code y :: k') fr H) : WP P Q N w0 k fr H :=
  WP.cond hn hc (fun h => h1 (by simpa using h)) (fun h => h2 (by simpa using h))
/-- 'make' within a statement that draws its order -/
theorem WP.lmO (hL : TyOk P L) {all : Array Oper} {rest tl : List Oper} {w1 : World} {H2 : Heap} {X : Tags} {Rs : Specs} {i d : Nat} {t e : TypeId} {sz sb eb : Nat} {sv ev : Value} {td : TD} {x : Operand} {ki : IntKind} {m : Int}
    (hn : norm 1000 k = .lops w1 H2 Rs all (o :: rest) tl i X :: k') (hc' : w1 = w0 ∧ H2 = H) (hR : specAt Rs i = some ([], fun _ => mkSpec e m.toNat ev)) (hd : o.dst = some d) (hN : Nat.blt d N.size = true) (hg : o.guard = none)
    (ho : o.op = .makeSlice t x x) (ht : tget L t = some ⟨.slice e, sz, sb, sv⟩) (he : tget L e = some ⟨td, 1, eb, ev⟩) (hev : ev.cells = #[ev]) (hx : val fr x = some (.int ki m)) (heb : Nat.ble eb 128 = true) (hm : 0 ≤ m ∧ m ≤ (lim : Nat))
    (h : ∀ g, WP P Q N w0 (.lops w1 H2 Rs all rest tl (i + 1) ((i, [.blk g e (List.replicate m.toNat ev)]) :: X) :: k') ((d, .slice (some ⟨g, 0, none⟩) m.toNat m.toNat) :: fr) H) : WP P Q N w0 k fr H := by
  obtain ⟨q, rfl⟩ := Int.eq_ofNat_of_zero_le hm.1
  have heb' := Nat.le_of_ble_eq_true heb
  have hq : q ≤ 1000000000000 := by have := hm.2; simp only [lim] at this; omega
  have : eb * q ≤ 128 * q := Nat.mul_le_mul_right _ heb'
  have e0 : ((q : Int)).toNat = q := Int.toNat_natCast q
  exact WP.lms (n := q) hL hn hc' hR hd hN hg ho ht he hev hx hx (by omega) (by omega) h
/-- what 'make' made, taken for a slice of the call's own -/
theorem WP.shutM {f : Fl α} (x0 : α) {g : Nat} {e : TypeId} {ev : Value} {m : Int} (hr : Rem (.blk g e (List.replicate m.toNat ev)) H H1) (hz : f.z = 1) (h0 : f.cells x0 = [ev]) (hm : 0 ≤ m ∧ m ≤ (lim : Nat))
    (h : OwF (some ⟨g, 0, none⟩) m.toNat (List.replicate m.toNat x0) → WP P Q N w0 k fr (Ow f e (some ⟨g, 0, none⟩) m.toNat m.toNat (List.replicate m.toNat x0) :: H1)) : WP P Q N w0 k fr H := by
  have hq : m.toNat ≤ 1000000000000 := by have := hm.2; simp only [lim] at this; omega
  clear hm
  generalize m.toNat = q at *
  have e1 : List.replicate q ev = cl f (List.replicate q x0) := by
    clear h hr hq
    induction q with
    | zero => rfl
    | succ q ih => rw [List.replicate_succ, List.replicate_succ, ih]; show _ = f.cells x0 ++ _; rw [h0]; rfl
  rw [e1] at hr
  refine WP.shut0 (n := q) (z := f.z) hr (by omega) (by rw [cl_length, List.length_replicate]) (h ⟨by simp, fun _ => ⟨g, rfl⟩⟩)
/-- a call of a function that the model stands in for -/
theorem WP.ext {all : Array Oper} {c : Prop} {d : Nat} {v : Value} {f : Operand} {args : Array Operand} {ats : Array TypeId} {fid : FuncId} {fst cap : Array Value} {vs : List Value} (hn : headOp w0 H (norm 1000 k) = some (all, o, k', c)) (hc : c) (hd : o.dst = some d) (hN : Nat.blt d N.size = true) (hg : o.guard = none)
    (ho : o.op = .call ⟨.value f, args, ats⟩) (hf : val fr f = some (.func (.func fid) fst cap)) (hv : vals fr args.toList = some vs) (hr : ∀ w, (callFunc fid (fst ++ vs.toArray ++ cap)).run P w = .ok (.value v) w)
    (h : WP P Q N w0 k' ((d, v) :: fr) H) : WP P Q N w0 k fr H :=
  WP.rd hn hc hd hN hg (fun a w ha hw => by
    have e1 : args.map a.eval = vs.toArray := by rw [← vals_eval ha hv, ← Array.toList_map]
    simp only [execOp, ho, resolve, ha.eval hf, Deferred.ofValue, e1, Sem.run_bind, Sem.run_pure, Result.andThen_ok, invoke, hr w]) h
/-- structs compared -/
theorem WP.eqS {all : Array Oper} {c : Prop} {d : Nat} {t t2 : TypeId} {x y : Operand} {xs ys : Array Value} {b : Bool} (hn : headOp w0 H (norm 1000 k) = some (all, o, k', c)) (hc : c) (hd : o.dst = some d) (hN : Nat.blt d N.size = true) (hg : o.guard = none)
    (ho : o.op = .binOp .eql t x y t2) (hx : val fr x = some (.agg xs)) (hy : val fr y = some (.agg ys)) (hm : P.eqGuardType P.depth t = false) (hr : ∀ w, (Op.equalIn 10000 t (.agg xs) (.agg ys)).run P w = .ok b w)
    (h : WP P Q N w0 k' ((d, .bool b) :: fr) H) : WP P Q N w0 k fr H :=
  WP.rd hn hc hd hN hg (fun a w ha hw => by
    simp only [execOp, ho, ha.eval hx, ha.eval hy, Sem.run_bind, run_eqGuard_agg w _ t x y xs ys hm, Result.andThen_ok, run_eql_struct, hr w, Sem.run_pure]) h
theorem WP.neS {all : Array Oper} {c : Prop} {d : Nat} {t t2 : TypeId} {x y : Operand} {xs ys : Array Value} {b : Bool} (hn : headOp w0 H (norm 1000 k) = some (all, o, k', c)) (hc : c) (hd : o.dst = some d) (hN : Nat.blt d N.size = true) (hg : o.guard = none)
    (ho : o.op = .binOp .neq t x y t2) (hx : val fr x = some (.agg xs)) (hy : val fr y = some (.agg ys)) (hm : P.eqGuardType P.depth t = false) (hr : ∀ w, (Op.equalIn 10000 t (.agg xs) (.agg ys)).run P w = .ok b w)
    (h : WP P Q N w0 k' ((d, .bool (!b)) :: fr) H) : WP P Q N w0 k fr H :=
  WP.rd hn hc hd hN hg (fun a w ha hw => by
    simp only [execOp, ho, ha.eval hx, ha.eval hy, Sem.run_bind, run_eqGuard_agg w _ t x y xs ys hm, Result.andThen_ok, run_neq_struct, hr w, Sem.run_pure]) h
/-- a call; what it hands back, and the memory that it leaves, told by S -/
theorem WP.callS (S : Value → Heap → Prop) {all : Array Oper} {rest : List Oper} {d : Nat} {f : Operand} {args : Array Operand} {ats : Array TypeId} {fid : FuncId} {fst cap : Array Value} {vs : List Value} (hn : norm 1000 k = .ops all (o :: rest) :: k') (hd : o.dst = some d) (hN : Nat.blt d N.size = true) (hg : o.guard = none)
    (ho : o.op = .call ⟨.value f, args, ats⟩) (hf : val fr f = some (.func (.func fid) fst cap)) (hv : vals fr args.toList = some vs) (hb : callable P fid = true)
    (hc : ∀ w, KH w0 H w → Calls P fid (fst ++ vs.toArray ++ cap) w fun e w' => ∃ v L, e = .returned v ∧ S v L ∧ Ret w w' L)
    (h : ∀ v L, S v L → WP P Q N w0 (.ops all rest :: k') ((d, v) :: fr) (L ++ H)) : WP P Q N w0 k fr H :=
  WP.callR (α := Value × Heap) (fun x => x.1) (fun x => x.2) (fun x => S x.1 x.2) hn hd hN hg ho hf hv hb (fun w hw => (hc w hw).mono fun _ _ ⟨v, L, he, hs, hr⟩ => ⟨(v, L), he, hs, hr⟩) (fun x hx => h x.1 x.2 hx)
end
theorem bneg {b : Bool} (h : b = false) : ¬ b = true := by cases b <;> simp_all
theorem bfalse {b : Bool} (h : ¬ b = true) : b = false := by cases b <;> simp_all
def add64 (x y c : Int) : Int × Int := (((x.toNat + y.toNat + c.toNat) % 18446744073709551616 : Nat), ((x.toNat + y.toNat + c.toNat) / 18446744073709551616 : Nat))
def sub64 (x y c : Int) : Int × Int := (((x.toNat + 18446744073709551616 - y.toNat - c.toNat) % 18446744073709551616 : Nat), ((if x.toNat < y.toNat + c.toNat then 1 else 0 : Nat) : Int))
/-- further structs -/
structure Wide where
  hi : Int
  lo : Int
  deriving DecidableEq
instance : Inhabited Wide := ⟨⟨0, 0⟩⟩
def fW : Fl Wide := ⟨2, fun x => [.int .i64 x.hi, .int .u64 x.lo], fun _ => rfl, fun _ => rfl⟩
structure Spot where
  node : Int
  a : Int
  b : Int
  new : Arc
  deriving DecidableEq
def fSpot : Fl Spot := ⟨8, fun x => [.int .i64 x.node, .int .i64 x.a, .int .i64 x.b, .int .i64 x.new.src, .int .i64 x.new.dst, .int .i64 x.new.low, .int .i64 x.new.cap, .int .i64 x.new.cost], fun _ => rfl, fun _ => rfl⟩
structure Pair where
  x : Arc
  y : Arc
  n : Int
  s : Int
def fPair : Fl Pair := ⟨12, fun p => [.int .i64 p.x.src, .int .i64 p.x.dst, .int .i64 p.x.low, .int .i64 p.x.cap, .int .i64 p.x.cost, .int .i64 p.y.src, .int .i64 p.y.dst, .int .i64 p.y.low, .int .i64 p.y.cap, .int .i64 p.y.cost, .int .i64 p.n, .int .i64 p.s], fun _ => rfl, fun _ => rfl⟩
/-- a slice of the call's own, as a result -/
abbrev ownS {α : Type} (f : Fl α) (e : TypeId) (xs : List α) : Value → Heap → Prop := fun v L => ∃ (A : Option Addr) (n c : Nat), v = .slice A n c ∧ OwF A n xs ∧ L = [Ow f e A n c xs]
theorem ownS.of {α : Type} {f : Fl α} {e : TypeId} {xs : List α} {cs : List Value} {p : Prop} {x : Ending} {w w' : World} (hcs : cs = cl f xs) (h : ∃ v, x = .returned v ∧ p ∧ Ret w w' [.own v e f.z xs.length cs]) : ∃ v L, x = .returned v ∧ ownS f e xs v L ∧ Ret w w' L := by
  subst hcs
  obtain ⟨v, h1, _, h2⟩ := h
  have h' : w'.ownsRow 0 e f.z v xs.length (cl f xs) := (h2.new _ (List.mem_singleton.2 rfl)).1
  rcases h'.2 with ⟨rfl, h0⟩ | ⟨g, cap, cur, rfl, _⟩
  · have : xs = [] := List.eq_nil_of_length_eq_zero h0
    subst this
    exact ⟨_, _, h1, ⟨none, 0, 0, rfl, OwF.nil_, rfl⟩, h2⟩
  · exact ⟨_, _, h1, ⟨_, xs.length, cap, rfl, ⟨rfl, fun _ => ⟨g, rfl⟩⟩, rfl⟩, h2⟩
theorem kints_cl (k : IntKind) (xs : List Int) : kints k xs = cl (fI k) xs := by
  induction xs with
  | nil => rfl
  | cons x l ih =>
    show Value.int k x :: kints k l = (fI k).cells x ++ cl (fI k) l
    rw [ih]; rfl
theorem KH.zcb {w0 w : World} {H H1 : Heap} {g j : Nat} {e : TypeId} {cs : List Value} {v : Value} (h : KH w0 H w) (hm : Rem (.blk g e cs) H H1) (hc : lget cs j = some v) : Zc (PH.of w) g j = some v := by
  have hb : w.heap[g]? = some (.cells cs.toArray e (0, 0)) := h.mem hm.mem.1
  rw [Zc_of, cell_blk hb, ← lget_eq]
  exact hc
def ZcAll (Z : PH) (b : Nat) : Nat → List Value → Prop
  | _, [] => True
  | o, v :: r => Zc Z b o = some v ∧ ZcAll Z b (o + 1) r
theorem ZcAll.get {Z : PH} {b : Nat} : ∀ {l : List Value} {o : Nat}, ZcAll Z b o l → ∀ j u, l[j]? = some u → Zc Z b (o + j) = some u
  | v :: r, o, h, 0, u, hu => by cases hu; exact h.1
  | v :: r, o, h, j + 1, u, hu => by
    have := ZcAll.get h.2 j u (by simpa using hu)
    rwa [Nat.add_assoc, Nat.add_comm 1 j] at this
theorem SegAt.zcs {H : Heap} {Z : PH} {b o : Nat} {l : List Value} (hH : Held H Z) (h : ZcAll Z b o l) : SegAt H b o l ∧ l.length = l.length := ⟨fun w0 w hw j u hj => hH.cell (h.get j u hj) w0 w hw, rfl⟩
/-- structs that hold slices -/
def InsZ (Z : PH) (v : Value) (i : Inst) : Prop := ∃ A1 c1 A2 c2, v = .agg #[.slice A1 i.supply.length c1, .slice A2 i.arcs.length c2] ∧ FzS (fI .i64) Z A1 c1 i.supply ∧ FzS fA Z A2 c2 i.arcs
theorem InsZ.mk_ {Z : PH} {a b : Value} {i : Inst} (h1 : SlF (fI .i64) Z a i.supply) (h2 : SlF fA Z b i.arcs) : InsZ Z (.agg #[a, b]) i := by
  obtain ⟨A, c, rfl, h1⟩ := h1
  obtain ⟨A', c', rfl, h2⟩ := h2
  exact ⟨_, _, _, _, rfl, h1, h2⟩
theorem InsZ.le {Z Z' : PH} {v : Value} {i : Inst} (h : InsZ Z v i) (hz : Z.le Z') : InsZ Z' v i := let ⟨A1, c1, A2, c2, e, h1, h2⟩ := h; ⟨A1, c1, A2, c2, e, h1.le' hz, h2.le' hz⟩
theorem SlF.ints {k : IntKind} {Z : PH} {v : Value} {xs : List Int} (h : SlF (fI k) Z v xs) : KintsZ k Z v xs := by
  obtain ⟨A, c, rfl, h⟩ := h
  refine ⟨A, c, rfl, h.le, h.cap, fun hp => ?_⟩
  obtain ⟨b, off, e, hc⟩ := h.cell hp
  refine ⟨b, off, e, fun j hj => ?_⟩
  have hlt : j < xs.length := by omega
  have := hc j _ (List.getElem?_eq_getElem hlt) 0 (.int k xs[j]) rfl
  have e2 : j * (fI k).z + 0 = j := by show j * 1 + 0 = j; omega
  rw [e2] at this
  rw [this, ← el_eq hlt]
theorem ints_F {k : IntKind} {Z : PH} {v : Value} {xs : List Int} (h : KintsZ k Z v xs) : SlF (fI k) Z v xs := by
  obtain ⟨A, c, rfl, h1, h2, h3⟩ := h
  refine ⟨A, c, rfl, h1, h2, fun hp => ?_⟩
  obtain ⟨b, off, e, hc⟩ := h3 hp
  refine ⟨b, off, e, fun j x hj o v ho => ?_⟩
  have hlt := (List.getElem?_eq_some_iff.1 hj).1
  have h0 : o = 0 := by have : o < 1 := lt_len (f := fI k) ho
                        omega
  subst h0
  have e2 : j * (fI k).z + 0 = j := by show j * 1 + 0 = j; omega
  have ho' : some (Value.int k x) = some v := ho
  rw [e2, hc j (by omega)]
  show some (Value.int k (el xs j)) = some v
  rw [el_some hj, ho']
theorem SlF.arcs {Z : PH} {v : Value} {xs : List Arc} (h : SlF fA Z v xs) : ArcsZ Z v xs := by
  obtain ⟨A, c, rfl, h⟩ := h
  refine ⟨A, c, rfl, h.le, h.cap, fun hp => ?_⟩
  obtain ⟨b, off, e, hc⟩ := h.cell hp
  refine ⟨b, off, e, fun j hj => ?_⟩
  have hlt : j / 5 < xs.length := by omega
  have h5 : j % 5 < (arcAt xs (j / 5)).cells.length := by show j % 5 < 5; omega
  have := hc (j / 5) _ (List.getElem?_eq_getElem hlt) (j % 5) (arcCell xs j) (by
    rw [← arcAt_eq hlt]
    show (arcAt xs (j / 5)).cells[j % 5]? = some (arcCell xs j)
    rw [List.getElem?_eq_getElem h5, arcCell]
    simp [List.getD, List.getElem?_eq_getElem h5])
  have e2 : j / 5 * fA.z + j % 5 = j := by show j / 5 * 5 + j % 5 = j; omega
  rw [e2] at this
  exact this
theorem arcs_F {Z : PH} {v : Value} {xs : List Arc} (h : ArcsZ Z v xs) : SlF fA Z v xs := by
  obtain ⟨A, c, rfl, h1, h2, h3⟩ := h
  refine ⟨A, c, rfl, h1, h2, fun hp => ?_⟩
  obtain ⟨b, off, e, hc⟩ := h3 hp
  refine ⟨b, off, e, fun j x hj o v ho => ?_⟩
  have hlt := (List.getElem?_eq_some_iff.1 hj).1
  have h0 : o < 5 := lt_len (f := fA) ho
  show Zc Z b (off + (j * 5 + o)) = some v
  rw [hc (j * 5 + o) (by omega), arcCell_at _ _ _ h0, arcAt_some hj]
  have ho' : x.cells[o]? = some v := ho
  simp [List.getD, ho']
theorem InsZ.inst {Z : PH} {v : Value} {i : Inst} (h : InsZ Z v i) : InstZ Z v i := let ⟨_, _, _, _, e, h1, h2⟩ := h; ⟨_, _, e, h1.of.ints, h2.of.arcs⟩
theorem InstZ.F {Z : PH} {v : Value} {i : Inst} (h : InstZ Z v i) : InsZ Z v i := by
  obtain ⟨_, _, rfl, h1, h2⟩ := h
  exact .mk_ (ints_F h1) (arcs_F h2)
structure Rec where
  pass : Int
  was : Inst
structure Step where
  inst : Inst
  rcd : Rec
  off : Wide
  did : Bool
def StepZ (Z : PH) (v : Value) (s : Step) : Prop := ∃ A1 c1 A2 c2 A3 c3 A4 c4, v = .agg #[.slice A1 s.inst.supply.length c1, .slice A2 s.inst.arcs.length c2, .int .i64 s.rcd.pass, .slice A3 s.rcd.was.supply.length c3, .slice A4 s.rcd.was.arcs.length c4, .int .i64 s.off.hi, .int .u64 s.off.lo, .bool s.did] ∧
  FzS (fI .i64) Z A1 c1 s.inst.supply ∧ FzS fA Z A2 c2 s.inst.arcs ∧ FzS (fI .i64) Z A3 c3 s.rcd.was.supply ∧ FzS fA Z A4 c4 s.rcd.was.arcs
theorem StepZ.mk_ {Z : PH} {a b c d : Value} {s : Step} (h1 : SlF (fI .i64) Z a s.inst.supply) (h2 : SlF fA Z b s.inst.arcs) (h3 : SlF (fI .i64) Z c s.rcd.was.supply) (h4 : SlF fA Z d s.rcd.was.arcs) :
    StepZ Z (.agg #[a, b, .int .i64 s.rcd.pass, c, d, .int .i64 s.off.hi, .int .u64 s.off.lo, .bool s.did]) s := by
  obtain ⟨A1, c1, rfl, h1⟩ := h1
  obtain ⟨A2, c2, rfl, h2⟩ := h2
  obtain ⟨A3, c3, rfl, h3⟩ := h3
  obtain ⟨A4, c4, rfl, h4⟩ := h4
  exact ⟨_, _, _, _, _, _, _, _, rfl, h1, h2, h3, h4⟩
end Go.Qe
