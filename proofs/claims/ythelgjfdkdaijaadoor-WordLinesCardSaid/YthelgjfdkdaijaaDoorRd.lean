/- What lies in memory, read as lists, arcs and instances. -/
import Derived.Test.YthelgjfdkdaijaaDoorEng8
namespace Go.Qe
open Go.RowKit

theorem Below.le {w w' : World} (h : Below w.heap.size w w') : (PH.of w).le (PH.of w') := fun b o hb => by
  have hb' : w.heap[b]? = some o := hb
  show w'.heap[b]? = some o
  rw [h.block b (lt_of_some hb'), hb']
theorem KH.le {w0 w : World} {H : Heap} {Z : PH} (h : KH w0 H w) (hm : Piece.fz Z ∈ H) : Z.le (PH.of w) := le_of_holds (h.mem hm)
theorem PH.le.trans {A B C : PH} (h : A.le B) (k : B.le C) : A.le C := fun b o hb => k b o (h b o hb)
theorem PH.le.refl (A : PH) : A.le A := fun _ _ h => h

/-- an element of a list, 0 where there is none; not opened by simp -/
def el (xs : List Int) (k : Nat) : Int := xs.getD k 0
theorem el_eq {xs : List Int} {k : Nat} (h : k < xs.length) : el xs k = xs[k] := by simp [el, List.getD, List.getElem?_eq_getElem h]
theorem el_some {xs : List Int} {k : Nat} {x : Int} (h : xs[k]? = some x) : el xs k = x := by simp [el, List.getD, h]
theorem el_mem {xs : List Int} {k : Nat} (h : k < xs.length) : el xs k ∈ xs := by rw [el_eq h]; exact List.getElem_mem h
theorem el_out {xs : List Int} {k : Nat} (h : xs.length ≤ k) : el xs k = 0 := by simp [el, List.getD, List.getElem?_eq_none h]
theorem ext_el {xs ys : List Int} (hl : xs.length = ys.length) (h : ∀ k, k < xs.length → el xs k = el ys k) : xs = ys := by
  apply List.ext_getElem hl
  intro k h1 h2
  have := h k h1
  rwa [el_eq h1, el_eq h2] at this

/-- 'SlZ Z size v n f': the slice value v has n elements of size cells each; cell j holds f j. -/
def SlZ (Z : PH) (size : Nat) (v : Value) (n : Nat) (f : Nat → Value) : Prop :=
  ∃ A c, v = .slice A n c ∧ n ≤ c ∧ c ≤ 9223372036854775807 ∧ (0 < n → ∃ b off, A = some ⟨b, off, none⟩ ∧ ∀ j, j < n * size → Zc Z b (off + j) = some (f j))
section
variable {Z Z' : PH} {size n : Nat} {v : Value} {f : Nat → Value}
theorem SlZ.le (h : SlZ Z size v n f) (hz : Z.le Z') : SlZ Z' size v n f := by
  obtain ⟨A, c, e, h1, h2, h3⟩ := h
  exact ⟨A, c, e, h1, h2, fun hn => let ⟨b, off, e, hc⟩ := h3 hn; ⟨b, off, e, fun j hj => hz.cell (hc j hj)⟩⟩
theorem SlZ.nil_ : SlZ Z size (.slice none 0 0) 0 f := ⟨none, 0, rfl, by omega, by omega, fun h => by omega⟩
theorem SlZ.of_own {w : World} {base : Nat} {e : TypeId} {xs : List Value} (h : w.ownsRow base e size v n xs) (hf : ∀ j, j < n * size → xs[j]? = some (f j)) : SlZ (PH.of w) size v n f := by
  rcases h.2 with ⟨rfl, rfl⟩ | ⟨g, cap, cur, rfl, hb, hg, h1, h2, h3, h4⟩
  · exact SlZ.nil_
  · refine ⟨_, cap, rfl, h1, by simpa [maxLen] using h2, fun hn => ⟨g, 0, rfl, fun j hj => ?_⟩⟩
    have := h.cells (g := g) rfl j _ (hf j hj)
    rw [add_addr] at this
    rw [Zc_of]
    by_cases h0 : j = 0
    · subst h0; simpa using this
    · rw [if_neg h0] at this; exact this
end
/-- a slice of integers of one kind -/
def KintsZ (k : IntKind) (Z : PH) (v : Value) (xs : List Int) : Prop := SlZ Z 1 v xs.length (fun j => .int k (el xs j))
abbrev IntsZ := KintsZ .i64
abbrev U8Z := KintsZ .u8
def kints (k : IntKind) (xs : List Int) : List Value := xs.map (Value.int k)
abbrev ints := kints .i64
theorem kints_length (k : IntKind) (xs : List Int) : (kints k xs).length = xs.length := by simp [kints]
theorem kints_at {k : IntKind} {xs : List Int} {j : Nat} (h : j < xs.length) : (kints k xs)[j]? = some (.int k (el xs j)) := by simp [kints, List.getElem?_eq_getElem h, el_eq h]
theorem kints_get {k : IntKind} {xs : List Int} {sl : List Value} {j : Nat} (h : j < xs.length) : lget (kints k xs ++ sl) j = some (.int k (el xs j)) := by
  rw [lget_eq, List.getElem?_append_left (by rwa [kints_length]), kints_at h]
theorem kints_set {k : IntKind} {xs : List Int} {sl : List Value} {j : Nat} {x : Int} (h : j < xs.length) : setN (kints k xs ++ sl) j [.int k x] = kints k (xs.set j x) ++ sl := by
  simp only [setN, List.length_cons, List.length_nil]
  have h1 : j < (kints k xs).length := by rwa [kints_length]
  rw [List.take_append_of_le_length (by omega), List.drop_append_of_le_length (by omega), ← List.append_assoc]
  congr 1
  simp only [kints, ← List.map_take, ← List.map_drop]
  rw [List.set_eq_take_append_cons_drop, if_pos h]
  simp
theorem kints_append (k : IntKind) (xs ys : List Int) : kints k xs ++ kints k ys = kints k (xs ++ ys) := by simp [kints]
theorem kints_snoc (k : IntKind) (xs : List Int) (y : Int) : kints k xs ++ [.int k y] = kints k (xs ++ [y]) := by simp [kints]
theorem oneCells_kints (k : IntKind) (xs : List Int) : oneCells (kints k xs) = true := by
  induction xs with
  | nil => rfl
  | cons x r ih => simpa [kints, oneCells, Value.oneCell'] using ih
section
variable {Z Z' : PH} {v : Value} {k : IntKind} {xs : List Int}
theorem KintsZ.le (h : KintsZ k Z v xs) (hz : Z.le Z') : KintsZ k Z' v xs := SlZ.le h hz
theorem KintsZ.nil_ : KintsZ k Z (.slice none 0 0) [] := SlZ.nil_
theorem KintsZ.of_own {w : World} {base n : Nat} {e : TypeId} (h : w.ownsRow base e 1 v n (kints k xs)) : KintsZ k (PH.of w) v xs := by
  have hn : n = xs.length := by have := h.1; simp [kints] at this; omega
  subst hn
  exact SlZ.of_own h fun j hj => kints_at (by omega)
theorem KintsZ.open_ (h : KintsZ k Z v xs) : ∃ A c, v = .slice A xs.length c ∧ xs.length ≤ c ∧ c ≤ 9223372036854775807 ∧
    (0 < xs.length → ∃ b off, A = some ⟨b, off, none⟩ ∧ ∀ j, j < xs.length → Zc Z b (off + j) = some (.int k (el xs j))) := by
  obtain ⟨A, c, e, h1, h2, h3⟩ := h
  exact ⟨A, c, e, h1, h2, fun hn => let ⟨b, off, e, hc⟩ := h3 hn; ⟨b, off, e, fun j hj => hc j (by omega)⟩⟩
end
/-- of a slice of the call's own: it reads -/
theorem KH.kints {w0 w : World} {H H1 : Heap} {k : IntKind} {v : Value} {e : TypeId} {n : Nat} {xs : List Int} (h : KH w0 H w) (hm : Rem (.own v e 1 n (kints k xs)) H H1) : KintsZ k (PH.of w) v xs := KintsZ.of_own (h.mem hm.mem.1)
theorem KH.kblk {w0 w : World} {H H1 : Heap} {k : IntKind} {e : TypeId} {g c : Nat} {xs : List Int} {sl : List Value} (h : KH w0 H w) (hm : Rem (.blk g e (Qe.kints k xs ++ sl)) H H1) (hn : xs.length ≤ c) (hc : c ≤ 9223372036854775807) : KintsZ k (PH.of w) (.slice (some ⟨g, 0, none⟩) xs.length c) xs :=
  ⟨_, _, rfl, hn, hc, fun _ => ⟨g, 0, rfl, fun j hj => by
    have hb : w.heap[g]? = some (.cells (Qe.kints k xs ++ sl).toArray e (0, 0)) := h.mem hm.mem.1
    rw [Zc_of, cell_blk hb, ← lget_eq, Nat.zero_add]
    exact kints_get (by omega)⟩⟩

/-- an arc's five numbers -/
structure Arc where
  src : Int
  dst : Int
  low : Int
  cap : Int
  cost : Int
instance : Inhabited Arc := ⟨⟨0, 0, 0, 0, 0⟩⟩
theorem Arc.ext_ {a b : Arc} (h1 : a.src = b.src) (h2 : a.dst = b.dst) (h3 : a.low = b.low) (h4 : a.cap = b.cap) (h5 : a.cost = b.cost) : a = b := by
  cases a; cases b; simp_all
instance : DecidableEq Arc := fun a b => decidable_of_iff (a.src = b.src ∧ a.dst = b.dst ∧ a.low = b.low ∧ a.cap = b.cap ∧ a.cost = b.cost)
  ⟨fun ⟨h1, h2, h3, h4, h5⟩ => Arc.ext_ h1 h2 h3 h4 h5, fun h => by subst h; exact ⟨rfl, rfl, rfl, rfl, rfl⟩⟩
def Arc.cells (a : Arc) : List Value := [.int .i64 a.src, .int .i64 a.dst, .int .i64 a.low, .int .i64 a.cap, .int .i64 a.cost]
def Arc.val (a : Arc) : Value := .agg a.cells.toArray
def arcAt (l : List Arc) (k : Nat) : Arc := l.getD k default
theorem arcAt_eq {l : List Arc} {k : Nat} (h : k < l.length) : arcAt l k = l[k] := by simp [arcAt, List.getD, List.getElem?_eq_getElem h]
theorem arcAt_some {l : List Arc} {k : Nat} {x : Arc} (h : l[k]? = some x) : arcAt l k = x := by simp [arcAt, List.getD, h]
def arcCell (l : List Arc) (j : Nat) : Value := (arcAt l (j / 5)).cells.getD (j % 5) undef
def arcsCells (l : List Arc) : List Value := l.flatMap Arc.cells
theorem arcsCells_length (l : List Arc) : (arcsCells l).length = l.length * 5 := by
  induction l with
  | nil => rfl
  | cons a l ih => simp [arcsCells, Arc.cells] at ih ⊢; omega
theorem arcsCells_at : ∀ (l : List Arc) (j : Nat), j < l.length * 5 → (arcsCells l)[j]? = some (arcCell l j)
  | [], j, h => by simp at h
  | a :: l, j, h => by
    have e : arcsCells (a :: l) = a.cells ++ arcsCells l := rfl
    by_cases hj : j < 5
    · rw [e, List.getElem?_append_left (by simpa [Arc.cells] using hj)]
      have h0 : j / 5 = 0 := by omega
      have h1 : j % 5 = j := by omega
      rw [arcCell, h0, h1]
      have : j = 0 ∨ j = 1 ∨ j = 2 ∨ j = 3 ∨ j = 4 := by omega
      rcases this with rfl | rfl | rfl | rfl | rfl <;> rfl
    · have hl : a.cells.length = 5 := rfl
      rw [e, List.getElem?_append_right (by omega), hl, arcsCells_at l (j - 5) (by simp at h; omega)]
      have h0 : j / 5 = (j - 5) / 5 + 1 := by omega
      have h1 : j % 5 = (j - 5) % 5 := by omega
      simp only [arcCell, h0, h1, arcAt, List.getD_cons_succ]
theorem arcCell_at (l : List Arc) (k j : Nat) (h : j < 5) : arcCell l (k * 5 + j) = (arcAt l k).cells.getD j undef := by
  have h0 : (k * 5 + j) / 5 = k := by omega
  have h1 : (k * 5 + j) % 5 = j := by omega
  rw [arcCell, h0, h1]
theorem arcsCells_append (l m : List Arc) : arcsCells l ++ arcsCells m = arcsCells (l ++ m) := by simp [arcsCells]
theorem arcsCells_snoc (l : List Arc) (a : Arc) : arcsCells l ++ a.cells = arcsCells (l ++ [a]) := by simp [arcsCells]
theorem oneCells_append {l m : List Value} (h1 : oneCells l = true) (h2 : oneCells m = true) : oneCells (l ++ m) = true := by
  induction l with
  | nil => exact h2
  | cons v r ih => simp only [oneCells, Bool.and_eq_true, List.cons_append] at h1 ⊢; exact ⟨h1.1, ih h1.2⟩
theorem oneCells_arcs (l : List Arc) : oneCells (arcsCells l) = true := by
  induction l with
  | nil => rfl
  | cons a r ih => exact oneCells_append (l := a.cells) rfl ih
/-- one arc's cells in a row of arcs -/
theorem arcs_cell {l : List Arc} {sl : List Value} {k j : Nat} {v : Value} (h : k < l.length) (hj : (arcAt l k).cells[j]? = some v) : lget (arcsCells l ++ sl) (k * 5 + j) = some v := by
  have hj5 : j < 5 := by
    rcases Nat.lt_or_ge j 5 with h | h
    · exact h
    · rw [List.getElem?_eq_none (by simpa [Arc.cells] using h)] at hj; cases hj
  rw [lget_eq, List.getElem?_append_left (by rw [arcsCells_length]; omega), arcsCells_at _ _ (by omega), arcCell_at _ _ _ hj5]
  simp [List.getD, hj]
theorem arcs_set {l : List Arc} {sl : List Value} {k j : Nat} {v : Value} {b : Arc} (h : k < l.length) (hj : j < 5) (hb : (arcAt l k).cells.set j v = b.cells) : setN (arcsCells l ++ sl) (k * 5 + j) [v] = arcsCells (l.set k b) ++ sl := by
  apply List.ext_getElem?
  intro i
  simp only [setN, List.length_cons, List.length_nil]
  have hlen : (arcsCells l ++ sl).length = l.length * 5 + sl.length := by rw [List.length_append, arcsCells_length]
  have hlen2 : (arcsCells (l.set k b)).length = l.length * 5 := by rw [arcsCells_length, List.length_set]
  rw [List.append_assoc]
  by_cases h1 : i < k * 5 + j
  · rw [List.getElem?_append_left (by rw [List.length_take]; omega), List.getElem?_take_of_lt h1, List.getElem?_append_left (by rw [arcsCells_length]; omega), List.getElem?_append_left (by omega), arcsCells_at _ _ (by omega), arcsCells_at _ _ (by rw [List.length_set]; omega)]
    by_cases h2 : i / 5 = k
    · simp only [arcCell, h2]
      have e1 : arcAt (l.set k b) k = b := by simp [arcAt, List.getD, h]
      rw [e1, ← hb]
      have h3 : i % 5 ≠ j := by omega
      simp [List.getD, List.getElem?_set, Ne.symm h3]
    · have e1 : arcAt (l.set k b) (i / 5) = arcAt l (i / 5) := by simp [arcAt, List.getD, List.getElem?_set, Ne.symm h2]
      simp only [arcCell, e1]
  · rw [List.getElem?_append_right (by rw [List.length_take]; omega), List.length_take, Nat.min_eq_left (by omega)]
    by_cases h2 : i = k * 5 + j
    · subst h2
      rw [Nat.sub_self]
      simp only [List.singleton_append, List.getElem?_cons_zero]
      rw [List.getElem?_append_left (by omega), arcsCells_at _ _ (by rw [List.length_set]; omega), arcCell_at _ _ _ hj]
      have e1 : arcAt (l.set k b) k = b := by simp [arcAt, List.getD, h]
      rw [e1, ← hb]
      simp [List.getD, Arc.cells, hj]
    · obtain ⟨m, rfl⟩ : ∃ m, i = k * 5 + j + 1 + m := ⟨i - (k * 5 + j + 1), by omega⟩
      rw [show k * 5 + j + 1 + m - (k * 5 + j) = m + 1 by omega]
      simp only [List.singleton_append, List.getElem?_cons_succ, List.getElem?_drop]
      by_cases h4 : k * 5 + j + 1 + m < l.length * 5
      · rw [List.getElem?_append_left (by rw [arcsCells_length]; omega), List.getElem?_append_left (by omega), arcsCells_at _ _ (by omega), arcsCells_at _ _ (by rw [List.length_set]; omega)]
        by_cases h2' : (k * 5 + j + 1 + m) / 5 = k
        · simp only [arcCell, h2']
          have e1 : arcAt (l.set k b) k = b := by simp [arcAt, List.getD, h]
          rw [e1, ← hb]
          have h3 : (k * 5 + j + 1 + m) % 5 ≠ j := by omega
          simp [List.getD, List.getElem?_set, Ne.symm h3]
        · have e1 : arcAt (l.set k b) ((k * 5 + j + 1 + m) / 5) = arcAt l ((k * 5 + j + 1 + m) / 5) := by simp [arcAt, List.getD, List.getElem?_set, Ne.symm h2']
          simp only [arcCell, e1]
      · rw [List.getElem?_append_right (by rw [arcsCells_length]; omega), List.getElem?_append_right (by omega), arcsCells_length, hlen2]
/-- a slice of arcs -/
def ArcsZ (Z : PH) (v : Value) (l : List Arc) : Prop := SlZ Z 5 v l.length (arcCell l)
section
variable {Z Z' : PH} {v : Value} {l : List Arc}
theorem ArcsZ.le (h : ArcsZ Z v l) (hz : Z.le Z') : ArcsZ Z' v l := SlZ.le h hz
theorem ArcsZ.of_own {w : World} {base n : Nat} {e : TypeId} (h : w.ownsRow base e 5 v n (arcsCells l)) : ArcsZ (PH.of w) v l := by
  have hn : n = l.length := by have := h.1; rw [arcsCells_length] at this; omega
  subst hn
  exact SlZ.of_own h fun j hj => arcsCells_at l j hj
/-- open: address and capacity; of each arc its five cells, one by one and together -/
theorem ArcsZ.open_ (h : ArcsZ Z v l) : ∃ A c, v = .slice A l.length c ∧ l.length ≤ c ∧ c ≤ 9223372036854775807 ∧
    (0 < l.length → ∃ b off, A = some ⟨b, off, none⟩ ∧ ∀ k, k < l.length →
      Zc Z b (off + k * 5) = some (.int .i64 (arcAt l k).src) ∧ Zc Z b (off + k * 5 + 1) = some (.int .i64 (arcAt l k).dst) ∧ Zc Z b (off + k * 5 + 2) = some (.int .i64 (arcAt l k).low) ∧
      Zc Z b (off + k * 5 + 3) = some (.int .i64 (arcAt l k).cap) ∧ Zc Z b (off + k * 5 + 4) = some (.int .i64 (arcAt l k).cost) ∧
      ∀ j u, (arcAt l k).cells[j]? = some u → Zc Z b (off + k * 5 + j) = some u) := by
  obtain ⟨A, c, e, h1, h2, h3⟩ := h
  refine ⟨A, c, e, h1, h2, fun hn => ?_⟩
  obtain ⟨b, off, e, hc⟩ := h3 hn
  have key : ∀ k, k < l.length → ∀ j u, (arcAt l k).cells[j]? = some u → Zc Z b (off + k * 5 + j) = some u := fun k hk j u hj => by
    have hj5 : j < 5 := by
      rcases Nat.lt_or_ge j 5 with h | h
      · exact h
      · rw [List.getElem?_eq_none (by simpa [Arc.cells] using h)] at hj; cases hj
    rw [Nat.add_assoc, hc _ (by omega), arcCell_at _ _ _ hj5]
    simp [List.getD, hj]
  exact ⟨b, off, e, fun k hk => ⟨key k hk 0 _ rfl, key k hk 1 _ rfl, key k hk 2 _ rfl, key k hk 3 _ rfl, key k hk 4 _ rfl, key k hk⟩⟩
end
theorem KH.arcs {w0 w : World} {H H1 : Heap} {v : Value} {e : TypeId} {n : Nat} {l : List Arc} (h : KH w0 H w) (hm : Rem (.own v e 5 n (arcsCells l)) H H1) : ArcsZ (PH.of w) v l := ArcsZ.of_own (h.mem hm.mem.1)
theorem KH.arcsblk {w0 w : World} {H H1 : Heap} {e : TypeId} {g c : Nat} {l : List Arc} {sl : List Value} (h : KH w0 H w) (hm : Rem (.blk g e (arcsCells l ++ sl)) H H1) (hn : l.length ≤ c) (hc : c ≤ 9223372036854775807) : ArcsZ (PH.of w) (.slice (some ⟨g, 0, none⟩) l.length c) l :=
  ⟨_, _, rfl, hn, hc, fun _ => ⟨g, 0, rfl, fun j hj => by
    have hb : w.heap[g]? = some (.cells (arcsCells l ++ sl).toArray e (0, 0)) := h.mem hm.mem.1
    rw [Zc_of, cell_blk hb, Nat.zero_add, List.getElem?_append_left (by rw [arcsCells_length]; omega), arcsCells_at _ _ hj]⟩⟩

/-- an instance: supplies, and arcs -/
structure Inst where
  supply : List Int
  arcs : List Arc
def InstZ (Z : PH) (v : Value) (i : Inst) : Prop := ∃ s a, v = .agg #[s, a] ∧ IntsZ Z s i.supply ∧ ArcsZ Z a i.arcs
theorem InstZ.le {Z Z' : PH} {v : Value} {i : Inst} (h : InstZ Z v i) (hz : Z.le Z') : InstZ Z' v i := let ⟨s, a, e, h1, h2⟩ := h; ⟨s, a, e, KintsZ.le h1 hz, h2.le hz⟩
/-- a slice of the call's own is a slice -/
theorem own_shape {w : World} {v : Value} {e : TypeId} {z n : Nat} {cs : List Value} (h : (Piece.own v e z n cs).holds w) : ∃ A c, v = .slice A n c := by
  have h' : w.ownsRow 0 e z v n cs := h
  rcases h'.2 with ⟨rfl, rfl⟩ | ⟨g, cap, cur, rfl, _⟩
  · exact ⟨_, _, rfl⟩
  · exact ⟨_, _, rfl⟩
def ownSpec (e : TypeId) (z n : Nat) (cs : List Value) : Spec := fun v L => ∃ A c, v = .slice A n c ∧ L = [.own v e z n cs]
theorem ownSpec.of {e : TypeId} {z n : Nat} {cs : List Value} {p : Prop} {x : Ending} {w w' : World} (h : ∃ v, x = .returned v ∧ p ∧ Ret w w' [.own v e z n cs]) : ∃ v L, x = .returned v ∧ ownSpec e z n cs v L ∧ Ret w w' L := by
  obtain ⟨v, he, _, hr⟩ := h
  obtain ⟨A, c, rfl⟩ := own_shape (hr.new (.own v e z n cs) List.mem_cons_self).1
  exact ⟨_, _, he, ⟨A, c, rfl, rfl⟩, hr⟩
theorem ret_shape {e : TypeId} {z n : Nat} {cs : List Value} {p : Prop} {x : Ending} {w w' : World} (h : ∃ v, x = .returned v ∧ p ∧ Ret w w' [.own v e z n cs]) : ∃ y : Option Addr × Nat, x = .returned (.slice y.1 n y.2) ∧ True ∧ Ret w w' [.own (.slice y.1 n y.2) e z n cs] := by
  obtain ⟨v, he, _, hr⟩ := h
  obtain ⟨A, c, rfl⟩ := own_shape (hr.new (.own v e z n cs) List.mem_cons_self).1
  exact ⟨(A, c), he, True.intro, hr⟩
theorem ret_bool {a b : Bool} (h : a = b) : Ending.returned (.bool a) = .returned (.bool b) := by rw [h]
theorem ret_int {k : IntKind} {a b : Int} (h : a = b) : Ending.returned (.int k a) = .returned (.int k b) := by rw [h]
theorem bool_val {a b : Bool} (h : a = b) : some (Value.bool a) = some (.bool b) := by rw [h]
theorem int_val {k : IntKind} {a b : Int} (h : a = b) : some (Value.int k a) = some (.int k b) := by rw [h]
/-- all that is new, as it is: frozen -/
def PH.new (w0 w : World) : PH := fun b => if b < w0.heap.size then none else w.heap[b]?
theorem Ret.freeze {w0 w : World} {H : Heap} (h : KH w0 H w) (hp : Pick [.fz (PH.of w0)] H) : Ret w0 w [.fz (PH.new w0 w)] :=
  ⟨Ret.below_ h hp, List.pairwise_singleton _ _, fun p hm => by
    simp only [List.mem_singleton] at hm
    subst hm
    refine ⟨fun b o hb => ?_, fun b hb => ?_⟩
    · unfold PH.new at hb
      split at hb
      · cases hb
      · exact hb
    · refine Nat.le_of_not_lt fun hlt => hb ?_
      simp [PH.new, hlt]⟩
/-- a piece of the call's own is new -/
theorem KH.isNew {w0 w : World} {H : Heap} {p : Piece} (h : KH w0 H w) (hp : Pick [p, .fz (PH.of w0)] H) {b : Nat} (hb : p.foot b) : PH.new w0 w b = w.heap[b]? := by
  have := (Ret.of_KH (Lx := [p]) h hp).new p (by simp)
  have := this.2 b hb
  simp only [PH.new]
  rw [if_neg (by omega)]
theorem KH.held {w0 w : World} {H : Heap} {p : Piece} (h : KH w0 H w) (hp : Pick [p, .fz (PH.of w0)] H) : p.holds w := h.mem (hp.mem p (by simp))
theorem SlZ.of_own' {Z : PH} {w : World} {size n base : Nat} {v : Value} {f : Nat → Value} {e : TypeId} {xs : List Value} (h : w.ownsRow base e size v n xs) (hf : ∀ j, j < n * size → xs[j]? = some (f j)) (hz : ∀ b, v.ownBlock = some b → Z b = w.heap[b]?) : SlZ Z size v n f := by
  have h' := SlZ.of_own h hf
  rcases h.2 with ⟨rfl, rfl⟩ | ⟨g, cap, cur, rfl, hb, hg, h1, h2, h3, h4⟩
  · exact SlZ.nil_
  · obtain ⟨A, c, e, h5, h6, h7⟩ := h'
    refine ⟨A, c, e, h5, h6, fun hn => ?_⟩
    obtain ⟨b, off, e2, hc⟩ := h7 hn
    refine ⟨b, off, e2, fun j hj => ?_⟩
    subst e2
    cases e
    rw [← hc j hj]
    unfold Zc
    rw [hz g rfl]
    rfl
theorem KH.kintsNew {w0 w : World} {H : Heap} {k : IntKind} {v : Value} {e : TypeId} {n : Nat} {xs : List Int} (h : KH w0 H w) (hp : Pick [.own v e 1 n (Qe.kints k xs), .fz (PH.of w0)] H) : KintsZ k (PH.new w0 w) v xs := by
  have h1 : w.ownsRow 0 e 1 v n (Qe.kints k xs) := h.held hp
  have hn : n = xs.length := by have := h1.1; simp [Qe.kints] at this; omega
  subst hn
  exact SlZ.of_own' h1 (fun j hj => kints_at (by omega)) fun b hb => h.isNew hp hb
theorem KH.arcsNew {w0 w : World} {H : Heap} {v : Value} {e : TypeId} {n : Nat} {l : List Arc} (h : KH w0 H w) (hp : Pick [.own v e 5 n (arcsCells l), .fz (PH.of w0)] H) : ArcsZ (PH.new w0 w) v l := by
  have h1 : w.ownsRow 0 e 5 v n (arcsCells l) := h.held hp
  have hn : n = l.length := by have := h1.1; rw [arcsCells_length] at this; omega
  subst hn
  exact SlZ.of_own' h1 (fun j hj => arcsCells_at l j hj) fun b hb => h.isNew hp hb
theorem KH.cellNew {w0 w : World} {H : Heap} {g j : Nat} {e : TypeId} {cs : List Value} {v : Value} (h : KH w0 H w) (hp : Pick [.blk g e cs, .fz (PH.of w0)] H) (hc : lget cs j = some v) : Zc (PH.new w0 w) g j = some v := by
  have h1 : w.heap[g]? = some (.cells cs.toArray e (0, 0)) := h.held hp
  have h2 := h.isNew hp (b := g) rfl
  rw [lget_eq] at hc
  simp [Zc, h2, h1, hc]
theorem kints_get0 {k : IntKind} {xs : List Int} {j : Nat} (h : j < xs.length) : lget (kints k xs) j = some (.int k (el xs j)) := by
  rw [lget_eq, kints_at h]
theorem kints_get1 {k : IntKind} {xs : List Int} {j o : Nat} (h : j < xs.length) (e : o = j) : lget (kints k xs) o = some (.int k (el xs j)) := by
  subst e; exact kints_get0 h
theorem kints_get2 {k : IntKind} {xs : List Int} {sl : List Value} {j o : Nat} (h : j < xs.length) (e : o = j) : lget (kints k xs ++ sl) o = some (.int k (el xs j)) := by
  subst e; exact kints_get h
theorem kints_set0 {k : IntKind} {xs : List Int} {j : Nat} {x : Int} (h : j < xs.length) : setN (kints k xs) j [.int k x] = kints k (xs.set j x) := by
  have := kints_set (k := k) (sl := []) (x := x) h
  simpa using this
theorem kints_set1 {k : IntKind} {xs : List Int} {j o : Nat} {x : Int} (h : j < xs.length) (e : o = j) : setN (kints k xs) o (Value.int k x).cells.toList = kints k (xs.set j x) := by
  subst e; exact kints_set0 h
theorem kints_set2 {k : IntKind} {xs : List Int} {sl : List Value} {j o : Nat} {x : Int} (h : j < xs.length) (e : o = j) : setN (kints k xs ++ sl) o (Value.int k x).cells.toList = kints k (xs.set j x) ++ sl := by
  subst e; exact kints_set h
theorem KH.kblk0 {w0 w : World} {H H1 : Heap} {k : IntKind} {e : TypeId} {g c : Nat} {xs : List Int} (h : KH w0 H w) (hm : Rem (.blk g e (Qe.kints k xs)) H H1) (hn : xs.length ≤ c) (hc : c ≤ 9223372036854775807) : KintsZ k (PH.of w) (.slice (some ⟨g, 0, none⟩) xs.length c) xs :=
  h.kblk (sl := []) (by simpa using hm) hn hc
theorem el_set {xs : List Int} {j m : Nat} {x : Int} (h : j < xs.length) : el (xs.set j x) m = if m = j then x else el xs m := by
  simp only [el, List.getD, List.getElem?_set]
  by_cases hm : m = j
  · subst hm; simp [h]
  · rw [if_neg (fun e => hm e.symm), if_neg hm]
theorem kints_replicate (k : IntKind) (n : Nat) (x : Int) : List.replicate n (Value.int k x) = kints k (List.replicate n x) := by simp [kints]
theorem el_replicate (n j : Nat) : el (List.replicate n 0) j = 0 := by
  simp only [el, List.getD, List.getElem?_replicate]
  split <;> rfl
theorem WP.shape {P : Program} {Q : Exit → Act → World → Prop} {N : Cx} {w0 : World} {k : List Kont} {fr : Fr} {H H1 : Heap} {v : Value} {e : TypeId} {z n : Nat} {cs : List Value} (hm : Rem (.own v e z n cs) H H1)
    (h : ∀ A c, v = .slice A n c → WP P Q N w0 k fr H) : WP P Q N w0 k fr H := fun a w ha hw => by
  obtain ⟨A, c, e1⟩ := own_shape (hw.mem hm.mem.1)
  exact h A c e1 a w ha hw
/-- an arc in a slice of the call's own -/
theorem SegAt.ownArc {H H1 : Heap} {g n c j : Nat} {e : TypeId} {l : List Arc} (hm : Rem (.own (.slice (some ⟨g, 0, none⟩) n c) e 5 n (arcsCells l)) H H1) (hj : j < l.length) : SegAt H g (0 + j * 5) (arcAt l j).cells ∧ (arcAt l j).cells.length = 5 := by
  refine ⟨fun w0 w hw k u hk => ?_, rfl⟩
  have h' : w.ownsRow 0 e 5 (.slice (some ⟨g, 0, none⟩) n c) n (arcsCells l) := hw.mem hm.mem.1
  have hk5 : k < 5 := by
    rcases Nat.lt_or_ge k 5 with h | h
    · exact h
    · rw [List.getElem?_eq_none (by simpa [Arc.cells] using h)] at hk; cases hk
  have hc : (arcsCells l)[j * 5 + k]? = some u := by
    rw [arcsCells_at _ _ (by omega), arcCell_at _ _ _ hk5]
    simp [List.getD, hk]
  have := h'.cells (g := g) rfl _ u hc
  rw [add_addr] at this
  rw [Nat.zero_add]
  by_cases h0 : j * 5 + k = 0
  · rw [h0]; rw [if_pos h0] at this; exact this
  · rw [if_neg h0] at this; simpa using this
end Go.Qe
