/- Adj: what the graph's functions compute, as the printed walks want it. -/
import Derived.Test.YtbnjeanldechnaaGreatDoorA14L
import Derived.Test.YtbnjeanldechnaaGreatDoorExt
namespace Go.Proofs.YtbnjeanldechnaaGreatDoor
open Go.RowKit Go.Qe
def adj_New (i : Inst) : Option Inst := if i.supply.length ≤ lim ∧ i.arcs.length ≤ lim then some i else none
abbrev adj_New_S (r : Inst) : Value → Heap → Prop := fun v L => ∃ Zn, GraphZ Zn v r ∧ L = [.fz Zn]
theorem adj_New_w {w : World} {v : Value} {i r : Inst} (h : adj_New i = some r) (p : InsZ (PH.of w) v i) : Calls Tryz.prog 41 #[v] w fun e w' => ∃ v L, e = .returned v ∧ adj_New_S r v L ∧ Ret w w' L := by
  obtain ⟨hl, h⟩ := ck_some h
  cases h
  simp only [lim] at hl
  refine (new_c p.inst (by omega) (by omega)).mono fun e w' ⟨x, he, hg, hr⟩ => ⟨_, _, he, ⟨_, hg, rfl⟩, hr⟩
theorem GraphZ.ptr' {Z : PH} {v : Value} {i : Inst} (h : GraphZ Z v i) : ∃ g, v = .pointer (some ⟨g, 0, none⟩) := by
  obtain ⟨g, _, _, _, _, _, _, h, _⟩ := h; exact ⟨g, h⟩
def adj_Graph_Nodes (i : Inst) : Option Int := some i.supply.length
theorem adj_Graph_Nodes_w {w : World} {v : Value} {i : Inst} {r : Int} (h : adj_Graph_Nodes i = some r) (p : GraphZ (PH.of w) v i) : Calls Tryz.prog 124 #[v] w fun e w' => e = .returned (.int .i64 r) ∧ Below w.heap.size w w' := by
  cases h; exact nodes_c p
def adj_Graph_Arc (i : Inst) (a : Int) : Option (Arc × Bool) := some (arcGet i a, fitB i a)
theorem adj_Graph_Arc_w {w : World} {v : Value} {i : Inst} {a : Int} {r : Arc × Bool} (h : adj_Graph_Arc i a = some r) (p : GraphZ (PH.of w) v i) :
    Calls Tryz.prog 107 #[v, .int .i64 a] w fun e w' => e = .returned (.tuple #[.agg #[.int .i64 r.1.src, .int .i64 r.1.dst, .int .i64 r.1.low, .int .i64 r.1.cap, .int .i64 r.1.cost], .bool r.2]) ∧ Below w.heap.size w w' := by
  cases h; exact arc_c p
def adj_Graph_Other (i : Inst) (a n : Int) : Option Int := some (otherOf i a n)
def adj_Graph_Loops (i : Inst) (n : Int) : Option Int := if i.arcs.length ≤ lim then some (loopsOf i n) else none
theorem adj_Graph_Loops_w {w : World} {v : Value} {i : Inst} {n r : Int} (h : adj_Graph_Loops i n = some r) (p : GraphZ (PH.of w) v i) : Calls Tryz.prog 73 #[v, .int .i64 n] w fun e w' => e = .returned (.int .i64 r) ∧ Below w.heap.size w w' := by
  obtain ⟨hl, h⟩ := ck_some h
  cases h
  simp only [lim] at hl
  exact loops_c p (by omega)
def adj_Graph_Out (i : Inst) (n : Int) : Option (List Int) := if i.arcs.length ≤ lim then some (someL i n true false) else none
abbrev adj_Graph_Out_S (r : List Int) : Value → Heap → Prop := ownS (fI .i64) 3 r
theorem adj_Graph_Out_w {w : World} {v : Value} {i : Inst} {n : Int} {r : List Int} (h : adj_Graph_Out i n = some r) (p : GraphZ (PH.of w) v i) : Calls Tryz.prog 85 #[v, .int .i64 n] w fun e w' => ∃ v L, e = .returned v ∧ adj_Graph_Out_S r v L ∧ Ret w w' L := by
  obtain ⟨hl, h⟩ := ck_some h
  cases h
  simp only [lim] at hl
  exact (out_c p (by omega)).mono fun e w' hh => ownS.of (kints_cl _ _) hh
def adj_Graph_In (i : Inst) (n : Int) : Option (List Int) := if i.arcs.length ≤ lim then some (someL i n false true) else none
abbrev adj_Graph_In_S (r : List Int) : Value → Heap → Prop := ownS (fI .i64) 3 r
theorem adj_Graph_In_w {w : World} {v : Value} {i : Inst} {n : Int} {r : List Int} (h : adj_Graph_In i n = some r) (p : GraphZ (PH.of w) v i) : Calls Tryz.prog 86 #[v, .int .i64 n] w fun e w' => ∃ v L, e = .returned v ∧ adj_Graph_In_S r v L ∧ Ret w w' L := by
  obtain ⟨hl, h⟩ := ck_some h
  cases h
  simp only [lim] at hl
  exact (in_c p (by omega)).mono fun e w' hh => ownS.of (kints_cl _ _) hh
def adj_Graph_At (i : Inst) (n : Int) : Option (List Int) := if i.arcs.length ≤ lim then some (someL i n true true) else none
abbrev adj_Graph_At_S (r : List Int) : Value → Heap → Prop := ownS (fI .i64) 3 r
theorem adj_Graph_At_w {w : World} {v : Value} {i : Inst} {n : Int} {r : List Int} (h : adj_Graph_At i n = some r) (p : GraphZ (PH.of w) v i) : Calls Tryz.prog 72 #[v, .int .i64 n] w fun e w' => ∃ v L, e = .returned v ∧ adj_Graph_At_S r v L ∧ Ret w w' L := by
  obtain ⟨hl, h⟩ := ck_some h
  cases h
  simp only [lim] at hl
  exact (at_c p (by omega)).mono fun e w' hh => ownS.of (kints_cl _ _) hh
def slices_Clone_int64 (l : List Int) : Option (List Int) := if l.length ≤ lim then some l else none
abbrev slices_Clone_int64_S (r : List Int) : Value → Heap → Prop := ownS (fI .i64) 2 r
theorem slices_Clone_int64_w {w : World} {v : Value} {l r : List Int} (h : slices_Clone_int64 l = some r) (p : SlF (fI .i64) (PH.of w) v l) : Calls Tryz.prog 98 #[v] w fun e w' => ∃ v L, e = .returned v ∧ slices_Clone_int64_S r v L ∧ Ret w w' L := by
  obtain ⟨hl, h⟩ := ck_some h
  cases h
  simp only [lim] at hl
  exact (clone_i64 (n := l.length) (cs := ints l) p.ints (by rw [kints_length]; omega) (fun j hj => kints_at (by omega)) (oneCells_kints _ _) (by omega)).mono fun e w' hh => ownS.of (kints_cl _ _) hh
def slices_Clone_int (l : List Int) : Option (List Int) := if l.length ≤ lim then some l else none
abbrev slices_Clone_int_S (r : List Int) : Value → Heap → Prop := ownS (fI .i64) 3 r
theorem slices_Clone_int_w {w : World} {v : Value} {l r : List Int} (h : slices_Clone_int l = some r) (p : SlF (fI .i64) (PH.of w) v l) : Calls Tryz.prog 105 #[v] w fun e w' => ∃ v L, e = .returned v ∧ slices_Clone_int_S r v L ∧ Ret w w' L := by
  obtain ⟨hl, h⟩ := ck_some h
  cases h
  simp only [lim] at hl
  exact (clone_int (n := l.length) (cs := ints l) p.ints (by rw [kints_length]; omega) (fun j hj => kints_at (by omega)) (oneCells_kints _ _) (by omega)).mono fun e w' hh => ownS.of (kints_cl _ _) hh
def slices_Clone_api_Arc (l : List Arc) : Option (List Arc) := if l.length ≤ lim then some l else none
abbrev slices_Clone_api_Arc_S (r : List Arc) : Value → Heap → Prop := ownS fA 31 r
theorem slices_Clone_api_Arc_w {w : World} {v : Value} {l r : List Arc} (h : slices_Clone_api_Arc l = some r) (p : SlF fA (PH.of w) v l) : Calls Tryz.prog 99 #[v] w fun e w' => ∃ v L, e = .returned v ∧ slices_Clone_api_Arc_S r v L ∧ Ret w w' L := by
  obtain ⟨hl, h⟩ := ck_some h
  cases h
  simp only [lim] at hl
  exact (clone_arc (n := l.length) (cs := arcsCells l) p.arcs (by rw [arcsCells_length]) (fun j hj => arcsCells_at l j hj) (oneCells_arcs l) (by omega)).mono fun e w' hh => ownS.of rfl hh
end Go.Proofs.YtbnjeanldechnaaGreatDoor
