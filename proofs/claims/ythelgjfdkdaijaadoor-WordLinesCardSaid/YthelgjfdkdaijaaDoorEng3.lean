/- The layer's operations that look at no memory: what each gives, as a function of its operands. -/
import Derived.Test.YthelgjfdkdaijaaDoorEng2
import Derived.KernelRfl
namespace Go.Qe
open Go.RowKit

inductive TD where
  | int (k : IntKind)
  | bool
  | str
  | ptr (e : TypeId)
  | slice (e : TypeId)
  | struct (fs : List (Nat × TypeId))
  | one
  | other
structure TyD where
  d : TD
  size : Nat
  bytes : Nat
  zero : Value
def tget : List TyD → Nat → Option TyD
  | [], _ => none
  | d :: _, 0 => some d
  | _ :: r, n + 1 => tget r n
def tdOf (P : Program) (t : TypeId) : TD :=
  match P.underlying t with
  | some (.int k) => .int k
  | some .bool => .bool
  | some .string => .str
  | some (.pointer e) => .ptr e
  | some (.slice e) => .slice e
  | some (.struct fs) => .struct (fs.toList.map fun f => (f.offset, f.type))
  | some (.array _ _) => .other
  | none => .other
  | some _ => .one
def tyView (P : Program) (t : TypeId) : Option TyD :=
  match P.info? t with
  | some i => match i.zero with
    | some z => some ⟨tdOf P t, i.size, i.bytes, z⟩
    | none => none
  | none => none
structure TyOk (P : Program) (L : List TyD) : Prop where
  get : ∀ t d, tget L t = some d → tyView P t = some d
theorem tget_eq : ∀ (L : List TyD) (n : Nat), tget L n = L[n]?
  | [], n => by simp [tget]
  | x :: r, 0 => by simp [tget]
  | x :: r, n + 1 => by simp [tget, tget_eq r n]
theorem TyOk.of {P : Program} {L : List TyD} (h : (List.range L.length).map (tyView P) = L.map some) : TyOk P L := ⟨fun t d hg => by
  rw [tget_eq] at hg
  have hlt : t < L.length := (List.getElem?_eq_some_iff.1 hg).1
  have h1 : ((List.range L.length).map (tyView P))[t]? = (L.map some)[t]? := by rw [h]
  rw [List.getElem?_map, List.getElem?_map, List.getElem?_range hlt, hg] at h1
  simpa using h1⟩
section
variable {P : Program} {L : List TyD}
theorem TyOk.parts (hL : TyOk P L) {t : TypeId} {d : TyD} (h : tget L t = some d) : ∃ i, P.info? t = some i ∧ i.size = d.size ∧ i.bytes = d.bytes ∧ i.zero = some d.zero ∧ tdOf P t = d.d := by
  have hc := hL.get t d h
  unfold tyView at hc
  split at hc
  · rename_i i hi
    split at hc
    · rename_i z hz
      cases hc
      exact ⟨i, hi, rfl, rfl, hz, rfl⟩
    · cases hc
  · cases hc
theorem TyOk.int (hL : TyOk P L) {t : TypeId} {k : IntKind} {z b : Nat} {v : Value} (h : tget L t = some ⟨.int k, z, b, v⟩) : P.underlying t = some (.int k) := by
  obtain ⟨i, _, _, _, _, h5⟩ := hL.parts h
  unfold tdOf at h5
  split at h5 <;> first | (cases h5; assumption) | cases h5
theorem TyOk.bool (hL : TyOk P L) {t : TypeId} {z b : Nat} {v : Value} (h : tget L t = some ⟨.bool, z, b, v⟩) : P.underlying t = some .bool := by
  obtain ⟨i, _, _, _, _, h5⟩ := hL.parts h
  unfold tdOf at h5
  split at h5 <;> first | (cases h5; assumption) | cases h5
theorem TyOk.str (hL : TyOk P L) {t : TypeId} {z b : Nat} {v : Value} (h : tget L t = some ⟨.str, z, b, v⟩) : P.underlying t = some .string := by
  obtain ⟨i, _, _, _, _, h5⟩ := hL.parts h
  unfold tdOf at h5
  split at h5 <;> first | (cases h5; assumption) | cases h5
theorem TyOk.ptr (hL : TyOk P L) {t e : TypeId} {z b : Nat} {v : Value} (h : tget L t = some ⟨.ptr e, z, b, v⟩) : P.underlying t = some (.pointer e) := by
  obtain ⟨i, _, _, _, _, h5⟩ := hL.parts h
  unfold tdOf at h5
  split at h5 <;> first | (cases h5; assumption) | cases h5
theorem TyOk.slice (hL : TyOk P L) {t e : TypeId} {z b : Nat} {v : Value} (h : tget L t = some ⟨.slice e, z, b, v⟩) : P.underlying t = some (.slice e) := by
  obtain ⟨i, _, _, _, _, h5⟩ := hL.parts h
  unfold tdOf at h5
  split at h5 <;> first | (cases h5; assumption) | cases h5
theorem TyOk.struct (hL : TyOk P L) {t : TypeId} {l : List (Nat × TypeId)} {z b : Nat} {v : Value} (h : tget L t = some ⟨.struct l, z, b, v⟩) : ∃ fs, P.underlying t = some (.struct fs) ∧ (fs.toList.map fun f => (f.offset, f.type)) = l := by
  obtain ⟨i, _, _, _, _, h5⟩ := hL.parts h
  unfold tdOf at h5
  split at h5 <;> first | (cases h5; exact ⟨_, ‹_›, rfl⟩) | cases h5
theorem TyOk.sizeOf (hL : TyOk P L) {t : TypeId} {d : TyD} (h : tget L t = some d) (w : World) : (sizeOf t).run P w = .ok d.size w := by
  obtain ⟨i, h1, h2, _⟩ := hL.parts h
  simp [Go.sizeOf, typeInfo, h1, h2]
theorem TyOk.zero (hL : TyOk P L) {t : TypeId} {d : TyD} (h : tget L t = some d) (w : World) : (zeroValue t).run P w = .ok d.zero w := by
  obtain ⟨i, h1, _, _, h4, _⟩ := hL.parts h
  simp [Go.zeroValue, typeInfo, h1, h4]
theorem isAgg_run {t : TypeId} {d : TypeDesc} (h : P.underlying t = some d) (w : World) : (isAgg t).run P w = .ok (match d with | .struct _ | .array _ _ => true | _ => false) w := by
  simp only [isAgg, Sem.run_bind, run_underlying h, Result.andThen_ok]
  cases d <;> rfl
theorem TyOk.one (hL : TyOk P L) {t : TypeId} {z b : Nat} {v : Value} (h : tget L t = some ⟨.one, z, b, v⟩) (w : World) : (isAgg t).run P w = .ok false w := by
  obtain ⟨i, _, _, _, _, h5⟩ := hL.parts h
  unfold tdOf at h5
  split at h5 <;> first | (cases h5; done) | skip
  rename_i d hd h1 h2 h3 h4 h6 h7 h8
  rw [isAgg_run h8]
  split
  · exact (h6 _ rfl).elim
  · exact (h7 _ _ rfl).elim
  · rfl
end
/-- of a type that the table tells whole: is it a struct? -/
def TD.agg : TD → Option Bool
  | .struct _ => some true
  | .other => none
  | _ => some false
theorem TyOk.agg {P : Program} {L : List TyD} (hL : TyOk P L) {t : TypeId} {d : TyD} (h : tget L t = some d) {b : Bool} (hb : d.d.agg = some b) (w : World) : (isAgg t).run P w = .ok b w := by
  obtain ⟨dd, z, by_, zv⟩ := d
  cases dd <;> simp only [TD.agg, Option.some.injEq, reduceCtorEq] at hb <;> subst hb
  · rw [isAgg_run (hL.int h)]
  · rw [isAgg_run (hL.bool h)]
  · rw [isAgg_run (hL.str h)]
  · rw [isAgg_run (hL.ptr h)]
  · rw [isAgg_run (hL.slice h)]
  · obtain ⟨fs, h1, _⟩ := hL.struct h
    rw [isAgg_run h1]
  · exact hL.one h w
end Go.Qe
