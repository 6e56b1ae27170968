/- The layer's further operations: parts of slices, structs built, least and greatest, results that lie in cells. -/
import Derived.Test.YthelgjfdkdaijaaDoorEng6
namespace Go.Qe
open Go.RowKit

section
variable {P : Program} {Q : Exit → Act → World → Prop} {N : Cx} {w0 : World} {k k' : List Kont} {fr : Fr} {H H1 : Heap} {L : List TyD} {o : Oper}

/-- an empty literal of a slice -/
theorem WP.bs0 (hL : TyOk P L) {all : Array Oper} {rest : List Oper} {d : Nat} {t e : TypeId} {sz sb eb z : Nat} {sv ev : Value} {td : TD} (hn : norm 1000 k = .ops all (o :: rest) :: k') (hd : o.dst = some d) (hN : Nat.blt d N.size = true) (hg : o.guard = none)
    (ho : o.op = .buildSlice t 0 #[]) (ht : tget L t = some ⟨.slice e, sz, sb, sv⟩) (he : tget L e = some ⟨td, z, eb, ev⟩)
    (h : ∀ g, WP P Q N w0 (.ops all rest :: k') ((d, .slice (some ⟨g, 0, none⟩) 0 0) :: fr) (.blk g e [] :: H)) : WP P Q N w0 k fr H := by
  refine WP.eff hn hd hN hg fun a w ha hw => ⟨.slice (some ⟨w.heap.size, 0, none⟩) 0 0, w.alloc (.cells ([] : List Value).toArray e), _, ?_, hw.alloc e [], h w.heap.size⟩
  have hs := hL.sizeOf he w
  have e0 : ∀ f : Nat → Value, (Array.range 0).map f = #[] := fun f => Array.ext' (by simp)
  simp [execOp, ho, Instr.buildSlice, Sem.run_bind, run_underlying (hL.slice ht), Result.andThen_ok, hs, Instr.fill, newRow_run, e0]

/-- a struct put together -/
def buildCells (L : List TyD) (fs : List (Nat × TypeId)) (fr : Fr) : List (Nat × Operand) → List Value → Option (List Value)
  | [], cs => some cs
  | (i, x) :: r, cs => match lget fs i, val fr x with
    | some (off, t), some v => match tget L t with
      | some td => match Nat.beq v.cells.toList.length td.size && Nat.ble (off + td.size) cs.length with
        | true => buildCells L fs fr r (setN cs off v.cells.toList)
        | false => none
      | none => none
    | _, _ => none
theorem setN_length {cs l : List Value} {o : Nat} (h : o + l.length ≤ cs.length) : (setN cs o l).length = cs.length := by
  simp [setN]; omega
theorem build_fill {a : Act} (hL : TyOk P L) (ha : Knows N fr a) {fs : List (Nat × TypeId)} {places : Array (Nat × Nat)} (hp : ∀ i off t td, lget fs i = some (off, t) → tget L t = some td → places[i]? = some (off, td.size)) :
    ∀ (ps : List (Nat × Operand)) (A : Array Value) (cs : List Value), buildCells L fs fr ps A.toList = some cs → Instr.fill (places[·]?) A (ps.map fun (i, x) => (i, a.eval x)) = some cs.toArray
  | [], A, cs, h => by simp only [buildCells, Option.some.injEq] at h; subst h; simp [Instr.fill]
  | (i, x) :: r, A, cs, h => by
    simp only [buildCells] at h
    split at h
    · rename_i off t v hf hx
      split at h
      · rename_i td htd
        split at h
        · rename_i hb
          simp only [Bool.and_eq_true] at hb
          have h1 : v.cells.size = td.size := by simpa using Nat.eq_of_beq_eq_true hb.1
          have h2 : off + td.size ≤ A.toList.length := Nat.le_of_ble_eq_true hb.2
          have h2' : off + td.size ≤ A.size := by simpa using h2
          simp only [List.map_cons, Instr.fill, ha.eval hx, hp i off t td hf htd, h1, ne_eq, not_true_eq_false, decide_false, Bool.false_or]
          rw [if_neg (by simp; omega)]
          have hfold := fold_set v.cells.toList 0 off A (by simp [h1]; omega)
          simp only [Nat.add_zero] at hfold
          have e2 : (v.cells.zipIdx.foldl (fun cs (x : Value × Nat) => cs.setIfInBounds (off + x.2) x.1) A).toList = setN A.toList off v.cells.toList := by
            rw [← Array.foldl_toList]
            simp only [Array.toList_zipIdx]
            rw [hfold]
            rfl
          rw [← e2] at h
          exact build_fill hL ha hp r _ cs h
        · cases h
      · cases h
    · cases h
/-- the fields' types are all in the table -/
def fieldsIn (L : List TyD) : List (Nat × TypeId) → Bool
  | [] => true
  | (_, t) :: r => (tget L t).isSome && fieldsIn L r
theorem fields_places (hL : TyOk P L) : ∀ (l : List Field) (w : World), fieldsIn L (l.map fun f => (f.offset, f.type)) = true →
    (l.mapM (fun f => do pure (f.offset, ← Go.sizeOf f.type) : Field → Sem (Nat × Nat))).run P w = .ok (l.map fun f => (f.offset, match tget L f.type with | some td => td.size | none => 0)) w
  | [], w, _ => by simp
  | f :: r, w, h => by
    simp only [List.map_cons, fieldsIn, Bool.and_eq_true] at h
    obtain ⟨td, htd⟩ := Option.isSome_iff_exists.1 h.1
    have := hL.sizeOf htd w
    have ih := fields_places hL r w h.2
    simp only [List.mapM_cons, Sem.run_bind, this, Result.andThen_ok, Sem.run_pure, ih, List.map_cons, htd]
theorem buildG (hL : TyOk P L) {t : TypeId} {sz sb : Nat} {sv : Value} {fs : List (Nat × TypeId)} {ps : Array (Nat × Operand)} {cs : List Value} (ho : o.op = .build t ps) (ht : tget L t = some ⟨.struct fs, sz, sb, sv⟩) (hf : fieldsIn L fs = true)
    (hb : buildCells L fs fr ps.toList sv.cells.toList = some cs) : Gives P N w0 fr H o (.agg cs.toArray) := by
  intro a w ha _
  obtain ⟨fds, h1, h2⟩ := hL.struct ht
  have hz := hL.zero ht w
  have h3 := fields_places hL fds.toList w (by rw [h2]; exact hf)
  have e1 : (ps.map fun (i, x) => (i, a.eval x)).toList = ps.toList.map fun (i, x) => (i, a.eval x) := by simp
  have e3 : (fds.mapM (fun f => do pure (f.offset, ← Go.sizeOf f.type) : Field → Sem (Nat × Nat))).run P w = .ok ((fds.toList.map fun f => (f.offset, match tget L f.type with | some td => td.size | none => 0)).toArray) w := by
    rw [Array.mapM_eq_mapM_toList]
    show (Sem.bind (fds.toList.mapM (fun f => do pure (f.offset, ← Go.sizeOf f.type) : Field → Sem (Nat × Nat))) (Sem.pure ∘ List.toArray)).run P w = _
    have := @Sem.run_bind
    erw [Sem.run_bind, h3]
    rfl
  have h4 := build_fill (P := P) (places := (fds.toList.map fun f => (f.offset, match tget L f.type with | some td => td.size | none => 0)).toArray) hL ha (fun i off t td hl htd => by
    rw [← h2] at hl
    obtain ⟨fd, g1, g2, g3⟩ := fields_get (fs := fds) rfl hl
    have g1' : fds.toList[i]? = some fd := by simpa using g1
    subst g2 g3
    simp [g1', htd]) ps.toList sv.cells cs hb
  simp only [execOp, ho, Instr.build, Sem.run_bind, hz, run_underlying h1, Result.andThen_ok, e3, e1]
  simp only [h4, Sem.run_pure, Result.andThen_ok, Sem.run_bind]
theorem WP.bld (hL : TyOk P L) {all : Array Oper} {c : Prop} {d : Nat} {t : TypeId} {sz sb : Nat} {sv : Value} {fs : List (Nat × TypeId)} {ps : Array (Nat × Operand)} {cs : List Value} (hn : headOp w0 H (norm 1000 k) = some (all, o, k', c)) (hc : c) (hd : o.dst = some d) (hN : Nat.blt d N.size = true) (hg : o.guard = none)
    (ho : o.op = .build t ps) (ht : tget L t = some ⟨.struct fs, sz, sb, sv⟩) (hf : fieldsIn L fs = true) (hb : buildCells L fs fr ps.toList sv.cells.toList = some cs)
    (h : WP P Q N w0 k' ((d, .agg cs.toArray) :: fr) H) : WP P Q N w0 k fr H := WP.rd hn hc hd hN hg (buildG hL ho ht hf hb) h

/-- a part of a slice -/
def bndIs (fr : Fr) (x : Option Operand) (d j : Nat) : Prop :=
  match x with
  | none => j = d
  | some x => ∃ k, val fr x = some (.int k (Int.ofNat j))
theorem sliceBound_run {kx : IntKind} {j y : Nat} (h : j ≤ y) (c : BoundsCode) (w : World) : (Instr.sliceBound (.int kx (Int.ofNat j)) y c).run P w = .ok j w := by
  have h2 : (0 : Int) ≤ Int.ofNat j ∧ Int.ofNat j ≤ (y : Int) := ⟨by simp, by simpa using h⟩
  simp only [Instr.sliceBound, asIntOf, Sem.run_bind, Sem.run_pure, Result.andThen_ok, if_pos h2]
  rfl
theorem bounds_run {a : Act} (ha : Knows N fr a) {lo hi mx : Option Operand} {n c l h m : Nat} (h3 : hi = none → mx = none) (hm : bndIs fr mx c m) (hh : bndIs fr hi n h) (hl : bndIs fr lo 0 l) (h1 : l ≤ h) (h2 : h ≤ m) (h4 : m ≤ c) (b : Bool) (w : World) :
    (Instr.sliceBounds b n c (lo.map a.eval) (hi.map a.eval) (mx.map a.eval)).run P w = .ok (l, h, m) w := by
  cases mx with
  | none =>
    have hm' : m = c := hm
    subst hm'
    cases hi with
    | none =>
      have hh' : h = n := hh
      subst hh'
      cases lo with
      | none =>
        have hl' : l = 0 := hl
        subst hl'
        simp [Instr.sliceBounds]
      | some x =>
        obtain ⟨kx, hx⟩ := hl
        simp only [Instr.sliceBounds, Option.map_some, Option.map_none, Sem.run_bind, Sem.run_pure, Result.andThen_ok, ha.eval hx, sliceBound_run h1]
    | some y =>
      obtain ⟨ky, hy⟩ := hh
      cases lo with
      | none =>
        have hl' : l = 0 := hl
        subst hl'
        simp only [Instr.sliceBounds, Option.map_some, Option.map_none, Sem.run_bind, Sem.run_pure, Result.andThen_ok, ha.eval hy, sliceBound_run h2]
      | some x =>
        obtain ⟨kx, hx⟩ := hl
        simp only [Instr.sliceBounds, Option.map_some, Option.map_none, Sem.run_bind, Sem.run_pure, Result.andThen_ok, ha.eval hx, ha.eval hy, sliceBound_run h1, sliceBound_run h2]
  | some z =>
    obtain ⟨kz, hz⟩ := hm
    cases hi with
    | none => cases h3 rfl
    | some y =>
      obtain ⟨ky, hy⟩ := hh
      cases lo with
      | none =>
        have hl' : l = 0 := hl
        subst hl'
        simp only [Instr.sliceBounds, Option.map_some, Option.map_none, Sem.run_bind, Sem.run_pure, Result.andThen_ok, ha.eval hy, ha.eval hz, sliceBound_run h2, sliceBound_run h4]
      | some x =>
        obtain ⟨kx, hx⟩ := hl
        simp only [Instr.sliceBounds, Option.map_some, Option.map_none, Sem.run_bind, Sem.run_pure, Result.andThen_ok, ha.eval hx, ha.eval hy, ha.eval hz, sliceBound_run h1, sliceBound_run h2, sliceBound_run h4]
theorem slG (hL : TyOk P L) {t e : TypeId} {x : Operand} {lo hi mx : Option Operand} {sz sb : Nat} {sv : Value} {de : TyD} {A : Option Addr} {n c l h m : Nat} (ho : o.op = .slice t x lo hi mx) (ht : tget L t = some ⟨.slice e, sz, sb, sv⟩) (he : tget L e = some de)
    (hx : val fr x = some (.slice A n c)) (h3 : hi = none → mx = none) (hm : bndIs fr mx c m) (hh : bndIs fr hi n h) (hl : bndIs fr lo 0 l) (h1 : l ≤ h) (h2 : h ≤ m) (h4 : m ≤ c) :
    Gives P N w0 fr H o (.slice (if m = l then A else A.map (·.add (l * de.size))) (h - l) (m - l)) := by
  intro a w ha _
  have hs := hL.sizeOf he w
  simp only [execOp, ho, ha.eval hx, Instr.sliceAt, Instr.slice, Sem.run_bind, run_underlying (hL.slice ht), Result.andThen_ok, bounds_run (P := P) ha h3 hm hh hl h1 h2 h4, hs, Sem.run_pure]
theorem WP.sl (hL : TyOk P L) {all : Array Oper} {cc : Prop} {d : Nat} {t e : TypeId} {x : Operand} {lo hi mx : Option Operand} {sz sb b off : Nat} {sv : Value} {de : TyD} {n c l h m : Nat} (hn : headOp w0 H (norm 1000 k) = some (all, o, k', cc)) (hc : cc) (hd : o.dst = some d) (hN : Nat.blt d N.size = true) (hg : o.guard = none)
    (ho : o.op = .slice t x lo hi mx) (ht : tget L t = some ⟨.slice e, sz, sb, sv⟩) (he : tget L e = some de) (hx : val fr x = some (.slice (some ⟨b, off, none⟩) n c)) (h3 : hi = none → mx = none) (hm : bndIs fr mx c m) (hh : bndIs fr hi n h) (hl : bndIs fr lo 0 l) (h1 : l ≤ h) (h2 : h ≤ m) (h4 : m ≤ c)
    (hk : ∀ A', (l < m → A' = some ⟨b, off + l * de.size, none⟩) → WP P Q N w0 k' ((d, .slice A' (h - l) (m - l)) :: fr) H) : WP P Q N w0 k fr H :=
  WP.rd hn hc hd hN hg (slG hL ho ht he hx h3 hm hh hl h1 h2 h4) (hk _ fun hlt => by
    rw [if_neg (by omega)]
    simp only [Option.map_some, add_addr]
    by_cases h0 : l * de.size = 0
    · rw [if_pos h0, h0]; simp
    · rw [if_neg h0])
theorem WP.sl0 (hL : TyOk P L) {all : Array Oper} {cc : Prop} {d : Nat} {t e : TypeId} {x : Operand} {lo hi mx : Option Operand} {sz sb : Nat} {sv : Value} {de : TyD} {n c l h m : Nat} (hn : headOp w0 H (norm 1000 k) = some (all, o, k', cc)) (hc : cc) (hd : o.dst = some d) (hN : Nat.blt d N.size = true) (hg : o.guard = none)
    (ho : o.op = .slice t x lo hi mx) (ht : tget L t = some ⟨.slice e, sz, sb, sv⟩) (he : tget L e = some de) (hx : val fr x = some (.slice none n c)) (h3 : hi = none → mx = none) (hm : bndIs fr mx c m) (hh : bndIs fr hi n h) (hl : bndIs fr lo 0 l) (h1 : l ≤ h) (h2 : h ≤ m) (h4 : m ≤ c)
    (hk : WP P Q N w0 k' ((d, .slice none (h - l) (m - l)) :: fr) H) : WP P Q N w0 k fr H :=
  WP.rd hn hc hd hN hg (slG hL ho ht he hx h3 hm hh hl h1 h2 h4) (by
    by_cases h0 : m = l
    · rw [if_pos h0]; exact hk
    · rw [if_neg h0]; exact hk)
/-- the lesser, the greater of two integers -/
theorem WP.mn {all : Array Oper} {cc : Prop} {d : Nat} {x y : Operand} {ats : Array TypeId} {ki kj : IntKind} {m n : Int} (hn : headOp w0 H (norm 1000 k) = some (all, o, k', cc)) (hc : cc) (hd : o.dst = some d) (hN : Nat.blt d N.size = true) (hg : o.guard = none)
    (ho : o.op = .call ⟨.builtin .min, #[x, y], ats⟩) (hx : val fr x = some (.int ki m)) (hy : val fr y = some (.int kj n)) (hk : WP P Q N w0 k' ((d, .int ki (if n < m then n else m)) :: fr) H) : WP P Q N w0 k fr H :=
  WP.rd hn hc hd hN hg (fun a w ha _ => by
    simp only [execOp, ho, resolve, invoke, builtin, Sem.run_bind, Sem.run_pure, Result.andThen_ok, List.map_toArray, List.map_cons, List.map_nil, ha.eval hx, ha.eval hy, Builtin.min_, List.foldlM, Builtin.min2]) hk
theorem WP.mx {all : Array Oper} {cc : Prop} {d : Nat} {x y : Operand} {ats : Array TypeId} {ki kj : IntKind} {m n : Int} (hn : headOp w0 H (norm 1000 k) = some (all, o, k', cc)) (hc : cc) (hd : o.dst = some d) (hN : Nat.blt d N.size = true) (hg : o.guard = none)
    (ho : o.op = .call ⟨.builtin .max, #[x, y], ats⟩) (hx : val fr x = some (.int ki m)) (hy : val fr y = some (.int kj n)) (hk : WP P Q N w0 k' ((d, .int ki (if n > m then n else m)) :: fr) H) : WP P Q N w0 k fr H :=
  WP.rd hn hc hd hN hg (fun a w ha _ => by
    simp only [execOp, ho, resolve, invoke, builtin, Sem.run_bind, Sem.run_pure, Result.andThen_ok, List.map_toArray, List.map_cons, List.map_nil, ha.eval hx, ha.eval hy, Builtin.max_, List.foldlM, Builtin.max2]) hk

/-- results, some of which lie in cells -/
def ResAt (L : List TyD) (fr : Fr) (H : Heap) : List ResultVar → List Value → Prop
  | [], vs => vs = []
  | .tmp t :: r, vs => ∃ v vs', fr.get t = some v ∧ ResAt L fr H r vs' ∧ vs = v :: vs'
  | .cell p t :: r, vs => ∃ v vs' b off, fr.get p = some (.pointer (some ⟨b, off, none⟩)) ∧ (∃ td, tget L t = some td ∧ ((td.d.agg = some false ∧ CellAt H b off v) ∨ (td.d.agg = some true ∧ ∃ l, v = .agg l.toArray ∧ l.length = td.size ∧ SegAt H b off l))) ∧ ResAt L fr H r vs' ∧ vs = v :: vs'
theorem loadVar_run (hL : TyOk P L) {t : TypeId} {td : TyD} {b off : Nat} {v : Value} (ht : tget L t = some td) (h : (td.d.agg = some false ∧ CellAt H b off v) ∨ (td.d.agg = some true ∧ ∃ l, v = .agg l.toArray ∧ l.length = td.size ∧ SegAt H b off l)) {w : World} (hw : KH w0 H w) :
    (loadVar t ⟨b, off, none⟩).run P w = .ok v w := by
  rcases h with ⟨ha, hc⟩ | ⟨ha, l, rfl, hl, hc⟩
  · simp only [loadVar, Sem.run_bind, hL.agg ht ha, Result.andThen_ok, Bool.false_eq_true, if_false, run_load, hc w0 w hw]
  · have hld := run_loadCells_list (P := P) w ⟨b, off, none⟩ l (fun j u hj => by
      have := hc w0 w hw j u hj
      have e : (⟨b, off, none⟩ : Addr).add j = ⟨b, off + j, none⟩ := by
        rw [add_addr]
        by_cases h0 : j = 0
        · subst h0; simp
        · rw [if_neg h0]
      rw [e]
      exact this)
    rw [hl] at hld
    simp only [loadVar, Sem.run_bind, hL.agg ht ha, Result.andThen_ok, if_true, hL.sizeOf ht w, hld, Sem.run_pure]
def resVal : List Value → Value
  | [v] => v
  | vs => .tuple vs.toArray
theorem resAt_run (hL : TyOk P L) {a : Act} {w : World} (ha : Knows N fr a) (hw : KH w0 H w) : ∀ (rs : List ResultVar) (vs : List Value), ResAt L fr H rs vs →
    (rs.mapM (fun | .tmp t => pure (a.tmps.getD t undef) | .cell p t => do loadVar t (← asAddr (a.tmps.getD p undef)) : ResultVar → Sem Value)).run P w = .ok vs w
  | [], vs, h => by cases h; simp
  | .tmp t :: r, vs, h => by
    obtain ⟨v, vs', h1, h2, rfl⟩ := h
    have ih := resAt_run hL ha hw r vs' h2
    simp only [List.mapM_cons, Sem.run_bind, Sem.run_pure, Result.andThen_ok, ha.getD h1, ih]
  | .cell p t :: r, vs, h => by
    obtain ⟨v, vs', b, off, h1, ⟨td, ht, h2⟩, h3, rfl⟩ := h
    have ih := resAt_run hL ha hw r vs' h3
    have e1 : (asAddr (.pointer (some ⟨b, off, none⟩))).run P w = .ok ⟨b, off, none⟩ w := rfl
    simp only [List.mapM_cons, Sem.run_bind, Sem.run_pure, Result.andThen_ok, ha.getD h1, e1, loadVar_run hL ht h2 hw, ih]
theorem results_run {fn : Func} {tmps : Array Value} {vs : List Value} {w w' : World}
    (h : (fn.results.toList.mapM (fun | .tmp t => pure (tmps.getD t undef) | .cell p t => do loadVar t (← asAddr (tmps.getD p undef)) : ResultVar → Sem Value)).run P w = .ok vs w') : (results fn tmps).run P w = .ok (resVal vs) w' := by
  unfold results
  rw [Sem.run_bind, Array.mapM_eq_mapM_toList]
  show (Sem.run P (Sem.bind _ (Sem.pure ∘ List.toArray)) w).andThen _ = _
  erw [Sem.run_bind, h]
  simp only [Result.andThen_ok, Function.comp]
  show (Sem.run P (pure vs.toArray) w').andThen _ = _
  rw [Sem.run_pure, Result.andThen_ok, Sem.run_pure]
  match vs with
  | [] => rfl
  | [v] => rfl
  | _ :: _ :: _ => rfl
theorem WP.retR {n : Nat} (hL : TyOk P L) {fn : Func} {R : Ending → World → Prop} {rs : List ResultVar} {vs : List Value} (hn : norm 1000 k = .code .ret :: k') (hr : fn.results.toList = rs) (hv : ResAt L fr H rs vs) (h : ∀ w, KH w0 H w → R (.returned (resVal vs)) w) : WP P (bodyPost P fn R) ⟨none, n, []⟩ w0 k fr H :=
  WP.ret_ hn (fun a w ha hw => results_run (by rw [hr]; exact resAt_run hL ha hw rs vs hv)) h
/-- append of a slice that is empty -/
theorem WP.app0 (hL : TyOk P L) {all : Array Oper} {rest : List Oper} {d : Nat} {t e : TypeId} {sz sb eb z c : Nat} {sv ev v : Value} {td : TD} {A : Option Addr} {s x : Operand} (hn : norm 1000 k = .ops all (o :: rest) :: k') (hd : o.dst = some d) (hN : Nat.blt d N.size = true) (hg : o.guard = none)
    (ho : o.op = .call ⟨.builtin .append, #[s, x], #[t, t]⟩) (ht : tget L t = some ⟨.slice e, sz, sb, sv⟩) (he : tget L e = some ⟨td, z, eb, ev⟩)
    (hs : val fr s = some v) (hx : val fr x = some (.slice A 0 c))
    (h : ∃ (cs : List Value) (n : Nat) (H1 : Heap), Rem (.own v e z n cs) H H1 ∧ WP P Q N w0 (.ops all rest :: k') ((d, v) :: fr) H) : WP P Q N w0 k fr H := by
  obtain ⟨cs, n, H1, hm, h⟩ := h
  refine WP.eff hn hd hN hg fun a w ha hw => ⟨v, w, H, ?_, hw, h⟩
  have hown : w.ownsRow 0 e z v n cs := hw.mem hm.mem.1
  have hu := run_underlying (P := P) (hL.slice ht)
  have hsz := hL.sizeOf he
  have hld : ∀ (size : Nat) (w : World), (Builtin.firstCells size 0 (.slice A 0 c)).run P w = .ok #[] w := fun size w => by
    cases A with
    | none => rfl
    | some a =>
      have := run_loadCells_list (P := P) w a [] (fun j u hj => by simp at hj)
      simpa [Builtin.firstCells] using this
  have hst : ∀ (a : Addr) (w : World), (storeCells a (#[] : Array Value).toList).run P w = .ok () w := fun a w => rfl
  have hin : ∀ (n cap : Nat) (base : Option Addr), n ≤ cap → (Builtin.append_ #[t, t] o.type #[.slice base n cap, .slice A 0 c]).run P w = .ok (.slice base n cap) w := fun n cap base hle => by
    unfold Builtin.append_
    simp only [List.getElem?_toArray, List.getElem?_cons_zero, List.getElem?_cons_succ, Sem.run_bind, hu, Result.andThen_ok, hsz, Sem.run_pure, Builtin.lenOf, Bool.false_eq_true, if_false, Nat.add_zero, if_pos hle, Bool.not_false, if_true, hld]
    cases base with
    | none => rfl
    | some a => simp only [Sem.run_bind, hst, Result.andThen_ok, Sem.run_pure]
  simp only [execOp, ho, resolve, invoke, builtin, Sem.run_bind, Sem.run_pure, Result.andThen_ok, List.map_toArray, List.map_cons, List.map_nil, ha.eval hs, ha.eval hx]
  rcases hown.2 with ⟨rfl, rfl⟩ | ⟨g, cap, cur, rfl, _, _, hle, _⟩
  · rw [hin 0 0 none (Nat.le_refl _)]; rfl
  · rw [hin n cap _ hle]; rfl
/-- a block with no slack, taken for the slice's own that stands at its head -/
theorem WP.shut0 {g : Nat} {e : TypeId} {z n : Nat} {cs : List Value} (hm : Rem (.blk g e cs) H H1) (hcap : n ≤ 9223372036854775807) (hcs : cs.length = n * z)
    (h : WP P Q N w0 k fr (.own (.slice (some ⟨g, 0, none⟩) n n) e z n cs :: H1)) : WP P Q N w0 k fr H :=
  WP.shut (sl := []) (by simpa using hm) (Nat.le_refl _) hcap (by simpa using hcs) hcs h
end
end Go.Qe
