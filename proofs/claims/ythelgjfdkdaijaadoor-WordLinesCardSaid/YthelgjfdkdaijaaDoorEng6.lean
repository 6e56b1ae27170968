/- The layer's slices of the call's own, calls, the way in and the way out, statements that draw their order. -/
import Derived.Test.YthelgjfdkdaijaaDoorEng5
import Derived.Deep.Quiet
namespace Go.Qe
open Go.RowKit

section
variable {P : Program} {Q : Exit → Act → World → Prop} {N : Cx} {w0 : World} {k k' : List Kont} {fr : Fr} {H H1 : Heap} {L : List TyD} {o : Oper}

theorem fold_set (l : List Value) : ∀ (s off : Nat) (A : Array Value), off + s + l.length ≤ A.size →
    ((l.zipIdx s).foldl (fun cs (x : Value × Nat) => cs.setIfInBounds (off + x.2) x.1) A).toList = A.toList.take (off + s) ++ l ++ A.toList.drop (off + s + l.length) := by
  induction l with
  | nil => intro s off A h; simp
  | cons v r ih =>
    intro s off A h
    simp only [List.length_cons] at h
    simp only [List.zipIdx_cons, List.foldl_cons]
    rw [ih (s + 1) off (A.setIfInBounds (off + s) v) (by simpa using (by omega : off + (s + 1) + r.length ≤ A.size))]
    have e := list_seg_step A.toList (off + s) v r (by simp; omega)
    simpa [Array.toList_setIfInBounds, Nat.add_assoc] using e
theorem seg_two (T v : List Value) (p z q : Nat) (hv : v.length = z) (hp : p ≤ T.length) :
    (T.take p ++ v ++ T.drop (p + z)).take (p + z) = T.take p ++ v ∧ (T.take p ++ v ++ T.drop (p + z)).drop (p + z + q) = T.drop (p + z + q) := by
  have hl : (T.take p ++ v).length = p + z := by simp [hv]; omega
  constructor
  · rw [List.take_append, hl, Nat.sub_self, List.take_zero, List.append_nil, List.take_of_length_le (by omega)]
  · rw [List.drop_append, hl, List.drop_of_length_le (by omega), List.nil_append, List.drop_drop]
    congr 1
    omega
/-- the parts of a literal, in their order, each of one size -/
def bsVals (fr : Fr) : List (Nat × Operand) → Nat → Option (List Value)
  | [], _ => some []
  | (i, x) :: r, s => match Nat.beq i s, val fr x with
    | true, some v => match bsVals fr r (s + 1) with
      | some l => some (v :: l)
      | none => none
    | _, _ => none
def allSize (z : Nat) : List Value → Bool
  | [] => true
  | v :: r => Nat.beq v.cells.toList.length z && allSize z r
def cellsOf : List Value → List Value
  | [] => []
  | v :: r => v.cells.toList ++ cellsOf r
theorem fill_run {a : Act} (ha : Knows N fr a) (z : Nat) : ∀ (ps : List (Nat × Operand)) (s : Nat) (vs : List Value) (A : Array Value), bsVals fr ps s = some vs → allSize z vs = true → s * z + vs.length * z ≤ A.size →
    ∃ B, Instr.fill (fun i => some (i * z, z)) A (ps.map fun (i, x) => (i, a.eval x)) = some B ∧ B.toList = A.toList.take (s * z) ++ cellsOf vs ++ A.toList.drop (s * z + vs.length * z)
  | [], s, vs, A, h, _, _ => by simp only [bsVals] at h; cases h; exact ⟨A, rfl, by simp [cellsOf]⟩
  | (i, x) :: r, s, vs, A, h, hz, hA => by
    simp only [bsVals] at h
    split at h
    · rename_i v hi hx
      have hi' : i = s := Nat.eq_of_beq_eq_true hi
      subst hi'
      split at h
      · rename_i l hl
        cases h
        simp only [allSize, Bool.and_eq_true] at hz
        have hv : v.cells.size = z := by have := Nat.eq_of_beq_eq_true hz.1; simpa using this
        simp only [List.length_cons, Nat.add_mul, Nat.one_mul] at hA
        have hfold := fold_set v.cells.toList 0 (i * z) A (by simp [hv]; omega)
        obtain ⟨B, h1, h2⟩ := fill_run ha z r (i + 1) l ((v.cells.toList.zipIdx 0).foldl (fun cs (x : Value × Nat) => cs.setIfInBounds (i * z + x.2) x.1) A) hl hz.2 (by
          have := congrArg List.length hfold
          simp only [Array.length_toList, List.length_append, List.length_take, List.length_drop, hv, Nat.add_zero] at this
          rw [this, Nat.add_mul, Nat.one_mul]; omega)
        refine ⟨B, ?_, ?_⟩
        · simp only [List.map_cons, Instr.fill, ha.eval hx, hv, ne_eq, not_true_eq_false, decide_false, Bool.false_or]
          rw [if_neg (by simp; omega)]
          rw [← h1]
          congr 1
          rw [← Array.foldl_toList]
          simp
        · rw [h2, hfold]
          have e1 : (i + 1) * z = i * z + z := by rw [Nat.add_mul, Nat.one_mul]
          simp only [cellsOf, List.length_cons, Nat.add_zero, e1, Nat.add_mul, Nat.one_mul]
          have hl2 : v.cells.toList.length = z := by simp [hv]
          obtain ⟨h3, h4⟩ := seg_two A.toList v.cells.toList (i * z) z (l.length * z) hl2 (by simp; omega)
          rw [hl2, h3, h4]
          simp only [List.append_assoc]
          rw [show i * z + (l.length * z + z) = i * z + z + l.length * z by omega]
      · cases h
    · cases h
theorem cellsOf_length {z : Nat} : ∀ {vs : List Value}, allSize z vs = true → (cellsOf vs).length = vs.length * z
  | [], _ => by simp [cellsOf]
  | v :: r, h => by
    simp only [allSize, Bool.and_eq_true] at h
    have := Nat.eq_of_beq_eq_true h.1
    have := cellsOf_length h.2
    simp only [cellsOf, List.length_append, List.length_cons, Nat.add_mul, Nat.one_mul]
    omega
/-- a literal of a slice -/
theorem bs_run (hL : TyOk P L) {a : Act} (ha : Knows N fr a) {t e : TypeId} {len sz sb eb z : Nat} {sv ev : Value} {td : TD} {ps : Array (Nat × Operand)} {vs : List Value}
    (ho : o.op = .buildSlice t len ps) (ht : tget L t = some ⟨.slice e, sz, sb, sv⟩) (he : tget L e = some ⟨td, z, eb, ev⟩) (hv : bsVals fr ps.toList 0 = some vs) (hz : allSize z vs = true) (hlen : Nat.beq vs.length len = true) (hsm : Nat.ble (len * z) 16777216 = true) (hpos : Nat.blt 0 (len * z) = true) (w : World) :
    (execOp a.eval o).run P w = .ok (.value (.slice (some ⟨w.heap.size, 0, none⟩) len len)) (w.alloc (.cells (cellsOf vs).toArray e)) := by
  have hlen' : vs.length = len := Nat.eq_of_beq_eq_true hlen
  have hsm' : len * z ≤ 16777216 := Nat.le_of_ble_eq_true hsm
  have hpos' : 0 < len * z := by rwa [Nat.blt_eq] at hpos
  have hs := hL.sizeOf he w
  have hzv := hL.zero he w
  obtain ⟨B, h1, h2⟩ := fill_run ha z ps.toList 0 vs ((Array.range (len * z)).map (ev.cells[· % ev.cells.size]!)) hv hz (by simp [hlen'])
  have hB : B = (cellsOf vs).toArray := by
    apply Array.ext'
    rw [h2]
    have hd : ((Array.range (len * z)).map (ev.cells[· % ev.cells.size]!)).toList.drop (0 * z + vs.length * z) = [] := by
      apply List.drop_of_length_le
      simp [hlen']
    rw [hd]
    simp
  have e1 : (ps.map fun (i, x) => (i, a.eval x)).toList = ps.toList.map fun (i, x) => (i, a.eval x) := by simp
  simp only [execOp, ho, Instr.buildSlice, Sem.run_bind, run_underlying (hL.slice ht), Result.andThen_ok, hs]
  rw [if_neg (by omega), if_neg (by omega)]
  simp only [Sem.run_bind, hzv, Result.andThen_ok, Sem.run_pure, e1, h1, newRow_run, hB]
theorem WP.bs (hL : TyOk P L) {all : Array Oper} {rest : List Oper} {d : Nat} {t e : TypeId} {len sz sb eb z : Nat} {sv ev : Value} {td : TD} {ps : Array (Nat × Operand)} {vs : List Value} (hn : norm 1000 k = .ops all (o :: rest) :: k') (hd : o.dst = some d) (hN : Nat.blt d N.size = true) (hg : o.guard = none)
    (ho : o.op = .buildSlice t len ps) (ht : tget L t = some ⟨.slice e, sz, sb, sv⟩) (he : tget L e = some ⟨td, z, eb, ev⟩) (hv : bsVals fr ps.toList 0 = some vs) (hz : allSize z vs = true) (hlen : Nat.beq vs.length len = true) (hsm : Nat.ble (len * z) 16777216 = true) (hpos : Nat.blt 0 (len * z) = true)
    (h : ∀ g, WP P Q N w0 (.ops all rest :: k') ((d, .slice (some ⟨g, 0, none⟩) len len) :: fr) (.blk g e (cellsOf vs) :: H)) : WP P Q N w0 k fr H :=
  WP.eff hn hd hN hg fun a w ha hw => ⟨.slice (some ⟨w.heap.size, 0, none⟩) len len, w.alloc (.cells (cellsOf vs).toArray e), _, bs_run hL ha ho ht he hv hz hlen hsm hpos w, hw.alloc e (cellsOf vs), h w.heap.size⟩
theorem bsVals_eval {a : Act} (ha : Knows N fr a) : ∀ (ps : List (Nat × Operand)) (s : Nat) (vs : List Value), bsVals fr ps s = some vs → (ps.map (·.2)).map a.eval = vs
  | [], s, vs, h => by simp only [bsVals] at h; cases h; rfl
  | (i, x) :: r, s, vs, h => by
    simp only [bsVals] at h
    split at h
    · rename_i v hi hx
      split at h
      · rename_i l hl
        cases h
        rw [List.map_cons, List.map_cons, ha.eval hx, bsVals_eval ha r (s + 1) l hl]
      · cases h
    · cases h
/-- 'make' of elements of one cell -/
theorem mk1_run (hL : TyOk P L) {a : Act} (ha : Knows N fr a) {t e : TypeId} {sz sb eb n : Nat} {sv ev : Value} {td : TD} {x y : Operand} {ki kj : IntKind}
    (ho : o.op = .makeSlice t x y) (ht : tget L t = some ⟨.slice e, sz, sb, sv⟩) (he : tget L e = some ⟨td, 1, eb, ev⟩) (hev : ev.cells = #[ev]) (hx : val fr x = some (.int ki (Int.ofNat n))) (hy : val fr y = some (.int kj (Int.ofNat n))) (hby : eb * n ≤ 281474976710656) (h63 : n ≤ 9223372036854775807) (w : World) :
    (execOp a.eval o).run P w = .ok (.value (.slice (some ⟨w.heap.size, 0, none⟩) n n)) (w.alloc (.cells (List.replicate n ev).toArray e)) := by
  obtain ⟨i, h1, h2, h3, h4, _⟩ := hL.parts he
  have hb : (i.bytes : Int) * (n : Int) ≤ 281474976710656 := by
    have h : ((i.bytes * n : Nat) : Int) ≤ 281474976710656 := by rw [h3]; simp only; omega
    rwa [Int.natCast_mul] at h
  have hr := run_make (P := P) w t e i ev (hL.slice ht) h1 h4 ki kj n n (by omega) (by omega) hb (by omega)
  simp only [Int.toNat_natCast] at hr
  have hm : madeCells ev.cells (n * i.size) = (List.replicate n ev).toArray := by
    apply Array.ext'
    rw [h2, hev, Nat.mul_one]
    exact toList_madeCells_one ev n
  rw [hm] at hr
  simp only [execOp, ho, ha.eval hx, ha.eval hy, Sem.run_bind]
  have hr' : (Instr.makeSlice t (.int ki (Int.ofNat n)) (.int kj (Int.ofNat n))).run P w = _ := hr
  rw [hr']
  rfl

theorem WP.mk1 (hL : TyOk P L) {all : Array Oper} {rest : List Oper} {d : Nat} {t e : TypeId} {sz sb eb n : Nat} {sv ev : Value} {td : TD} {x y : Operand} {ki kj : IntKind} (hn : norm 1000 k = .ops all (o :: rest) :: k') (hd : o.dst = some d) (hN : Nat.blt d N.size = true) (hg : o.guard = none)
    (ho : o.op = .makeSlice t x y) (ht : tget L t = some ⟨.slice e, sz, sb, sv⟩) (he : tget L e = some ⟨td, 1, eb, ev⟩) (hev : ev.cells = #[ev]) (hx : val fr x = some (.int ki (Int.ofNat n))) (hy : val fr y = some (.int kj (Int.ofNat n))) (hby : eb * n ≤ 281474976710656) (h63 : n ≤ 9223372036854775807)
    (h : ∀ g, WP P Q N w0 (.ops all rest :: k') ((d, .slice (some ⟨g, 0, none⟩) n n) :: fr) (.blk g e (List.replicate n ev) :: H)) : WP P Q N w0 k fr H :=
  WP.eff hn hd hN hg fun a w ha hw => ⟨.slice (some ⟨w.heap.size, 0, none⟩) n n, w.alloc (.cells (List.replicate n ev).toArray e), _, mk1_run hL ha ho ht he hev hx hy hby h63 w, hw.alloc e _, h w.heap.size⟩
/-- the nil slice is a slice of the call's own -/
theorem WP.own_nil (e : TypeId) (size : Nat) (h : WP P Q N w0 k fr (.own (.slice none 0 0) e size 0 [] :: H)) : WP P Q N w0 k fr H := fun a w ha hw =>
  h a w ha ⟨hw.glob, List.pairwise_cons.2 ⟨fun q _ b hb => by simp [Piece.foot, Value.ownBlock] at hb, hw.apart⟩, fun p hp => by
    rcases List.mem_cons.1 hp with rfl | hp
    · exact World.ownsRow_nil w 0 e size
    · exact hw.holds p hp⟩
theorem exo {α β γ : Type} {p q : α → β → γ → Prop} {x : α} {y : β} {z : γ} (h1 : p x y z) (h2 : q x y z) : ∃ x y z, p x y z ∧ q x y z := ⟨_, _, _, h1, h2⟩
/-- append of what lies at a place to a slice of the call's own -/
theorem WP.app (hL : TyOk P L) {all : Array Oper} {rest : List Oper} {d : Nat} {t e : TypeId} {sz sb eb z m c b off : Nat} {sv ev v : Value} {td : TD} {s x : Operand} (hn : norm 1000 k = .ops all (o :: rest) :: k') (hd : o.dst = some d) (hN : Nat.blt d N.size = true) (hg : o.guard = none)
    (ho : o.op = .call ⟨.builtin .append, #[s, x], #[t, t]⟩) (ht : tget L t = some ⟨.slice e, sz, sb, sv⟩) (he : tget L e = some ⟨td, z, eb, ev⟩) (hev : Nat.beq ev.cells.toList.length z = true) (hz : Nat.blt 0 z = true)
    (hs : val fr s = some v) (hx : val fr x = some (.slice (some ⟨b, off, none⟩) m c))
    (h : ∃ (cs : List Value) (n : Nat) (H1 : Heap), Rem (.own v e z n cs) H H1 ∧ ∃ news, (SegAt H b off news ∧ news.length = m * z) ∧ oneCells news = true ∧ n + m ≤ 9223372036854775807 ∧ (n + m) * eb ≤ 140737488355328 ∧
      ∀ v', WP P Q N w0 (.ops all rest :: k') ((d, v') :: fr) (.own v' e z (n + m) (cs ++ news) :: H1)) : WP P Q N w0 k fr H := by
  obtain ⟨cs, n, H1, hm, news, ⟨hsrc, hl⟩, h1, h63, hby, h⟩ := h
  refine WP.eff hn hd hN hg fun a w ha hw => ?_
  obtain ⟨i, g1, g2, g3, g4, _⟩ := hL.parts he
  have hown : w.ownsRow 0 e z v n cs := hw.mem hm.mem.1
  have hz' : 0 < z := by rwa [Nat.blt_eq] at hz
  have hcells : ∀ j u, news[j]? = some u → w.cell? ((⟨b, off, none⟩ : Addr).add j) = some u := fun j u hj => by
    have e1 : (⟨b, off, none⟩ : Addr).add j = ⟨b, off + j, none⟩ := by
      rw [add_addr]
      by_cases h0 : j = 0
      · subst h0; simp
      · rw [if_neg h0]
    rw [e1]
    exact hsrc w0 w hw j u hj
  obtain ⟨v', w', hr, h2, h3, _, h5⟩ := run_append_own_at (P := P) w 0 t o.type e i ev z eb (hL.slice ht) g1 g4 g2 g3 (by have := Nat.eq_of_beq_eq_true hev; simpa using this) hz' v n cs hown ⟨b, off, none⟩ m c news hl hcells (oneCells_all h1)
    (by simp only [maxLen]; omega) hby (Nat.zero_le _)
  refine ⟨v', w', .own v' e z (n + m) (cs ++ news) :: H1, ?_, ?_, h v'⟩
  · simp only [execOp, ho, resolve, invoke, builtin, Sem.run_bind, Sem.run_pure, Result.andThen_ok, List.map_toArray, List.map_cons, List.map_nil, ha.eval hs, ha.eval hx, hr]
  · refine hw.turn hm ⟨h3.os, h3.tape, h3.output, h3.size, fun k hk => by omega⟩ (fun b hb hp => h3.block b hb (fun e => hp e.symm)) h2 (fun b hb => ?_)
    rcases h5 with h6 | h6
    · exact .inl (by rw [Piece.foot, ← h6]; exact hb)
    · right
      have : v'.ownBlock = some b := hb
      rw [h6] at this
      cases this
      exact Nat.le_refl _
/-- the same slice, told in other words -/
theorem WP.reown {e : TypeId} {z n n' : Nat} {v : Value} {cs cs' : List Value} (hm : Rem (.own v e z n cs) H H1) (hn : n = n') (hcs : cs = cs') (h : WP P Q N w0 k fr (.own v e z n' cs' :: H1)) : WP P Q N w0 k fr H := by
  subst hn; subst hcs
  intro a w ha hw
  obtain ⟨h1, h2, h3⟩ := hw.rem hm
  exact h a w ha ⟨h2.glob, List.pairwise_cons.2 ⟨h3, h2.apart⟩, fun p hp => by
    rcases List.mem_cons.1 hp with rfl | hp
    · exact h1
    · exact h2.holds p hp⟩
theorem WP.reblk {e : TypeId} {g : Nat} {cs cs' : List Value} (hm : Rem (.blk g e cs) H H1) (hcs : cs = cs') (h : WP P Q N w0 k fr (.blk g e cs' :: H1)) : WP P Q N w0 k fr H := by
  subst hcs
  intro a w ha hw
  obtain ⟨h1, h2, h3⟩ := hw.rem hm
  exact h a w ha ⟨h2.glob, List.pairwise_cons.2 ⟨h3, h2.apart⟩, fun p hp => by
    rcases List.mem_cons.1 hp with rfl | hp
    · exact h1
    · exact h2.holds p hp⟩
/-- a slice of the call's own, opened: nil, or a block -/
theorem WP.open_ {e : TypeId} {z n : Nat} {v : Value} {cs : List Value} (hm : Rem (.own v e z n cs) H H1) (h0 : v = .slice none 0 0 → n = 0 → cs = [] → WP P Q N w0 k fr H1)
    (h1 : ∀ g cap sl, v = .slice (some ⟨g, 0, none⟩) n cap → n ≤ cap → cap ≤ 9223372036854775807 → (cs ++ sl).length = cap * z → cs.length = n * z → WP P Q N w0 k fr (.blk g e (cs ++ sl) :: H1)) : WP P Q N w0 k fr H := by
  intro a w ha hw
  obtain ⟨hown, hw1, hap⟩ := hw.rem hm
  have hown' : w.ownsRow 0 e z v n cs := hown
  rcases hown'.2 with ⟨rfl, rfl⟩ | ⟨g, cap, cur, rfl, _, hg, hnc, hcm, hcs, htk⟩
  · exact h0 rfl rfl (List.eq_nil_of_length_eq_zero (by simpa using hown'.1)) a w ha hw1
  · have e1 : cs ++ cur.toList.drop (n * z) = cur.toList := by rw [← htk]; exact List.take_append_drop _ _
    refine h1 g cap (cur.toList.drop (n * z)) rfl hnc (by simpa [maxLen] using hcm) (by rw [e1]; simpa using hcs) hown'.1 a w ha ?_
    rw [e1]
    refine ⟨hw1.glob, List.pairwise_cons.2 ⟨fun q hq b hb hq' => hap q hq b ?_ hq', hw1.apart⟩, fun p hp => ?_⟩
    · cases hb; rfl
    · rcases List.mem_cons.1 hp with rfl | hp
      · show w.heap[g]? = _; rw [hg]
      · exact hw1.holds p hp
/-- a block that a slice stands at the head of, taken for that slice's own -/
theorem WP.shut {g : Nat} {e : TypeId} {z n cap : Nat} {cs sl : List Value} (hm : Rem (.blk g e (cs ++ sl)) H H1) (hnc : n ≤ cap) (hcap : cap ≤ 9223372036854775807) (hl : (cs ++ sl).length = cap * z) (hcs : cs.length = n * z)
    (h : WP P Q N w0 k fr (.own (.slice (some ⟨g, 0, none⟩) n cap) e z n cs :: H1)) : WP P Q N w0 k fr H := by
  intro a w ha hw
  obtain ⟨hb, hw1, hap⟩ := hw.rem hm
  have hb' : w.heap[g]? = some (.cells (cs ++ sl).toArray e (0, 0)) := hb
  refine h a w ha ⟨hw1.glob, List.pairwise_cons.2 ⟨fun q hq b h1 h2 => hap q hq b ?_ h2, hw1.apart⟩, fun p hp => ?_⟩
  · simp [Piece.foot, Value.ownBlock] at h1; exact h1.symm
  · rcases List.mem_cons.1 hp with rfl | hp
    · exact ⟨hcs, .inr ⟨g, cap, (cs ++ sl).toArray, rfl, Nat.zero_le _, hb', hnc, by simpa [maxLen] using hcap, by simpa using hl, by rw [← hcs]; simp⟩⟩
    · exact hw1.holds p hp

/-- calls -/
def callable (P : Program) (f : FuncId) : Bool :=
  match P.funcs[f]? with
  | some fn => !(fn.name == "runtime.NumGoroutine") && fn.body.isSome
  | none => false
theorem callFunc_run {f : FuncId} (h : callable P f = true) (args : Array Value) (w : World) : (callFunc f args).run P w = .ok (.enter f args) w := by
  unfold callable at h
  split at h
  · rename_i fn hf
    simp only [Bool.and_eq_true, Bool.not_eq_true'] at h
    have h2 : fn.body.isNone = false := by cases hb : fn.body <;> simp_all
    simp only [callFunc, Sem.run_bind, run_program, Result.andThen_ok, hf, h.1, h2, Bool.false_eq_true, if_false, Sem.run_pure]
  · cases h
theorem call_run {a : Act} (ha : Knows N fr a) {f : Operand} {args : Array Operand} {ats : Array TypeId} {fid : FuncId} {fst cap : Array Value} {vs : List Value} (ho : o.op = .call ⟨.value f, args, ats⟩) (hf : val fr f = some (.func (.func fid) fst cap)) (hv : vals fr args.toList = some vs)
    (hb : callable P fid = true) (w : World) : (execOp a.eval o).run P w = .ok (.enter fid (fst ++ vs.toArray ++ cap)) w := by
  have e1 : args.map a.eval = vs.toArray := by rw [← vals_eval ha hv, ← Array.toList_map]
  simp only [execOp, ho, resolve, ha.eval hf, Deferred.ofValue, e1, Sem.run_bind, Sem.run_pure, Result.andThen_ok, invoke, callFunc_run hb]
theorem WP.call {α : Type} (ret : α → Value) (Hx : α → Heap) (J : α → Prop) {all : Array Oper} {rest : List Oper} {d : Nat} {f : Operand} {args : Array Operand} {ats : Array TypeId} {fid : FuncId} {fst cap : Array Value} {vs : List Value} (hn : norm 1000 k = .ops all (o :: rest) :: k') (hd : o.dst = some d) (hN : Nat.blt d N.size = true) (hg : o.guard = none)
    (ho : o.op = .call ⟨.value f, args, ats⟩) (hf : val fr f = some (.func (.func fid) fst cap)) (hv : vals fr args.toList = some vs) (hb : callable P fid = true)
    (hc : ∀ w, KH w0 H w → Calls P fid (fst ++ vs.toArray ++ cap) w fun e w' => ∃ x, e = .returned (ret x) ∧ J x ∧ KH w0 (Hx x) w')
    (h : ∀ x, J x → WP P Q N w0 (.ops all rest :: k') ((d, ret x) :: fr) (Hx x)) : WP P Q N w0 k fr H := by
  refine WP.to hn fun a w ha hw => wpListIn_plain hg fun K hK => ?_
  refine wpIn_enter (call_run ha ho hf hv hb w) ((hc w hw).mono fun e w' hr => ?_)
  obtain ⟨x, he, hJ, hw'⟩ := hr
  refine ⟨_, he, ?_⟩
  rw [hd]
  exact hK _ _ (h x hJ _ w' (ha.put hN) hw')
theorem Ret.of_KH {w0 w : World} {H Lx : Heap} (h : KH w0 H w) (hp : Pick (Lx ++ [.fz (PH.of w0)]) H) : Ret w0 w Lx := by
  have h' := h.pick hp
  obtain ⟨h1, _, h3⟩ := List.pairwise_append.1 h'.apart
  have hold : ∀ b o, w0.heap[b]? = some o → w.heap[b]? = some o := h'.holds (.fz (PH.of w0)) (by simp)
  refine ⟨⟨h'.glob.os, h'.glob.tape, h'.glob.output, h'.glob.size, fun b hb => ?_⟩, h1, fun p hp => ⟨h'.holds p (by simp [hp]), fun b hb => ?_⟩⟩
  · rw [hold b _ (Array.getElem?_eq_getElem hb), Array.getElem?_eq_getElem hb]
  · refine Nat.le_of_not_lt fun hlt => h3 p hp (.fz (PH.of w0)) (by simp) b hb ?_
    show w0.heap[b]? ≠ none
    rw [Array.getElem?_eq_getElem hlt]
    simp
theorem Ret.below_ {w0 w : World} {H : Heap} (h : KH w0 H w) (hp : Pick [.fz (PH.of w0)] H) : Below w0.heap.size w0 w := (Ret.of_KH (Lx := []) h hp).below
theorem WP.callR {α : Type} (ret : α → Value) (Lx : α → Heap) (J : α → Prop) {all : Array Oper} {rest : List Oper} {d : Nat} {f : Operand} {args : Array Operand} {ats : Array TypeId} {fid : FuncId} {fst cap : Array Value} {vs : List Value} (hn : norm 1000 k = .ops all (o :: rest) :: k') (hd : o.dst = some d) (hN : Nat.blt d N.size = true) (hg : o.guard = none)
    (ho : o.op = .call ⟨.value f, args, ats⟩) (hf : val fr f = some (.func (.func fid) fst cap)) (hv : vals fr args.toList = some vs) (hb : callable P fid = true)
    (hc : ∀ w, KH w0 H w → Calls P fid (fst ++ vs.toArray ++ cap) w fun e w' => ∃ x, e = .returned (ret x) ∧ J x ∧ Ret w w' (Lx x))
    (h : ∀ x, J x → WP P Q N w0 (.ops all rest :: k') ((d, ret x) :: fr) (Lx x ++ H)) : WP P Q N w0 k fr H :=
  WP.call ret (fun x => Lx x ++ H) J hn hd hN hg ho hf hv hb (fun w hw => (hc w hw).mono fun _ _ ⟨x, he, hJ, hr⟩ => ⟨x, he, hJ, hw.add hr.below hr.apart hr.new⟩) h
def constSpec (v : Value) : Spec := fun u L => u = v ∧ L = []
def headCall (w0 : World) (H : Heap) (v : Value) : List Kont → Option (Array Oper × Oper × List Kont × Prop)
  | .ops all (o :: rest) :: k => some (all, o, .ops all rest :: k, True)
  | .qops C all (o :: rest) tl :: k => some (all, o, .qops C all rest tl :: k, C = KH w0 H)
  | .lops w1 H1 Rs all (o :: rest) tl i X :: k => some (all, o, .lops w1 H1 Rs all rest tl (i + 1) ((i, []) :: X) :: k, (w1 = w0 ∧ H1 = H) ∧ specAt Rs i = some ([], fun _ => constSpec v))
  | _ => none
/-- a call that hands back one value that is known, also within a walk that stands for all orders -/
theorem WP.callV {all : Array Oper} {c : Prop} {d : Nat} {v : Value} {f : Operand} {args : Array Operand} {ats : Array TypeId} {fid : FuncId} {fst cap : Array Value} {vs : List Value} (hn : headCall w0 H v (norm 1000 k) = some (all, o, k', c)) (hd : o.dst = some d) (hN : Nat.blt d N.size = true) (hg : o.guard = none)
    (ho : o.op = .call ⟨.value f, args, ats⟩) (hf : val fr f = some (.func (.func fid) fst cap)) (hv : vals fr args.toList = some vs) (hb : callable P fid = true)
    (hc : ∀ w, KH w0 H w → Calls P fid (fst ++ vs.toArray ++ cap) w fun e w' => e = .returned v ∧ Below w.heap.size w w') (hc' : c)
    (h : WP P Q N w0 k' ((d, v) :: fr) H) : WP P Q N w0 k fr H := by
  refine WP.norm_ ?_
  generalize norm 1000 k = k1 at hn
  intro a w ha hw
  unfold headCall at hn
  split at hn
  · cases hn
    refine wpListIn_plain hg fun K hK => ?_
    refine wpIn_enter (call_run ha ho hf hv hb w) ((hc w hw).mono fun e w' hr => ?_)
    obtain ⟨he, hb'⟩ := hr
    refine ⟨_, he, ?_⟩
    rw [hd]
    exact hK _ _ (h _ w' (ha.put hN) (hw.below hb'))
  · cases hn
    subst hc'
    refine ⟨hw, wpQuiet_step fun K hK => ?_⟩
    simp only [Region.wanted, hg, if_true]
    refine ⟨v, fun w' hw' => ?_, ?_⟩
    · unfold Oper.quietAt
      rw [call_run ha ho hf hv hb w']
      exact ⟨rfl, (hc w' hw').mono fun e w'' hr => ⟨hr.1, hw'.below hr.2⟩⟩
    · rw [hd]
      exact hK _ (h _ w (ha.put hN) hw).2
  · rename_i w1 H1 Rs all' o' rest tl i X k2
    cases hn
    obtain ⟨⟨rfl, rfl⟩, hR⟩ := hc'
    refine ⟨hw, ?_⟩
    unfold wpL lStep
    simp only [Region.wanted, hg, if_true, hR]
    refine ⟨fun w' hw' => ?_, fun u L hu _ => ?_⟩
    · have hw' : KH w1 H1 w' := hw'.last
      unfold makes
      rw [call_run ha ho hf hv hb w']
      exact ⟨rfl, (hc w' hw').mono fun e w'' hr => ⟨v, [], hr.1, ⟨rfl, rfl⟩, Ret.nil hr.2⟩⟩
    · obtain ⟨rfl, rfl⟩ := hu
      rw [hd]
      exact (h _ w (ha.put hN) hw).2
  · cases hn
/-- within such a walk: a call that makes memory; a new variable; the walk's end, and its beginning -/
theorem WP.lcall {all : Array Oper} {rest tl : List Oper} {w1 : World} {H2 : Heap} {X : Tags} {Rs : Specs} {R : List Value → Spec} {i d : Nat} {D : List Nat} {f : Operand} {args : Array Operand} {ats : Array TypeId} {fid : FuncId} {fst cap : Array Value} {vs : List Value}
    (hn : norm 1000 k = .lops w1 H2 Rs all (o :: rest) tl i X :: k') (hc' : w1 = w0 ∧ H2 = H) (hR : specAt Rs i = some (D, R)) (hd : o.dst = some d) (hN : Nat.blt d N.size = true) (hg : o.guard = none)
    (ho : o.op = .call ⟨.value f, args, ats⟩) (hf : val fr f = some (.func (.func fid) fst cap)) (hv : vals fr args.toList = some vs) (hb : callable P fid = true)
    (hc : ∀ w, KH w0 (sel D X ++ H) w → Calls P fid (fst ++ vs.toArray ++ cap) w fun e w' => ∃ v L, e = .returned v ∧ R (.func (.func fid) fst cap :: vs) v L ∧ Ret w w' L)
    (h : ∀ v L, R (.func (.func fid) fst cap :: vs) v L → WP P Q N w0 (.lops w1 H2 Rs all rest tl (i + 1) ((i, L) :: X) :: k') ((d, v) :: fr) H) : WP P Q N w0 k fr H := by
  refine WP.to hn fun a w ha hw => ?_
  obtain ⟨rfl, rfl⟩ := hc'
  refine ⟨hw, ?_⟩
  have hov : opVals o a = .func (.func fid) fst cap :: vs := by
    have : o.op.operands.toList = f :: args.toList := by rw [ho]; simp [Op.operands, Call.operands]
    rw [opVals, this, List.map_cons, ha.eval hf, vals_eval ha hv]
  unfold wpL lStep
  simp only [Region.wanted, hg, if_true, hR, hov]
  refine ⟨fun w' hw' => ?_, fun u L hu _ => ?_⟩
  · unfold makes
    rw [call_run ha ho hf hv hb w']
    exact ⟨rfl, hc w' hw'⟩
  · rw [hd]
    exact (h u L hu _ w (ha.put hN) hw).2
def blkSpec (t : TypeId) (cs : List Value) : Spec := fun v L => ∃ g, v = .pointer (some ⟨g, 0, none⟩) ∧ L = [.blk g t cs]
theorem Ret.alloc (w : World) (e : TypeId) (cs : List Value) : Ret w (w.alloc (.cells cs.toArray e)) [.blk w.heap.size e cs] :=
  ⟨below_alloc w _, List.pairwise_singleton _ _, fun p hp => by
    simp only [List.mem_singleton] at hp
    subst hp
    exact ⟨heap_alloc_new w _, fun b hb => by cases hb; exact Nat.le_refl _⟩⟩
/-- an operation that makes one new block -/
theorem WP.lmk {all : Array Oper} {rest tl : List Oper} {w1 : World} {H2 : Heap} {X : Tags} {Rs : Specs} {i d : Nat} {e : TypeId} {cs : List Value} (vf : Nat → Value)
    (hn : norm 1000 k = .lops w1 H2 Rs all (o :: rest) tl i X :: k') (hc' : w1 = w0 ∧ H2 = H) (hR : ∃ Rf, specAt Rs i = some ([], Rf) ∧ ∀ a, Knows N fr a → Rf (opVals o a) = fun v L => ∃ g, v = vf g ∧ L = [.blk g e cs]) (hd : o.dst = some d) (hN : Nat.blt d N.size = true) (hg : o.guard = none)
    (hr : ∀ a w, Knows N fr a → KH w0 H w → (execOp a.eval o).run P w = .ok (.value (vf w.heap.size)) (w.alloc (.cells cs.toArray e)))
    (h : ∀ g, WP P Q N w0 (.lops w1 H2 Rs all rest tl (i + 1) ((i, [.blk g e cs]) :: X) :: k') ((d, vf g) :: fr) H) : WP P Q N w0 k fr H := by
  refine WP.to hn fun a w ha hw => ?_
  obtain ⟨rfl, rfl⟩ := hc'
  obtain ⟨Rf, hR, hRf⟩ := hR
  have hov := hRf a ha
  refine ⟨hw, ?_⟩
  unfold wpL lStep
  simp only [Region.wanted, hg, if_true, hR, hov]
  refine ⟨fun w' hw' => ?_, fun u L hu _ => ?_⟩
  · have hw' : KH w1 H2 w' := hw'.last
    unfold makes
    rw [hr a w' ha hw']
    exact ⟨_, ⟨w'.heap.size, rfl, rfl⟩, Ret.alloc w' e cs⟩
  · obtain ⟨g, rfl, rfl⟩ := hu
    rw [hd]
    exact (h g _ w (ha.put hN) hw).2
theorem WP.lal (hL : TyOk P L) {all : Array Oper} {rest tl : List Oper} {w1 : World} {H2 : Heap} {X : Tags} {Rs : Specs} {i d : Nat} {t : TypeId} {td : TyD} {zs : List Value}
    (hn : norm 1000 k = .lops w1 H2 Rs all (o :: rest) tl i X :: k') (hc' : w1 = w0 ∧ H2 = H) (hR : specAt Rs i = some ([], fun _ => blkSpec t zs)) (hd : o.dst = some d) (hN : Nat.blt d N.size = true) (hg : o.guard = none) (ho : o.op = .alloc t) (ht : tget L t = some td) (hz : td.zero.cells.toList = zs)
    (h : ∀ g, WP P Q N w0 (.lops w1 H2 Rs all rest tl (i + 1) ((i, [.blk g t zs]) :: X) :: k') ((d, .pointer (some ⟨g, 0, none⟩)) :: fr) H) : WP P Q N w0 k fr H :=
  WP.lmk (fun g => .pointer (some ⟨g, 0, none⟩)) hn hc' ⟨_, hR, fun _ _ => rfl⟩ hd hN hg (fun a w ha hw => by
    subst hz
    simp only [execOp, ho, Instr.alloc, Sem.run_bind, hL.zero ht w, Result.andThen_ok, newVar, newRow_run, Sem.run_pure]) h
def litSpec (e : TypeId) (len : Nat) : List Value → Spec := fun vs v L => ∃ g, v = .slice (some ⟨g, 0, none⟩) len len ∧ L = [.blk g e (cellsOf vs)]
theorem WP.lbs (hL : TyOk P L) {all : Array Oper} {rest tl : List Oper} {w1 : World} {H2 : Heap} {X : Tags} {Rs : Specs} {i d : Nat} {t e : TypeId} {len sz sb eb z : Nat} {sv ev : Value} {td : TD} {ps : Array (Nat × Operand)} {vs : List Value}
    (hn : norm 1000 k = .lops w1 H2 Rs all (o :: rest) tl i X :: k') (hc' : w1 = w0 ∧ H2 = H) (hR : specAt Rs i = some ([], litSpec e len)) (hd : o.dst = some d) (hN : Nat.blt d N.size = true) (hg : o.guard = none)
    (ho : o.op = .buildSlice t len ps) (ht : tget L t = some ⟨.slice e, sz, sb, sv⟩) (he : tget L e = some ⟨td, z, eb, ev⟩) (hv : bsVals fr ps.toList 0 = some vs) (hz : allSize z vs = true) (hlen : Nat.beq vs.length len = true) (hsm : Nat.ble (len * z) 16777216 = true) (hpos : Nat.blt 0 (len * z) = true)
    (h : ∀ g, WP P Q N w0 (.lops w1 H2 Rs all rest tl (i + 1) ((i, [.blk g e (cellsOf vs)]) :: X) :: k') ((d, .slice (some ⟨g, 0, none⟩) len len) :: fr) H) : WP P Q N w0 k fr H :=
  WP.lmk (cs := cellsOf vs) (fun g => .slice (some ⟨g, 0, none⟩) len len) hn hc' ⟨_, hR, fun a ha => by
    have : o.op.operands.toList = ps.toList.map (·.2) := by rw [ho]; simp [Op.operands]
    have e1 : opVals o a = vs := by rw [opVals, this, bsVals_eval ha _ 0 vs hv]
    rw [e1]; rfl⟩ hd hN hg (fun a w ha hw => bs_run hL ha ho ht he hv hz hlen hsm hpos w) h
def mkSpec (e : TypeId) (n : Nat) (ev : Value) : Spec := fun v L => ∃ g, v = .slice (some ⟨g, 0, none⟩) n n ∧ L = [.blk g e (List.replicate n ev)]
theorem WP.lms (hL : TyOk P L) {all : Array Oper} {rest tl : List Oper} {w1 : World} {H2 : Heap} {X : Tags} {Rs : Specs} {i d : Nat} {t e : TypeId} {sz sb eb n : Nat} {sv ev : Value} {td : TD} {x y : Operand} {ki kj : IntKind}
    (hn : norm 1000 k = .lops w1 H2 Rs all (o :: rest) tl i X :: k') (hc' : w1 = w0 ∧ H2 = H) (hR : specAt Rs i = some ([], fun _ => mkSpec e n ev)) (hd : o.dst = some d) (hN : Nat.blt d N.size = true) (hg : o.guard = none)
    (ho : o.op = .makeSlice t x y) (ht : tget L t = some ⟨.slice e, sz, sb, sv⟩) (he : tget L e = some ⟨td, 1, eb, ev⟩) (hev : ev.cells = #[ev]) (hx : val fr x = some (.int ki (Int.ofNat n))) (hy : val fr y = some (.int kj (Int.ofNat n))) (hby : eb * n ≤ 281474976710656) (h63 : n ≤ 9223372036854775807)
    (h : ∀ g, WP P Q N w0 (.lops w1 H2 Rs all rest tl (i + 1) ((i, [.blk g e (List.replicate n ev)]) :: X) :: k') ((d, .slice (some ⟨g, 0, none⟩) n n) :: fr) H) : WP P Q N w0 k fr H :=
  WP.lmk (fun g => .slice (some ⟨g, 0, none⟩) n n) hn hc' ⟨_, hR, fun _ _ => rfl⟩ hd hN hg (fun a w ha hw => mk1_run hL ha ho ht he hev hx hy hby h63 w) h
theorem WP.lend {all : Array Oper} {tl : List Oper} {w1 : World} {H2 : Heap} {X : Tags} {Rs : Specs} {i : Nat} (hn : norm 1000 k = .lops w1 H2 Rs all [] tl i X :: k') (hc' : w1 = w0 ∧ H2 = H) (h : WP P Q N w0 (.ops all tl :: k') fr (flat X ++ H)) : WP P Q N w0 k fr H := by
  refine WP.to hn fun a w ha hw => ?_
  obtain ⟨rfl, rfl⟩ := hc'
  exact ⟨hw, fun w' hw' => h a w' ha hw'⟩
/-- a statement that draws its order: so many operations in any order, then the others, each behind the one ahead of it; 'Rs': what those leave that make memory, told ahead -/
theorem WP.drawL {id : Nat} {ops : Array Oper} (n : Nat) (Rs : Specs) (hn : norm 1000 k = .code (.region id ops true) :: k') (hm : P.follows .mixedOrders = true) (hB : lexAnyB .any ops n = true) (hD : depsB .any ops Rs = true)
    (h : WP P Q N w0 (.lops w0 H Rs ops (ops.toList.take n) (ops.toList.drop n) 0 [] :: k') fr H) : WP P Q N w0 k fr H := by
  refine WP.to hn fun a w ha hw => ?_
  exact wp_region_loose n hm hB hD hw.drew (h a w ha hw).2

/-- the way in -/
def argsFr : Nat → List Value → Fr
  | _, [] => []
  | i, v :: r => (i, v) :: argsFr (i + 1) r
theorem argsFr_get : ∀ (l : List Value) (i d : Nat) (v : Value), (argsFr i l).get d = some v → i ≤ d ∧ l[d - i]? = some v
  | [], _, _, _, h => by cases h
  | u :: r, i, d, v, h => by
    simp only [argsFr, Fr.get] at h
    split at h
    · rename_i hb
      have := Nat.eq_of_beq_eq_true hb
      subst this
      cases h
      simp
    · rename_i hb
      have := Nat.ne_of_beq_eq_false hb
      obtain ⟨h1, h2⟩ := argsFr_get r (i + 1) d v h
      refine ⟨by omega, ?_⟩
      rw [show d - i = (d - (i + 1)) + 1 by omega]
      simpa using h2
theorem enterKnows {c : Code} {args : List Value} {H0 : Heap} {w : World} {Q : Exit → Act → World → Prop} {n : Nat} (hle : Nat.ble args.length n = true) (hH : KH w0 H0 w)
    (h : WP P Q ⟨none, n, []⟩ w0 [.code c] (argsFr 0 args) H0) : c.wpIn (fen none) 0 P Q { tmps := args.toArray ++ Array.replicate (n - args.toArray.size) undef, defers := [] } w := by
  have hle' := Nat.le_of_ble_eq_true hle
  have := h { tmps := args.toArray ++ Array.replicate (n - args.toArray.size) undef, defers := [] } w ⟨by simp; omega, rfl, fun d v hg => ?_⟩ hH
  · refine wpIn_mono this fun e a w hq => ?_
    cases e <;> exact hq
  obtain ⟨_, h2⟩ := argsFr_get args 0 d v hg
  have hd : d < args.length := by
    rcases Nat.lt_or_ge d args.length with h | h
    · exact h
    · simp [List.getElem?_eq_none h] at h2
  simp only [Nat.sub_zero] at h2
  rw [Array.getElem?_append_left (by simpa using hd)]
  simpa using h2
theorem enterH {n : Nat} {f : FuncId} {fn : Func} {c : Code} {args : List Value} {H0 : Heap} {w : World} {R : Ending → World → Prop} (hf : P.funcs[f]? = some fn) (hb : fn.body = some c) (hN : fn.ntmps = n) (hle : Nat.ble args.length n = true) (hH : KH w0 H0 w)
    (h : WP P (bodyPost P fn R) ⟨none, n, []⟩ w0 [.code c] (argsFr 0 args) H0) : Calls P f args.toArray w R := by
  refine (callsIn_wide (n := 0)).1 (callsIn_of_wp hf hb trivial ?_)
  subst hN
  exact enterKnows hle hH h
theorem KH.start (w : World) : KH w [.fz (PH.of w)] w := ⟨Below.refl _ _, List.pairwise_singleton _ _, fun p hp => by
  simp only [List.mem_singleton] at hp
  subst hp
  exact fun b o hz => hz⟩
theorem enter_ {n : Nat} {f : FuncId} {fn : Func} {c : Code} {args : List Value} {w : World} {R : Ending → World → Prop} (hf : P.funcs[f]? = some fn) (hb : fn.body = some c) (hN : fn.ntmps = n) (hle : Nat.ble args.length n = true)
    (h : WP P (bodyPost P fn R) ⟨none, n, []⟩ w [.code c] (argsFr 0 args) [.fz (PH.of w)]) : Calls P f args.toArray w R := enterH hf hb hN hle (KH.start w) h

/-- the way out -/
theorem sem_ret {r : Option Nat} : ∀ (k : List Kont) (a : Act) (w : World), Q .ret a w → sem P r Q k .ret a w
  | [], _, _, h => h
  | .code _ :: k, a, w, h => sem_ret k a w h
  | .ops _ _ :: k, a, w, h => sem_ret k a w h
  | .qops _ _ _ _ :: k, a, w, h => sem_ret k a w h
  | .lops _ _ _ _ _ _ _ _ :: k, a, w, h => sem_ret k a w h
  | .any _ _ _ :: k, a, w, h => sem_ret k a w h
  | .blk _ :: k, a, w, h => sem_ret k a w h
  | .stop _ :: k, a, w, h => sem_ret k a w h
theorem WP.ret_ {n : Nat} {fn : Func} {R : Ending → World → Prop} {v : Value} (hn : norm 1000 k = .code .ret :: k') (hr : ∀ a w, Knows ⟨none, n, []⟩ fr a → KH w0 H w → (results fn a.tmps).run P w = .ok v w) (h : ∀ w, KH w0 H w → R (.returned v) w) : WP P (bodyPost P fn R) ⟨none, n, []⟩ w0 k fr H :=
  WP.to hn fun a w ha hw => wpIn_ret (sem_ret _ _ _ ⟨ha.defers, v, hr a w ha hw, h w hw⟩)
theorem Knows.getD {a : Act} (ha : Knows N fr a) {d : Nat} {v : Value} (h : fr.get d = some v) : a.tmps.getD d undef = v := by
  have := ha.get d v h
  simp [Array.getD_eq_getD_getElem?, this]
theorem WP.ret1 {n : Nat} {fn : Func} {R : Ending → World → Prop} {v : Value} {t : Tmp} (hn : norm 1000 k = .code .ret :: k') (hr : fn.results = #[.tmp t]) (hv : fr.get t = some v) (h : ∀ w, KH w0 H w → R (.returned v) w) : WP P (bodyPost P fn R) ⟨none, n, []⟩ w0 k fr H :=
  WP.ret_ hn (fun a w ha _ => by rw [results_tmp hr, ha.getD hv]) h
theorem WP.ret2 {n : Nat} {fn : Func} {R : Ending → World → Prop} {v u : Value} {s t : Tmp} (hn : norm 1000 k = .code .ret :: k') (hr : fn.results = #[.tmp s, .tmp t]) (hv : fr.get s = some v) (hu : fr.get t = some u) (h : ∀ w, KH w0 H w → R (.returned (.tuple #[v, u])) w) : WP P (bodyPost P fn R) ⟨none, n, []⟩ w0 k fr H :=
  WP.ret_ hn (fun a w ha _ => by rw [results_tmp2 hr, ha.getD hv, ha.getD hu]) h
theorem WP.ret0 {n : Nat} {fn : Func} {R : Ending → World → Prop} (hn : norm 1000 k = .code .ret :: k') (hr : fn.results = #[]) (h : ∀ w, KH w0 H w → R (.returned (.tuple #[])) w) : WP P (bodyPost P fn R) ⟨none, n, []⟩ w0 k fr H :=
  WP.ret_ hn (fun a w _ _ => results_none hr _ _ _) h
theorem WP.end0 {n : Nat} {fn : Func} {R : Ending → World → Prop} (hn : norm 1000 k = []) (hr : fn.results = #[]) (h : ∀ w, KH w0 H w → R (.returned (.tuple #[])) w) : WP P (bodyPost P fn R) ⟨none, n, []⟩ w0 k fr H :=
  WP.to hn fun a w ha hw => ⟨ha.defers, _, results_none hr _ _ _, h w hw⟩

/-- a statement that draws its order, all of whose operations are quiet -/
theorem wpOpIn_of_qOp {ops : Array Oper} {C : World → Prop} {r : Option Nat} {i : Nat} {a : Act} {K : Act → Prop} {K' : Act → World → Prop} {Q' : Exit → Act → World → Prop} {w : World} (hC : C w) (h : ∀ a w', C w' → K a → K' a w') (hh : qOp P ops C i K a) : wpOpIn (fen r) 0 P ops Q' i K' a w := by
  unfold qOp at hh
  unfold wpOpIn
  split
  · rename_i ho; simp only [ho] at hh; exact h _ _ hC hh
  · rename_i o ho
    simp only [ho] at hh
    split
    · rename_i hw
      simp only [hw, if_true] at hh
      obtain ⟨v, h1, h2⟩ := hh
      have h3 := h1 w hC
      unfold Oper.quietAt at h3
      generalize hr : (execOp a.eval o).run P w = x at h3
      cases x with
      | halt x w' => exact h3.elim
      | ok n w' =>
        cases n <;> simp only [Oper.quietUpon] at h3
        case value u =>
          obtain ⟨e1, e2⟩ := h3
          subst e1 e2
          exact wpIn_value hr (h _ _ hC h2)
        case skip =>
          obtain ⟨e1, e2⟩ := h3
          subst e1 e2
          exact wpIn_skipped hr (h _ _ hC h2)
        case enter f args =>
          obtain ⟨e1, hc⟩ := h3
          subst e1
          exact wpIn_enter hr (hc.mono fun e w'' hh => ⟨v, hh.1, h _ _ hh.2 h2⟩)
    · rename_i hw; simp only [hw] at hh; exact ⟨fun _ _ => trivial, h _ _ hC hh⟩
theorem wpAnyIn_of_quiet {ops : Array Oper} {md : Region.Mode} {C : World → Prop} {r : Option Nat} {Qa : Act → Prop} {Q' : Exit → Act → World → Prop} (hQ : ∀ a w, C w → Qa a → Q' .normal a w) : ∀ (fuel : Nat) (listed : Array Bool) (a : Act) (w : World), C w →
    wpAnyQ P md ops C Qa fuel listed a → wpAnyIn (fen r) 0 P md ops Q' fuel listed a w
  | 0, _, _, _, hw, h => ⟨h.1, hQ _ _ hw h.2⟩
  | fuel + 1, _, _, _, hw, h => ⟨fun h0 => hQ _ _ hw (h.1 h0), fun i hi => wpOpIn_of_qOp hw (fun a' w' hw' => wpAnyIn_of_quiet hQ fuel _ a' w' hw') (h.2 i hi)⟩
theorem wpIn_region_q {ops : Array Oper} {C : World → Prop} {r : Option Nat} {id : Nat} {Q : Exit → Act → World → Prop} {a : Act} {w : World} (hm : P.follows .mixedOrders = true) (hB : Region.lexB .any ops = true) (hC : C { w with drawn := w.drawn + 1 })
    (h : wpQuiet P ops C (fun a' => ∀ w', C w' → Q .normal a' w') ops.toList a) : (Code.region id ops true).wpIn (fen r) 0 P Q a w := by
  simp only [Region.lexB, Bool.and_eq_true] at hB
  refine wpIn_region_any hm (wpAnyIn_of_quiet (Qa := fun a' => ∀ w', C w' → Q .normal a' w') (fun _ w' hw' h => h w' hw') _ _ _ _ hC ?_)
  have := wpAnyQ_lex (C := C) (md := .any) hB.1 ops.toList 0 (Array.replicate ops.size false) a (by simp) (by simpa using hB.2) h
  simpa using this
theorem WP.draw {id : Nat} {ops : Array Oper} (hn : norm 1000 k = .code (.region id ops true) :: k') (hm : P.follows .mixedOrders = true) (hB : Region.lexB .any ops = true)
    (h : WP P Q N w0 (.qops (KH w0 H) ops ops.toList [] :: k') fr H) : WP P Q N w0 k fr H := by
  refine WP.to hn fun a w ha hw => ?_
  exact wpIn_region_q (C := KH w0 H) hm hB hw.drew (h a w ha hw).2
theorem WP.qend {all : Array Oper} {tl : List Oper} (hn : norm 1000 k = .qops (KH w0 H) all [] tl :: k') (h : WP P Q N w0 (.ops all tl :: k') fr H) : WP P Q N w0 k fr H := by
  refine WP.to hn fun a w ha hw => ?_
  exact ⟨hw, fun w' hw' => h a w' ha hw'⟩
end
end Go.Qe
