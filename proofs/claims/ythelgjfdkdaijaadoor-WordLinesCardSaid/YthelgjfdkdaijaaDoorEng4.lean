/- The layer's operations that look at no memory. -/
import Derived.Test.YthelgjfdkdaijaaDoorEng3
namespace Go.Qe
open Go.RowKit

def rng : IntKind → Int → Prop
  | .i8, x => -128 ≤ x ∧ x ≤ 127
  | .i16, x => -32768 ≤ x ∧ x ≤ 32767
  | .i32, x => -2147483648 ≤ x ∧ x ≤ 2147483647
  | .i64, x => -9223372036854775808 ≤ x ∧ x ≤ 9223372036854775807
  | .u8, x => 0 ≤ x ∧ x ≤ 255
  | .u16, x => 0 ≤ x ∧ x ≤ 65535
  | .u32, x => 0 ≤ x ∧ x ≤ 4294967295
  | .u64, x => 0 ≤ x ∧ x ≤ 18446744073709551615
theorem wrap_rng {k : IntKind} {x : Int} (h : rng k x) : k.wrap x = x := by
  cases k <;> simp only [rng] at h <;> simp only [IntKind.wrap, IntKind.bits, IntKind.signed] <;> simp <;> omega
def ikEq : IntKind → IntKind → Bool
  | .i8, .i8 => true
  | .i16, .i16 => true
  | .i32, .i32 => true
  | .i64, .i64 => true
  | .u8, .u8 => true
  | .u16, .u16 => true
  | .u32, .u32 => true
  | .u64, .u64 => true
  | _, _ => false
theorem ikEq_eq {k k' : IntKind} (h : ikEq k k' = true) : k = k' := by cases k <;> cases k' <;> first | rfl | cases h

/-- what an arithmetic operation on two integers gives: bare, if it fits (wr = false), or wrapped -/
def evalInt (wr : Bool) (op : BinOp) (k : IntKind) (a b : Int) : Option (Value × Prop) :=
  match op, wr with
  | .add, false => some (.int k (a + b), rng k (a + b))
  | .add, true => some (.int k (k.wrap (a + b)), True)
  | .sub, false => some (.int k (a - b), rng k (a - b))
  | .sub, true => some (.int k (k.wrap (a - b)), True)
  | .mul, false => some (.int k (a * b), rng k (a * b))
  | .mul, true => some (.int k (k.wrap (a * b)), True)
  | .quo, false => some (.int k (a / b), 0 ≤ a ∧ 0 < b ∧ rng k (a / b))
  | .quo, true => some (.int k (k.wrap (a.tdiv b)), b ≠ 0)
  | .rem, false => some (.int k (a % b), 0 ≤ a ∧ 0 < b)
  | .rem, true => some (.int k (a.tmod b), b ≠ 0)
  | .and, _ => some (.int k (bits .and k a b), True)
  | .or, _ => some (.int k (bits .or k a b), True)
  | .xor, _ => some (.int k (bits .xor k a b), True)
  | .andNot, _ => some (.int k (bits .andNot k a b), True)
  | .eql, _ => some (.bool (decide (a = b)), True)
  | .neq, _ => some (.bool (decide (¬ a = b)), True)
  | .lss, _ => some (.bool (decide (a < b)), True)
  | .leq, _ => some (.bool (decide (a ≤ b)), True)
  | .gtr, _ => some (.bool (decide (b < a)), True)
  | .geq, _ => some (.bool (decide (b ≤ a)), True)
  | _, _ => none
theorem evalInt_ok {P : Program} {wr : Bool} {op : BinOp} {k : IntKind} {a b : Int} {v : Value} {p : Prop} (h : evalInt wr op k a b = some (v, p)) (hp : p) (t : TypeId) (w : World) :
    (binOp op t (.int k a) (.int k b)).run P w = .ok v w := by
  cases op <;> cases wr <;> simp only [evalInt, Option.some.injEq, Prod.mk.injEq, reduceCtorEq] at h <;> obtain ⟨rfl, rfl⟩ := h
  case add.false => simp [binOp, Op.intArith]; exact wrap_rng hp
  case sub.false => simp [binOp, Op.intArith]; exact wrap_rng hp
  case mul.false => simp [binOp, Op.intArith]; exact wrap_rng hp
  case quo.false =>
    obtain ⟨h1, h2, h3⟩ := hp
    have e := Int.tdiv_eq_ediv_of_nonneg (b := b) h1
    simp only [binOp, Op.intDiv, if_neg (show ¬ b = 0 by omega), ne_eq, not_true_eq_false, if_false, Sem.run_pure, e, wrap_rng h3]
  case quo.true => simp only [binOp, Op.intDiv, if_neg hp, ne_eq, not_true_eq_false, if_false, Sem.run_pure]
  case rem.false =>
    obtain ⟨h1, h2⟩ := hp
    have e := Int.tmod_eq_emod_of_nonneg (b := b) h1
    simp only [binOp, Op.intDiv, if_neg (show ¬ b = 0 by omega), ne_eq, not_true_eq_false, if_false, Sem.run_pure, e]
  case rem.true => simp only [binOp, Op.intDiv, if_neg hp, ne_eq, not_true_eq_false, if_false, Sem.run_pure]
  all_goals simp [binOp, Op.intArith, Op.intDiv, Op.intCmp, Op.intBits, bits]
  all_goals (rw [Bool.eq_iff_iff]; simp)

/-- what an operation on two values gives -/
def evalBin (wr : Bool) (L : List TyD) (op : BinOp) (t : TypeId) (x y : Value) : Option (Value × Prop) :=
  match x, y with
  | .int k a, .int k' b => match op with
    | .shl => some (.int k (k.wrap (a * 2 ^ (min b.toNat k.bits))), 0 ≤ b)
    | .shr => some (.int k (a.fdiv (2 ^ (min b.toNat k.bits))), 0 ≤ b)
    | op => match ikEq k k' with
      | true => evalInt wr op k a b
      | false => none
  | .string a, .string b => match op with
    | .eql => some (.bool (a.toList == b.toList), True)
    | .neq => some (.bool (!(a.toList == b.toList)), True)
    | .add => some (.string (a ++ b), ((a.size + b.size : Nat) : Int) ≤ 9223372036854775807)
    | _ => none
  | .bool a, .bool b => match tget L t with
    | some ⟨.bool, _, _, _⟩ => match op with
      | .eql => some (.bool (a == b), True)
      | .neq => some (.bool (!(a == b)), True)
      | _ => none
    | _ => none
  | .pointer p, .pointer none => match tget L t with
    | some ⟨.ptr _, _, _, _⟩ => match op with
      | .eql => some (.bool p.isNone, True)
      | .neq => some (.bool (!p.isNone), True)
      | _ => none
    | _ => none
  | .slice p _ _, .slice none _ _ => match tget L t with
    | some ⟨.slice _, _, _, _⟩ => match op with
      | .eql => some (.bool p.isNone, True)
      | .neq => some (.bool (!p.isNone), True)
      | _ => none
    | _ => none
  | _, _ => none
theorem equal_run {P : Program} {t : TypeId} {x y : Value} {b : Bool} {w : World} (h : ∀ d, (Op.equalIn (d + 1) t x y).run P w = .ok b w) : (Op.equal t x y).run P w = .ok b w := h 9999
theorem evalBin_ok {P : Program} {L : List TyD} (hL : TyOk P L) {wr : Bool} {op : BinOp} {t : TypeId} {x y : Value} {v : Value} {p : Prop} (h : evalBin wr L op t x y = some (v, p)) (hp : p) (w : World) :
    (binOp op t x y).run P w = .ok v w := by
  unfold evalBin at h
  split at h
  · rename_i k a k' b
    split at h
    · cases h
      simp only [binOp, Op.shift, if_neg (show ¬ b < 0 by omega), Sem.run_pure]
    · cases h
      simp only [binOp, Op.shift, if_neg (show ¬ b < 0 by omega), Sem.run_pure]
    · rename_i op hs1 hs2
      split at h
      · rename_i hk
        have := ikEq_eq hk
        subst this
        exact evalInt_ok h hp t w
      · cases h
  · rename_i a b
    split at h
    · cases h; simp [binOp, Op.stringOp]
    · cases h; simp [binOp, Op.stringOp]
    · cases h
      simp only [binOp, Op.stringOp]
      rw [if_neg (by have : IntKind.i64.max = 9223372036854775807 := rfl; omega)]
      rfl
    · cases h
  · split at h
    · rename_i hz
      have ht := hL.bool hz
      split at h
      · cases h
        simp only [binOp, Sem.run_bind]
        rw [equal_run (b := _) (fun d => by simp only [Op.equalIn, Sem.run_bind, run_underlying ht, Result.andThen_ok]; rfl)]
        rfl
      · cases h
        simp only [binOp, Sem.run_bind]
        rw [equal_run (b := _) (fun d => by simp only [Op.equalIn, Sem.run_bind, run_underlying ht, Result.andThen_ok]; rfl)]
        rfl
      · cases h
    · cases h
  · rename_i q
    split at h
    · rename_i hz
      have ht := hL.ptr hz
      have key : ∀ d, (Op.equalIn (d + 1) t (.pointer q) (.pointer none)).run P w = .ok q.isNone w := fun d => by
        simp only [Op.equalIn, Sem.run_bind, run_underlying ht, Result.andThen_ok]
        cases q <;> rfl
      split at h
      · cases h; simp only [binOp, Sem.run_bind, equal_run key]; rfl
      · cases h; simp only [binOp, Sem.run_bind, equal_run key]; rfl
      · cases h
    · cases h
  · rename_i q _ _ _ _
    split at h
    · rename_i hz
      have ht := hL.slice hz
      split at h
      · cases h
        simp only [binOp, Sem.run_bind]
        rw [equal_run (b := q.isNone) (fun d => by simp only [Op.equalIn, Sem.run_bind, run_underlying ht, Result.andThen_ok]; cases q <;> rfl)]
        rfl
      · cases h
        simp only [binOp, Sem.run_bind]
        rw [equal_run (b := q.isNone) (fun d => by simp only [Op.equalIn, Sem.run_bind, run_underlying ht, Result.andThen_ok]; cases q <;> rfl)]
        rfl
      · cases h
    · cases h
  · cases h
theorem eqGuard_ok {P : Program} {L : List TyD} {wr : Bool} {op : BinOp} {t : TypeId} {x y : Operand} {a b : Value} {v : Value} {p : Prop} (h : evalBin wr L op t a b = some (v, p)) (w : World) :
    (eqGuard op t x y a b).run P w = .ok () w := by
  have h1 : ∀ cs cs', ¬ (a = .agg cs ∧ b = .agg cs') := by rintro cs cs' ⟨rfl, rfl⟩; simp [evalBin] at h
  have h2 : ¬ (a = .nilIface ∧ b = .nilIface) := by rintro ⟨rfl, rfl⟩; simp [evalBin] at h
  unfold eqGuard
  split
  all_goals simp only [Bool.not_true, Bool.not_false, Bool.false_eq_true, if_false, if_true, Sem.run_pure]
  all_goals
    split
    · exact absurd ⟨rfl, rfl⟩ h2
    · exact absurd ⟨rfl, rfl⟩ (h1 _ _)
    · rfl

def lget {α : Type} : List α → Nat → Option α
  | [], _ => none
  | x :: _, 0 => some x
  | _ :: r, n + 1 => lget r n
theorem lget_eq {α : Type} : ∀ (l : List α) (n : Nat), lget l n = l[n]?
  | [], n => by simp [lget]
  | x :: r, 0 => by simp [lget]
  | x :: r, n + 1 => by simp [lget, lget_eq r n]
def vals (fr : Fr) : List Operand → Option (List Value)
  | [] => some []
  | x :: r => match val fr x with
    | some v => match vals fr r with
      | some l => some (v :: l)
      | none => none
    | none => none
theorem vals_eval {N : Cx} {fr : Fr} {a : Act} (ha : Knows N fr a) : ∀ {l : List Operand} {vs : List Value}, vals fr l = some vs → l.map a.eval = vs
  | [], vs, h => by cases h; rfl
  | x :: r, vs, h => by
    simp only [vals] at h
    split at h
    · rename_i v hv
      split at h
      · rename_i l hl
        cases h
        rw [List.map_cons, ha.eval hv, vals_eval ha hl]
      · cases h
    · cases h
/-- what an operation that looks at no memory gives -/
def evalOp (wr : Bool) (L : List TyD) (fr : Fr) : Op → Option (Value × Prop)
  | .move x => match val fr x with
    | some v => some (v, True)
    | none => none
  | .assign x => match val fr x with
    | some v => some (v, True)
    | none => none
  | .pick c a b => match val fr c with
    | some (.bool true) => match val fr a with
      | some v => some (v, True)
      | none => none
    | some (.bool false) => match val fr b with
      | some v => some (v, True)
      | none => none
    | _ => none
  | .nilCheck x => match val fr x with
    | some (.pointer (some a)) => some (.pointer (some a), True)
    | _ => none
  | .binOp op t x y _ => match val fr x with
    | some vx => match val fr y with
      | some vy => evalBin wr L op t vx vy
      | none => none
    | none => none
  | .unOp op _ x => match op, val fr x with
    | .not, some (.bool b) => some (.bool (!b), True)
    | .neg, some (.int k n) => match wr with
      | false => some (.int k (-n), rng k (-n))
      | true => some (.int k (k.wrap (0 - n)), True)
    | _, _ => none
  | .convert s t x => match tget L s, tget L t, val fr x with
    | some ⟨.int _, _, _, _⟩, some ⟨.int k, _, _, _⟩, some (.int _ n) => match wr with
      | false => some (.int k n, rng k n)
      | true => some (.int k (k.wrap n), True)
    | _, _, _ => none
  | .extract x i => match val fr x with
    | some (.tuple vs) => match lget vs.toList i with
      | some v => some (v, True)
      | none => none
    | _ => none
  | .fieldAddr s x f => match val fr x with
    | some (.pointer (some ⟨b, o, none⟩)) => match tget L s with
      | some ⟨.struct fs, _, _, _⟩ => match lget fs f with
        | some (off, t) => match tget L t with
          | some ⟨_, z, _, _⟩ => match Nat.beq z 0 with
            | true => none
            | false => match Nat.beq off 0 with
              | true => some (.pointer (some ⟨b, o, none⟩), True)
              | false => some (.pointer (some ⟨b, o + off, none⟩), True)
          | none => none
        | none => none
      | _ => none
    | _ => none
  | .field s x f => match val fr x with
    | some (.agg cs) => match tget L s with
      | some ⟨.struct fs, _, _, _⟩ => match lget fs f with
        | some (off, t) => match tget L t with
          | some ⟨d, z, _, _⟩ => match d.agg with
            | some true => some (.agg (cs.extract off (off + z)), True)
            | some false => match lget cs.toList off with
              | some v => some (v, True)
              | none => none
            | none => none
          | none => none
        | none => none
      | _ => none
    | _ => none
  | .makeFunc fn first captured => match vals fr first.toList, vals fr captured.toList with
    | some l, some l' => some (.func fn l.toArray l'.toArray, True)
    | _, _ => none
  | .call ⟨.builtin .len, args, ats⟩ => match args.toList, ats.toList with
    | [x], [t] => match tget L t, val fr x with
      | some ⟨.slice _, _, _, _⟩, some (.slice _ n _) => some (.int .i64 n, True)
      | some ⟨.str, _, _, _⟩, some (.string s) => some (.int .i64 s.size, True)
      | _, _ => none
    | _, _ => none
  | _ => none
theorem size_pos_place {P : Program} {L : List TyD} (hL : TyOk P L) {b o : Nat} {f : Field} {d : TD} {z by_ : Nat} {zv : Value} (ht : tget L f.type = some ⟨d, z, by_, zv⟩) (hz : Nat.beq z 0 = false) (w : World) :
    (fieldPlace ⟨b, o, none⟩ f).run P w = .ok ((⟨b, o, none⟩ : Addr).add f.offset) w := by
  have := hL.sizeOf ht w
  have hz' : z ≠ 0 := Nat.ne_of_beq_eq_false hz
  simp only [fieldPlace, Sem.run_bind, this, Result.andThen_ok, if_neg hz']
  rfl
theorem add_addr (b o off : Nat) : (⟨b, o, none⟩ : Addr).add off = if off = 0 then ⟨b, o, none⟩ else ⟨b, o + off, none⟩ := by unfold Addr.add; split <;> rfl
theorem fields_get {fs : Array Field} {l : List (Nat × TypeId)} {f off : Nat} {t : TypeId} (h : (fs.toList.map fun f => (f.offset, f.type)) = l) (hf : lget l f = some (off, t)) : ∃ fd, fs[f]? = some fd ∧ fd.offset = off ∧ fd.type = t := by
  rw [lget_eq, ← h, List.getElem?_map] at hf
  simp only [Option.map_eq_some_iff, Prod.mk.injEq] at hf
  obtain ⟨fd, h1, h2, h3⟩ := hf
  exact ⟨fd, by simpa using h1, h2, h3⟩
theorem evalOp_ok {P : Program} {L : List TyD} (hL : TyOk P L) {wr : Bool} {N : Cx} {fr : Fr} {H : Heap} {w0 : World} {o : Oper} {v : Value} {p : Prop} (h : evalOp wr L fr o.op = some (v, p)) (hp : p) : Gives P N w0 fr H o v := by
  intro a w ha _
  obtain ⟨dst, op, ty, pos, aft, gd⟩ := o
  simp only at h
  unfold evalOp at h
  split at h
  · split at h
    · rename_i hx; cases h; simp only [execOp, ha.eval hx, Sem.run_pure]
    · cases h
  · split at h
    · rename_i hx; cases h; simp only [execOp, ha.eval hx, Sem.run_pure]
    · cases h
  · split at h
    · rename_i hc
      split at h
      · rename_i hx; cases h; simp [execOp, ha.eval hx, ha.eval hc, asBool]
      · cases h
    · rename_i hc
      split at h
      · rename_i hx; cases h; simp [execOp, ha.eval hx, ha.eval hc, asBool]
      · cases h
    · cases h
  · split at h
    · rename_i hx; cases h; simp only [execOp, ha.eval hx, Sem.run_pure]
    · cases h
  · split at h
    · rename_i hx
      split at h
      · rename_i hy
        simp only [execOp, ha.eval hx, ha.eval hy, Sem.run_bind, eqGuard_ok h w, Result.andThen_ok, evalBin_ok hL h hp w, Sem.run_pure]
      · cases h
    · cases h
  · split at h
    · rename_i hx; cases h; simp [execOp, ha.eval hx, Op.unary]
    · rename_i k n hx
      split at h
      · cases h; simp only [execOp, ha.eval hx, Op.unary, Op.intArith, Sem.run_bind, Sem.run_pure, Result.andThen_ok, Int.zero_sub, wrap_rng hp]
      · cases h; simp only [execOp, ha.eval hx, Op.unary, Op.intArith, Sem.run_bind, Sem.run_pure, Result.andThen_ok]
    · cases h
  · split at h
    · rename_i hs ht hx
      split at h
      · cases h; simp only [execOp, ha.eval hx, convert, Sem.run_bind, run_underlying (hL.int hs), run_underlying (hL.int ht), Result.andThen_ok, Conv.intToInt, Sem.run_pure, wrap_rng hp]
      · cases h; simp only [execOp, ha.eval hx, convert, Sem.run_bind, run_underlying (hL.int hs), run_underlying (hL.int ht), Result.andThen_ok, Conv.intToInt, Sem.run_pure]
    · cases h
  · rename_i x i
    split at h
    · rename_i vs hx
      split at h
      · rename_i u hu
        cases h
        rw [lget_eq] at hu
        have hu' : vs[i]? = some v := by simpa using hu
        simp only [execOp, ha.eval hx, Instr.extract, hu', Sem.run_bind, Sem.run_pure, Result.andThen_ok]
      · cases h
    · cases h
  · split at h
    · rename_i b o hx
      split at h
      · rename_i fs _ _ _ hs
        split at h
        · rename_i off t hf
          split at h
          · rename_i d z' _ _ ht
            split at h
            · cases h
            · rename_i hz
              obtain ⟨fds, h1, h2⟩ := hL.struct hs
              obtain ⟨fd, h3, h4, h5⟩ := fields_get h2 hf
              subst h4; subst h5
              have hpl := size_pos_place hL (b := b) (o := o) ht hz w
              simp only [execOp, ha.eval hx, Instr.fieldAt, Sem.run_bind, run_underlying h1, Result.andThen_ok, h3, Instr.sureAddr, Sem.run_pure, hpl, add_addr]
              split at h
              · rename_i hb
                cases h
                rw [if_pos (Nat.eq_of_beq_eq_true hb)]
              · rename_i hb
                cases h
                rw [if_neg (Nat.ne_of_beq_eq_false hb)]
          · cases h
        · cases h
      · cases h
    · cases h
  · split at h
    · rename_i cs hx
      split at h
      · rename_i fs _ _ _ hs
        split at h
        · rename_i off t hf
          split at h
          · rename_i d z' _ _ ht
            obtain ⟨fds, h1, h2⟩ := hL.struct hs
            obtain ⟨fd, h3, h4, h5⟩ := fields_get h2 hf
            subst h4; subst h5
            split at h
            · rename_i hd
              cases h
              simp only [execOp, ha.eval hx, Instr.field, Sem.run_bind, run_underlying h1, Result.andThen_ok, h3, asAgg, Sem.run_pure, part, hL.agg ht hd, hL.sizeOf ht, if_true]
            · rename_i hd
              split at h
              · rename_i u hu
                cases h
                rw [lget_eq] at hu
                have hu' : cs[fd.offset]? = some v := by simpa using hu
                simp only [execOp, ha.eval hx, Instr.field, Sem.run_bind, run_underlying h1, Result.andThen_ok, h3, asAgg, Sem.run_pure, part, hL.agg ht hd, Bool.false_eq_true, if_false, hu']
              · cases h
            · cases h
          · cases h
        · cases h
      · cases h
    · cases h
  · split at h
    · rename_i l l' h1 h2
      cases h
      have e1 := vals_eval ha h1
      have e2 := vals_eval ha h2
      simp only [execOp, Instr.makeFunc, Sem.run_bind, Sem.run_pure, Result.andThen_ok]
      rw [← e1, ← e2, ← Array.toList_map, ← Array.toList_map]
    · cases h
  · rename_i args ats
    split at h
    · rename_i x t hxs hts
      have e1 : args = #[x] := by cases args; simp_all
      have e2 : ats = #[t] := by cases ats; simp_all
      subst e1; subst e2
      split at h
      · rename_i hs hx
        cases h
        simp [execOp, resolve, invoke, builtin, Builtin.len_, run_underlying (hL.slice hs), ha.eval hx, goInt]
      · rename_i hs hx
        cases h
        simp [execOp, resolve, invoke, builtin, Builtin.len_, run_underlying (hL.str hs), ha.eval hx, goInt]
      · cases h
    · cases h
  · cases h
end Go.Qe
