/- Leaf: what the printed walks stand on. -/
import Derived.Test.YtbnjeanldechnaaGreatDoorLfAu
import Derived.Test.YtbnjeanldechnaaGreatDoorEngG
import Derived.Laws.CopyRow
import Derived.Laws.IdiomCopy
import Derived.Test.YtbnjeanldechnaaGreatDoorAdjG
namespace Go.Proofs.YtbnjeanldechnaaGreatDoor
open Go.RowKit Go.Qe
/-- errors.errorType is what it was laid as -/
def GlobE (Z : PH) : Prop := Zc Z 0 0 = some gErr
theorem GlobE.le {Z Z' : PH} (h : GlobE Z) (hz : Z.le Z') : GlobE Z' := hz.cell h
theorem as_w {w0 w : World} {F : Heap} {g : Nat} {o : Int} (d : Option Int) (pg : GlobE (PH.of w)) (hw : KH w0 (.blk g 106 [.int .u16 o] :: F) w) :
    Calls Tryz.prog 67 #[errV d, .iface 108 (.pointer (some ⟨g, 0, none⟩))] w fun e w' =>
      ∃ v L, e = .returned v ∧ (v = .bool d.isSome ∧ L = [.blk g 106 [.int .u16 (d.getD o)]]) ∧ KH w0 (L ++ F) w' := by
  have hb : w.heap[g]? = some (.cells #[.int .u16 o] 106 (0, 0)) := hw.holds _ (List.Mem.head _)
  have ht : w.cell? ⟨g, 0, none⟩ = some (.int .u16 o) := by simp [World.cell?, hb]
  have hf : w.frozen? ⟨g, 0, none⟩ = false := by simp [World.frozen?, hb]
  have hg : w.cell? ⟨0, 0, none⟩ = some gErr := by rw [← Zc_of]; exact pg
  cases d with
  | none =>
    refine (as_nil _ w).mono fun e w' h => ?_
    obtain ⟨rfl, rfl⟩ := h
    exact ⟨_, _, rfl, ⟨rfl, rfl⟩, hw⟩
  | some n =>
    refine (as_hit n ⟨g, 0, none⟩ _ w hg ht hf).mono fun e w' h => ?_
    obtain ⟨rfl, rfl⟩ := h
    refine ⟨_, _, rfl, ⟨rfl, rfl⟩, ?_⟩
    have al : ∀ (w : World) (o : Obj), Below w.heap.size w (w.alloc o) := fun w o => (Below.refl _ w).alloc (Nat.le_refl _) o
    have h1 := (((hw.below (al _ (.cells #[.pointer (some ⟨g, 0, none⟩)] 108))).below (al _ (.cells #[.pointer (some ⟨1, 108, none⟩), .pointer (some ⟨w.heap.size, 0, none⟩), .int .u64 150] 139))).below (al _ (.cells #[.pointer (some ⟨1, 108, none⟩), .pointer (some ⟨w.heap.size, 0, none⟩), .int .u64 150] 139))).below (al _ (.cells #[.int .u16 n] 106))
    exact h1.setCell (.head) 0 (.int .u16 n)
end Go.Proofs.YtbnjeanldechnaaGreatDoor
namespace Go.Qe
open Go.RowKit
section
variable {P : Program} {Q : Exit → Act → World → Prop} {N : Cx} {w0 : World} {k k' : List Kont} {fr : Fr} {H : Heap}
theorem WP.mki {o : Oper} {all : Array Oper} {c : Prop} {d : Nat} {t : TypeId} {x : Operand} {v : Value} (hn : headOp w0 H (norm 1000 k) = some (all, o, k', c)) (hc : c) (hd : o.dst = some d) (hN : Nat.blt d N.size = true) (hg : o.guard = none)
    (ho : o.op = .makeInterface t x) (hx : val fr x = some v) (hm : ∀ w, (Instr.makeInterface t v).run P w = .ok (.iface t v) w) (h : WP P Q N w0 k' ((d, .iface t v) :: fr) H) : WP P Q N w0 k fr H :=
  WP.rd hn hc hd hN hg (fun a w ha hw => by
    simp only [execOp, ho, ha.eval hx, Sem.run_bind, Sem.run_pure, hm, Result.andThen_ok]) h
end
end Go.Qe
namespace Go.Qe
open Go.RowKit
def prt {α : Type} (xs : List α) (l h : Int) : List α := (xs.drop l.toNat).take (h - l).toNat
def PtF (A A' : Option Addr) (l h : Int) (z : Nat) : Prop := l < h → ∃ g, A = some ⟨g, 0, none⟩ ∧ A' = some ⟨g, l.toNat * z, none⟩
def bndI (fr : Fr) (x : Option Operand) (d j : Int) : Prop :=
  match x with
  | none => j = d
  | some x => ∃ k, val fr x = some (.int k j)
section
variable {α : Type} {f : Fl α} {xs : List α} {l h : Int} {A A' : Option Addr} {n c : Nat} {e : TypeId} {H H1 : Heap}
theorem prt_len (hb : 0 ≤ l ∧ l ≤ h ∧ h ≤ xs.length) : (prt xs l h).length = h.toNat - l.toNat := by
  simp only [prt, List.length_take, List.length_drop]; omega
theorem cl_prt (hb : 0 ≤ l ∧ l ≤ h ∧ h ≤ xs.length) {j : Nat} {v : Value} (hj : (cl f (prt xs l h))[j]? = some v) : (cl f xs)[l.toNat * f.z + j]? = some v := by
  have e1 : xs = xs.take l.toNat ++ (prt xs l h ++ (xs.drop l.toNat).drop (h - l).toNat) := by
    unfold prt
    rw [List.take_append_drop, List.take_append_drop]
  have hl : (cl f (xs.take l.toNat)).length = l.toNat * f.z := by rw [cl_length, List.length_take, Nat.min_eq_left (by omega)]
  have hlt := (List.getElem?_eq_some_iff.1 hj).1
  rw [e1, ← cl_append, ← cl_append, List.getElem?_append_right (by omega), hl, Nat.add_sub_cancel_left, List.getElem?_append_left hlt]
  exact hj
theorem OwS.appPt (hm : Rem (Ow f e A n c xs) H H1) (hb : 0 ≤ l ∧ l ≤ h ∧ h ≤ xs.length) (hp : PtF A A' l h f.z) (h0 : 0 < (prt xs l h).length) : ∃ b off, A' = some ⟨b, off, none⟩ ∧ SegAt H b off (cl f (prt xs l h)) := by
  have hlt : l < h := by rw [prt_len hb] at h0; omega
  obtain ⟨g, rfl, rfl⟩ := hp hlt
  refine ⟨g, _, rfl, fun w0 w hw j u hj => ?_⟩
  have := OwS.all hm rfl w0 w hw _ u (cl_prt hb hj)
  rwa [Nat.zero_add] at this
end
section
variable {P : Program} {Q : Exit → Act → World → Prop} {N : Cx} {w0 : World} {k k' : List Kont} {fr : Fr} {H H1 : Heap} {L : List TyD} {o : Oper} {α : Type}
theorem bndI.to {x : Option Operand} {d j : Nat} (h : bndI fr x d j) : bndIs fr x d j := by
  unfold bndI at h
  unfold bndIs
  cases x with
  | none => exact Int.ofNat.inj h
  | some x => exact h
/-- a part of a slice of the call's own -/
theorem WP.slO {f : Fl α} {xs : List α} (l h : Int) (hL : TyOk P L) {all : Array Oper} {cc : Prop} {d : Nat} {t e : TypeId} {x : Operand} {lo hi : Option Operand} {sz sb eb n c : Nat} {sv ev : Value} {td : TD} {A : Option Addr} (hn : headOp w0 H (norm 1000 k) = some (all, o, k', cc)) (hc : cc) (hd : o.dst = some d)
    (hN : Nat.blt d N.size = true) (hg : o.guard = none) (ho : o.op = .slice t x lo hi none) (ht : tget L t = some ⟨.slice e, sz, sb, sv⟩) (he : tget L e = some ⟨td, f.z, eb, ev⟩) (hx : val fr x = some (.slice A n c)) (hl : bndI fr lo 0 l) (hh : bndI fr hi n h)
    (hm : Rem (Ow f e A n c xs) H H1) (hf : OwF A n xs) (hb : 0 ≤ l ∧ l ≤ h ∧ h ≤ xs.length)
    (hk : ∀ A', PtF A A' l h f.z → WP P Q N w0 k' ((d, .slice A' (prt xs l h).length (c - l.toNat)) :: fr) H) : WP P Q N w0 k fr H := by
  have hlen := hf.len
  refine WP.fact (p := n ≤ c) (fun w hw => ?_) fun hnc => ?_
  · obtain ⟨A2, c2, e2, hF⟩ := hw.ow hm hf
    have := hF.le
    injection e2 with _ h2 h3
    omega
  have hpl := prt_len hb
  obtain ⟨l', rfl⟩ := Int.eq_ofNat_of_zero_le hb.1
  obtain ⟨h', rfl⟩ := Int.eq_ofNat_of_zero_le (show 0 ≤ h by omega)
  simp only [Int.toNat_natCast] at hpl hk
  rw [hpl] at hk
  refine WP.rd hn hc hd hN hg (slG hL ho ht he hx (fun _ => rfl) (m := c) rfl (h := h') hh.to (l := l') (bndI.to (d := 0) hl) (by omega) (by omega) (Nat.le_refl _)) (hk _ fun hlt => ?_)
  obtain ⟨g, rfl⟩ := hf.ex (by omega)
  refine ⟨g, rfl, ?_⟩
  rw [if_neg (by omega)]
  simp only [Option.map_some, add_addr, Int.toNat_natCast]
  by_cases h0 : l' * f.z = 0
  · rw [if_pos h0, h0]
  · rw [if_neg h0, Nat.zero_add]
end
end Go.Qe
namespace Go.Qe
open Go.RowKit
/-- what a copy leaves -/
def cpy {α : Type} (xs ys : List α) : List α := ys.take xs.length ++ xs.drop ys.length
theorem cpy_len {α : Type} (xs ys : List α) : (cpy xs ys).length = xs.length := by
  unfold cpy
  rw [List.length_append, List.length_take, List.length_drop]; omega
theorem cpy_min {α : Type} (xs ys : List α) : cpy xs ys = ys.take (min ys.length xs.length) ++ xs.drop (min ys.length xs.length) := by
  unfold cpy
  rcases Nat.le_total ys.length xs.length with h | h
  · rw [Nat.min_eq_left h, List.take_of_length_le h, List.take_length]
  · rw [Nat.min_eq_right h, List.drop_length, List.drop_eq_nil_of_le h]
theorem cl_drop1 {α : Type} {f : Fl α} (hz : f.z = 1) (xs : List α) (k : Nat) : cl f (xs.drop k) = (cl f xs).drop k := by
  conv => rhs; rw [← List.take_append_drop k xs, ← cl_append]
  by_cases h : k ≤ xs.length
  · have hl : (cl f (xs.take k)).length = k := by rw [cl_length, hz, List.length_take]; omega
    rw [List.drop_append_of_le_length (by omega), show (cl f (xs.take k)).drop k = [] from List.drop_eq_nil_of_le (by omega), List.nil_append]
  · rw [List.drop_eq_nil_of_le (show xs.length ≤ k by omega)]
    have : (cl f (xs.take k) ++ cl f ([] : List α)).length ≤ k := by
      rw [List.length_append, cl_length, cl_length, hz, List.length_take]; simp; omega
    rw [List.drop_eq_nil_of_le this]; rfl
theorem cl_take_get {α : Type} {f : Fl α} {ys : List α} {k j : Nat} {v : Value} (h : (cl f (ys.take k))[j]? = some v) : (cl f ys)[j]? = some v := by
  have hlt := (List.getElem?_eq_some_iff.1 h).1
  conv => lhs; rw [← List.take_append_drop k ys, ← cl_append]
  rw [List.getElem?_append_left hlt]
  exact h
section
variable {P : Program} {Q : Exit → Act → World → Prop} {N : Cx} {w0 : World} {k k' : List Kont} {fr : Fr} {H H1 : Heap} {L : List TyD} {o : Oper} {α : Type}
/-- a copy into a slice of the call's own -/
theorem WP.cpyO {f : Fl α} {xs ys zs : List α} (hL : TyOk P L) {all : Array Oper} {rest : List Oper} {d : Nat} {t e : TypeId} {sz sb eb n c m cy : Nat} {sv ev : Value} {td : TD} {x y : Operand} {A B : Option Addr} (hn : norm 1000 k = .ops all (o :: rest) :: k') (hd : o.dst = some d) (hN : Nat.blt d N.size = true) (hg : o.guard = none)
    (ho : o.op = .call ⟨.builtin .copy, #[x, y], #[t, t]⟩) (ht : tget L t = some ⟨.slice e, sz, sb, sv⟩) (he : tget L e = some ⟨td, 1, eb, ev⟩) (hz : f.z = 1)
    (hx : val fr x = some (.slice A n c)) (hy : val fr y = some (.slice B m cy)) (hm : Rem (Ow f e A n c xs) H H1) (hf : OwF A n xs) (hlen : ys.length = m) (hB : 0 < ys.length → ∃ b off, B = some ⟨b, off, none⟩ ∧ SegAt H b off (cl f ys)) (hzs : zs = cpy xs ys)
    (h : OwF A n zs → WP P Q N w0 (.ops all rest :: k') ((d, .int .i64 ((min ys.length xs.length : Nat) : Int)) :: fr) (Ow f e A n c zs :: H1)) : WP P Q N w0 k fr H := by
  subst hlen
  have hnl := hf.len
  subst hnl
  have hzf : OwF A xs.length zs := ⟨by rw [hzs, cpy_len], hf.ex⟩
  refine WP.eff hn hd hN hg fun a w ha hw => ?_
  obtain ⟨i, hi1, hi2, _⟩ := hL.parts he
  have hsz : (P.info? e).map (·.size) = some 1 := by rw [hi1]; simp [hi2]
  have hu := hL.slice ht
  have hown : w.ownsRow 0 e f.z (.slice A xs.length c) xs.length (cl f xs) := hw.mem hm.mem.1
  by_cases h0 : min ys.length xs.length = 0
  · have hrun := run_copy_none (P := P) w t t o.type e A B xs.length c ys.length cy hu hsz h0
    have hz0 : zs = xs := by rw [hzs, cpy_min, h0]; simp
    refine ⟨_, w, _, ?_, ?_, h hzf⟩
    · simp only [execOp, ho, resolve, invoke, builtin, Sem.run_bind, Sem.run_pure, Result.andThen_ok, List.map_toArray, List.map_cons, List.map_nil, ha.eval hx, ha.eval hy, hrun, goInt, h0]
      rfl
    · subst hz0
      obtain ⟨h1, h2, h3⟩ := hw.rem hm
      exact ⟨h2.glob, List.pairwise_cons.2 ⟨h3, h2.apart⟩, fun p hp => by
        rcases List.mem_cons.1 hp with rfl | hp
        · exact h1
        · exact h2.holds p hp⟩
  · obtain ⟨b, off, rfl, hsrc⟩ := hB (by omega)
    rcases hown.2 with ⟨h1, h2⟩ | ⟨g, cap, cur, hv, _, hg', hnc, hcm, hcs, htk⟩
    · omega
    · injection hv with hv1 hv2 hv3
      subst hv1 hv3
      rw [hz, Nat.mul_one] at hcs htk
      have hcl : (cl f (ys.take (min ys.length xs.length))).length = min ys.length xs.length := by rw [cl_length, hz, List.length_take]; omega
      have hrun := run_copy_row (P := P) w t t o.type e g 0 xs.length c ⟨b, off, none⟩ ys.length cy cur e (cl f (ys.take (min ys.length xs.length))) hu hsz hg' hcl (fun j v hj => by
        have := hsrc w0 w hw j v (cl_take_get hj)
        rw [add_addr]
        by_cases hj0 : j = 0
        · subst hj0; simpa using this
        · rw [if_neg hj0]; exact this) (by rw [hcl]; omega) (oneCells_all cl_one)
      refine ⟨_, w.setRow g (cur.toList.take 0 ++ cl f (ys.take (min ys.length xs.length)) ++ cur.toList.drop (0 + (cl f (ys.take (min ys.length xs.length))).length)).toArray, _, ?_, ?_, h hzf⟩
      · simp only [execOp, ho, resolve, invoke, builtin, Sem.run_bind, Sem.run_pure, Result.andThen_ok, List.map_toArray, List.map_cons, List.map_nil, ha.eval hx, ha.eval hy, hrun, goInt, hcl]
      · refine hw.turn hm ⟨rfl, rfl, rfl, by simp [World.setRow], fun k hk => by omega⟩ (fun b _ hp => setRow_other w g b _ (fun e => hp (by rw [e]; rfl))) ?_ (fun b hb => .inl hb)
        refine ⟨by rw [cl_length, hzs, cpy_len], .inr ⟨g, c, _, rfl, Nat.zero_le _, setRow_heap w g _ _ e _ hg', hnc, hcm, ?_, ?_⟩⟩
        · simp only [List.take_zero, List.nil_append, Nat.zero_add, List.size_toArray, List.length_append, List.length_drop, hcl, hz, Nat.mul_one, Array.length_toList]
          omega
        · rw [hz, Nat.mul_one, hzs, cpy_min, ← cl_append, cl_drop1 hz]
          simp only [List.take_zero, List.nil_append, Nat.zero_add, hcl]
          rw [List.take_append, hcl, List.take_of_length_le (by omega)]
          congr 1
          rw [← htk, List.drop_take]
/-- two parts of memory that stay as they are, as one -/
theorem WP.fzOr {Z1 Z2 : PH} {H2 : Heap} (h1 : Rem (.fz Z1) H H1) (h2 : Rem (.fz Z2) H1 H2) (h : WP P Q N w0 k fr (.fz (PH.or Z1 Z2) :: H2)) : WP P Q N w0 k fr H := fun a w ha hw => by
  obtain ⟨p1, w1, a1⟩ := hw.rem h1
  obtain ⟨p2, w2, a2⟩ := w1.rem h2
  refine h a w ha ⟨w2.glob, List.pairwise_cons.2 ⟨fun q hq b hb hb2 => ?_, w2.apart⟩, fun p hp => ?_⟩
  · have hb' : PH.or Z1 Z2 b ≠ none := hb
    by_cases hz : Z1 b = none
    · refine a2 q hq b (fun e => hb' ?_) hb2
      have e' : Z2 b = none := e
      simp [PH.or, hz, e']
    · exact a1 q (h2.mem.2 q hq) b hz hb2
  · rcases List.mem_cons.1 hp with rfl | hp
    · intro b o hz
      unfold PH.or at hz
      split at hz
      · rename_i o' he
        cases hz
        exact p1 b _ he
      · exact p2 b o hz
    · exact w2.holds p hp
end
end Go.Qe
namespace Go.Qe
open Go.RowKit
section
variable {P : Program} {Q : Exit → Act → World → Prop} {N : Cx} {w0 : World} {k k' : List Kont} {fr : Fr} {H H1 : Heap} {L : List TyD} {o : Oper}
/-- one round, walked: the caller's offer; its assignment may make memory -/
theorem round_yieldsG {α σ β : Type} {n : Nat} {ps : Array Tmp} {assign body : Code} {encs : α → Array Value} {xs : List α} (hps : ∀ x, (encs x).size = ps.size) (hpn : allLt n ps.toList = true)
    {Jc : List α → σ → Prop} {Hc : σ → Heap} {Jx : Code → List α → σ → Prop} {fr1 : α → β → Fr} {Ha : α → β → Heap}
    (hass : ∀ (l : Nat) (x : α) (W : World) (Zr : PH), WP P (fun _ _ _ => False) ⟨some l, n, []⟩ W [.code assign, .stop (At ⟨some l, n, []⟩ W (fun _ : β => True) (fun y => fr1 x y) (fun y => Ha x y ++ [.fz Zr]))] (parFr (ps.toList.zip (encs x).toList) fr) [.fz Zr])
    (hbody : ∀ (l : Nat) (pre : List α) (x : α) (post : List α) (st : σ) (y : β) (W : World) (Zr : PH), xs = pre ++ x :: post → Jc pre st →
      WP P (Leaves Jx Hc (pre ++ [x]) W Zr) ⟨some l, n, []⟩ W [.code body, .stop (At ⟨some l, n, []⟩ W (fun st' => Jc (pre ++ [x]) st') (fun _ => []) (fun st' => Hc st' ++ [.fz Zr]))] (fr1 x y) (Ha x y ++ (Hc st ++ [.fz Zr])))
    {fn : FuncId} {l D : Nat} (hlD : l ≠ D) {a : Act} (ha : Knows ⟨none, n, a.defers⟩ fr a) {rec_ : LoopState → Option Code → Loop} (hrec : rec_ = fun st pe => { state := st, pending := pe, fn, tmps := a.tmps, params := ps, assign, body, defers := D }) :
    Yields P l encs xs (fun pre Z => ∃ st, Jc pre st ∧ Makes Z l D (.loop (rec_ .ready none)) (.deferred (some [])) (Hc st))
      (fun pre Z => ∃ c st, Jx c pre st ∧ Makes Z l D (.loop (rec_ .done (some c))) (.deferred (some [])) (Hc st)) := by
  rintro pre x Z W ⟨post, hxs⟩ ⟨st, hJ, hM⟩ hZW
  have hl : W.heap[l]? = some (.loop (rec_ .ready none)) := hZW l _ hM.rec_
  have hD : W.heap[D]? = some (.deferred (some [])) := hZW D _ hM.def_
  have hllt := lt_of_some hl
  have hDlt := lt_of_some hD
  have hy := run_yield (P := P) (args := encs x) hl (by rw [hrec]; exact hps x)
  rw [hrec] at hy
  refine ⟨fn, _, assign, body, hy, roundIn_of_wpIn (F := fen none) trivial ?_⟩
  -- the assignment
  have hk0 : Knows ⟨some l, n, []⟩ (parFr (ps.toList.zip (encs x).toList) fr) { tmps := (ps.zip (encs x)).foldl (fun t (p, v) => t.setIfInBounds p v) a.tmps, defers := [] } := by
    have h0 : Knows ⟨some l, n, []⟩ fr { tmps := a.tmps, defers := [] } := ⟨ha.size, rfl, ha.get⟩
    have := knows_par (ps.toList.zip (encs x).toList) fr a.tmps (by
      have : (ps.toList.zip (encs x).toList).map (·.1) = ps.toList := by
        rw [List.map_fst_zip]
        simp [hps x]
      rw [this]; exact hpn) h0
    rw [← Array.foldl_toList, Array.toList_zip]
    exact this
  have h1 := hass l x W (PH.of W) _ W hk0 (KH.start W)
  have h1' : assign.wpIn (fen (some l)) 0 P (Exit.then (At ⟨some l, n, []⟩ W (fun _ : β => True) (fun y => fr1 x y) (fun y => Ha x y ++ [.fz (PH.of W)])) (fun _ _ _ => False)) _ W := h1
  refine wpIn_mono h1' ?_
  intro e a1 w1 hq
  cases e with
  | exit id => exact hq.elim
  | goto t => exact hq.elim
  | ret => exact hq.elim
  | panic c => exact hq.elim
  | outgrown => exact hq.elim
  | normal =>
  obtain ⟨y, _, hk1, hw1⟩ := hq
  obtain ⟨hwa, hwz, hapa⟩ := hw1.app
  have hold : ∀ b o, W.heap[b]? = some o → w1.heap[b]? = some o := hw1.holds (.fz (PH.of W)) (by simp)
  have hnew : ∀ p ∈ Ha x y, ∀ b, p.foot b → W.heap.size ≤ b := fun p hp b hb => by
    apply Classical.byContradiction
    intro hlt
    refine hapa p hp (.fz (PH.of W)) (by simp) b hb ?_
    show W.heap[b]? ≠ none
    rw [Array.getElem?_eq_getElem (by omega)]
    simp
  have hsz : W.heap.size ≤ w1.heap.size := hw1.glob.size
  have hl1 := hold l _ hl
  -- the record is busy
  obtain ⟨w2, hw2⟩ : ∃ w2, w2 = w1.putObj l (.loop { rec_ .ready none with state := .busy }) := ⟨_, rfl⟩
  refine ⟨w2, by rw [hw2]; exact run_beginRound hl1 (by rw [hrec]), ?_⟩
  have hb2 : ∀ b o, b ≠ l → W.heap[b]? = some o → w2.heap[b]? = some o := fun b o hb ho => by rw [hw2, World.putObj_heap_other hb]; exact hold b o ho
  have hl2 : w2.heap[l]? = some (.loop { rec_ .ready none with state := .busy }) := by rw [hw2]; exact World.putObj_heap_same (lt_of_some hl1)
  have hs2 : w2.heap.size = w1.heap.size := by rw [hw2, World.putObj_size]
  have hg2 : Below 0 W w2 := by rw [hw2]; exact hw1.glob.trans (below_putObj w1 l _)
  -- the pieces, and all else
  obtain ⟨Zr, hZr⟩ : ∃ Zr : PH, ∀ b, ((∃ p ∈ Ha x y ++ Hc st, p.foot b) → Zr b = none) ∧ (¬ (∃ p ∈ Ha x y ++ Hc st, p.foot b) → Zr b = w2.heap[b]?) := by
    classical
    exact ⟨fun b => if ∃ p ∈ Ha x y ++ Hc st, p.foot b then none else w2.heap[b]?, fun b => ⟨fun h => by simp only [if_pos h], fun h => by simp only [if_neg h]⟩⟩
  have hpa : ∀ p ∈ Ha x y, p.holds w2 := fun p hp => Piece.keep (hwa.holds p hp) fun b hb => by
    have hlt := Piece.lt (hwa.holds p hp) hb
    have hbl : b ≠ l := fun e => by have := hnew p hp b hb; have := lt_of_some hl; omega
    rw [hw2, World.putObj_heap_other hbl]
  have hp2 : ∀ p ∈ Hc st, p.holds w2 := fun p hp => Piece.keep (hM.holds W hZW p hp) fun b hb => by
    have hlt := Piece.lt (hM.holds W hZW p hp) hb
    rw [hb2 b _ (hM.foot p hp b hb).2.1 (Array.getElem?_eq_getElem hlt), Array.getElem?_eq_getElem hlt]
  have hpx : ∀ p ∈ Ha x y ++ Hc st, p.holds w2 := fun p hp => by
    rcases List.mem_append.1 hp with hp | hp
    · exact hpa p hp
    · exact hp2 p hp
  have hltW : ∀ p ∈ Hc st, ∀ b, p.foot b → b < W.heap.size := fun p hp b hb => Piece.lt (hM.holds W hZW p hp) hb
  have hpap : (Ha x y ++ Hc st).Pairwise Piece.apart := List.pairwise_append.2 ⟨hwa.apart, hM.apart, fun p hp q hq b h2 h3 => by
    have := hnew p hp b h2
    have := hltW q hq b h3
    omega⟩
  have hK2 : KH w2 (Ha x y ++ (Hc st ++ [.fz Zr])) w2 := by
    rw [← List.append_assoc]
    refine ⟨Below.refl _ _, List.pairwise_append.2 ⟨hpap, List.pairwise_singleton _ _, fun p hp q hq b h2 h3 => ?_⟩, fun p hp => ?_⟩
    · simp only [List.mem_singleton] at hq
      subst hq
      exact h3 ((hZr b).1 ⟨p, hp, h2⟩)
    · rcases List.mem_append.1 hp with hp | hp
      · exact hpx p hp
      · simp only [List.mem_singleton] at hp
        subst hp
        intro b o hb
        by_cases h : ∃ p ∈ Ha x y ++ Hc st, p.foot b
        · rw [(hZr b).1 h] at hb; cases hb
        · rwa [(hZr b).2 h] at hb
  have hnl : ¬ ∃ p ∈ Ha x y ++ Hc st, p.foot l := fun ⟨p, hp, hb⟩ => by
    rcases List.mem_append.1 hp with hp | hp
    · have := hnew p hp l hb; omega
    · exact (hM.foot p hp l hb).2.1 rfl
  have hnD : ¬ ∃ p ∈ Ha x y ++ Hc st, p.foot D := fun ⟨p, hp, hb⟩ => by
    rcases List.mem_append.1 hp with hp | hp
    · have := hnew p hp D hb; omega
    · exact (hM.foot p hp D hb).2.2 rfl
  have hZl : Zr l = some (.loop { rec_ .ready none with state := .busy }) := by rw [(hZr l).2 hnl, hl2]
  have hZD : Zr D = some (.deferred (some [])) := by rw [(hZr D).2 hnD, hb2 D _ (Ne.symm hlD) hD]
  have h2 := hbody l pre x post st y w2 Zr hxs hJ a1 w2 hk1 hK2
  have h2' : body.wpIn (fen (some l)) 0 P (Exit.then (At ⟨some l, n, []⟩ w2 (fun st' => Jc (pre ++ [x]) st') (fun _ => []) (fun st' => Hc st' ++ [.fz Zr])) (Leaves Jx Hc (pre ++ [x]) w2 Zr)) a1 w2 := h2
  -- what a round leaves, whichever way
  have fin : ∀ (jump : Option Code) (st' : σ) (w3 : World), KH w2 (Hc st' ++ [.fz Zr]) w3 →
      ∃ w4 Z', (Instr.endRound l jump).run P w3 = .ok (.bool jump.isNone) w4 ∧ Makes Z' l D (.loop (rec_ (if jump.isNone then .ready else .done) jump)) (.deferred (some [])) (Hc st') ∧ Turn Z Z' W w4 := by
    intro jump st' w3 hw3
    obtain ⟨h3a, h3b, h3c⟩ := hw3.app
    have hZr3 : (Piece.fz Zr).holds w3 := h3b.holds _ (by simp)
    have hl3 := hZr3 l _ hZl
    have hD3 := hZr3 D _ hZD
    have hend := run_endRound (P := P) jump hl3
    obtain ⟨w4, hw4⟩ : ∃ w4, w4 = w3.putObj l (.loop { { rec_ .ready none with state := .busy } with state := if jump.isNone then .ready else .done, pending := jump }) := ⟨_, rfl⟩
    rw [← hw4] at hend
    have e4 : (Loop.mk (if jump.isNone then .ready else .done) jump (rec_ .ready none).fn (rec_ .ready none).tmps (rec_ .ready none).params (rec_ .ready none).assign (rec_ .ready none).body (rec_ .ready none).defers) = rec_ (if jump.isNone then .ready else .done) jump := by rw [hrec]
    have hl4 : w4.heap[l]? = some (.loop (rec_ (if jump.isNone then .ready else .done) jump)) := by
      rw [hw4, World.putObj_heap_same (lt_of_some hl3), ← e4]
    have hoth : ∀ b, b ≠ l → w4.heap[b]? = w3.heap[b]? := fun b hb => by rw [hw4]; exact World.putObj_heap_other hb
    have hD4 : w4.heap[D]? = some (.deferred (some [])) := by rw [hoth D (Ne.symm hlD)]; exact hD3
    have hfoot : ∀ p ∈ Hc st', ∀ b, p.foot b → b ≠ l ∧ b ≠ D := fun p hp b hb => by
      refine ⟨fun e => ?_, fun e => ?_⟩
      · subst e; exact h3c p hp _ (List.mem_singleton.2 rfl) b hb (by show Zr b ≠ none; rw [hZl]; simp)
      · subst e; exact h3c p hp _ (List.mem_singleton.2 rfl) b hb (by show Zr b ≠ none; rw [hZD]; simp)
    have hK4 : KH w2 (Hc st') w4 := ⟨h3a.glob.trans (by rw [hw4]; exact below_putObj _ _ _), h3a.apart, fun p hp => Piece.keep (h3a.holds p hp) fun b hb => hoth b (hfoot p hp b hb).1⟩
    refine ⟨w4, zOf w4 l D (Hc st'), hend, Makes.of hK4 hl4 hD4 hfoot, ⟨hg2.trans hK4.glob, zOf_holds _ _ _ _, fun b hb hn => ?_, fun b hb => ?_⟩⟩
    · have hbl : b ≠ l := fun e => by subst e; rw [hM.rec_] at hn; cases hn
      have hnf : ¬ ∃ p ∈ Ha x y ++ Hc st, p.foot b := fun ⟨p, hp, h⟩ => by
        rcases List.mem_append.1 hp with hp | hp
        · have := hnew p hp b h; omega
        · exact (hM.foot p hp b h).1 hn
      have hWb := Array.getElem?_eq_getElem hb
      have h22 := hb2 b _ hbl hWb
      rw [hoth b hbl, hZr3 b _ (by rw [(hZr b).2 hnf]; exact h22), hWb]
    · rcases zOf_ne hb with h | h | ⟨p, hp, h⟩
      · subst h; left; rw [hM.rec_]; simp
      · subst h; left; rw [hM.def_]; simp
      · by_cases hlt : b < W.heap.size
        · left
          intro hn
          have hbl := (hfoot p hp b h).1
          have hnf : ¬ ∃ p ∈ Ha x y ++ Hc st, p.foot b := fun ⟨p, hp, h⟩ => by
            rcases List.mem_append.1 hp with hp | hp
            · have := hnew p hp b h; omega
            · exact (hM.foot p hp b h).1 hn
          refine h3c p hp _ (List.mem_singleton.2 rfl) b h ?_
          show Zr b ≠ none
          rw [(hZr b).2 hnf, hb2 b _ hbl (Array.getElem?_eq_getElem hlt)]
          simp
        · right; omega
  refine wpIn_mono h2' ?_
  intro e a3 w3 hq
  cases e with
  | normal =>
    obtain ⟨st', hJ', _, hw3⟩ := hq
    obtain ⟨w4, Z', he, hM', ht⟩ := fin none st' w3 hw3
    exact ⟨_, w4, he, .inl ⟨rfl, Z', ⟨st', hJ', hM'⟩, ht⟩⟩
  | ret =>
    obtain ⟨c, hc, st', hJ', hw3⟩ := hq
    cases hc
    obtain ⟨w4, Z', he, hM', ht⟩ := fin (some .ret) st' w3 hw3
    exact ⟨_, w4, he, .inr ⟨rfl, Z', ⟨_, st', hJ', hM'⟩, ht⟩⟩
  | exit id =>
    obtain ⟨c, hc, st', hJ', hw3⟩ := hq
    cases hc
    obtain ⟨w4, Z', he, hM', ht⟩ := fin (some (.exit id)) st' w3 hw3
    exact ⟨_, w4, he, .inr ⟨rfl, Z', ⟨_, st', hJ', hM'⟩, ht⟩⟩
  | goto t =>
    obtain ⟨c, hc, st', hJ', hw3⟩ := hq
    cases hc
    obtain ⟨w4, Z', he, hM', ht⟩ := fin (some (.goto t)) st' w3 hw3
    exact ⟨_, w4, he, .inr ⟨rfl, Z', ⟨_, st', hJ', hM'⟩, ht⟩⟩
  | panic c => obtain ⟨c, hc, _⟩ := hq; cases hc
  | outgrown => obtain ⟨c, hc, _⟩ := hq; cases hc

set_option maxHeartbeats 2000000 in
/-- a range over a function; the assignment of a round may make memory -/
theorem WP.rangeG {α σ β : Type} {n gf : Nat} {ds : List Deferred} {g : Operand} {lb : Array Value} {ps : Array Tmp} {assign body : Code} {encs : α → Array Value} (xs : List α) {Jc : List α → σ → Prop} {Hc : σ → Heap} {Jx : Code → List α → σ → Prop} (fr1 : α → β → Fr) (Ha : α → β → Heap) (Hf : Heap) (st0 : σ)
    (hn : norm 1000 k = .code (.rangeFunc g ps assign body) :: k') (hg : val fr g = some (.func (.func gf) #[] lb)) (hb : callable P gf = true)
    (hps : ∀ x, (encs x).size = ps.size) (hpn : allLt n ps.toList = true) (h0 : Jc [] st0) (hH : Pick (Hc st0 ++ Hf) H)
    (hit : Iter P gf lb encs xs Hf)
    (hass : ∀ (l : Nat) (x : α) (W : World) (Zr : PH), WP P (fun _ _ _ => False) ⟨some l, n, []⟩ W [.code assign, .stop (At ⟨some l, n, []⟩ W (fun _ : β => True) (fun y => fr1 x y) (fun y => Ha x y ++ [.fz Zr]))] (parFr (ps.toList.zip (encs x).toList) fr) [.fz Zr])
    (hbody : ∀ (l : Nat) (pre : List α) (x : α) (post : List α) (st : σ) (y : β) (W : World) (Zr : PH), xs = pre ++ x :: post → Jc pre st →
      WP P (Leaves Jx Hc (pre ++ [x]) W Zr) ⟨some l, n, []⟩ W [.code body, .stop (At ⟨some l, n, []⟩ W (fun st' => Jc (pre ++ [x]) st') (fun _ => []) (fun st' => Hc st' ++ [.fz Zr]))] (fr1 x y) (Ha x y ++ (Hc st ++ [.fz Zr])))
    (hdone : ∀ (D : Nat) (Zd : PH) (st : σ), Zd D = some (.deferred (some [])) → Jc xs st → WP P Q ⟨none, n, { target := .collected D, args := #[] } :: ds⟩ w0 k' fr (Hc st ++ (Hf ++ [.fz Zd])))
    (hleft : ∀ (D : Nat) (Zd : PH) (c : Code) (pre : List α) (st : σ), Zd D = some (.deferred (some [])) → Jx c pre st → WP P Q ⟨none, n, { target := .collected D, args := #[] } :: ds⟩ w0 (.code c :: k') fr (Hc st ++ (Hf ++ [.fz Zd]))) : WP P Q ⟨none, n, ds⟩ w0 k fr H := by
  refine WP.to hn fun a w ha hw => ?_
  show (Code.rangeFunc g ps assign body).wpIn (fen none) 0 P (sem P none Q k') a w
  obtain ⟨hwc, hwf, hap⟩ := (hw.pick hH).app
  have had := ha.defers
  refine wpIn_rangeFunc fun fn hfn => ?_
  obtain ⟨rec_, hrec⟩ : ∃ rec_ : LoopState → Option Code → Loop, rec_ = fun st pe => { state := st, pending := pe, fn, tmps := a.tmps, params := ps, assign, body, defers := w.heap.size } := ⟨_, rfl⟩
  obtain ⟨W1, hW1⟩ : ∃ W1, W1 = (w.alloc (.deferred (some []))).alloc (.loop (rec_ .ready none)) := ⟨_, rfl⟩
  have hL1 : W1.heap[w.heap.size + 1]? = some (.loop (rec_ .ready none)) := by
    rw [hW1]; have := World.alloc_heap_new (w.alloc (.deferred (some []))) (.loop (rec_ .ready none)); rwa [World.size_alloc] at this
  have hK1 : W1.heap[w.heap.size]? = some (.deferred (some [])) := by
    rw [hW1]; exact (Below.heap_alloc _ _ _ (by simp)).trans (World.alloc_heap_new w _)
  have hb1 : Below w.heap.size w W1 := by
    rw [hW1]; exact ((Below.refl _ w).alloc (Nat.le_refl _) _).alloc (by simp) _
  have hs1 : W1.heap.size = w.heap.size + 2 := by rw [hW1]; simp
  have hwc1 := hwc.below hb1
  have hwf1 := hwf.below hb1
  have hM0 : Makes (zOf W1 (w.heap.size + 1) w.heap.size (Hc st0)) (w.heap.size + 1) w.heap.size (.loop (rec_ .ready none)) (.deferred (some [])) (Hc st0) :=
    Makes.of hwc1 hL1 hK1 fun p hp b hb => by
      have := Piece.lt (hwc.holds p hp) hb
      exact ⟨by omega, by omega⟩
  have hy := round_yieldsG (P := P) (l := w.heap.size + 1) (D := w.heap.size) (fn := fn) hps hpn hass hbody (by omega) (a := a) ⟨ha.size, rfl, ha.get⟩ (rec_ := rec_) (by rw [hrec])
  have hKW : KH W1 (.fz (zOf W1 (w.heap.size + 1) w.heap.size (Hc st0)) :: Hf) W1 := by
    refine ⟨Below.refl _ _, List.pairwise_cons.2 ⟨fun q hq b h1 h2 => ?_, hwf.apart⟩, fun p hp => ?_⟩
    · have hlt := Piece.lt (hwf.holds q hq) h2
      rcases zOf_ne h1 with h | h | ⟨p, hp, h⟩
      · omega
      · omega
      · exact hap p hp q hq b h h2
    · rcases List.mem_cons.1 hp with rfl | hp
      · exact zOf_holds _ _ _ _
      · exact hwf1.holds p hp
  have hcall := hit (w.heap.size + 1) _ _ _ W1 hy ⟨st0, h0, hM0⟩ hKW
  have c1 : (Instr.enterLoop fn a.tmps ps assign body none).run P w = .ok (w.heap.size + 1, [{ target := .collected w.heap.size, args := #[] }]) W1 := by
    rw [hW1, hrec]; exact run_enterLoop_outer _ _ _ _ _
  have c2 : (resolve a.eval (rangeCall g (w.heap.size + 1)) 0).run P W1 = .ok { target := .fn (.func gf) lb, args := #[.func (.yield (w.heap.size + 1)) #[] #[]] } W1 := by
    simp only [resolve, rangeCall, ha.eval hg, Deferred.ofValue, Sem.run_bind, Sem.run_pure, Result.andThen_ok]
    simp [Act.eval]
  have c3 : (invoke (.fn (.func gf) lb) #[.func (.yield (w.heap.size + 1)) #[] #[]]).run P W1 = .ok (.enter gf (#[.func (.yield (w.heap.size + 1)) #[] #[]] ++ lb)) W1 := by
    simp only [invoke]
    exact callFunc_run hb _ W1
  refine ⟨w.heap.size + 1, _, W1, _, W1, gf, _, W1, c1, c2, fun _ _ => trivial, c3, fun h => (by cases h), callsIn_fen none _ (Calls.mono hcall ?_)⟩
  -- behind the iterator
  have hend : ∀ (st : σ) (jump : Option Code) (state : LoopState) (Z' : PH) (W2 : World), state ≠ .busy →
      Makes Z' (w.heap.size + 1) w.heap.size (.loop (rec_ state jump)) (.deferred (some [])) (Hc st) → Turn (zOf W1 (w.heap.size + 1) w.heap.size (Hc st0)) Z' W1 W2 →
      ∃ W3, (Instr.endLoop (w.heap.size + 1)).run P W2 = .ok jump W3 ∧ ∃ Zd : PH, Zd w.heap.size = some (.deferred (some [])) ∧ KH w0 (Hc st ++ (Hf ++ [.fz Zd])) W3 := by
    intro st jump state Z' W2 hst hM ht
    have hl2 := ht.held _ _ hM.rec_
    have hD2 := ht.held _ _ hM.def_
    have e4 : (rec_ state jump).pending = jump := by rw [hrec]
    obtain ⟨o', he⟩ : ∃ o', (Instr.endLoop (w.heap.size + 1)).run P W2 = .ok jump (W2.putObj (w.heap.size + 1) o') :=
      ⟨_, (run_endLoop (P := P) hl2 (by rw [hrec]; exact hst)).trans (congrArg (fun j => Result.ok j _) e4)⟩
    refine ⟨_, he, fun b => if b = w.heap.size then some (.deferred (some [])) else none, by simp, ?_⟩
    have hoth : ∀ b, b ≠ w.heap.size + 1 → (W2.putObj (w.heap.size + 1) o').heap[b]? = W2.heap[b]? := fun b hb => World.putObj_heap_other hb
    have hq2 : ∀ q ∈ Hf, ∀ b, q.foot b → (W2.putObj (w.heap.size + 1) o').heap[b]? = w.heap[b]? := fun q hq b hb => by
      have hlt := Piece.lt (hwf.holds q hq) hb
      rw [hoth b (by omega), ht.other b (by omega) ?_, hb1.block b hlt]
      apply Classical.byContradiction
      intro hne
      rcases zOf_ne hne with h | h | ⟨p, hp, h⟩
      · omega
      · omega
      · exact hap p hp q hq b h hb
    refine ⟨hw.glob.trans ((hb1.mono (Nat.zero_le _)).trans (ht.glob.trans (below_putObj _ _ _))), ?_, ?_⟩
    · refine List.pairwise_append.2 ⟨hM.apart, List.pairwise_append.2 ⟨hwf.apart, List.pairwise_singleton _ _, fun q hq p hp b h1 h2 => ?_⟩, fun p hp q hq b h1 h2 => ?_⟩
      · simp only [List.mem_singleton] at hp
        subst hp
        have hlt := Piece.lt (hwf.holds q hq) h1
        simp only [Piece.foot] at h2
        rw [if_neg (by omega)] at h2
        exact h2 rfl
      · obtain ⟨hz, h4, h5⟩ := hM.foot p hp b h1
        rcases List.mem_append.1 hq with hq | hq
        · have hlt := Piece.lt (hwf.holds q hq) h2
          rcases ht.foot b hz with h | h
          · rcases zOf_ne h with h | h | ⟨p', hp', h⟩
            · omega
            · omega
            · exact hap p' hp' q hq b h h2
          · omega
        · simp only [List.mem_singleton] at hq
          subst hq
          simp only [Piece.foot] at h2
          rw [if_neg h5] at h2
          exact h2 rfl
    · intro p hp
      rcases List.mem_append.1 hp with hp | hp
      · exact Piece.keep (hM.holds W2 ht.held p hp) fun b hb => hoth b (hM.foot p hp b hb).2.1
      · rcases List.mem_append.1 hp with hp | hp
        · exact Piece.keep (hwf.holds p hp) fun b hb => hq2 p hp b hb
        · simp only [List.mem_singleton] at hp
          subst hp
          intro b o hb
          by_cases e : b = w.heap.size
          · subst e
            simp only [if_pos] at hb
            cases hb
            rw [hoth _ (by omega)]
            exact hD2
          · simp only [if_neg e] at hb; cases hb
  have hkn : ∀ D : Nat, Knows ⟨none, n, { target := .collected D, args := #[] } :: ds⟩ fr { a with defers := [{ target := .collected D, args := #[] }] ++ a.defers } := fun D => ⟨ha.size, by rw [had]; rfl, ha.get⟩
  rintro e W2 ⟨⟨v, rfl⟩, (⟨Z', ⟨st, hJ, hM⟩, ht⟩ | ⟨pre, Z', ⟨c, st, hJ, hM⟩, ht⟩)⟩
  · obtain ⟨W3, he, Zd, hZd, hK3⟩ := hend st none .ready Z' W2 (by simp) hM ht
    exact ⟨none, W3, he, hdone _ Zd st hZd hJ _ W3 (hkn _) hK3⟩
  · obtain ⟨W3, he, Zd, hZd, hK3⟩ := hend st (some c) .done Z' W2 (by simp) hM ht
    have := hleft _ Zd c pre st hZd hJ _ W3 (hkn _) hK3
    exact ⟨some c, W3, he, this⟩
/-- a round left for good -/
theorem WP.leaveRet {α σ : Type} {Jx : Code → List α → σ → Prop} {Hx : σ → Heap} {pre : List α} {Zr : PH} (st : σ) (hn : norm 1000 k = .code .ret :: k') (hJ : Jx .ret pre st) (hH : Pick (Hx st ++ [.fz Zr]) H) : WP P (Leaves Jx Hx pre w0 Zr) N w0 k fr H :=
  WP.to hn fun a w ha hw => wpIn_ret (sem_ret _ _ _ ⟨.ret, rfl, st, hJ, hw.pick hH⟩)
end
/-- a loop over a list, as a plain function -/
def fe {α σ ρ : Type} (body : α → (σ → Option ρ) → σ → Option ρ) : List α → (σ → Option ρ) → σ → Option ρ
  | [], k, s => k s
  | x :: xs, k, s => body x (fun s' => fe body xs k s') s
theorem fe_cons {α σ ρ : Type} {body : α → (σ → Option ρ) → σ → Option ρ} {x : α} {xs : List α} {k : σ → Option ρ} {s : σ} {r : ρ} (h : fe body (x :: xs) k s = some r) : body x (fun s' => fe body xs k s') s = some r := h
theorem cancel_post {α : Type} {xs pre post post' : List α} {x : α} (h : xs = pre ++ x :: post) (h' : xs = pre ++ post') : post' = x :: post := (List.append_cancel_left (h.symm.trans h')).symm
theorem snoc_post {α : Type} {xs pre post : List α} {x : α} (h : xs = pre ++ x :: post) : xs = (pre ++ [x]) ++ post := by rw [h]; simp
end Go.Qe
namespace Go.Qe
open Go.RowKit
structure Tip where
  a : Int
  n : Int
  deriving DecidableEq
def fTip : Fl Tip := ⟨2, fun x => [.int .i64 x.a, .int .i64 x.n], fun _ => rfl, fun _ => rfl⟩
end Go.Qe
