/- The layer: parts of slices of the call's own. -/
import Derived.Test.YthelgjfdkdaijaaDoorEngG
import Derived.Laws.CopyRow
import Derived.Laws.IdiomCopy
namespace Go.Qe
open Go.RowKit
def prt {α : Type} (xs : List α) (l h : Int) : List α := (xs.drop l.toNat).take (h - l).toNat
def PtF (A A' : Option Addr) (l h : Int) (z : Nat) : Prop := l < h → ∃ g, A = some ⟨g, 0, none⟩ ∧ A' = some ⟨g, l.toNat * z, none⟩
def bndI (fr : Fr) (x : Option Operand) (d j : Int) : Prop :=
  match x with
  | none => j = d
  | some x => ∃ k, val fr x = some (.int k j)
section
variable {α : Type} {f : Fl α} {xs : List α} {l h : Int} {A A' : Option Addr} {n c : Nat} {e : TypeId} {H H1 : Heap}
theorem prt_len (hb : 0 ≤ l ∧ l ≤ h ∧ h ≤ xs.length) : (prt xs l h).length = h.toNat - l.toNat := by
  simp only [prt, List.length_take, List.length_drop]; omega
theorem cl_prt (hb : 0 ≤ l ∧ l ≤ h ∧ h ≤ xs.length) {j : Nat} {v : Value} (hj : (cl f (prt xs l h))[j]? = some v) : (cl f xs)[l.toNat * f.z + j]? = some v := by
  have e1 : xs = xs.take l.toNat ++ (prt xs l h ++ (xs.drop l.toNat).drop (h - l).toNat) := by
    unfold prt
    rw [List.take_append_drop, List.take_append_drop]
  have hl : (cl f (xs.take l.toNat)).length = l.toNat * f.z := by rw [cl_length, List.length_take, Nat.min_eq_left (by omega)]
  have hlt := (List.getElem?_eq_some_iff.1 hj).1
  rw [e1, ← cl_append, ← cl_append, List.getElem?_append_right (by omega), hl, Nat.add_sub_cancel_left, List.getElem?_append_left hlt]
  exact hj
theorem OwS.appPt (hm : Rem (Ow f e A n c xs) H H1) (hb : 0 ≤ l ∧ l ≤ h ∧ h ≤ xs.length) (hp : PtF A A' l h f.z) (h0 : 0 < (prt xs l h).length) : ∃ b off, A' = some ⟨b, off, none⟩ ∧ SegAt H b off (cl f (prt xs l h)) := by
  have hlt : l < h := by rw [prt_len hb] at h0; omega
  obtain ⟨g, rfl, rfl⟩ := hp hlt
  refine ⟨g, _, rfl, fun w0 w hw j u hj => ?_⟩
  have := OwS.all hm rfl w0 w hw _ u (cl_prt hb hj)
  rwa [Nat.zero_add] at this
end
section
variable {P : Program} {Q : Exit → Act → World → Prop} {N : Cx} {w0 : World} {k k' : List Kont} {fr : Fr} {H H1 : Heap} {L : List TyD} {o : Oper} {α : Type}
theorem bndI.to {x : Option Operand} {d j : Nat} (h : bndI fr x d j) : bndIs fr x d j := by
  unfold bndI at h
  unfold bndIs
  cases x with
  | none => exact Int.ofNat.inj h
  | some x => exact h
/-- a part of a slice of the call's own -/
theorem WP.slO {f : Fl α} {xs : List α} (l h : Int) (hL : TyOk P L) {all : Array Oper} {cc : Prop} {d : Nat} {t e : TypeId} {x : Operand} {lo hi : Option Operand} {sz sb eb n c : Nat} {sv ev : Value} {td : TD} {A : Option Addr} (hn : headOp w0 H (norm 1000 k) = some (all, o, k', cc)) (hc : cc) (hd : o.dst = some d)
    (hN : Nat.blt d N.size = true) (hg : o.guard = none) (ho : o.op = .slice t x lo hi none) (ht : tget L t = some ⟨.slice e, sz, sb, sv⟩) (he : tget L e = some ⟨td, f.z, eb, ev⟩) (hx : val fr x = some (.slice A n c)) (hl : bndI fr lo 0 l) (hh : bndI fr hi n h)
    (hm : Rem (Ow f e A n c xs) H H1) (hf : OwF A n xs) (hb : 0 ≤ l ∧ l ≤ h ∧ h ≤ xs.length)
    (hk : ∀ A', PtF A A' l h f.z → WP P Q N w0 k' ((d, .slice A' (prt xs l h).length (c - l.toNat)) :: fr) H) : WP P Q N w0 k fr H := by
  have hlen := hf.len
  refine WP.fact (p := n ≤ c) (fun w hw => ?_) fun hnc => ?_
  · obtain ⟨A2, c2, e2, hF⟩ := hw.ow hm hf
    have := hF.le
    injection e2 with _ h2 h3
    omega
  have hpl := prt_len hb
  obtain ⟨l', rfl⟩ := Int.eq_ofNat_of_zero_le hb.1
  obtain ⟨h', rfl⟩ := Int.eq_ofNat_of_zero_le (show 0 ≤ h by omega)
  simp only [Int.toNat_natCast] at hpl hk
  rw [hpl] at hk
  refine WP.rd hn hc hd hN hg (slG hL ho ht he hx (fun _ => rfl) (m := c) rfl (h := h') hh.to (l := l') (bndI.to (d := 0) hl) (by omega) (by omega) (Nat.le_refl _)) (hk _ fun hlt => ?_)
  obtain ⟨g, rfl⟩ := hf.ex (by omega)
  refine ⟨g, rfl, ?_⟩
  rw [if_neg (by omega)]
  simp only [Option.map_some, add_addr, Int.toNat_natCast]
  by_cases h0 : l' * f.z = 0
  · rw [if_pos h0, h0]
  · rw [if_neg h0, Nat.zero_add]
end
end Go.Qe
namespace Go.Qe
open Go.RowKit
/-- what a copy leaves -/
def cpy {α : Type} (xs ys : List α) : List α := ys.take xs.length ++ xs.drop ys.length
theorem cpy_len {α : Type} (xs ys : List α) : (cpy xs ys).length = xs.length := by
  unfold cpy
  rw [List.length_append, List.length_take, List.length_drop]; omega
theorem cpy_min {α : Type} (xs ys : List α) : cpy xs ys = ys.take (min ys.length xs.length) ++ xs.drop (min ys.length xs.length) := by
  unfold cpy
  rcases Nat.le_total ys.length xs.length with h | h
  · rw [Nat.min_eq_left h, List.take_of_length_le h, List.take_length]
  · rw [Nat.min_eq_right h, List.drop_length, List.drop_eq_nil_of_le h]
theorem cl_drop1 {α : Type} {f : Fl α} (hz : f.z = 1) (xs : List α) (k : Nat) : cl f (xs.drop k) = (cl f xs).drop k := by
  conv => rhs; rw [← List.take_append_drop k xs, ← cl_append]
  by_cases h : k ≤ xs.length
  · have hl : (cl f (xs.take k)).length = k := by rw [cl_length, hz, List.length_take]; omega
    rw [List.drop_append_of_le_length (by omega), show (cl f (xs.take k)).drop k = [] from List.drop_eq_nil_of_le (by omega), List.nil_append]
  · rw [List.drop_eq_nil_of_le (show xs.length ≤ k by omega)]
    have : (cl f (xs.take k) ++ cl f ([] : List α)).length ≤ k := by
      rw [List.length_append, cl_length, cl_length, hz, List.length_take]; simp; omega
    rw [List.drop_eq_nil_of_le this]; rfl
theorem cl_take_get {α : Type} {f : Fl α} {ys : List α} {k j : Nat} {v : Value} (h : (cl f (ys.take k))[j]? = some v) : (cl f ys)[j]? = some v := by
  have hlt := (List.getElem?_eq_some_iff.1 h).1
  conv => lhs; rw [← List.take_append_drop k ys, ← cl_append]
  rw [List.getElem?_append_left hlt]
  exact h
section
variable {P : Program} {Q : Exit → Act → World → Prop} {N : Cx} {w0 : World} {k k' : List Kont} {fr : Fr} {H H1 : Heap} {L : List TyD} {o : Oper} {α : Type}
/-- a copy into a slice of the call's own -/
theorem WP.cpyO {f : Fl α} {xs ys zs : List α} (hL : TyOk P L) {all : Array Oper} {rest : List Oper} {d : Nat} {t e : TypeId} {sz sb eb n c m cy : Nat} {sv ev : Value} {td : TD} {x y : Operand} {A B : Option Addr} (hn : norm 1000 k = .ops all (o :: rest) :: k') (hd : o.dst = some d) (hN : Nat.blt d N.size = true) (hg : o.guard = none)
    (ho : o.op = .call ⟨.builtin .copy, #[x, y], #[t, t]⟩) (ht : tget L t = some ⟨.slice e, sz, sb, sv⟩) (he : tget L e = some ⟨td, 1, eb, ev⟩) (hz : f.z = 1)
    (hx : val fr x = some (.slice A n c)) (hy : val fr y = some (.slice B m cy)) (hm : Rem (Ow f e A n c xs) H H1) (hf : OwF A n xs) (hlen : ys.length = m) (hB : 0 < ys.length → ∃ b off, B = some ⟨b, off, none⟩ ∧ SegAt H b off (cl f ys)) (hzs : zs = cpy xs ys)
    (h : OwF A n zs → WP P Q N w0 (.ops all rest :: k') ((d, .int .i64 ((min ys.length xs.length : Nat) : Int)) :: fr) (Ow f e A n c zs :: H1)) : WP P Q N w0 k fr H := by
  subst hlen
  have hnl := hf.len
  subst hnl
  have hzf : OwF A xs.length zs := ⟨by rw [hzs, cpy_len], hf.ex⟩
  refine WP.eff hn hd hN hg fun a w ha hw => ?_
  obtain ⟨i, hi1, hi2, _⟩ := hL.parts he
  have hsz : (P.info? e).map (·.size) = some 1 := by rw [hi1]; simp [hi2]
  have hu := hL.slice ht
  have hown : w.ownsRow 0 e f.z (.slice A xs.length c) xs.length (cl f xs) := hw.mem hm.mem.1
  by_cases h0 : min ys.length xs.length = 0
  · have hrun := run_copy_none (P := P) w t t o.type e A B xs.length c ys.length cy hu hsz h0
    have hz0 : zs = xs := by rw [hzs, cpy_min, h0]; simp
    refine ⟨_, w, _, ?_, ?_, h hzf⟩
    · simp only [execOp, ho, resolve, invoke, builtin, Sem.run_bind, Sem.run_pure, Result.andThen_ok, List.map_toArray, List.map_cons, List.map_nil, ha.eval hx, ha.eval hy, hrun, goInt, h0]
      rfl
    · subst hz0
      obtain ⟨h1, h2, h3⟩ := hw.rem hm
      exact ⟨h2.glob, List.pairwise_cons.2 ⟨h3, h2.apart⟩, fun p hp => by
        rcases List.mem_cons.1 hp with rfl | hp
        · exact h1
        · exact h2.holds p hp⟩
  · obtain ⟨b, off, rfl, hsrc⟩ := hB (by omega)
    rcases hown.2 with ⟨h1, h2⟩ | ⟨g, cap, cur, hv, _, hg', hnc, hcm, hcs, htk⟩
    · omega
    · injection hv with hv1 hv2 hv3
      subst hv1 hv3
      rw [hz, Nat.mul_one] at hcs htk
      have hcl : (cl f (ys.take (min ys.length xs.length))).length = min ys.length xs.length := by rw [cl_length, hz, List.length_take]; omega
      have hrun := run_copy_row (P := P) w t t o.type e g 0 xs.length c ⟨b, off, none⟩ ys.length cy cur e (cl f (ys.take (min ys.length xs.length))) hu hsz hg' hcl (fun j v hj => by
        have := hsrc w0 w hw j v (cl_take_get hj)
        rw [add_addr]
        by_cases hj0 : j = 0
        · subst hj0; simpa using this
        · rw [if_neg hj0]; exact this) (by rw [hcl]; omega) (oneCells_all cl_one)
      refine ⟨_, w.setRow g (cur.toList.take 0 ++ cl f (ys.take (min ys.length xs.length)) ++ cur.toList.drop (0 + (cl f (ys.take (min ys.length xs.length))).length)).toArray, _, ?_, ?_, h hzf⟩
      · simp only [execOp, ho, resolve, invoke, builtin, Sem.run_bind, Sem.run_pure, Result.andThen_ok, List.map_toArray, List.map_cons, List.map_nil, ha.eval hx, ha.eval hy, hrun, goInt, hcl]
      · refine hw.turn hm ⟨rfl, rfl, rfl, by simp [World.setRow], fun k hk => by omega⟩ (fun b _ hp => setRow_other w g b _ (fun e => hp (by rw [e]; rfl))) ?_ (fun b hb => .inl hb)
        refine ⟨by rw [cl_length, hzs, cpy_len], .inr ⟨g, c, _, rfl, Nat.zero_le _, setRow_heap w g _ _ e _ hg', hnc, hcm, ?_, ?_⟩⟩
        · simp only [List.take_zero, List.nil_append, Nat.zero_add, List.size_toArray, List.length_append, List.length_drop, hcl, hz, Nat.mul_one, Array.length_toList]
          omega
        · rw [hz, Nat.mul_one, hzs, cpy_min, ← cl_append, cl_drop1 hz]
          simp only [List.take_zero, List.nil_append, Nat.zero_add, hcl]
          rw [List.take_append, hcl, List.take_of_length_le (by omega)]
          congr 1
          rw [← htk, List.drop_take]
/-- two parts of memory that stay as they are, as one -/
theorem WP.fzOr {Z1 Z2 : PH} {H2 : Heap} (h1 : Rem (.fz Z1) H H1) (h2 : Rem (.fz Z2) H1 H2) (h : WP P Q N w0 k fr (.fz (PH.or Z1 Z2) :: H2)) : WP P Q N w0 k fr H := fun a w ha hw => by
  obtain ⟨p1, w1, a1⟩ := hw.rem h1
  obtain ⟨p2, w2, a2⟩ := w1.rem h2
  refine h a w ha ⟨w2.glob, List.pairwise_cons.2 ⟨fun q hq b hb hb2 => ?_, w2.apart⟩, fun p hp => ?_⟩
  · have hb' : PH.or Z1 Z2 b ≠ none := hb
    by_cases hz : Z1 b = none
    · refine a2 q hq b (fun e => hb' ?_) hb2
      have e' : Z2 b = none := e
      simp [PH.or, hz, e']
    · exact a1 q (h2.mem.2 q hq) b hz hb2
  · rcases List.mem_cons.1 hp with rfl | hp
    · intro b o hz
      unfold PH.or at hz
      split at hz
      · rename_i o' he
        cases hz
        exact p1 b _ he
      · exact p2 b o hz
    · exact w2.holds p hp
end
end Go.Qe
