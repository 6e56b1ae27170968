/- An instance that came in. -/
import Derived.Test.YtbnjeanldechnaaGreatDoorTys
import Derived.Test.YtbnjeanldechnaaGreatDoorDat
import Derived.Test.YtbnjeanldechnaaGreatDoorOpA
import Derived.Deep.Slices
import Derived.Deep.Fields
import Derived.ChangeSame
import Derived.ProofKit
import Derived.RowKit
namespace Go.Proofs.YtbnjeanldechnaaGreatDoor
open Go.RowKit Go.Qe Go.ChangeShapes Go.WideShapes Go.Deep
section
variable {H : Type} {enc : TypeId × Value → H} {P : Program} {w : World} {base : Nat} {spare : Nat → Bool} {held : Bool}
/-- a slice of structs, of whatever number of fields of one cell -/
theorem slice_fields {t e : TypeId} {fs : Array Field} {fuel : Nat} {cs : List Value} {x : DataW H × List MemPlace} (ht : P.underlying t = some (.slice e)) (he : P.underlying e = some (.struct fs))
    (hone : oneCellFields P fs = true) (hC : P.cellsOf e = fs.size) (h : DataW.trod enc P w base spare held fuel t cs = some x) :
    cs = [.slice none 0 0] ∨ ∃ (a : Addr) (len cap : Nat), cs = [.slice (some a) len cap] ∧ len ≤ cap ∧ cap ≤ maxLen ∧
      ∀ i, i < len → ∀ (j : Nat) (f : Field), fs[j]? = some f → ∃ (n : Nat) (v : Value) (y : DataW H × List MemPlace), w.cell? (a.add (i * fs.size + j)) = some v ∧ DataW.trod enc P w base spare held n f.type [v] = some y := by
  rcases open_slice ht h with h0 | ⟨a, len, cap, m, n, D, Pl, hcs, hb, hl, hm, hmm, hx, hi⟩
  · exact .inl h0.1
  · refine .inr ⟨a, len, cap, hcs, hl, hm, fun i hlt j f hj => ?_⟩
    obtain ⟨cs', hc, ht'⟩ := hi i (by rw [hmm]; split <;> omega)
    rw [hC] at hc
    obtain ⟨ys, n', hn', hy, hlen, hyl, hf⟩ := DataW.trod_struct he ht'
    obtain ⟨_, hcl, hat⟩ := World.cells?_some hc
    obtain ⟨ho, hk⟩ := hone_of hone j f hj
    have hjl : j < fs.size := (Array.getElem?_eq_some_iff.1 hj).1
    have hcell := hat j hjl
    have hv : cs'[j]? = some (cs'[j]'(by omega)) := List.getElem?_eq_getElem (by omega)
    have h1 := hf j f hj
    rw [ho, hk] at h1
    have hone' : (cs'.drop j).take 1 = [cs'[j]'(by omega)] := by
      rw [List.drop_eq_getElem_cons (by omega)]
      rfl
    rw [hone'] at h1
    have hys : ys[j]? = some (ys[j]'(by omega)) := List.getElem?_eq_getElem (by omega)
    refine ⟨n', _, _, ?_, h1.trans hys⟩
    rw [← Go.Deep.add_add, hcell, hv]
end
structure WfA (a : Arc) : Prop where
  src : (Lit.int .i64 a.src).wf = true
  dst : (Lit.int .i64 a.dst).wf = true
  low : (Lit.int .i64 a.low).wf = true
  cap : (Lit.int .i64 a.cap).wf = true
  cost : (Lit.int .i64 a.cost).wf = true
structure WfI (i : Inst) : Prop where
  sup : ∀ s ∈ i.supply, (Lit.int .i64 s).wf = true
  arcs : ∀ a ∈ i.arcs, WfA a
  l1 : i.supply.length ≤ 9223372036854775807
  l2 : i.arcs.length ≤ 9223372036854775807
theorem cell_spot {w : World} {b off : Nat} {s : Option Nat} {v : Value} (h : w.cell? ((⟨b, off, s⟩ : Addr).add 0) = some v) : s = none := by
  cases s with
  | none => rfl
  | some s =>
    simp [World.cell?, Addr.add] at h
    split at h <;> cases h
theorem cell_add {w : World} {b off j : Nat} {v : Value} (h : w.cell? ((⟨b, off, none⟩ : Addr).add j) = some v) : Zc (PH.of w) b (off + j) = some v := by
  rw [Zc_of]
  have := h
  rw [add_addr] at this
  by_cases h0 : j = 0
  · subst h0; simpa using this
  · rw [if_neg h0] at this; exact this
set_option maxRecDepth 20000 in
theorem inst_open {H : Type} {enc : TypeId × Value → H} {w : World} {base b0 : Nat} {sp : Nat → Bool} {held : Bool} {r : Reach} {v : Value} {d : DataW H} {p : List MemPlace}
    (hv : Value.okWide Tryz.prog w r b0 25 v) (h : DataW.Trod enc Tryz.prog w base sp held 25 v d p) : ∃ i : Inst, InsZ (PH.of w) v i ∧ WfI i := by
  obtain ⟨cs, rfl, hsz⟩ := okWide_struct Tryz.underlying25 hv
  obtain ⟨fuel, hf⟩ := h
  obtain ⟨xs, n, _, _, hl, hx, hall⟩ := DataW.trod_struct (cs := cs.toList) Tryz.underlying25 hf
  obtain ⟨cs⟩ := cs
  have h2 : Tryz.prog.cellsOf 25 = 2 := by kernel_rfl
  have c1 : Tryz.prog.cellsOf 22 = 1 := by kernel_rfl
  have c2 : Tryz.prog.cellsOf 23 = 1 := by kernel_rfl
  rw [h2] at hsz
  simp only [List.size_toArray] at hsz
  match cs, hsz with
  | [v0, v1], _ =>
    have g0 := hall 0 _ rfl
    have g1 := hall 1 _ rfl
    have e0 : (([v0, v1] : List Value).toArray.toList.drop 0).take (Tryz.prog.cellsOf 22) = [v0] := by rw [c1]; rfl
    have e1 : (([v0, v1] : List Value).toArray.toList.drop 1).take (Tryz.prog.cellsOf 23) = [v1] := by rw [c2]; rfl
    rw [List.getElem?_eq_getElem (by rw [hx]; decide)] at g0 g1
    have t0 := (congrArg (fun l => DataW.trod enc Tryz.prog w base sp held n 22 l) e0).symm.trans g0
    have t1 := (congrArg (fun l => DataW.trod enc Tryz.prog w base sp held n 23 l) e1).symm.trans g1
    -- supplies
    obtain ⟨A1, k1, s, hv0, hF1, hw1⟩ : ∃ A1 k1 s, v0 = .slice A1 s.length k1 ∧ FzS (fI .i64) (PH.of w) A1 k1 s ∧ (∀ x ∈ s, (Lit.int .i64 x).wf = true) := by
      rcases open_ints Tryz.underlying22 Tryz.underlying2 (by kernel_rfl) t0 with ⟨hcs, _⟩ | ⟨x, len, c, zs, hcs, _, hlc, hm, hz, _, hcell, hwz⟩
      · exact ⟨none, 0, [], by simpa using hcs, .nil_, fun x hx => by cases hx⟩
      · have hz' : len ≤ zs.length := by rw [hz]; split <;> omega
        have hlen : (zs.take len).length = len := by simp; omega
        refine ⟨some x, c, zs.take len, by rw [hlen]; simpa using hcs, ⟨by omega, by simpa [maxLen] using hm, fun hp => ?_⟩, fun y hy => hwz y (List.mem_of_mem_take hy)⟩
        obtain ⟨b, off, spot⟩ := x
        have hs : spot = none := cell_spot (hcell 0 (by omega))
        subst hs
        refine ⟨b, off, rfl, fun j y hj o u ho => ?_⟩
        have hjl : j < len := by have := (List.getElem?_eq_some_iff.1 hj).1; omega
        have h3 := cell_add (hcell j (by omega))
        rcases o with _ | o
        · simp only [fI, List.getElem?_cons_zero, Option.some.injEq] at ho
          subst ho
          have : zs.getD j 0 = y := by
            rw [List.getElem?_take_of_lt hjl] at hj
            simp [List.getD, hj]
          rw [this] at h3
          simpa [fI] using h3
        · simp [fI] at ho
    -- arcs
    obtain ⟨A2, k2, l, hv1, hF2, hw2⟩ : ∃ A2 k2 l, v1 = .slice A2 l.length k2 ∧ FzS fA (PH.of w) A2 k2 l ∧ (∀ a ∈ l, WfA a) := by
      rcases slice_fields Tryz.underlying23 Tryz.underlying31 (by kernel_rfl) (by kernel_rfl) t1 with hcs | ⟨x, len, c, hcs, hlc, hm, hi⟩
      · exact ⟨none, 0, [], by simpa using hcs, .nil_, fun x hx => by cases hx⟩
      · have hint : ∀ i, i < len → ∃ a : Arc, WfA a ∧ ∀ o u, (fA.cells a)[o]? = some u → w.cell? (x.add (i * 5 + o)) = some u := fun i hil => by
          obtain ⟨n0, u0, y0, q0, r0⟩ := hi i hil 0 _ rfl
          obtain ⟨n1, u1, y1, q1, r1⟩ := hi i hil 1 _ rfl
          obtain ⟨n2, u2, y2, q2, r2⟩ := hi i hil 2 _ rfl
          obtain ⟨n3, u3, y3, q3, r3⟩ := hi i hil 3 _ rfl
          obtain ⟨n4, u4, y4, q4, r4⟩ := hi i hil 4 _ rfl
          obtain ⟨m0, e0, _, g0⟩ := DataW.trod_int Tryz.underlying3 r0
          obtain ⟨m1, e1, _, g1⟩ := DataW.trod_int Tryz.underlying3 r1
          obtain ⟨m2, e2, _, g2⟩ := DataW.trod_int Tryz.underlying2 r2
          obtain ⟨m3, e3, _, g3⟩ := DataW.trod_int Tryz.underlying2 r3
          obtain ⟨m4, e4, _, g4⟩ := DataW.trod_int Tryz.underlying2 r4
          simp only [List.cons.injEq, and_true] at e0 e1 e2 e3 e4
          subst e0 e1 e2 e3 e4
          refine ⟨⟨m0, m1, m2, m3, m4⟩, ⟨g0, g1, g2, g3, g4⟩, fun o u ho => ?_⟩
          rcases o with _ | _ | _ | _ | _ | o
          · simp only [fA, Arc.cells, List.getElem?_cons_zero, Option.some.injEq] at ho; subst ho; exact q0
          · simp only [fA, Arc.cells, List.getElem?_cons_succ, List.getElem?_cons_zero, Option.some.injEq] at ho; subst ho; exact q1
          · simp only [fA, Arc.cells, List.getElem?_cons_succ, List.getElem?_cons_zero, Option.some.injEq] at ho; subst ho; exact q2
          · simp only [fA, Arc.cells, List.getElem?_cons_succ, List.getElem?_cons_zero, Option.some.injEq] at ho; subst ho; exact q3
          · simp only [fA, Arc.cells, List.getElem?_cons_succ, List.getElem?_cons_zero, Option.some.injEq] at ho; subst ho; exact q4
          · simp [fA, Arc.cells] at ho
        have hl0 : ∃ l : List Arc, l.length = len ∧ ∀ i (hi2 : i < l.length), WfA l[i] ∧ ∀ o u, (fA.cells l[i])[o]? = some u → w.cell? (x.add (i * 5 + o)) = some u := by
          refine ⟨(List.finRange len).map fun i => Classical.choose (hint i.1 i.2), by simp, fun i hi2 => ?_⟩
          have hil : i < len := by simpa using hi2
          have := Classical.choose_spec (hint i hil)
          simpa using this
        obtain ⟨l, hll, hlp⟩ := hl0
        refine ⟨some x, c, l, by rw [hll]; simpa using hcs, ⟨by omega, by simpa [maxLen] using hm, fun hp => ?_⟩, fun a ha => ?_⟩
        · obtain ⟨b, off, spot⟩ := x
          have hs : spot = none := cell_spot ((hlp 0 hp).2 0 _ rfl)
          subst hs
          refine ⟨b, off, rfl, fun j y hj o u ho => ?_⟩
          obtain ⟨hjl, rfl⟩ := List.getElem?_eq_some_iff.1 hj
          exact cell_add ((hlp j hjl).2 o u ho)
        · obtain ⟨i, hi2, rfl⟩ := List.getElem_of_mem ha
          exact (hlp i hi2).1
    subst hv0 hv1
    exact ⟨⟨s, l⟩, ⟨A1, k1, A2, k2, rfl, hF1, hF2⟩, ⟨hw1, hw2, by have := hF1.le; have := hF1.cap; dsimp only; omega, by have := hF2.le; have := hF2.cap; dsimp only; omega⟩⟩
end Go.Proofs.YtbnjeanldechnaaGreatDoor
