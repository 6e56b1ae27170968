/- An arc that came in. -/
import Derived.Test.YtpnohbdfgmjdbaaGreatTys
import Derived.Test.YtpnohbdfgmjdbaaGreatDat
import Derived.ProofKit
import Derived.ChangeArms
import Derived.KernelRfl
namespace Go.Proofs.YtpnohbdfgmjdbaaGreat
open Go.RowKit Go.Qe Go.ChangeShapes Go.WideShapes
/-- a field that is an integer -/
theorem fld_int {H : Type} {enc : TypeId × Value → H} {P : Program} {w : World} {base n : Nat} {sp : Nat → Bool} {held : Bool} {k : IntKind} {fs : Array Field} {cs : List Value} {xs : List (DataW H × List MemPlace)} (hx : xs.length = fs.size)
    (hall : ∀ (i : Nat) (f : Field), fs[i]? = some f → DataW.trod enc P w base sp held n f.type ((cs.drop f.offset).take (P.cellsOf f.type)) = xs[i]?) (i : Nat) (f : Field) (hi : fs[i]? = some f) (u : Value)
    (hu : (cs.drop f.offset).take (P.cellsOf f.type) = [u]) (ht : P.underlying f.type = some (.int k)) : ∃ m, u = .int k m ∧ (Lit.int k m).wf = true := by
  have h1 := hall i f hi
  have hlt : i < xs.length := by rw [hx]; exact (Array.getElem?_eq_some_iff.1 hi).1
  rw [List.getElem?_eq_getElem hlt] at h1
  obtain ⟨m, e, _, hw⟩ := DataW.trod_int ht h1
  have e2 : [u] = [.int k m] := hu.symm.trans e
  exact ⟨m, by simpa using e2, hw⟩
set_option maxRecDepth 20000 in
theorem arc_open {H : Type} {enc : TypeId × Value → H} {w : World} {base b0 : Nat} {sp : Nat → Bool} {held : Bool} {r : Reach} {v : Value} {d : DataW H} {p : List MemPlace}
    (hv : Value.okWide Tryz.prog w r b0 34 v) (h : DataW.Trod enc Tryz.prog w base sp held 34 v d p) :
    ∃ a : Arc, v = .agg #[.int .i64 a.src, .int .i64 a.dst, .int .i64 a.low, .int .i64 a.cap, .int .i64 a.cost] ∧ (Lit.int .i64 a.low).wf = true ∧ (Lit.int .i64 a.cap).wf = true := by
  obtain ⟨cs, rfl, hsz⟩ := okWide_struct Tryz.underlying34 hv
  obtain ⟨fuel, hf⟩ := h
  obtain ⟨xs, n, _, _, hl, hx, hall⟩ := DataW.trod_struct (cs := cs.toList) Tryz.underlying34 hf
  obtain ⟨cs⟩ := cs
  have h5 : Tryz.prog.cellsOf 34 = 5 := by kernel_rfl
  have c3 : Tryz.prog.cellsOf 3 = 1 := by kernel_rfl
  have c2 : Tryz.prog.cellsOf 2 = 1 := by kernel_rfl
  rw [h5] at hsz
  simp only [List.size_toArray] at hsz
  match cs, hsz with
  | [v0, v1, v2, v3, v4], _ =>
    obtain ⟨m0, rfl, _⟩ := fld_int hx hall 0 _ rfl v0 (by show List.take (Tryz.prog.cellsOf 3) _ = _; rw [c3]; rfl) Tryz.underlying3
    obtain ⟨m1, rfl, _⟩ := fld_int hx hall 1 _ rfl v1 (by show List.take (Tryz.prog.cellsOf 3) _ = _; rw [c3]; rfl) Tryz.underlying3
    obtain ⟨m2, rfl, g2⟩ := fld_int hx hall 2 _ rfl v2 (by show List.take (Tryz.prog.cellsOf 2) _ = _; rw [c2]; rfl) Tryz.underlying2
    obtain ⟨m3, rfl, g3⟩ := fld_int hx hall 3 _ rfl v3 (by show List.take (Tryz.prog.cellsOf 2) _ = _; rw [c2]; rfl) Tryz.underlying2
    obtain ⟨m4, rfl, _⟩ := fld_int hx hall 4 _ rfl v4 (by show List.take (Tryz.prog.cellsOf 2) _ = _; rw [c2]; rfl) Tryz.underlying2
    exact ⟨⟨m0, m1, m2, m3, m4⟩, rfl, g2, g3⟩
end Go.Proofs.YtpnohbdfgmjdbaaGreat
