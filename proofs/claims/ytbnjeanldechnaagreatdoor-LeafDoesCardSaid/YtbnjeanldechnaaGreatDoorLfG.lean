/- Leaf: what the printed walks stand on. -/
import Derived.Test.YtbnjeanldechnaaGreatDoorLfAu
import Derived.Test.YtbnjeanldechnaaGreatDoorEngG
import Derived.Laws.CopyRow
import Derived.Laws.IdiomCopy
import Derived.Test.YtbnjeanldechnaaGreatDoorAdjG
namespace Go.Proofs.YtbnjeanldechnaaGreatDoor
open Go.RowKit Go.Qe
/-- errors.errorType is what it was laid as -/
def GlobE (Z : PH) : Prop := Zc Z 0 0 = some gErr
theorem GlobE.le {Z Z' : PH} (h : GlobE Z) (hz : Z.le Z') : GlobE Z' := hz.cell h
theorem as_w {w0 w : World} {F : Heap} {g : Nat} {o : Int} (d : Option Int) (pg : GlobE (PH.of w)) (hw : KH w0 (.blk g 106 [.int .u16 o] :: F) w) :
    Calls Tryz.prog 67 #[errV d, .iface 108 (.pointer (some ⟨g, 0, none⟩))] w fun e w' =>
      ∃ v L, e = .returned v ∧ (v = .bool d.isSome ∧ L = [.blk g 106 [.int .u16 (d.getD o)]]) ∧ KH w0 (L ++ F) w' := by
  have hb : w.heap[g]? = some (.cells #[.int .u16 o] 106 (0, 0)) := hw.holds _ (List.Mem.head _)
  have ht : w.cell? ⟨g, 0, none⟩ = some (.int .u16 o) := by simp [World.cell?, hb]
  have hf : w.frozen? ⟨g, 0, none⟩ = false := by simp [World.frozen?, hb]
  have hg : w.cell? ⟨0, 0, none⟩ = some gErr := by rw [← Zc_of]; exact pg
  cases d with
  | none =>
    refine (as_nil _ w).mono fun e w' h => ?_
    obtain ⟨rfl, rfl⟩ := h
    exact ⟨_, _, rfl, ⟨rfl, rfl⟩, hw⟩
  | some n =>
    refine (as_hit n ⟨g, 0, none⟩ _ w hg ht hf).mono fun e w' h => ?_
    obtain ⟨rfl, rfl⟩ := h
    refine ⟨_, _, rfl, ⟨rfl, rfl⟩, ?_⟩
    have al : ∀ (w : World) (o : Obj), Below w.heap.size w (w.alloc o) := fun w o => (Below.refl _ w).alloc (Nat.le_refl _) o
    have h1 := (((hw.below (al _ (.cells #[.pointer (some ⟨g, 0, none⟩)] 108))).below (al _ (.cells #[.pointer (some ⟨1, 108, none⟩), .pointer (some ⟨w.heap.size, 0, none⟩), .int .u64 150] 139))).below (al _ (.cells #[.pointer (some ⟨1, 108, none⟩), .pointer (some ⟨w.heap.size, 0, none⟩), .int .u64 150] 139))).below (al _ (.cells #[.int .u16 n] 106))
    exact h1.setCell (.head) 0 (.int .u16 n)
end Go.Proofs.YtbnjeanldechnaaGreatDoor
namespace Go.Qe
open Go.RowKit
section
variable {P : Program} {Q : Exit → Act → World → Prop} {N : Cx} {w0 : World} {k k' : List Kont} {fr : Fr} {H : Heap}
theorem WP.mki {o : Oper} {all : Array Oper} {c : Prop} {d : Nat} {t : TypeId} {x : Operand} {v : Value} (hn : headOp w0 H (norm 1000 k) = some (all, o, k', c)) (hc : c) (hd : o.dst = some d) (hN : Nat.blt d N.size = true) (hg : o.guard = none)
    (ho : o.op = .makeInterface t x) (hx : val fr x = some v) (hm : ∀ w, (Instr.makeInterface t v).run P w = .ok (.iface t v) w) (h : WP P Q N w0 k' ((d, .iface t v) :: fr) H) : WP P Q N w0 k fr H :=
  WP.rd hn hc hd hN hg (fun a w ha hw => by
    simp only [execOp, ho, ha.eval hx, Sem.run_bind, Sem.run_pure, hm, Result.andThen_ok]) h
end
end Go.Qe
namespace Go.Qe
open Go.RowKit
def bndI (fr : Fr) (x : Option Operand) (d j : Int) : Prop :=
  match x with
  | none => j = d
  | some x => ∃ k, val fr x = some (.int k j)
section
variable {α : Type} {f : Fl α} {xs : List α} {l h : Int} {A A' : Option Addr} {n c : Nat} {e : TypeId} {H H1 : Heap}
end
section
variable {P : Program} {Q : Exit → Act → World → Prop} {N : Cx} {w0 : World} {k k' : List Kont} {fr : Fr} {H H1 : Heap} {L : List TyD} {o : Oper} {α : Type}
theorem bndI.to {x : Option Operand} {d j : Nat} (h : bndI fr x d j) : bndIs fr x d j := by
  unfold bndI at h
  unfold bndIs
  cases x with
  | none => exact Int.ofNat.inj h
  | some x => exact h
end
end Go.Qe
namespace Go.Qe
open Go.RowKit
section
variable {P : Program} {Q : Exit → Act → World → Prop} {N : Cx} {w0 : World} {k k' : List Kont} {fr : Fr} {H H1 : Heap} {L : List TyD} {o : Oper} {α : Type}
end
end Go.Qe
namespace Go.Qe
open Go.RowKit
structure Tip where
  a : Int
  n : Int
  deriving DecidableEq
end Go.Qe
