/- Copies of slices (slices.Clone). -/
import Derived.Test.YtbnjeanldechnaaGreatDoorA3
namespace Go.Proofs.YtbnjeanldechnaaGreatDoor
open Go.RowKit Go.Qe
set_option maxHeartbeats 1000000 in
theorem clone_int {w : World} {v : Value} {n : Nat} {f : Nat → Value} {cs : List Value} (hs : SlZ (PH.of w) 1 v n f) (hl : cs.length = n * 1) (hf : ∀ j, j < n * 1 → cs[j]? = some (f j)) (h1 : oneCells cs = true) (hn : n * 8 ≤ 140737488355328) :
    Calls Tryz.prog 105 #[v] w fun e w' => ∃ v', e = .returned v' ∧ True ∧ Ret w w' [.own v' 3 1 n cs] := by
  obtain ⟨A, c, rfl, hc, hm, hcell⟩ := hs
  refine enter_ Tryz.func105 rfl Tryz.ntmps105 rfl ?_
  cases A with
  | none =>
    have h0 : n = 0 := Nat.eq_zero_of_not_pos fun h => by obtain ⟨_, _, h, _⟩ := hcell h; cases h
    subst h0
    have : cs = [] := List.eq_nil_of_length_eq_zero (by omega)
    subst this
    repeat' (first | (refine WP.st tysOk false rfl (by first | exact True.intro | exact rfl | exact ⟨⟨rfl, rfl⟩, rfl⟩) rfl rfl rfl rfl ?_ ?_; · (first | exact True.intro | exact ⟨by omega, by omega⟩ | exact ⟨by omega, by omega, by omega, by omega⟩ | omega)) | refine WP.condT rfl rfl ?_)
    refine WP.own_nil 3 1 ?_
    refine WP.ret1 rfl rfl rfl (fun w1 hw1 => ⟨_, rfl, True.intro, Ret.of_KH hw1 ?_⟩)
    repeat (first | exact Pick.nil | (apply Pick.cons; (· repeat' (first | exact Rem.head | apply Rem.tail)
      )))
  | some a =>
    repeat' (first | (refine WP.st tysOk false rfl (by first | exact True.intro | exact rfl | exact ⟨⟨rfl, rfl⟩, rfl⟩) rfl rfl rfl rfl ?_ ?_; · (first | exact True.intro | exact ⟨by omega, by omega⟩ | exact ⟨by omega, by omega, by omega, by omega⟩ | omega)) | refine WP.condF rfl rfl ?_)
    refine WP.bs0 tysOk rfl rfl rfl rfl rfl rfl rfl ?_
    intro g
    repeat' (first | (refine WP.st tysOk false rfl (by first | exact True.intro | exact rfl | exact ⟨⟨rfl, rfl⟩, rfl⟩) rfl rfl rfl rfl ?_ ?_; · (first | exact True.intro | exact ⟨by omega, by omega⟩ | exact ⟨by omega, by omega, by omega, by omega⟩ | omega)))
    refine WP.shut (n := 0) (cap := 0) (z := 1) (cs := []) (sl := []) .head (Nat.le_refl _) (by omega) (by simp) (by simp) ?_
    by_cases h0 : n = 0
    · subst h0
      have : cs = [] := List.eq_nil_of_length_eq_zero (by omega)
      subst this
      refine WP.app0 tysOk rfl rfl rfl rfl rfl rfl rfl rfl rfl ?_
      apply exo
      · exact .head
      repeat' (first | (refine WP.st tysOk false rfl (by first | exact True.intro | exact rfl | exact ⟨⟨rfl, rfl⟩, rfl⟩) rfl rfl rfl rfl ?_ ?_; · (first | exact True.intro | exact ⟨by omega, by omega⟩ | exact ⟨by omega, by omega, by omega, by omega⟩ | omega)))
      refine WP.ret1 rfl rfl rfl (fun w1 hw1 => ⟨_, rfl, True.intro, Ret.of_KH hw1 ?_⟩)
      repeat (first | exact Pick.nil | (apply Pick.cons; (· repeat' (first | exact Rem.head | apply Rem.tail)
        )))
    · obtain ⟨b, off, h2, h3⟩ := hcell (by omega)
      cases h2
      refine WP.app tysOk rfl rfl rfl rfl rfl rfl rfl rfl rfl rfl rfl ?_
      apply exo
      · exact .head
      refine ⟨cs, ⟨SegAt.fz (Z := PH.of w) (by simp) (fun j u hj => ?_), hl⟩, h1, by omega, by omega, ?_⟩
      · have hlt : j < n * 1 := by rw [← hl]; exact (List.getElem?_eq_some_iff.1 hj).1
        rw [h3 j hlt, ← hj, hf j hlt]
      intro v'
      repeat' (first | (refine WP.st tysOk false rfl (by first | exact True.intro | exact rfl | exact ⟨⟨rfl, rfl⟩, rfl⟩) rfl rfl rfl rfl ?_ ?_; · (first | exact True.intro | exact ⟨by omega, by omega⟩ | exact ⟨by omega, by omega, by omega, by omega⟩ | omega)))
      refine WP.reown (n' := n) (cs' := cs) .head (by omega) (by simp) ?_
      refine WP.ret1 rfl rfl rfl (fun w1 hw1 => ⟨_, rfl, True.intro, Ret.of_KH hw1 ?_⟩)
      repeat (first | exact Pick.nil | (apply Pick.cons; (· repeat' (first | exact Rem.head | apply Rem.tail)
        )))
set_option maxHeartbeats 1000000 in
theorem clone_i64 {w : World} {v : Value} {n : Nat} {f : Nat → Value} {cs : List Value} (hs : SlZ (PH.of w) 1 v n f) (hl : cs.length = n * 1) (hf : ∀ j, j < n * 1 → cs[j]? = some (f j)) (h1 : oneCells cs = true) (hn : n * 8 ≤ 140737488355328) :
    Calls Tryz.prog 98 #[v] w fun e w' => ∃ v', e = .returned v' ∧ True ∧ Ret w w' [.own v' 2 1 n cs] := by
  obtain ⟨A, c, rfl, hc, hm, hcell⟩ := hs
  refine enter_ Tryz.func98 rfl Tryz.ntmps98 rfl ?_
  cases A with
  | none =>
    have h0 : n = 0 := Nat.eq_zero_of_not_pos fun h => by obtain ⟨_, _, h, _⟩ := hcell h; cases h
    subst h0
    have : cs = [] := List.eq_nil_of_length_eq_zero (by omega)
    subst this
    repeat' (first | (refine WP.st tysOk false rfl (by first | exact True.intro | exact rfl | exact ⟨⟨rfl, rfl⟩, rfl⟩) rfl rfl rfl rfl ?_ ?_; · (first | exact True.intro | exact ⟨by omega, by omega⟩ | exact ⟨by omega, by omega, by omega, by omega⟩ | omega)) | refine WP.condT rfl rfl ?_)
    refine WP.own_nil 2 1 ?_
    refine WP.ret1 rfl rfl rfl (fun w1 hw1 => ⟨_, rfl, True.intro, Ret.of_KH hw1 ?_⟩)
    repeat (first | exact Pick.nil | (apply Pick.cons; (· repeat' (first | exact Rem.head | apply Rem.tail)
      )))
  | some a =>
    repeat' (first | (refine WP.st tysOk false rfl (by first | exact True.intro | exact rfl | exact ⟨⟨rfl, rfl⟩, rfl⟩) rfl rfl rfl rfl ?_ ?_; · (first | exact True.intro | exact ⟨by omega, by omega⟩ | exact ⟨by omega, by omega, by omega, by omega⟩ | omega)) | refine WP.condF rfl rfl ?_)
    refine WP.bs0 tysOk rfl rfl rfl rfl rfl rfl rfl ?_
    intro g
    repeat' (first | (refine WP.st tysOk false rfl (by first | exact True.intro | exact rfl | exact ⟨⟨rfl, rfl⟩, rfl⟩) rfl rfl rfl rfl ?_ ?_; · (first | exact True.intro | exact ⟨by omega, by omega⟩ | exact ⟨by omega, by omega, by omega, by omega⟩ | omega)))
    refine WP.shut (n := 0) (cap := 0) (z := 1) (cs := []) (sl := []) .head (Nat.le_refl _) (by omega) (by simp) (by simp) ?_
    by_cases h0 : n = 0
    · subst h0
      have : cs = [] := List.eq_nil_of_length_eq_zero (by omega)
      subst this
      refine WP.app0 tysOk rfl rfl rfl rfl rfl rfl rfl rfl rfl ?_
      apply exo
      · exact .head
      repeat' (first | (refine WP.st tysOk false rfl (by first | exact True.intro | exact rfl | exact ⟨⟨rfl, rfl⟩, rfl⟩) rfl rfl rfl rfl ?_ ?_; · (first | exact True.intro | exact ⟨by omega, by omega⟩ | exact ⟨by omega, by omega, by omega, by omega⟩ | omega)))
      refine WP.ret1 rfl rfl rfl (fun w1 hw1 => ⟨_, rfl, True.intro, Ret.of_KH hw1 ?_⟩)
      repeat (first | exact Pick.nil | (apply Pick.cons; (· repeat' (first | exact Rem.head | apply Rem.tail)
        )))
    · obtain ⟨b, off, h2, h3⟩ := hcell (by omega)
      cases h2
      refine WP.app tysOk rfl rfl rfl rfl rfl rfl rfl rfl rfl rfl rfl ?_
      apply exo
      · exact .head
      refine ⟨cs, ⟨SegAt.fz (Z := PH.of w) (by simp) (fun j u hj => ?_), hl⟩, h1, by omega, by omega, ?_⟩
      · have hlt : j < n * 1 := by rw [← hl]; exact (List.getElem?_eq_some_iff.1 hj).1
        rw [h3 j hlt, ← hj, hf j hlt]
      intro v'
      repeat' (first | (refine WP.st tysOk false rfl (by first | exact True.intro | exact rfl | exact ⟨⟨rfl, rfl⟩, rfl⟩) rfl rfl rfl rfl ?_ ?_; · (first | exact True.intro | exact ⟨by omega, by omega⟩ | exact ⟨by omega, by omega, by omega, by omega⟩ | omega)))
      refine WP.reown (n' := n) (cs' := cs) .head (by omega) (by simp) ?_
      refine WP.ret1 rfl rfl rfl (fun w1 hw1 => ⟨_, rfl, True.intro, Ret.of_KH hw1 ?_⟩)
      repeat (first | exact Pick.nil | (apply Pick.cons; (· repeat' (first | exact Rem.head | apply Rem.tail)
        )))
set_option maxHeartbeats 1000000 in
theorem clone_arc {w : World} {v : Value} {n : Nat} {f : Nat → Value} {cs : List Value} (hs : SlZ (PH.of w) 5 v n f) (hl : cs.length = n * 5) (hf : ∀ j, j < n * 5 → cs[j]? = some (f j)) (h1 : oneCells cs = true) (hn : n * 40 ≤ 140737488355328) :
    Calls Tryz.prog 99 #[v] w fun e w' => ∃ v', e = .returned v' ∧ True ∧ Ret w w' [.own v' 31 5 n cs] := by
  obtain ⟨A, c, rfl, hc, hm, hcell⟩ := hs
  refine enter_ Tryz.func99 rfl Tryz.ntmps99 rfl ?_
  cases A with
  | none =>
    have h0 : n = 0 := Nat.eq_zero_of_not_pos fun h => by obtain ⟨_, _, h, _⟩ := hcell h; cases h
    subst h0
    have : cs = [] := List.eq_nil_of_length_eq_zero (by omega)
    subst this
    repeat' (first | (refine WP.st tysOk false rfl (by first | exact True.intro | exact rfl | exact ⟨⟨rfl, rfl⟩, rfl⟩) rfl rfl rfl rfl ?_ ?_; · (first | exact True.intro | exact ⟨by omega, by omega⟩ | exact ⟨by omega, by omega, by omega, by omega⟩ | omega)) | refine WP.condT rfl rfl ?_)
    refine WP.own_nil 31 5 ?_
    refine WP.ret1 rfl rfl rfl (fun w1 hw1 => ⟨_, rfl, True.intro, Ret.of_KH hw1 ?_⟩)
    repeat (first | exact Pick.nil | (apply Pick.cons; (· repeat' (first | exact Rem.head | apply Rem.tail)
      )))
  | some a =>
    repeat' (first | (refine WP.st tysOk false rfl (by first | exact True.intro | exact rfl | exact ⟨⟨rfl, rfl⟩, rfl⟩) rfl rfl rfl rfl ?_ ?_; · (first | exact True.intro | exact ⟨by omega, by omega⟩ | exact ⟨by omega, by omega, by omega, by omega⟩ | omega)) | refine WP.condF rfl rfl ?_)
    refine WP.bs0 tysOk rfl rfl rfl rfl rfl rfl rfl ?_
    intro g
    repeat' (first | (refine WP.st tysOk false rfl (by first | exact True.intro | exact rfl | exact ⟨⟨rfl, rfl⟩, rfl⟩) rfl rfl rfl rfl ?_ ?_; · (first | exact True.intro | exact ⟨by omega, by omega⟩ | exact ⟨by omega, by omega, by omega, by omega⟩ | omega)))
    refine WP.shut (n := 0) (cap := 0) (z := 5) (cs := []) (sl := []) .head (Nat.le_refl _) (by omega) (by simp) (by simp) ?_
    by_cases h0 : n = 0
    · subst h0
      have : cs = [] := List.eq_nil_of_length_eq_zero (by omega)
      subst this
      refine WP.app0 tysOk rfl rfl rfl rfl rfl rfl rfl rfl rfl ?_
      apply exo
      · exact .head
      repeat' (first | (refine WP.st tysOk false rfl (by first | exact True.intro | exact rfl | exact ⟨⟨rfl, rfl⟩, rfl⟩) rfl rfl rfl rfl ?_ ?_; · (first | exact True.intro | exact ⟨by omega, by omega⟩ | exact ⟨by omega, by omega, by omega, by omega⟩ | omega)))
      refine WP.ret1 rfl rfl rfl (fun w1 hw1 => ⟨_, rfl, True.intro, Ret.of_KH hw1 ?_⟩)
      repeat (first | exact Pick.nil | (apply Pick.cons; (· repeat' (first | exact Rem.head | apply Rem.tail)
        )))
    · obtain ⟨b, off, h2, h3⟩ := hcell (by omega)
      cases h2
      refine WP.app tysOk rfl rfl rfl rfl rfl rfl rfl rfl rfl rfl rfl ?_
      apply exo
      · exact .head
      refine ⟨cs, ⟨SegAt.fz (Z := PH.of w) (by simp) (fun j u hj => ?_), hl⟩, h1, by omega, by omega, ?_⟩
      · have hlt : j < n * 5 := by rw [← hl]; exact (List.getElem?_eq_some_iff.1 hj).1
        rw [h3 j hlt, ← hj, hf j hlt]
      intro v'
      repeat' (first | (refine WP.st tysOk false rfl (by first | exact True.intro | exact rfl | exact ⟨⟨rfl, rfl⟩, rfl⟩) rfl rfl rfl rfl ?_ ?_; · (first | exact True.intro | exact ⟨by omega, by omega⟩ | exact ⟨by omega, by omega, by omega, by omega⟩ | omega)))
      refine WP.reown (n' := n) (cs' := cs) .head (by omega) (by simp) ?_
      refine WP.ret1 rfl rfl rfl (fun w1 hw1 => ⟨_, rfl, True.intro, Ret.of_KH hw1 ?_⟩)
      repeat (first | exact Pick.nil | (apply Pick.cons; (· repeat' (first | exact Rem.head | apply Rem.tail)
        )))
end Go.Proofs.YtbnjeanldechnaaGreatDoor
