/- Adj: At, Loops. -/
import Derived.Test.YtbnjeanldechnaaGreatDoorA13
namespace Go.Proofs.YtbnjeanldechnaaGreatDoor
open Go.RowKit Go.Qe
theorem someL_mem (i : Inst) (n : Int) (o e : Bool) (x : Int) : x ∈ someL i n o e ↔ ∃ k : Nat, k < i.arcs.length ∧ pickB i n o e k = true ∧ x = (k : Int) := by
  simp only [someL, someTo, List.mem_map, List.mem_filter, List.mem_range]
  constructor
  · rintro ⟨k, ⟨h1, h2⟩, h3⟩; exact ⟨k, h1, h2, h3.symm⟩
  · rintro ⟨k, h1, h2, h3⟩; exact ⟨k, ⟨h1, h2⟩, h3.symm⟩
theorem someL_rise (i : Inst) (n : Int) (o e : Bool) : (someL i n o e).Pairwise (· < ·) := by
  simp only [someL, someTo]
  refine List.Pairwise.map (R := (· < ·)) _ (fun a b h => by omega) ?_
  exact List.Pairwise.filter _ List.pairwise_lt_range
theorem atL_eq (i : Inst) (n : Int) : compI (sortI (someL i n true false ++ someL i n false true)) = someL i n true true := by
  obtain ⟨h1, h2⟩ := compI_sortI (someL i n true false ++ someL i n false true)
  refine rise_ext h1 (someL_rise _ _ _ _) fun x => ?_
  rw [h2, List.mem_append, someL_mem, someL_mem, someL_mem]
  constructor
  · rintro (⟨k, h1, h2, h3⟩ | ⟨k, h1, h2, h3⟩)
    · exact ⟨k, h1, by simp only [pickB] at h2 ⊢; simp at h2 ⊢; exact ⟨h2.1, .inl h2.2⟩, h3⟩
    · exact ⟨k, h1, by simp only [pickB] at h2 ⊢; simp at h2 ⊢; exact ⟨h2.1, .inr h2.2⟩, h3⟩
  · rintro ⟨k, h1, h2, h3⟩
    simp only [pickB] at h2
    simp at h2
    rcases h2 with ⟨h2, h4 | h4⟩
    · exact .inl ⟨k, h1, by simp only [pickB]; simp; exact ⟨h2, h4⟩, h3⟩
    · exact .inr ⟨k, h1, by simp only [pickB]; simp; exact ⟨h2, h4⟩, h3⟩
set_option maxRecDepth 20000 in
set_option maxHeartbeats 2000000 in
theorem at_c {w : World} {vg : Value} {i : Inst} {n : Int} (hg : GraphZ (PH.of w) vg i) (hb : i.arcs.length ≤ 3518437208883) :
    Calls Tryz.prog 72 #[vg, .int .i64 n] w fun e w' => ∃ v, e = .returned v ∧ True ∧ Ret w w' [.own v 3 1 (someL i n true true).length (ints (someL i n true true))] := by
  have hit := fun b1 b2 => both1_iter (n := n) (b1 := b1) (b2 := b2) hg (by omega)
  rw [← atL_eq]
  have hlen : (someL i n true false ++ someL i n false true).length ≤ 2 * i.arcs.length := by
    rw [List.length_append]
    have := someL_len i n true false
    have := someL_len i n false true
    omega
  generalize someL i n true false ++ someL i n false true = L at *
  refine enterM_ Tryz.func72 rfl Tryz.ntmps72 rfl ?_
  repeat' (first | (refine WP.st tysOk false rfl (by first | exact True.intro | exact rfl | exact ⟨⟨rfl, rfl⟩, rfl⟩) rfl rfl rfl rfl ?_ ?_; · (first | exact True.intro | exact ⟨by omega, by omega⟩ | exact ⟨by omega, by omega, by omega, by omega⟩ | omega)) | (refine WP.al tysOk rfl rfl rfl rfl rfl rfl ?_; intro g))
  refine WP.callR (fun x : Nat × Nat => .func (.func 121) #[] #[.pointer (some ⟨x.1, 0, none⟩), .pointer (some ⟨x.2, 0, none⟩)]) (fun x => [.blk x.1 73 vg.cells.toList, .blk x.2 3 [.int .i64 n]]) (fun _ => True) rfl rfl rfl rfl rfl rfl rfl (by kernel_rfl) (fun w1 hw1 => both_c) ?_
  rintro ⟨b1, b2⟩ _
  refine WP.own_nil 3 1 ?_
  refine WP.rangeF (σ := Option Addr × Nat × List Int) L (Jc := fun pre st => st.2.2 = pre) (Hc := fun st => [.own (.slice st.1 st.2.2.length st.2.1) 3 1 st.2.2.length (ints st.2.2), .blk g 99 [.slice st.1 st.2.2.length st.2.1]]) (Jx := fun _ _ _ => False)
    (fun x => [(5, .pointer (some ⟨g, 0, none⟩)), (6, .int .i64 x)]) [.blk b1 73 vg.cells.toList, .blk b2 3 [.int .i64 n], .fz (PH.of w)] (none, 0, [])
    rfl rfl (by kernel_rfl) (fun _ => rfl) rfl rfl ?_ (hit b1 b2) ?_ ?_ ?_ ?_
  · repeat (first | exact Pick.nil | (apply Pick.cons; (· repeat' (first | exact Rem.head | apply Rem.tail)
      )))
  · intro l x W Zr
    repeat' (first | (refine WP.st tysOk false rfl (by first | exact True.intro | exact rfl | exact ⟨⟨rfl, rfl⟩, rfl⟩) rfl rfl rfl rfl ?_ ?_; · (first | exact True.intro | exact ⟨by omega, by omega⟩ | exact ⟨by omega, by omega, by omega, by omega⟩ | omega)))
    refine WP.stop rfl () True.intro ?_ ?_
    · repeat (first | exact True.intro | refine And.intro rfl ?_)
    · repeat (first | exact Pick.nil | (apply Pick.cons; (· repeat' (first | exact Rem.head | apply Rem.tail)
        )))
  · rintro l pre x post ⟨A, c, xs⟩ W Zr hL rfl
    have hl2 : xs.length + 1 ≤ L.length := by rw [hL]; simp
    dsimp only
    repeat' (first | (refine WP.st tysOk false rfl (by first | exact True.intro | exact rfl | exact ⟨⟨rfl, rfl⟩, rfl⟩) rfl rfl rfl rfl ?_ ?_; · (first | exact True.intro | exact ⟨by omega, by omega⟩ | exact ⟨by omega, by omega, by omega, by omega⟩ | omega)) | (refine WP.ld tysOk rfl (by first | exact True.intro | exact rfl | exact ⟨⟨rfl, rfl⟩, rfl⟩) rfl rfl rfl rfl rfl rfl rfl ?_; apply ex2; (· first | (apply CellAt.blk; (· repeat' (first | exact Rem.head | apply Rem.tail)); (· rfl)) | (refine CellAt.fz ?_ (by assumption); repeat' (first | exact List.Mem.head _ | apply List.Mem.tail)) )) | (refine WP.bs tysOk rfl rfl rfl rfl rfl rfl rfl rfl rfl rfl rfl rfl ?_; intro g))
    refine WP.app tysOk rfl rfl rfl rfl rfl rfl rfl rfl rfl rfl rfl ?_
    apply exo
    · repeat' (first | exact Rem.head | apply Rem.tail)
    apply ex2
    · first | (apply SegAt.blk'; (· repeat' (first | exact Rem.head | apply Rem.tail)); (· rfl)) | (refine ⟨SegAt.fz ?_ (by assumption), rfl⟩; repeat' (first | exact List.Mem.head _ | apply List.Mem.tail))
    refine ⟨rfl, by omega, by omega, ?_⟩
    intro v'
    refine WP.reown (n' := (xs ++ [x]).length) (cs' := ints (xs ++ [x])) .head (by simp) (kints_snoc _ _ _) ?_
    refine WP.shape .head ?_
    rintro A' c' rfl
    repeat' (first | (refine WP.sto tysOk rfl rfl rfl rfl rfl rfl rfl rfl rfl ?_; apply ex3; (· repeat' (first | exact Rem.head | apply Rem.tail) ); (· first | exact Nat.le_of_ble_eq_true rfl | (simp [kints_length, arcsCells_length]; omega) )))
    refine WP.stop rfl (A', c', xs ++ [x]) rfl ?_ ?_
    · repeat (first | exact True.intro | refine And.intro rfl ?_)
    · repeat (first | exact Pick.nil | (apply Pick.cons; (· repeat' (first | exact Rem.head | apply Rem.tail)
        )))
  · rintro D Zd ⟨A, c, xs⟩ hZd rfl
    dsimp only at hlen ⊢
    repeat' (first | (refine WP.ld tysOk rfl (by first | exact True.intro | exact rfl | exact ⟨⟨rfl, rfl⟩, rfl⟩) rfl rfl rfl rfl rfl rfl rfl ?_; apply ex2; (· first | (apply CellAt.blk; (· repeat' (first | exact Rem.head | apply Rem.tail)); (· rfl)) | (refine CellAt.fz ?_ (by assumption); repeat' (first | exact List.Mem.head _ | apply List.Mem.tail)) )))
    refine WP.call (α := Unit) (fun _ => .tuple #[]) (fun _ => [.own (.slice A xs.length c) 3 1 xs.length (ints (sortI xs)), .blk g 99 [.slice A xs.length c], .fz (PH.of w), .fz Zd]) (fun _ => True) rfl rfl rfl rfl rfl rfl rfl (by kernel_rfl)
      (fun w1 hw1 => (sort_kh (e := 3) (hw1.pick (H' := [.own (.slice A xs.length c) 3 1 xs.length (ints xs), .blk g 99 [.slice A xs.length c], .fz (PH.of w), .fz Zd]) (by repeat (first | exact Pick.nil | (apply Pick.cons; (· repeat' (first | exact Rem.head | apply Rem.tail)
                                                                                                                                                                                              )))
        )) .head (by omega)).mono fun e w' h => ⟨(), h.1, True.intro, h.2⟩) ?_
    intro _ _
    repeat' (first | (refine WP.ld tysOk rfl (by first | exact True.intro | exact rfl | exact ⟨⟨rfl, rfl⟩, rfl⟩) rfl rfl rfl rfl rfl rfl rfl ?_; apply ex2; (· first | (apply CellAt.blk; (· repeat' (first | exact Rem.head | apply Rem.tail)); (· rfl)) | (refine CellAt.fz ?_ (by assumption); repeat' (first | exact List.Mem.head _ | apply List.Mem.tail)) )))
    rw [show xs.length = (sortI xs).length from (sortI_length xs).symm]
    refine WP.call (fun v : Value => v) (fun v => [.own v 3 1 (compI (sortI xs)).length (ints (compI (sortI xs))), .fz (PH.of w), .fz Zd]) (fun _ => True) rfl rfl rfl rfl rfl rfl rfl (by kernel_rfl)
      (fun w1 hw1 => (compact_kh (e := 3) (hw1.pick (H' := [.own (.slice A (sortI xs).length c) 3 1 (sortI xs).length (ints (sortI xs)), .fz (PH.of w), .fz Zd]) (by repeat (first | exact Pick.nil | (apply Pick.cons; (· repeat' (first | exact Rem.head | apply Rem.tail)
                                                                                                                                                                                 )))
        )) .head (by rw [sortI_length]; omega)).mono fun e w' h => by obtain ⟨v, h1, h2⟩ := h; exact ⟨v, h1, True.intro, h2⟩) ?_
    intro v' _
    repeat' (first | (refine WP.st tysOk false rfl (by first | exact True.intro | exact rfl | exact ⟨⟨rfl, rfl⟩, rfl⟩) rfl rfl rfl rfl ?_ ?_; · (first | exact True.intro | exact ⟨by omega, by omega⟩ | exact ⟨by omega, by omega, by omega, by omega⟩ | omega)))
    refine WP.retM1 tysOk rfl hZd (.tail (.tail .head)) rfl ⟨_, _, rfl, rfl, rfl⟩ (fun w1 hw1 => ⟨v', rfl, True.intro, Ret.of_KH hw1 (by repeat (first | exact Pick.nil | (apply Pick.cons; (· repeat' (first | exact Rem.head | apply Rem.tail)
                                                                                                                                           )))
      )⟩)
  · rintro D Zd c pre st _ h
    exact h.elim
end Go.Proofs.YtbnjeanldechnaaGreatDoor
