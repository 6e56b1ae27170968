/- Adj: Out and In. -/
import Derived.Test.YtbnjeanldechnaaGreatDoorA5
namespace Go.Proofs.YtbnjeanldechnaaGreatDoor
open Go.RowKit Go.Qe
theorem someL_none {i : Inst} {n : Int} {o e : Bool} (h : ∀ k, k < i.arcs.length → pickB i n o e k = false) : someL i n o e = [] := by
  simp only [someL, someTo, List.map_eq_nil_iff, List.filter_eq_nil_iff, List.mem_range]
  intro k hk
  rw [h k hk]
  simp
theorem outB_eq (i : Inst) (n : Int) : (if 0 ≤ n ∧ n < i.supply.length then outB i n.toNat else []) = someL i n true false := by
  split
  · rename_i h
    unfold outB
    rw [show ((n.toNat : Nat) : Int) = n by omega]
  · rename_i h
    refine (someL_none fun k hk => ?_).symm
    simp only [pickB, fitB, wholeB]
    rw [Bool.eq_false_iff]
    simp
    omega
theorem inB_eq (i : Inst) (n : Int) : (if 0 ≤ n ∧ n < i.supply.length then inB i n.toNat else []) = someL i n false true := by
  split
  · rename_i h
    unfold inB
    rw [show ((n.toNat : Nat) : Int) = n by omega]
  · rename_i h
    refine (someL_none fun k hk => ?_).symm
    simp only [pickB, fitB, wholeB]
    rw [Bool.eq_false_iff]
    simp
    omega
theorem someL_len (i : Inst) (n : Int) (o e : Bool) : (someL i n o e).length ≤ i.arcs.length := someTo_len i n o e _
def own1 (v : Value) (t : TypeId) (k : IntKind) (xs : List Int) : Piece := .own v t 1 xs.length (kints k xs)
set_option maxHeartbeats 1000000 in
theorem out_c {w : World} {vg : Value} {i : Inst} {n : Int} (hg : GraphZ (PH.of w) vg i) (hb : i.arcs.length ≤ 17592186044416) :
    Calls Tryz.prog 85 #[vg, .int .i64 n] w fun e w' => ∃ v, e = .returned v ∧ True ∧ Ret w w' [.own v 3 1 (someL i n true false).length (ints (someL i n true false))] := by
  have hg' := hg
  obtain ⟨g, s, a, o, m, f, t, rfl, h1, h2, h3, h4, h5, h6, h7, h8, h9, h10⟩ := hg
  obtain ⟨v, hv, hp⟩ := piece_c (n := n) hg' h9
  rw [outB_eq] at hv
  have hlen := someL_len i n true false
  clear h7 h8 h9 h10
  refine enter_ Tryz.func85 rfl Tryz.ntmps85 rfl ?_
  repeat' (first | (refine WP.st tysOk false rfl (by first | exact True.intro | exact rfl | exact ⟨⟨rfl, rfl⟩, rfl⟩) rfl rfl rfl rfl ?_ ?_; · (first | exact True.intro | exact ⟨by omega, by omega⟩ | exact ⟨by omega, by omega, by omega, by omega⟩ | omega)) | refine WP.condF rfl rfl ?_)
  refine WP.drawL 11 [(10, [], fun _ => constSpec v)] rfl (by kernel_rfl) (by kernel_rfl) rfl ?_
  repeat' (first | (refine WP.st tysOk false rfl (by first | exact True.intro | exact rfl | exact ⟨⟨rfl, rfl⟩, rfl⟩) rfl rfl rfl rfl ?_ ?_; · (first | exact True.intro | exact ⟨by omega, by omega⟩ | exact ⟨by omega, by omega, by omega, by omega⟩ | omega)) | (refine WP.ld tysOk rfl (by first | exact True.intro | exact rfl | exact ⟨⟨rfl, rfl⟩, rfl⟩) rfl rfl rfl rfl rfl rfl rfl ?_; apply ex2; (· first | (apply CellAt.blk; (· repeat' (first | exact Rem.head | apply Rem.tail)); (· rfl)) | (refine CellAt.fz ?_ (by assumption); repeat' (first | exact List.Mem.head _ | apply List.Mem.tail)) )))
  refine WP.callV rfl rfl rfl rfl rfl rfl rfl (by kernel_rfl) (fun w1 hw1 => hp _ (hw1.le (by simp))) (by first | exact True.intro | exact rfl | exact ⟨⟨rfl, rfl⟩, rfl⟩) ?_
  first | refine WP.lend rfl ⟨rfl, rfl⟩ ?_ | skip
  refine WP.callR (fun v : Value => v) (fun v => [.own v 3 1 (someL i n true false).length (ints (someL i n true false))]) (fun _ => True) rfl rfl rfl rfl rfl rfl rfl (by kernel_rfl)
    (fun w1 hw1 => clone_int (SlZ.le hv (hw1.le (by simp))) (by simp [kints_length]) (fun j hj => kints_at (by omega)) (oneCells_kints _ _) (by omega)) ?_
  intro v' _
  repeat' (first | (refine WP.st tysOk false rfl (by first | exact True.intro | exact rfl | exact ⟨⟨rfl, rfl⟩, rfl⟩) rfl rfl rfl rfl ?_ ?_; · (first | exact True.intro | exact ⟨by omega, by omega⟩ | exact ⟨by omega, by omega, by omega, by omega⟩ | omega)))
  refine WP.ret1 rfl rfl rfl (fun w hw => ⟨_, rfl, True.intro, Ret.of_KH hw (by repeat (first | exact Pick.nil | (apply Pick.cons; (· repeat' (first | exact Rem.head | apply Rem.tail)
                                                                                  )))
    )⟩)
set_option maxHeartbeats 1000000 in
theorem in_c {w : World} {vg : Value} {i : Inst} {n : Int} (hg : GraphZ (PH.of w) vg i) (hb : i.arcs.length ≤ 17592186044416) :
    Calls Tryz.prog 86 #[vg, .int .i64 n] w fun e w' => ∃ v, e = .returned v ∧ True ∧ Ret w w' [.own v 3 1 (someL i n false true).length (ints (someL i n false true))] := by
  have hg' := hg
  obtain ⟨g, s, a, o, m, f, t, rfl, h1, h2, h3, h4, h5, h6, h7, h8, h9, h10⟩ := hg
  obtain ⟨v, hv, hp⟩ := piece_c (n := n) hg' h10
  rw [inB_eq] at hv
  have hlen := someL_len i n false true
  clear h7 h8 h9 h10
  refine enter_ Tryz.func86 rfl Tryz.ntmps86 rfl ?_
  repeat' (first | (refine WP.st tysOk false rfl (by first | exact True.intro | exact rfl | exact ⟨⟨rfl, rfl⟩, rfl⟩) rfl rfl rfl rfl ?_ ?_; · (first | exact True.intro | exact ⟨by omega, by omega⟩ | exact ⟨by omega, by omega, by omega, by omega⟩ | omega)) | refine WP.condF rfl rfl ?_)
  refine WP.drawL 11 [(10, [], fun _ => constSpec v)] rfl (by kernel_rfl) (by kernel_rfl) rfl ?_
  repeat' (first | (refine WP.st tysOk false rfl (by first | exact True.intro | exact rfl | exact ⟨⟨rfl, rfl⟩, rfl⟩) rfl rfl rfl rfl ?_ ?_; · (first | exact True.intro | exact ⟨by omega, by omega⟩ | exact ⟨by omega, by omega, by omega, by omega⟩ | omega)) | (refine WP.ld tysOk rfl (by first | exact True.intro | exact rfl | exact ⟨⟨rfl, rfl⟩, rfl⟩) rfl rfl rfl rfl rfl rfl rfl ?_; apply ex2; (· first | (apply CellAt.blk; (· repeat' (first | exact Rem.head | apply Rem.tail)); (· rfl)) | (refine CellAt.fz ?_ (by assumption); repeat' (first | exact List.Mem.head _ | apply List.Mem.tail)) )))
  refine WP.callV rfl rfl rfl rfl rfl rfl rfl (by kernel_rfl) (fun w1 hw1 => hp _ (hw1.le (by simp))) (by first | exact True.intro | exact rfl | exact ⟨⟨rfl, rfl⟩, rfl⟩) ?_
  first | refine WP.lend rfl ⟨rfl, rfl⟩ ?_ | skip
  refine WP.callR (fun v : Value => v) (fun v => [.own v 3 1 (someL i n false true).length (ints (someL i n false true))]) (fun _ => True) rfl rfl rfl rfl rfl rfl rfl (by kernel_rfl)
    (fun w1 hw1 => clone_int (SlZ.le hv (hw1.le (by simp))) (by simp [kints_length]) (fun j hj => kints_at (by omega)) (oneCells_kints _ _) (by omega)) ?_
  intro v' _
  repeat' (first | (refine WP.st tysOk false rfl (by first | exact True.intro | exact rfl | exact ⟨⟨rfl, rfl⟩, rfl⟩) rfl rfl rfl rfl ?_ ?_; · (first | exact True.intro | exact ⟨by omega, by omega⟩ | exact ⟨by omega, by omega, by omega, by omega⟩ | omega)))
  refine WP.ret1 rfl rfl rfl (fun w hw => ⟨_, rfl, True.intro, Ret.of_KH hw (by repeat (first | exact Pick.nil | (apply Pick.cons; (· repeat' (first | exact Rem.head | apply Rem.tail)
                                                                                  )))
    )⟩)
end Go.Proofs.YtbnjeanldechnaaGreatDoor
