/- Adj: New's two small functions; inst.Copy. -/
import Derived.Test.YtbnjeanldechnaaGreatDoorA8
namespace Go.Proofs.YtbnjeanldechnaaGreatDoor
open Go.RowKit Go.Qe
theorem new1_c {w : World} {a : Arc} : Calls Tryz.prog 75 #[a.val] w fun e w' => e = .returned (.int .i64 a.src) ∧ Below w.heap.size w w' := by
  obtain ⟨a0, a1, a2, a3, a4⟩ := a
  refine enter_ Tryz.func75 rfl Tryz.ntmps75 rfl ?_
  repeat' (first | (refine WP.st tysOk false rfl (by first | exact True.intro | exact rfl | exact ⟨⟨rfl, rfl⟩, rfl⟩) rfl rfl rfl rfl ?_ ?_; · (first | exact True.intro | exact ⟨by omega, by omega⟩ | exact ⟨by omega, by omega, by omega, by omega⟩ | omega)) | (refine WP.ld tysOk rfl (by first | exact True.intro | exact rfl | exact ⟨⟨rfl, rfl⟩, rfl⟩) rfl rfl rfl rfl rfl rfl rfl ?_; apply ex2; (· first | (apply CellAt.blk; (· repeat' (first | exact Rem.head | apply Rem.tail)); (· rfl)) | (refine CellAt.fz ?_ (by assumption); repeat' (first | exact List.Mem.head _ | apply List.Mem.tail)) )) | (refine WP.box rfl rfl rfl rfl rfl rfl ?_; intro g))
  refine WP.ret1 rfl rfl rfl (fun w hw => ⟨rfl, Ret.below_ hw (by repeat (first | exact Pick.nil | (apply Pick.cons; (· repeat' (first | exact Rem.head | apply Rem.tail)
                                                                    )))
      )⟩)
theorem new2_c {w : World} {a : Arc} : Calls Tryz.prog 76 #[a.val] w fun e w' => e = .returned (.int .i64 a.dst) ∧ Below w.heap.size w w' := by
  obtain ⟨a0, a1, a2, a3, a4⟩ := a
  refine enter_ Tryz.func76 rfl Tryz.ntmps76 rfl ?_
  repeat' (first | (refine WP.st tysOk false rfl (by first | exact True.intro | exact rfl | exact ⟨⟨rfl, rfl⟩, rfl⟩) rfl rfl rfl rfl ?_ ?_; · (first | exact True.intro | exact ⟨by omega, by omega⟩ | exact ⟨by omega, by omega, by omega, by omega⟩ | omega)) | (refine WP.ld tysOk rfl (by first | exact True.intro | exact rfl | exact ⟨⟨rfl, rfl⟩, rfl⟩) rfl rfl rfl rfl rfl rfl rfl ?_; apply ex2; (· first | (apply CellAt.blk; (· repeat' (first | exact Rem.head | apply Rem.tail)); (· rfl)) | (refine CellAt.fz ?_ (by assumption); repeat' (first | exact List.Mem.head _ | apply List.Mem.tail)) )) | (refine WP.box rfl rfl rfl rfl rfl rfl ?_; intro g))
  refine WP.ret1 rfl rfl rfl (fun w hw => ⟨rfl, Ret.below_ hw (by repeat (first | exact Pick.nil | (apply Pick.cons; (· repeat' (first | exact Rem.head | apply Rem.tail)
                                                                    )))
      )⟩)
set_option maxHeartbeats 1000000 in
theorem copy_c {w : World} {vi : Value} {i : Inst} (hi : InstZ (PH.of w) vi i) (hs : i.supply.length ≤ 17592186044416) (ha : i.arcs.length ≤ 3518437208883) :
    Calls Tryz.prog 70 #[vi] w fun e w' => ∃ x : Value × Value, e = .returned (.agg #[x.1, x.2]) ∧ True ∧
      Ret w w' [.own x.2 31 5 i.arcs.length (arcsCells i.arcs), .own x.1 2 1 i.supply.length (ints i.supply)] := by
  obtain ⟨s, l, rfl, h1, h2⟩ := hi
  refine enter_ Tryz.func70 rfl Tryz.ntmps70 rfl ?_
  repeat' (first | (refine WP.box rfl rfl rfl rfl rfl rfl ?_; intro g) | (refine WP.al tysOk rfl rfl rfl rfl rfl rfl ?_; intro g))
  refine WP.drawL 7 [(2, [], fun _ => ownSpec 2 1 i.supply.length (ints i.supply)), (5, [], fun _ => ownSpec 31 5 i.arcs.length (arcsCells i.arcs))] rfl (by kernel_rfl) (by kernel_rfl) rfl ?_
  repeat' (first | (refine WP.st tysOk false rfl (by first | exact True.intro | exact rfl | exact ⟨⟨rfl, rfl⟩, rfl⟩) rfl rfl rfl rfl ?_ ?_; · (first | exact True.intro | exact ⟨by omega, by omega⟩ | exact ⟨by omega, by omega, by omega, by omega⟩ | omega)) | (refine WP.ld tysOk rfl (by first | exact True.intro | exact rfl | exact ⟨⟨rfl, rfl⟩, rfl⟩) rfl rfl rfl rfl rfl rfl rfl ?_; apply ex2; (· first | (apply CellAt.blk; (· repeat' (first | exact Rem.head | apply Rem.tail)); (· rfl)) | (refine CellAt.fz ?_ (by assumption); repeat' (first | exact List.Mem.head _ | apply List.Mem.tail)) )))
  refine WP.lcall rfl ⟨rfl, rfl⟩ rfl rfl rfl rfl rfl rfl rfl (by kernel_rfl) (fun w1 hw1 => (clone_i64 (SlZ.le h1 (hw1.le (by simp))) (by simp [kints_length]) (fun j hj => kints_at (by omega)) (oneCells_kints _ _) (by omega)).mono fun e w' h => ownSpec.of h) ?_
  rintro _ _ ⟨A, c, rfl, rfl⟩
  repeat' (first | (refine WP.st tysOk false rfl (by first | exact True.intro | exact rfl | exact ⟨⟨rfl, rfl⟩, rfl⟩) rfl rfl rfl rfl ?_ ?_; · (first | exact True.intro | exact ⟨by omega, by omega⟩ | exact ⟨by omega, by omega, by omega, by omega⟩ | omega)) | (refine WP.ld tysOk rfl (by first | exact True.intro | exact rfl | exact ⟨⟨rfl, rfl⟩, rfl⟩) rfl rfl rfl rfl rfl rfl rfl ?_; apply ex2; (· first | (apply CellAt.blk; (· repeat' (first | exact Rem.head | apply Rem.tail)); (· rfl)) | (refine CellAt.fz ?_ (by assumption); repeat' (first | exact List.Mem.head _ | apply List.Mem.tail)) )))
  refine WP.lcall rfl ⟨rfl, rfl⟩ rfl rfl rfl rfl rfl rfl rfl (by kernel_rfl) (fun w1 hw1 => (clone_arc (SlZ.le h2 (hw1.le (by simp))) (arcsCells_length _) (fun j hj => arcsCells_at _ _ hj) (oneCells_arcs _) (by omega)).mono fun e w' h => ownSpec.of h) ?_
  rintro _ _ ⟨A', c', rfl, rfl⟩
  first | (refine WP.bld tysOk rfl (by first | exact True.intro | exact rfl | exact ⟨⟨rfl, rfl⟩, rfl⟩) rfl rfl rfl rfl rfl rfl rfl ?_) | skip
  first | refine WP.lend rfl ⟨rfl, rfl⟩ ?_ | skip
  repeat' (first | (refine WP.sto tysOk rfl rfl rfl rfl rfl rfl rfl rfl rfl ?_; apply ex3; (· repeat' (first | exact Rem.head | apply Rem.tail) ); (· first | exact Nat.le_of_ble_eq_true rfl | (simp [kints_length, arcsCells_length]; omega) )))
  refine WP.retR tysOk rfl rfl ⟨_, _, _, _, rfl, ⟨_, rfl, .inr ⟨rfl, [.slice A i.supply.length c, .slice A' i.arcs.length c'], rfl, rfl, (SegAt.blk' (z := 2) .head rfl).1⟩⟩, rfl, rfl⟩ (fun w hw => ⟨(.slice A i.supply.length c, .slice A' i.arcs.length c'), rfl, True.intro, Ret.of_KH hw (by repeat (first | exact Pick.nil | (apply Pick.cons; (· repeat' (first | exact Rem.head | apply Rem.tail)
                                                                                                                                                                                                                                                                                                    )))
    )⟩)
end Go.Proofs.YtbnjeanldechnaaGreatDoor
