/- Adj: New. -/
import Derived.Test.YtbnjeanldechnaaGreatDoorA11
namespace Go.Proofs.YtbnjeanldechnaaGreatDoor
open Go.RowKit Go.Qe
set_option maxRecDepth 20000 in
set_option maxHeartbeats 2000000 in
theorem new_c {w : World} {vi : Value} {i : Inst} (hi : InstZ (PH.of w) vi i) (hs : i.supply.length ≤ 17592186044415) (ha : i.arcs.length ≤ 3518437208883) :
    Calls Tryz.prog 41 #[vi] w fun e w' => ∃ x : Value × PH, e = .returned x.1 ∧ GraphZ x.2 x.1 i ∧ Ret w w' [.fz x.2] := by
  have hi' := hi
  obtain ⟨s, l, rfl, h1, h2⟩ := hi
  clear h1 h2
  refine enter_ Tryz.func41 rfl Tryz.ntmps41 rfl ?_
  repeat' (first | (refine WP.st tysOk false rfl (by first | exact True.intro | exact rfl | exact ⟨⟨rfl, rfl⟩, rfl⟩) rfl rfl rfl rfl ?_ ?_; · (first | exact True.intro | exact ⟨by omega, by omega⟩ | exact ⟨by omega, by omega, by omega, by omega⟩ | omega)) | (refine WP.ldn tysOk rfl (by first | exact True.intro | exact rfl | exact ⟨⟨rfl, rfl⟩, rfl⟩) rfl rfl rfl rfl rfl rfl rfl ?_; apply ex2; (· first | (apply SegAt.blk'; (· repeat' (first | exact Rem.head | apply Rem.tail)); (· rfl)) | (refine ⟨SegAt.fz ?_ (by assumption), rfl⟩; repeat' (first | exact List.Mem.head _ | apply List.Mem.tail)) )) | (refine WP.box rfl rfl rfl rfl rfl rfl ?_; intro g))
  refine WP.callR (fun x : Value × Value => .agg #[x.1, x.2]) (fun x => [.own x.2 31 5 i.arcs.length (arcsCells i.arcs), .own x.1 2 1 i.supply.length (ints i.supply)]) (fun _ => True) rfl rfl rfl rfl rfl rfl rfl (by kernel_rfl)
    (fun w1 hw1 => copy_c (hi'.le (hw1.le (by simp))) (by omega) (by omega)) ?_
  rintro ⟨s', l'⟩ _
  refine WP.shape .head ?_
  rintro A1 c1 rfl
  refine WP.shape (.tail .head) ?_
  rintro A2 c2 rfl
  first | (refine WP.bld tysOk rfl (by first | exact True.intro | exact rfl | exact ⟨⟨rfl, rfl⟩, rfl⟩) rfl rfl rfl rfl rfl rfl rfl ?_) | skip
  repeat' (first | (refine WP.st tysOk false rfl (by first | exact True.intro | exact rfl | exact ⟨⟨rfl, rfl⟩, rfl⟩) rfl rfl rfl rfl ?_ ?_; · (first | exact True.intro | exact ⟨by omega, by omega⟩ | exact ⟨by omega, by omega, by omega, by omega⟩ | omega)) | (refine WP.ldn tysOk rfl (by first | exact True.intro | exact rfl | exact ⟨⟨rfl, rfl⟩, rfl⟩) rfl rfl rfl rfl rfl rfl rfl ?_; apply ex2; (· first | (apply SegAt.blk'; (· repeat' (first | exact Rem.head | apply Rem.tail)); (· rfl)) | (refine ⟨SegAt.fz ?_ (by assumption), rfl⟩; repeat' (first | exact List.Mem.head _ | apply List.Mem.tail)) )) | (refine WP.box rfl rfl rfl rfl rfl rfl ?_; intro g))
  rename_i gg
  refine WP.reblk (cs' := [.slice A2 i.supply.length c2, .slice A1 i.arcs.length c1, .slice none 0 0, .slice none 0 0, .slice none 0 0, .slice none 0 0]) .head rfl ?_
  refine WP.callR (fun x : Value × Value × List Int × List Int => .tuple #[x.1, x.2.1]) (fun x => [.own x.1 3 1 x.2.2.1.length (ints x.2.2.1), .own x.2.1 3 1 x.2.2.2.length (ints x.2.2.2)]) (fun x => ∃ zs, Put i Arc.src i.arcs.length zs x.2.2.1 ∧ Sums i Arc.src i.supply.length x.2.2.2) rfl rfl rfl rfl rfl rfl rfl (by kernel_rfl)
    (fun w1 hw1 => rows_c (by_ := Arc.src) (hi'.le (hw1.le (by simp))) (by kernel_rfl) (fun w a => new1_c) (fun a h => by simp [wholeB] at h; omega) (by omega) (by omega)) ?_
  rintro ⟨vo, vf, yo, yf⟩ ⟨zo, ho1, ho2⟩
  dsimp only at ho1 ho2 ⊢
  refine WP.shape .head ?_
  rintro Ao co rfl
  refine WP.shape (.tail .head) ?_
  rintro Af cf rfl
  repeat' (first | (refine WP.st tysOk false rfl (by first | exact True.intro | exact rfl | exact ⟨⟨rfl, rfl⟩, rfl⟩) rfl rfl rfl rfl ?_ ?_; · (first | exact True.intro | exact ⟨by omega, by omega⟩ | exact ⟨by omega, by omega, by omega, by omega⟩ | omega)) | (refine WP.ldn tysOk rfl (by first | exact True.intro | exact rfl | exact ⟨⟨rfl, rfl⟩, rfl⟩) rfl rfl rfl rfl rfl rfl rfl ?_; apply ex2; (· first | (apply SegAt.blk'; (· repeat' (first | exact Rem.head | apply Rem.tail)); (· rfl)) | (refine ⟨SegAt.fz ?_ (by assumption), rfl⟩; repeat' (first | exact List.Mem.head _ | apply List.Mem.tail)) )) | (refine WP.sto tysOk rfl rfl rfl rfl rfl rfl rfl rfl rfl ?_; apply ex3; (· repeat' (first | exact Rem.head | apply Rem.tail) ); (· first | exact Nat.le_of_ble_eq_true rfl | (simp [kints_length, arcsCells_length]; omega) )))
  refine WP.reblk (cs' := [.slice A2 i.supply.length c2, .slice A1 i.arcs.length c1, .slice Ao yo.length co, .slice none 0 0, .slice Af yf.length cf, .slice none 0 0]) .head rfl ?_
  refine WP.callR (fun x : Value × Value × List Int × List Int => .tuple #[x.1, x.2.1]) (fun x => [.own x.1 3 1 x.2.2.1.length (ints x.2.2.1), .own x.2.1 3 1 x.2.2.2.length (ints x.2.2.2)]) (fun x => ∃ zs, Put i Arc.dst i.arcs.length zs x.2.2.1 ∧ Sums i Arc.dst i.supply.length x.2.2.2) rfl rfl rfl rfl rfl rfl rfl (by kernel_rfl)
    (fun w1 hw1 => rows_c (by_ := Arc.dst) (hi'.le (hw1.le (by simp))) (by kernel_rfl) (fun w a => new2_c) (fun a h => by simp [wholeB] at h; omega) (by omega) (by omega)) ?_
  rintro ⟨vn, vt, yn, yt⟩ ⟨zn, hn1, hn2⟩
  dsimp only at hn1 hn2 ⊢
  refine WP.shape .head ?_
  rintro An cn rfl
  refine WP.shape (.tail .head) ?_
  rintro At ct rfl
  repeat' (first | (refine WP.st tysOk false rfl (by first | exact True.intro | exact rfl | exact ⟨⟨rfl, rfl⟩, rfl⟩) rfl rfl rfl rfl ?_ ?_; · (first | exact True.intro | exact ⟨by omega, by omega⟩ | exact ⟨by omega, by omega, by omega, by omega⟩ | omega)) | (refine WP.sto tysOk rfl rfl rfl rfl rfl rfl rfl rfl rfl ?_; apply ex3; (· repeat' (first | exact Rem.head | apply Rem.tail) ); (· first | exact Nat.le_of_ble_eq_true rfl | (simp [kints_length, arcsCells_length]; omega) )))
  refine WP.reblk (cs' := [.slice A2 i.supply.length c2, .slice A1 i.arcs.length c1, .slice Ao yo.length co, .slice An yn.length cn, .slice Af yf.length cf, .slice At yt.length ct]) .head rfl ?_
  refine WP.ret1 rfl rfl rfl (fun w1 hw1 => ⟨(.pointer (some ⟨g, 0, none⟩), PH.new w w1), rfl, ?_, Ret.freeze hw1 (by repeat (first | exact Pick.nil | (apply Pick.cons; (· repeat' (first | exact Rem.head | apply Rem.tail)
                                                                                                                        )))
    )⟩)
  have hc : ∀ j u, lget [.slice A2 i.supply.length c2, .slice A1 i.arcs.length c1, .slice Ao yo.length co, .slice An yn.length cn, .slice Af yf.length cf, .slice At yt.length ct] j = some u → Zc (PH.new w w1) g j = some u := fun j u hj => hw1.cellNew (by repeat (first | exact Pick.nil | (apply Pick.cons; (· repeat' (first | exact Rem.head | apply Rem.tail)
                                                                                                                                                                                                                                                                 )))
    ) hj
  refine ⟨g, _, _, _, _, _, _, rfl, hc 0 _ rfl, hc 1 _ rfl, hc 2 _ rfl, hc 3 _ rfl, hc 4 _ rfl, hc 5 _ rfl, hw1.kintsNew (by repeat (first | exact Pick.nil | (apply Pick.cons; (· repeat' (first | exact Rem.head | apply Rem.tail)
                                                                                                                               )))
    ), hw1.arcsNew (by repeat (first | exact Pick.nil | (apply Pick.cons; (· repeat' (first | exact Rem.head | apply Rem.tail)
                         )))
    ), ?_, ?_⟩
  · have := Put.done ho1 ho2 (hw1.kintsNew (v := .slice Ao yo.length co) (by repeat (first | exact Pick.nil | (apply Pick.cons; (· repeat' (first | exact Rem.head | apply Rem.tail)
                                                                               )))
      )) (hw1.kintsNew (v := .slice Af yf.length cf) (by repeat (first | exact Pick.nil | (apply Pick.cons; (· repeat' (first | exact Rem.head | apply Rem.tail)
                                                           )))
      ))
    rw [show outB i = bkt i Arc.src i.arcs.length from funext fun m => (bkt_src i m).symm]
    exact this
  · have := Put.done hn1 hn2 (hw1.kintsNew (v := .slice An yn.length cn) (by repeat (first | exact Pick.nil | (apply Pick.cons; (· repeat' (first | exact Rem.head | apply Rem.tail)
                                                                               )))
      )) (hw1.kintsNew (v := .slice At yt.length ct) (by repeat (first | exact Pick.nil | (apply Pick.cons; (· repeat' (first | exact Rem.head | apply Rem.tail)
                                                           )))
      ))
    rw [show inB i = bkt i Arc.dst i.arcs.length from funext fun m => (bkt_dst i m).symm]
    exact this
end Go.Proofs.YtbnjeanldechnaaGreatDoor
