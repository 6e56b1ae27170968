/- Adj: both, and what it gives one by one. -/
import Derived.Test.YtbnjeanldechnaaGreatDoorA12
import Derived.Test.YtbnjeanldechnaaGreatDoorSrt
namespace Go.Proofs.YtbnjeanldechnaaGreatDoor
open Go.RowKit Go.Qe
theorem both_c {w : World} {vg : Value} {n : Int} :
    Calls Tryz.prog 101 #[vg, .int .i64 n] w fun e w' => ∃ x : Nat × Nat, e = .returned (.func (.func 121) #[] #[.pointer (some ⟨x.1, 0, none⟩), .pointer (some ⟨x.2, 0, none⟩)]) ∧ True ∧
      Ret w w' [.blk x.1 73 vg.cells.toList, .blk x.2 3 [.int .i64 n]] := by
  refine enter_ Tryz.func101 rfl Tryz.ntmps101 rfl ?_
  repeat' (first | (refine WP.st tysOk false rfl (by first | exact True.intro | exact rfl | exact ⟨⟨rfl, rfl⟩, rfl⟩) rfl rfl rfl rfl ?_ ?_; · (first | exact True.intro | exact ⟨by omega, by omega⟩ | exact ⟨by omega, by omega, by omega, by omega⟩ | omega)) | (refine WP.box rfl rfl rfl rfl rfl rfl ?_; intro g))
  rename_i g1
  refine WP.ret1 rfl rfl rfl (fun w hw => ⟨(g1, g), rfl, True.intro, Ret.of_KH hw (by repeat (first | exact Pick.nil | (apply Pick.cons; (· repeat' (first | exact Rem.head | apply Rem.tail)
                                                                                        )))
    )⟩)
def encI (a : Int) : Array Value := #[.int .i64 a]
set_option maxRecDepth 20000 in
set_option maxHeartbeats 2000000 in
theorem both1_iter {vg : Value} {i : Inst} {n : Int} {b1 b2 : Nat} {Zg : PH} (hg : GraphZ Zg vg i) (hb : i.arcs.length ≤ 17592186044416) :
    Iter Tryz.prog 121 #[.pointer (some ⟨b1, 0, none⟩), .pointer (some ⟨b2, 0, none⟩)] encI (someL i n true false ++ someL i n false true)
      [.blk b1 73 vg.cells.toList, .blk b2 3 [.int .i64 n], .fz Zg] := by
  intro l C Cx Z w hy hC hK
  have hvc : vg.cells.toList = [vg] := by obtain ⟨g, _, _, _, _, _, _, rfl, _⟩ := hg; rfl
  have hc1 : Zc (PH.but w Z) b1 0 = some vg := hK.butCell .head (by rw [hvc]; rfl)
  have hc2 : Zc (PH.but w Z) b2 0 = some (.int .i64 n) := hK.butCell (.tail .head) rfl
  have hgM : GraphZ (PH.but w Z) vg i := hg.le (hK.butFz (.tail (.tail .head)))
  generalize ho : someL i n true false = lo at *
  generalize hn : someL i n false true = li at *
  have hlo : lo.length ≤ i.arcs.length := by rw [← ho]; exact someL_len _ _ _ _
  have hli : li.length ≤ i.arcs.length := by rw [← hn]; exact someL_len _ _ _ _
  refine enterH Tryz.func121 rfl Tryz.ntmps121 rfl hK.split (args := [.func (.yield l) #[] #[], .pointer (some ⟨b1, 0, none⟩), .pointer (some ⟨b2, 0, none⟩)]) ?_
  refine WP.drawL 9 [(2, [], fun _ => ownSpec 3 1 lo.length (ints lo)), (5, [], fun _ => ownSpec 3 1 li.length (ints li)), (6, [], litSpec 99 2)] rfl (by kernel_rfl) (by kernel_rfl) rfl ?_
  repeat' (first | (refine WP.ld tysOk rfl (by first | exact True.intro | exact rfl | exact ⟨⟨rfl, rfl⟩, rfl⟩) rfl rfl rfl rfl rfl rfl rfl ?_; apply ex2; (· first | (apply CellAt.blk; (· repeat' (first | exact Rem.head | apply Rem.tail)); (· rfl)) | (refine CellAt.fz ?_ (by assumption); repeat' (first | exact List.Mem.head _ | apply List.Mem.tail)) )))
  refine WP.lcall rfl ⟨rfl, rfl⟩ rfl rfl rfl rfl rfl rfl rfl (by kernel_rfl) (fun w1 hw1 => (out_c (n := n) (hgM.le (hw1.le (by simp))) hb).mono fun e w' h => ownSpec.of (by rw [ho] at h; exact h)) ?_
  rintro _ _ ⟨Ao, co, rfl, rfl⟩
  repeat' (first | (refine WP.ld tysOk rfl (by first | exact True.intro | exact rfl | exact ⟨⟨rfl, rfl⟩, rfl⟩) rfl rfl rfl rfl rfl rfl rfl ?_; apply ex2; (· first | (apply CellAt.blk; (· repeat' (first | exact Rem.head | apply Rem.tail)); (· rfl)) | (refine CellAt.fz ?_ (by assumption); repeat' (first | exact List.Mem.head _ | apply List.Mem.tail)) )))
  refine WP.lcall rfl ⟨rfl, rfl⟩ rfl rfl rfl rfl rfl rfl rfl (by kernel_rfl) (fun w1 hw1 => (in_c (n := n) (hgM.le (hw1.le (by simp))) hb).mono fun e w' h => ownSpec.of (by rw [hn] at h; exact h)) ?_
  rintro _ _ ⟨Ai, ci, rfl, rfl⟩
  refine WP.lbs tysOk rfl ⟨rfl, rfl⟩ rfl rfl rfl rfl rfl rfl rfl rfl rfl rfl rfl rfl ?_
  intro g
  repeat' (first | (refine WP.st tysOk false rfl (by first | exact True.intro | exact rfl | exact ⟨⟨rfl, rfl⟩, rfl⟩) rfl rfl rfl rfl ?_ ?_; · (first | exact True.intro | exact ⟨by omega, by omega⟩ | exact ⟨by omega, by omega, by omega, by omega⟩ | omega)) | refine WP.lend rfl ⟨rfl, rfl⟩ ?_)
  first | refine WP.lend rfl ⟨rfl, rfl⟩ ?_ | skip
  refine WP.shape2 (.tail .head) ?_
  rintro _ _ h hAi
  cases h
  refine WP.shape2 (.tail (.tail .head)) ?_
  rintro _ _ h hAo
  cases h
  refine WP.loop (α := Nat × PH) (fun x => x.1 ≤ 2 ∧ C ([lo, li].take x.1).flatten x.2)
    (fun x => [(0, .func (.yield l) #[] #[]), (14, .slice (some ⟨g, 0, none⟩) 2 2), (15, .int .i64 (2 : Nat)), (16, .int .i64 x.1)])
    (fun x => [.fz x.2, .blk g 99 [.slice Ao lo.length co, .slice Ai li.length ci], .own (.slice Ai li.length ci) 3 1 li.length (ints li), .own (.slice Ao lo.length co) 3 1 lo.length (ints lo), .fz (PH.but w Z)])
    (fun x => 2 - x.1) rfl (0, Z) ⟨by omega, hC⟩ ?_ ?_ ?_
  · repeat (first | exact True.intro | refine And.intro rfl ?_)
  · repeat (first | exact Pick.nil | (apply Pick.cons; (· repeat' (first | exact Rem.head | apply Rem.tail)
      )))
  · intro ⟨j, Z1⟩ ⟨hj, hC1⟩
    dsimp only at hj hC1 ⊢
    repeat' (first | (refine WP.st tysOk false rfl (by first | exact True.intro | exact rfl | exact ⟨⟨rfl, rfl⟩, rfl⟩) rfl rfl rfl rfl ?_ ?_; · (first | exact True.intro | exact ⟨by omega, by omega⟩ | exact ⟨by omega, by omega, by omega, by omega⟩ | omega)) | refine WP.ix1 tysOk rfl (by first | exact True.intro | exact rfl | exact ⟨⟨rfl, rfl⟩, rfl⟩) rfl rfl rfl rfl rfl rfl rfl rfl (by first | omega | (simp only []; omega)) ?_ | (refine WP.cond_d rfl rfl (fun hh => ?_) (fun hh => ?_) <;> try (exfalso; omega)))
    · have hsel : ∃ A c lj, lget [Value.slice Ao lo.length co, Value.slice Ai li.length ci] j = some (.slice A lj.length c) ∧ ([lo, li].take (j + 1)).flatten = ([lo, li].take j).flatten ++ lj ∧ (∃ rest, lo ++ li = ([lo, li].take j).flatten ++ lj ++ rest) ∧ lj.length ≤ i.arcs.length ∧
          (0 < lj.length → ∃ b, A = some ⟨b, 0, none⟩ ∧ ∀ Z1 m v, lget (ints lj) m = some v → CellAt [.fz Z1, .blk g 99 [.slice Ao lo.length co, .slice Ai li.length ci], .own (.slice Ai li.length ci) 3 1 li.length (ints li), .own (.slice Ao lo.length co) 3 1 lo.length (ints lo), .fz (PH.but w Z)] b m v) := by
        have hj2 : j = 0 ∨ j = 1 := by omega
        rcases hj2 with rfl | rfl
        · refine ⟨Ao, co, lo, rfl, by simp, ⟨li, by simp⟩, hlo, fun hp => ?_⟩
          obtain ⟨b, rfl⟩ := hAo hp
          exact ⟨b, rfl, fun Z1 m v hm => CellAt.own (.tail (.tail (.tail .head))) hm⟩
        · refine ⟨Ai, ci, li, rfl, by simp, ⟨[], by simp⟩, hli, fun hp => ?_⟩
          obtain ⟨b, rfl⟩ := hAi hp
          exact ⟨b, rfl, fun Z1 m v hm => CellAt.own (.tail (.tail .head)) hm⟩
      obtain ⟨A, c, lj, hget, hfl, ⟨rest, hrest⟩, hljb, hcell⟩ := hsel
      refine WP.ld tysOk rfl True.intro rfl rfl rfl rfl rfl rfl rfl (ex2 (.slice A lj.length c) (CellAt.blk (.tail .head) (by rw [Nat.zero_add]; exact hget)) ?_)
      repeat' (first | (refine WP.st tysOk false rfl (by first | exact True.intro | exact rfl | exact ⟨⟨rfl, rfl⟩, rfl⟩) rfl rfl rfl rfl ?_ ?_; · (first | exact True.intro | exact ⟨by omega, by omega⟩ | exact ⟨by omega, by omega, by omega, by omega⟩ | omega)))
      refine WP.loop (α := Nat × PH) (fun x => x.1 ≤ lj.length ∧ C (([lo, li].take j).flatten ++ lj.take x.1) x.2)
        (fun x => [(0, .func (.yield l) #[] #[]), (14, .slice (some ⟨g, 0, none⟩) 2 2), (15, .int .i64 (2 : Nat)), (16, .int .i64 j), (20, .slice A lj.length c), (21, .int .i64 lj.length), (22, .int .i64 x.1)])
        (fun x => [.fz x.2, .blk g 99 [.slice Ao lo.length co, .slice Ai li.length ci], .own (.slice Ai li.length ci) 3 1 li.length (ints li), .own (.slice Ao lo.length co) 3 1 lo.length (ints lo), .fz (PH.but w Z)])
        (fun x => lj.length - x.1) rfl (0, Z1) ⟨Nat.zero_le _, by simpa using hC1⟩ ?_ ?_ ?_
      · repeat (first | exact True.intro | refine And.intro rfl ?_)
      · repeat (first | exact Pick.nil | (apply Pick.cons; (· repeat' (first | exact Rem.head | apply Rem.tail)
          )))
      · intro ⟨m, Z2⟩ ⟨hm, hC2⟩
        dsimp only at hm hC2 ⊢
        repeat' (first | (refine WP.st tysOk false rfl (by first | exact True.intro | exact rfl | exact ⟨⟨rfl, rfl⟩, rfl⟩) rfl rfl rfl rfl ?_ ?_; · (first | exact True.intro | exact ⟨by omega, by omega⟩ | exact ⟨by omega, by omega, by omega, by omega⟩ | omega)) | (refine WP.cond_d rfl rfl (fun hh => ?_) (fun hh => ?_) <;> try (exfalso; omega)))
        · obtain ⟨b, rfl, hcb⟩ := hcell (by omega)
          have hmlt : m < lj.length := by omega
          repeat' (first | refine WP.ix1 tysOk rfl (by first | exact True.intro | exact rfl | exact ⟨⟨rfl, rfl⟩, rfl⟩) rfl rfl rfl rfl rfl rfl rfl rfl (by first | omega | (simp only []; omega)) ?_)
          refine WP.ld tysOk rfl True.intro rfl rfl rfl rfl rfl rfl rfl (ex2 (.int .i64 (el lj m)) (hcb _ _ _ (by rw [Nat.zero_add]; exact kints_get0 hmlt)) ?_)
          repeat' (first | (refine WP.st tysOk false rfl (by first | exact True.intro | exact rfl | exact ⟨⟨rfl, rfl⟩, rfl⟩) rfl rfl rfl rfl ?_ ?_; · (first | exact True.intro | exact ⟨by omega, by omega⟩ | exact ⟨by omega, by omega, by omega, by omega⟩ | omega)))
          have htk : lj.take (m + 1) = lj.take m ++ [el lj m] := by rw [List.take_add_one, el_eq hmlt]; simp [List.getElem?_eq_getElem hmlt]
          have hsp : lj = lj.take m ++ el lj m :: lj.drop (m + 1) := by
            rw [el_eq hmlt, List.getElem_cons_drop]
            simp
          refine WP.yield hy (x := el lj m) (pre := ([lo, li].take j).flatten ++ lj.take m) rfl rfl rfl rfl rfl rfl rfl rfl ⟨lj.drop (m + 1) ++ rest, ?_⟩ hC2 .head (fun Z3 hC3 => ?_) (fun Z3 hC3 => ?_)
          · rw [hrest]
            conv => lhs; rw [hsp]
            simp
          · repeat' (first | (refine WP.st tysOk false rfl (by first | exact True.intro | exact rfl | exact ⟨⟨rfl, rfl⟩, rfl⟩) rfl rfl rfl rfl ?_ ?_; · (first | exact True.intro | exact ⟨by omega, by omega⟩ | exact ⟨by omega, by omega, by omega, by omega⟩ | omega)) | refine WP.condF rfl rfl ?_)
            refine WP.stop rfl ((m + 1, Z3)) ?_ ?_ ?_
            rotate_left
            · repeat (first | exact True.intro | refine And.intro rfl ?_)
            · repeat (first | exact Pick.nil | (apply Pick.cons; (· repeat' (first | exact Rem.head | apply Rem.tail)
                )))
            dsimp only
            exact ⟨⟨by omega, by rw [htk, ← List.append_assoc]; exact hC3⟩, by omega⟩
          · repeat' (first | (refine WP.st tysOk false rfl (by first | exact True.intro | exact rfl | exact ⟨⟨rfl, rfl⟩, rfl⟩) rfl rfl rfl rfl ?_ ?_; · (first | exact True.intro | exact ⟨by omega, by omega⟩ | exact ⟨by omega, by omega, by omega, by omega⟩ | omega)) | refine WP.condT rfl rfl ?_)
            refine WP.ret0 rfl rfl (fun w1 hw1 => ⟨⟨_, rfl⟩, .inr ⟨_, Z3, hC3, hw1.toTurn (by repeat (first | exact Pick.nil | (apply Pick.cons; (· repeat' (first | exact Rem.head | apply Rem.tail)
                                                                                                )))
              )⟩⟩)
        · skip
          have : m = lj.length := by omega
          subst this
          rw [List.take_length, ← hfl] at hC2
          refine WP.stop rfl ((j + 1, Z2)) ?_ ?_ ?_
          rotate_left
          · repeat (first | exact True.intro | refine And.intro rfl ?_)
          · repeat (first | exact Pick.nil | (apply Pick.cons; (· repeat' (first | exact Rem.head | apply Rem.tail)
              )))
          dsimp only
          exact ⟨⟨by omega, hC2⟩, by omega⟩
    · have : j = 2 := by omega
      subst this
      refine WP.end0 rfl rfl (fun w1 hw1 => ⟨⟨_, rfl⟩, .inl ⟨Z1, by simpa using hC1, hw1.toTurn (by repeat (first | exact Pick.nil | (apply Pick.cons; (· repeat' (first | exact Rem.head | apply Rem.tail)
                                                                                                      )))
        )⟩⟩)
end Go.Proofs.YtbnjeanldechnaaGreatDoor
