/- Adj: AdjOnce, walked. -/
import Derived.Test.YtcmcbiojkanlnaaA19
namespace Go.Proofs.Ytcmcbiojkanlnaa
open Go.RowKit Go.Qe
theorem mkOut (i : Inst) (n : Int) {w : World} {vg : Value} {Z : PH} (hg : GraphZ Z vg i) (hb : i.arcs.length ≤ 17592186044416) (h : Z.le (PH.of w)) :
    Calls Try.prog 9 #[vg, .int .i64 n] w fun e w' => ∃ y : Option Addr × Nat, e = .returned (.slice y.1 (someL i n true false).length y.2) ∧ True ∧ Ret w w' [.own (.slice y.1 (someL i n true false).length y.2) 3 1 (someL i n true false).length (ints (someL i n true false))] :=
  (out_c (hg.le h) hb).mono fun _ _ h => ret_shape h
theorem mkIn (i : Inst) (n : Int) {w : World} {vg : Value} {Z : PH} (hg : GraphZ Z vg i) (hb : i.arcs.length ≤ 17592186044416) (h : Z.le (PH.of w)) :
    Calls Try.prog 16 #[vg, .int .i64 n] w fun e w' => ∃ y : Option Addr × Nat, e = .returned (.slice y.1 (someL i n false true).length y.2) ∧ True ∧ Ret w w' [.own (.slice y.1 (someL i n false true).length y.2) 3 1 (someL i n false true).length (ints (someL i n false true))] :=
  (in_c (hg.le h) hb).mono fun _ _ h => ret_shape h
theorem mkAt (i : Inst) (n : Int) {w : World} {vg : Value} {Z : PH} (hg : GraphZ Z vg i) (hb : i.arcs.length ≤ 3518437208883) (h : Z.le (PH.of w)) :
    Calls Try.prog 14 #[vg, .int .i64 n] w fun e w' => ∃ y : Option Addr × Nat, e = .returned (.slice y.1 (someL i n true true).length y.2) ∧ True ∧ Ret w w' [.own (.slice y.1 (someL i n true true).length y.2) 3 1 (someL i n true true).length (ints (someL i n true true))] :=
  (at_c (hg.le h) hb).mono fun _ _ h => ret_shape h
theorem GraphZ.ptr {Z : PH} {v : Value} {i : Inst} (h : GraphZ Z v i) : ∃ g, v = .pointer (some ⟨g, 0, none⟩) := by
  obtain ⟨g, _, _, _, _, _, _, h, _⟩ := h; exact ⟨g, h⟩
set_option maxHeartbeats 4000000 in
theorem once_c {w : World} {vc vd : Value} {c d : List Int} (hc : U8Z (PH.of w) vc c) (hd : U8Z (PH.of w) vd d) (h8 : Byt c) (hd8 : Byt d) :
    Calls Try.prog 5 #[vc, vd] w fun e w' => e = .returned (.bool true) ∧ Below w.heap.size w w' := by
  have hic := fun w' (h : (PH.of w).le (PH.of w')) => inst_c (hc.le h) (hd.le h) h8 hd8
  have hall := instOf_ok (d := d) h8
  have hl18 := instOf_len c d
  have hn7 : (instOf c d).supply.length ≤ 7 := by rw [instOf_sup]; exact nOf_le hd8
  generalize instOf c d = i at *
  clear hc hd
  refine enter_ Try.func5 rfl Try.ntmps5 rfl ?_
  repeat' (first
    | (refine WP.st tysOk false rfl (by first | exact True.intro | exact rfl | exact ⟨⟨rfl, rfl⟩, rfl⟩) rfl rfl rfl rfl ?_ ?_; · (first | exact True.intro | exact ⟨by omega, by omega⟩ | exact ⟨by omega, by omega, by omega, by omega⟩ | omega))
    | (refine WP.ld tysOk rfl (by first | exact True.intro | exact rfl | exact ⟨⟨rfl, rfl⟩, rfl⟩) rfl rfl rfl rfl rfl rfl rfl ?_; apply ex2; (· first | (apply CellAt.blk; (· repeat' (first | exact Rem.head | apply Rem.tail)); (· rfl)) | (refine CellAt.fz ?_ (by assumption); repeat' (first | exact List.Mem.head _ | apply List.Mem.tail))
        ))
    | (refine WP.ldn tysOk rfl (by first | exact True.intro | exact rfl | exact ⟨⟨rfl, rfl⟩, rfl⟩) rfl rfl rfl rfl rfl rfl rfl ?_; apply ex2; (· first | (apply SegAt.blk'; (· repeat' (first | exact Rem.head | apply Rem.tail)); (· rfl)) | (refine ⟨SegAt.fz ?_ (by assumption), rfl⟩; repeat' (first | exact List.Mem.head _ | apply List.Mem.tail))
        ))
    | (refine WP.sto tysOk rfl rfl rfl rfl rfl rfl rfl rfl rfl ?_; apply ex3; (· repeat' (first | exact Rem.head | apply Rem.tail)
        ); (· first | exact Nat.le_of_ble_eq_true rfl | (simp [kints_length, arcsCells_length]; omega)
        ))
    | refine WP.ix1 tysOk rfl (by first | exact True.intro | exact rfl | exact ⟨⟨rfl, rfl⟩, rfl⟩) rfl rfl rfl rfl rfl rfl rfl rfl (by first | omega | (simp only []; omega)) ?_
    | refine WP.ix tysOk rfl (by first | exact True.intro | exact rfl | exact ⟨⟨rfl, rfl⟩, rfl⟩) rfl rfl rfl rfl rfl rfl rfl rfl (by first | omega | (simp only []; omega)) ?_
    | (refine WP.box rfl rfl rfl rfl rfl rfl ?_; intro g)
    | (refine WP.al tysOk rfl rfl rfl rfl rfl rfl ?_; intro g)
    | (refine WP.bs tysOk rfl rfl rfl rfl rfl rfl rfl rfl rfl rfl rfl rfl ?_; intro g)
    | refine WP.yes rfl rfl rfl ?_
    | refine WP.no rfl rfl rfl rfl rfl ?_
    | refine WP.noU rfl rfl rfl rfl ?_
    | (refine WP.gs rfl rfl rfl rfl (fun hh => ?_) (fun hh => ?_) <;> (try simp only [decide_eq_true_eq, decide_eq_false_iff_not, Bool.not_true, Bool.not_false] at hh) <;> (try (exfalso; omega)))
    | refine WP.condT rfl rfl ?_
    | refine WP.condF rfl rfl ?_
    | (refine WP.cond_d rfl rfl (fun hh => ?_) (fun hh => ?_) <;> try (exfalso; omega))
    | refine WP.cond rfl rfl (fun hh => ?_) (fun hh => ?_)
    | refine WP.bld tysOk rfl (by first | exact True.intro | exact rfl | exact ⟨⟨rfl, rfl⟩, rfl⟩) rfl rfl rfl rfl rfl rfl rfl ?_
    | (refine WP.lal tysOk rfl ⟨rfl, rfl⟩ rfl rfl rfl rfl rfl rfl rfl ?_; intro g)
    | refine WP.lend rfl ⟨rfl, rfl⟩ ?_
    | refine WP.qend rfl ?_
    | refine WP.mn rfl (by first | exact True.intro | exact rfl | exact ⟨⟨rfl, rfl⟩, rfl⟩) rfl rfl rfl rfl rfl rfl ?_
    | refine WP.mx rfl (by first | exact True.intro | exact rfl | exact ⟨⟨rfl, rfl⟩, rfl⟩) rfl rfl rfl rfl rfl rfl ?_)
  refine WP.callR (fun x : Nat × Option Addr × Nat => .agg #[.slice (some ⟨x.1, 0, none⟩) i.supply.length i.supply.length, .slice x.2.1 i.arcs.length x.2.2]) (fun x => [.blk x.1 2 (ints i.supply), .own (.slice x.2.1 i.arcs.length x.2.2) 31 5 i.arcs.length (arcsCells i.arcs)]) (fun _ => True) rfl rfl rfl rfl rfl rfl rfl (by kernel_rfl) (fun w1 hw1 => hic _ (hw1.le (by simp))) ?_
  rintro ⟨gs, B, bc⟩ _
  dsimp only
  repeat' (first
    | (refine WP.st tysOk false rfl (by first | exact True.intro | exact rfl | exact ⟨⟨rfl, rfl⟩, rfl⟩) rfl rfl rfl rfl ?_ ?_; · (first | exact True.intro | exact ⟨by omega, by omega⟩ | exact ⟨by omega, by omega, by omega, by omega⟩ | omega))
    | (refine WP.ld tysOk rfl (by first | exact True.intro | exact rfl | exact ⟨⟨rfl, rfl⟩, rfl⟩) rfl rfl rfl rfl rfl rfl rfl ?_; apply ex2; (· first | (apply CellAt.blk; (· repeat' (first | exact Rem.head | apply Rem.tail)); (· rfl)) | (refine CellAt.fz ?_ (by assumption); repeat' (first | exact List.Mem.head _ | apply List.Mem.tail))
        ))
    | (refine WP.ldn tysOk rfl (by first | exact True.intro | exact rfl | exact ⟨⟨rfl, rfl⟩, rfl⟩) rfl rfl rfl rfl rfl rfl rfl ?_; apply ex2; (· first | (apply SegAt.blk'; (· repeat' (first | exact Rem.head | apply Rem.tail)); (· rfl)) | (refine ⟨SegAt.fz ?_ (by assumption), rfl⟩; repeat' (first | exact List.Mem.head _ | apply List.Mem.tail))
        ))
    | (refine WP.sto tysOk rfl rfl rfl rfl rfl rfl rfl rfl rfl ?_; apply ex3; (· repeat' (first | exact Rem.head | apply Rem.tail)
        ); (· first | exact Nat.le_of_ble_eq_true rfl | (simp [kints_length, arcsCells_length]; omega)
        ))
    | refine WP.ix1 tysOk rfl (by first | exact True.intro | exact rfl | exact ⟨⟨rfl, rfl⟩, rfl⟩) rfl rfl rfl rfl rfl rfl rfl rfl (by first | omega | (simp only []; omega)) ?_
    | refine WP.ix tysOk rfl (by first | exact True.intro | exact rfl | exact ⟨⟨rfl, rfl⟩, rfl⟩) rfl rfl rfl rfl rfl rfl rfl rfl (by first | omega | (simp only []; omega)) ?_
    | (refine WP.box rfl rfl rfl rfl rfl rfl ?_; intro g)
    | (refine WP.al tysOk rfl rfl rfl rfl rfl rfl ?_; intro g)
    | (refine WP.bs tysOk rfl rfl rfl rfl rfl rfl rfl rfl rfl rfl rfl rfl ?_; intro g)
    | refine WP.yes rfl rfl rfl ?_
    | refine WP.no rfl rfl rfl rfl rfl ?_
    | refine WP.noU rfl rfl rfl rfl ?_
    | (refine WP.gs rfl rfl rfl rfl (fun hh => ?_) (fun hh => ?_) <;> (try simp only [decide_eq_true_eq, decide_eq_false_iff_not, Bool.not_true, Bool.not_false] at hh) <;> (try (exfalso; omega)))
    | refine WP.condT rfl rfl ?_
    | refine WP.condF rfl rfl ?_
    | (refine WP.cond_d rfl rfl (fun hh => ?_) (fun hh => ?_) <;> try (exfalso; omega))
    | refine WP.cond rfl rfl (fun hh => ?_) (fun hh => ?_)
    | refine WP.bld tysOk rfl (by first | exact True.intro | exact rfl | exact ⟨⟨rfl, rfl⟩, rfl⟩) rfl rfl rfl rfl rfl rfl rfl ?_
    | (refine WP.lal tysOk rfl ⟨rfl, rfl⟩ rfl rfl rfl rfl rfl rfl rfl ?_; intro g)
    | refine WP.lend rfl ⟨rfl, rfl⟩ ?_
    | refine WP.qend rfl ?_
    | refine WP.mn rfl (by first | exact True.intro | exact rfl | exact ⟨⟨rfl, rfl⟩, rfl⟩) rfl rfl rfl rfl rfl rfl ?_
    | refine WP.mx rfl (by first | exact True.intro | exact rfl | exact ⟨⟨rfl, rfl⟩, rfl⟩) rfl rfl rfl rfl rfl rfl ?_)
  refine WP.callR (fun x : Value × PH => x.1) (fun x => [.fz x.2]) (fun x => GraphZ x.2 x.1 i) rfl rfl rfl rfl rfl rfl rfl (by kernel_rfl)
    (fun w1 hw1 => new_c ⟨_, _, rfl, hw1.kblk0 (.tail .head) (by omega) (by omega), hw1.arcs (.tail (.tail .head))⟩ (by omega) (by omega)) ?_
  rintro ⟨vg, Z⟩ hg
  dsimp only at hg ⊢
  obtain ⟨gg, rfl⟩ := hg.ptr
  repeat' (first
    | (refine WP.st tysOk false rfl (by first | exact True.intro | exact rfl | exact ⟨⟨rfl, rfl⟩, rfl⟩) rfl rfl rfl rfl ?_ ?_; · (first | exact True.intro | exact ⟨by omega, by omega⟩ | exact ⟨by omega, by omega, by omega, by omega⟩ | omega))
    | (refine WP.ld tysOk rfl (by first | exact True.intro | exact rfl | exact ⟨⟨rfl, rfl⟩, rfl⟩) rfl rfl rfl rfl rfl rfl rfl ?_; apply ex2; (· first | (apply CellAt.blk; (· repeat' (first | exact Rem.head | apply Rem.tail)); (· rfl)) | (refine CellAt.fz ?_ (by assumption); repeat' (first | exact List.Mem.head _ | apply List.Mem.tail))
        ))
    | (refine WP.ldn tysOk rfl (by first | exact True.intro | exact rfl | exact ⟨⟨rfl, rfl⟩, rfl⟩) rfl rfl rfl rfl rfl rfl rfl ?_; apply ex2; (· first | (apply SegAt.blk'; (· repeat' (first | exact Rem.head | apply Rem.tail)); (· rfl)) | (refine ⟨SegAt.fz ?_ (by assumption), rfl⟩; repeat' (first | exact List.Mem.head _ | apply List.Mem.tail))
        ))
    | (refine WP.sto tysOk rfl rfl rfl rfl rfl rfl rfl rfl rfl ?_; apply ex3; (· repeat' (first | exact Rem.head | apply Rem.tail)
        ); (· first | exact Nat.le_of_ble_eq_true rfl | (simp [kints_length, arcsCells_length]; omega)
        ))
    | refine WP.ix1 tysOk rfl (by first | exact True.intro | exact rfl | exact ⟨⟨rfl, rfl⟩, rfl⟩) rfl rfl rfl rfl rfl rfl rfl rfl (by first | omega | (simp only []; omega)) ?_
    | refine WP.ix tysOk rfl (by first | exact True.intro | exact rfl | exact ⟨⟨rfl, rfl⟩, rfl⟩) rfl rfl rfl rfl rfl rfl rfl rfl (by first | omega | (simp only []; omega)) ?_
    | (refine WP.box rfl rfl rfl rfl rfl rfl ?_; intro g)
    | (refine WP.al tysOk rfl rfl rfl rfl rfl rfl ?_; intro g)
    | (refine WP.bs tysOk rfl rfl rfl rfl rfl rfl rfl rfl rfl rfl rfl rfl ?_; intro g)
    | refine WP.yes rfl rfl rfl ?_
    | refine WP.no rfl rfl rfl rfl rfl ?_
    | refine WP.noU rfl rfl rfl rfl ?_
    | (refine WP.gs rfl rfl rfl rfl (fun hh => ?_) (fun hh => ?_) <;> (try simp only [decide_eq_true_eq, decide_eq_false_iff_not, Bool.not_true, Bool.not_false] at hh) <;> (try (exfalso; omega)))
    | refine WP.condT rfl rfl ?_
    | refine WP.condF rfl rfl ?_
    | (refine WP.cond_d rfl rfl (fun hh => ?_) (fun hh => ?_) <;> try (exfalso; omega))
    | refine WP.cond rfl rfl (fun hh => ?_) (fun hh => ?_)
    | refine WP.bld tysOk rfl (by first | exact True.intro | exact rfl | exact ⟨⟨rfl, rfl⟩, rfl⟩) rfl rfl rfl rfl rfl rfl rfl ?_
    | (refine WP.lal tysOk rfl ⟨rfl, rfl⟩ rfl rfl rfl rfl rfl rfl rfl ?_; intro g)
    | refine WP.lend rfl ⟨rfl, rfl⟩ ?_
    | refine WP.qend rfl ?_
    | refine WP.mn rfl (by first | exact True.intro | exact rfl | exact ⟨⟨rfl, rfl⟩, rfl⟩) rfl rfl rfl rfl rfl rfl ?_
    | refine WP.mx rfl (by first | exact True.intro | exact rfl | exact ⟨⟨rfl, rfl⟩, rfl⟩) rfl rfl rfl rfl rfl rfl ?_)
  refine WP.mk1 tysOk rfl rfl rfl rfl rfl rfl rfl rfl rfl rfl (by omega) (by omega) ?_
  intro go
  refine WP.reblk (cs' := ints (List.replicate i.arcs.length 0)) .head (kints_replicate .i64 _ 0) ?_
  repeat' (first
    | (refine WP.st tysOk false rfl (by first | exact True.intro | exact rfl | exact ⟨⟨rfl, rfl⟩, rfl⟩) rfl rfl rfl rfl ?_ ?_; · (first | exact True.intro | exact ⟨by omega, by omega⟩ | exact ⟨by omega, by omega, by omega, by omega⟩ | omega))
    | (refine WP.ld tysOk rfl (by first | exact True.intro | exact rfl | exact ⟨⟨rfl, rfl⟩, rfl⟩) rfl rfl rfl rfl rfl rfl rfl ?_; apply ex2; (· first | (apply CellAt.blk; (· repeat' (first | exact Rem.head | apply Rem.tail)); (· rfl)) | (refine CellAt.fz ?_ (by assumption); repeat' (first | exact List.Mem.head _ | apply List.Mem.tail))
        ))
    | (refine WP.ldn tysOk rfl (by first | exact True.intro | exact rfl | exact ⟨⟨rfl, rfl⟩, rfl⟩) rfl rfl rfl rfl rfl rfl rfl ?_; apply ex2; (· first | (apply SegAt.blk'; (· repeat' (first | exact Rem.head | apply Rem.tail)); (· rfl)) | (refine ⟨SegAt.fz ?_ (by assumption), rfl⟩; repeat' (first | exact List.Mem.head _ | apply List.Mem.tail))
        ))
    | (refine WP.sto tysOk rfl rfl rfl rfl rfl rfl rfl rfl rfl ?_; apply ex3; (· repeat' (first | exact Rem.head | apply Rem.tail)
        ); (· first | exact Nat.le_of_ble_eq_true rfl | (simp [kints_length, arcsCells_length]; omega)
        ))
    | refine WP.ix1 tysOk rfl (by first | exact True.intro | exact rfl | exact ⟨⟨rfl, rfl⟩, rfl⟩) rfl rfl rfl rfl rfl rfl rfl rfl (by first | omega | (simp only []; omega)) ?_
    | refine WP.ix tysOk rfl (by first | exact True.intro | exact rfl | exact ⟨⟨rfl, rfl⟩, rfl⟩) rfl rfl rfl rfl rfl rfl rfl rfl (by first | omega | (simp only []; omega)) ?_
    | (refine WP.box rfl rfl rfl rfl rfl rfl ?_; intro g)
    | (refine WP.al tysOk rfl rfl rfl rfl rfl rfl ?_; intro g)
    | (refine WP.bs tysOk rfl rfl rfl rfl rfl rfl rfl rfl rfl rfl rfl rfl ?_; intro g)
    | refine WP.yes rfl rfl rfl ?_
    | refine WP.no rfl rfl rfl rfl rfl ?_
    | refine WP.noU rfl rfl rfl rfl ?_
    | (refine WP.gs rfl rfl rfl rfl (fun hh => ?_) (fun hh => ?_) <;> (try simp only [decide_eq_true_eq, decide_eq_false_iff_not, Bool.not_true, Bool.not_false] at hh) <;> (try (exfalso; omega)))
    | refine WP.condT rfl rfl ?_
    | refine WP.condF rfl rfl ?_
    | (refine WP.cond_d rfl rfl (fun hh => ?_) (fun hh => ?_) <;> try (exfalso; omega))
    | refine WP.cond rfl rfl (fun hh => ?_) (fun hh => ?_)
    | refine WP.bld tysOk rfl (by first | exact True.intro | exact rfl | exact ⟨⟨rfl, rfl⟩, rfl⟩) rfl rfl rfl rfl rfl rfl rfl ?_
    | (refine WP.lal tysOk rfl ⟨rfl, rfl⟩ rfl rfl rfl rfl rfl rfl rfl ?_; intro g)
    | refine WP.lend rfl ⟨rfl, rfl⟩ ?_
    | refine WP.qend rfl ?_
    | refine WP.mn rfl (by first | exact True.intro | exact rfl | exact ⟨⟨rfl, rfl⟩, rfl⟩) rfl rfl rfl rfl rfl rfl ?_
    | refine WP.mx rfl (by first | exact True.intro | exact rfl | exact ⟨⟨rfl, rfl⟩, rfl⟩) rfl rfl rfl rfl rfl rfl ?_)
  refine WP.mk1 tysOk rfl rfl rfl rfl rfl rfl rfl rfl rfl rfl (by omega) (by omega) ?_
  intro gi
  refine WP.reblk (cs' := ints (List.replicate i.arcs.length 0)) .head (kints_replicate .i64 _ 0) ?_
  repeat' (first
    | (refine WP.st tysOk false rfl (by first | exact True.intro | exact rfl | exact ⟨⟨rfl, rfl⟩, rfl⟩) rfl rfl rfl rfl ?_ ?_; · (first | exact True.intro | exact ⟨by omega, by omega⟩ | exact ⟨by omega, by omega, by omega, by omega⟩ | omega))
    | (refine WP.ld tysOk rfl (by first | exact True.intro | exact rfl | exact ⟨⟨rfl, rfl⟩, rfl⟩) rfl rfl rfl rfl rfl rfl rfl ?_; apply ex2; (· first | (apply CellAt.blk; (· repeat' (first | exact Rem.head | apply Rem.tail)); (· rfl)) | (refine CellAt.fz ?_ (by assumption); repeat' (first | exact List.Mem.head _ | apply List.Mem.tail))
        ))
    | (refine WP.ldn tysOk rfl (by first | exact True.intro | exact rfl | exact ⟨⟨rfl, rfl⟩, rfl⟩) rfl rfl rfl rfl rfl rfl rfl ?_; apply ex2; (· first | (apply SegAt.blk'; (· repeat' (first | exact Rem.head | apply Rem.tail)); (· rfl)) | (refine ⟨SegAt.fz ?_ (by assumption), rfl⟩; repeat' (first | exact List.Mem.head _ | apply List.Mem.tail))
        ))
    | (refine WP.sto tysOk rfl rfl rfl rfl rfl rfl rfl rfl rfl ?_; apply ex3; (· repeat' (first | exact Rem.head | apply Rem.tail)
        ); (· first | exact Nat.le_of_ble_eq_true rfl | (simp [kints_length, arcsCells_length]; omega)
        ))
    | refine WP.ix1 tysOk rfl (by first | exact True.intro | exact rfl | exact ⟨⟨rfl, rfl⟩, rfl⟩) rfl rfl rfl rfl rfl rfl rfl rfl (by first | omega | (simp only []; omega)) ?_
    | refine WP.ix tysOk rfl (by first | exact True.intro | exact rfl | exact ⟨⟨rfl, rfl⟩, rfl⟩) rfl rfl rfl rfl rfl rfl rfl rfl (by first | omega | (simp only []; omega)) ?_
    | (refine WP.box rfl rfl rfl rfl rfl rfl ?_; intro g)
    | (refine WP.al tysOk rfl rfl rfl rfl rfl rfl ?_; intro g)
    | (refine WP.bs tysOk rfl rfl rfl rfl rfl rfl rfl rfl rfl rfl rfl rfl ?_; intro g)
    | refine WP.yes rfl rfl rfl ?_
    | refine WP.no rfl rfl rfl rfl rfl ?_
    | refine WP.noU rfl rfl rfl rfl ?_
    | (refine WP.gs rfl rfl rfl rfl (fun hh => ?_) (fun hh => ?_) <;> (try simp only [decide_eq_true_eq, decide_eq_false_iff_not, Bool.not_true, Bool.not_false] at hh) <;> (try (exfalso; omega)))
    | refine WP.condT rfl rfl ?_
    | refine WP.condF rfl rfl ?_
    | (refine WP.cond_d rfl rfl (fun hh => ?_) (fun hh => ?_) <;> try (exfalso; omega))
    | refine WP.cond rfl rfl (fun hh => ?_) (fun hh => ?_)
    | refine WP.bld tysOk rfl (by first | exact True.intro | exact rfl | exact ⟨⟨rfl, rfl⟩, rfl⟩) rfl rfl rfl rfl rfl rfl rfl ?_
    | (refine WP.lal tysOk rfl ⟨rfl, rfl⟩ rfl rfl rfl rfl rfl rfl rfl ?_; intro g)
    | refine WP.lend rfl ⟨rfl, rfl⟩ ?_
    | refine WP.qend rfl ?_
    | refine WP.mn rfl (by first | exact True.intro | exact rfl | exact ⟨⟨rfl, rfl⟩, rfl⟩) rfl rfl rfl rfl rfl rfl ?_
    | refine WP.mx rfl (by first | exact True.intro | exact rfl | exact ⟨⟨rfl, rfl⟩, rfl⟩) rfl rfl rfl rfl rfl rfl ?_)
  -- the nodes
  refine WP.loop (α := Nat × List Int × List Int) (fun x => x.1 ≤ i.supply.length ∧ Tal (fun a => (arcAt i.arcs a).src) i.arcs.length x.1 [] x.2.1 ∧ Tal (fun a => (arcAt i.arcs a).dst) i.arcs.length x.1 [] x.2.2)
    (fun x => [(6, .pointer (some ⟨gg, 0, none⟩)), (7, .slice (some ⟨go, 0, none⟩) i.arcs.length i.arcs.length), (8, .slice (some ⟨gi, 0, none⟩) i.arcs.length i.arcs.length), (9, .int .i64 x.1)])
    (fun x => [.blk go 3 (ints x.2.1), .blk gi 3 (ints x.2.2), .fz Z, .fz (PH.of w)])
    (fun x => i.supply.length - x.1) rfl (0, List.replicate i.arcs.length 0, List.replicate i.arcs.length 0) ⟨Nat.zero_le _, Tal.start _ _ (fun a ha => (hall a ha).src0), Tal.start _ _ (fun a ha => (hall a ha).dst0)⟩ ?_ ?_ ?_
  · repeat (first | exact True.intro | refine And.intro rfl ?_)
  · repeat (first | exact Pick.nil | (apply Pick.cons; (· repeat' (first | exact Rem.head | apply Rem.tail)
      )))
  · intro ⟨n, outs, ins⟩ ⟨hn, ho, hi⟩
    dsimp only at hn ho hi ⊢
    repeat' (first
      | (refine WP.st tysOk false rfl (by first | exact True.intro | exact rfl | exact ⟨⟨rfl, rfl⟩, rfl⟩) rfl rfl rfl rfl ?_ ?_; · (first | exact True.intro | exact ⟨by omega, by omega⟩ | exact ⟨by omega, by omega, by omega, by omega⟩ | omega))
      | (refine WP.ld tysOk rfl (by first | exact True.intro | exact rfl | exact ⟨⟨rfl, rfl⟩, rfl⟩) rfl rfl rfl rfl rfl rfl rfl ?_; apply ex2; (· first | (apply CellAt.blk; (· repeat' (first | exact Rem.head | apply Rem.tail)); (· rfl)) | (refine CellAt.fz ?_ (by assumption); repeat' (first | exact List.Mem.head _ | apply List.Mem.tail))
          ))
      | (refine WP.ldn tysOk rfl (by first | exact True.intro | exact rfl | exact ⟨⟨rfl, rfl⟩, rfl⟩) rfl rfl rfl rfl rfl rfl rfl ?_; apply ex2; (· first | (apply SegAt.blk'; (· repeat' (first | exact Rem.head | apply Rem.tail)); (· rfl)) | (refine ⟨SegAt.fz ?_ (by assumption), rfl⟩; repeat' (first | exact List.Mem.head _ | apply List.Mem.tail))
          ))
      | (refine WP.sto tysOk rfl rfl rfl rfl rfl rfl rfl rfl rfl ?_; apply ex3; (· repeat' (first | exact Rem.head | apply Rem.tail)
          ); (· first | exact Nat.le_of_ble_eq_true rfl | (simp [kints_length, arcsCells_length]; omega)
          ))
      | refine WP.ix1 tysOk rfl (by first | exact True.intro | exact rfl | exact ⟨⟨rfl, rfl⟩, rfl⟩) rfl rfl rfl rfl rfl rfl rfl rfl (by first | omega | (simp only []; omega)) ?_
      | refine WP.ix tysOk rfl (by first | exact True.intro | exact rfl | exact ⟨⟨rfl, rfl⟩, rfl⟩) rfl rfl rfl rfl rfl rfl rfl rfl (by first | omega | (simp only []; omega)) ?_
      | (refine WP.box rfl rfl rfl rfl rfl rfl ?_; intro g)
      | (refine WP.al tysOk rfl rfl rfl rfl rfl rfl ?_; intro g)
      | (refine WP.bs tysOk rfl rfl rfl rfl rfl rfl rfl rfl rfl rfl rfl rfl ?_; intro g)
      | refine WP.yes rfl rfl rfl ?_
      | refine WP.no rfl rfl rfl rfl rfl ?_
      | refine WP.noU rfl rfl rfl rfl ?_
      | (refine WP.gs rfl rfl rfl rfl (fun hh => ?_) (fun hh => ?_) <;> (try simp only [decide_eq_true_eq, decide_eq_false_iff_not, Bool.not_true, Bool.not_false] at hh) <;> (try (exfalso; omega)))
      | refine WP.condT rfl rfl ?_
      | refine WP.condF rfl rfl ?_
      | (refine WP.cond_d rfl rfl (fun hh => ?_) (fun hh => ?_) <;> try (exfalso; omega))
      | refine WP.cond rfl rfl (fun hh => ?_) (fun hh => ?_)
      | refine WP.bld tysOk rfl (by first | exact True.intro | exact rfl | exact ⟨⟨rfl, rfl⟩, rfl⟩) rfl rfl rfl rfl rfl rfl rfl ?_
      | (refine WP.lal tysOk rfl ⟨rfl, rfl⟩ rfl rfl rfl rfl rfl rfl rfl ?_; intro g)
      | refine WP.lend rfl ⟨rfl, rfl⟩ ?_
      | refine WP.qend rfl ?_
      | refine WP.mn rfl (by first | exact True.intro | exact rfl | exact ⟨⟨rfl, rfl⟩, rfl⟩) rfl rfl rfl rfl rfl rfl ?_
      | refine WP.mx rfl (by first | exact True.intro | exact rfl | exact ⟨⟨rfl, rfl⟩, rfl⟩) rfl rfl rfl rfl rfl rfl ?_)
    refine WP.callV rfl rfl rfl rfl rfl rfl rfl (by kernel_rfl) (fun w1 hw1 => nodes_c (hg.le (hw1.le (by simp)))) (by first | exact True.intro | exact rfl | exact ⟨⟨rfl, rfl⟩, rfl⟩) ?_
    repeat' (first
      | (refine WP.st tysOk false rfl (by first | exact True.intro | exact rfl | exact ⟨⟨rfl, rfl⟩, rfl⟩) rfl rfl rfl rfl ?_ ?_; · (first | exact True.intro | exact ⟨by omega, by omega⟩ | exact ⟨by omega, by omega, by omega, by omega⟩ | omega))
      | (refine WP.ld tysOk rfl (by first | exact True.intro | exact rfl | exact ⟨⟨rfl, rfl⟩, rfl⟩) rfl rfl rfl rfl rfl rfl rfl ?_; apply ex2; (· first | (apply CellAt.blk; (· repeat' (first | exact Rem.head | apply Rem.tail)); (· rfl)) | (refine CellAt.fz ?_ (by assumption); repeat' (first | exact List.Mem.head _ | apply List.Mem.tail))
          ))
      | (refine WP.ldn tysOk rfl (by first | exact True.intro | exact rfl | exact ⟨⟨rfl, rfl⟩, rfl⟩) rfl rfl rfl rfl rfl rfl rfl ?_; apply ex2; (· first | (apply SegAt.blk'; (· repeat' (first | exact Rem.head | apply Rem.tail)); (· rfl)) | (refine ⟨SegAt.fz ?_ (by assumption), rfl⟩; repeat' (first | exact List.Mem.head _ | apply List.Mem.tail))
          ))
      | (refine WP.sto tysOk rfl rfl rfl rfl rfl rfl rfl rfl rfl ?_; apply ex3; (· repeat' (first | exact Rem.head | apply Rem.tail)
          ); (· first | exact Nat.le_of_ble_eq_true rfl | (simp [kints_length, arcsCells_length]; omega)
          ))
      | refine WP.ix1 tysOk rfl (by first | exact True.intro | exact rfl | exact ⟨⟨rfl, rfl⟩, rfl⟩) rfl rfl rfl rfl rfl rfl rfl rfl (by first | omega | (simp only []; omega)) ?_
      | refine WP.ix tysOk rfl (by first | exact True.intro | exact rfl | exact ⟨⟨rfl, rfl⟩, rfl⟩) rfl rfl rfl rfl rfl rfl rfl rfl (by first | omega | (simp only []; omega)) ?_
      | (refine WP.box rfl rfl rfl rfl rfl rfl ?_; intro g)
      | (refine WP.al tysOk rfl rfl rfl rfl rfl rfl ?_; intro g)
      | (refine WP.bs tysOk rfl rfl rfl rfl rfl rfl rfl rfl rfl rfl rfl rfl ?_; intro g)
      | refine WP.yes rfl rfl rfl ?_
      | refine WP.no rfl rfl rfl rfl rfl ?_
      | refine WP.noU rfl rfl rfl rfl ?_
      | (refine WP.gs rfl rfl rfl rfl (fun hh => ?_) (fun hh => ?_) <;> (try simp only [decide_eq_true_eq, decide_eq_false_iff_not, Bool.not_true, Bool.not_false] at hh) <;> (try (exfalso; omega)))
      | refine WP.condT rfl rfl ?_
      | refine WP.condF rfl rfl ?_
      | (refine WP.cond_d rfl rfl (fun hh => ?_) (fun hh => ?_) <;> try (exfalso; omega))
      | refine WP.cond rfl rfl (fun hh => ?_) (fun hh => ?_)
      | refine WP.bld tysOk rfl (by first | exact True.intro | exact rfl | exact ⟨⟨rfl, rfl⟩, rfl⟩) rfl rfl rfl rfl rfl rfl rfl ?_
      | (refine WP.lal tysOk rfl ⟨rfl, rfl⟩ rfl rfl rfl rfl rfl rfl rfl ?_; intro g)
      | refine WP.lend rfl ⟨rfl, rfl⟩ ?_
      | refine WP.qend rfl ?_
      | refine WP.mn rfl (by first | exact True.intro | exact rfl | exact ⟨⟨rfl, rfl⟩, rfl⟩) rfl rfl rfl rfl rfl rfl ?_
      | refine WP.mx rfl (by first | exact True.intro | exact rfl | exact ⟨⟨rfl, rfl⟩, rfl⟩) rfl rfl rfl rfl rfl rfl ?_)
    · have lo := someL_len i n true false
      have li := someL_len i n false true
      have la := someL_len i n true true
      refine WP.callR (fun y : Option Addr × Nat => .slice y.1 (someL i n true false).length y.2) (fun y => [.own (.slice y.1 (someL i n true false).length y.2) 3 1 (someL i n true false).length (ints (someL i n true false))]) (fun _ => True) rfl rfl rfl rfl rfl rfl rfl (by kernel_rfl) (fun w1 hw1 => mkOut i n hg (by omega) (hw1.le (by simp))) ?_
      rintro ⟨Ao, co⟩ _
      dsimp only
      refine WP.shape2 .head ?_
      rintro _ _ h hAo
      cases h
      repeat' (first
        | (refine WP.st tysOk false rfl (by first | exact True.intro | exact rfl | exact ⟨⟨rfl, rfl⟩, rfl⟩) rfl rfl rfl rfl ?_ ?_; · (first | exact True.intro | exact ⟨by omega, by omega⟩ | exact ⟨by omega, by omega, by omega, by omega⟩ | omega))
        | (refine WP.ld tysOk rfl (by first | exact True.intro | exact rfl | exact ⟨⟨rfl, rfl⟩, rfl⟩) rfl rfl rfl rfl rfl rfl rfl ?_; apply ex2; (· first | (apply CellAt.blk; (· repeat' (first | exact Rem.head | apply Rem.tail)); (· rfl)) | (refine CellAt.fz ?_ (by assumption); repeat' (first | exact List.Mem.head _ | apply List.Mem.tail))
            ))
        | (refine WP.ldn tysOk rfl (by first | exact True.intro | exact rfl | exact ⟨⟨rfl, rfl⟩, rfl⟩) rfl rfl rfl rfl rfl rfl rfl ?_; apply ex2; (· first | (apply SegAt.blk'; (· repeat' (first | exact Rem.head | apply Rem.tail)); (· rfl)) | (refine ⟨SegAt.fz ?_ (by assumption), rfl⟩; repeat' (first | exact List.Mem.head _ | apply List.Mem.tail))
            ))
        | (refine WP.sto tysOk rfl rfl rfl rfl rfl rfl rfl rfl rfl ?_; apply ex3; (· repeat' (first | exact Rem.head | apply Rem.tail)
            ); (· first | exact Nat.le_of_ble_eq_true rfl | (simp [kints_length, arcsCells_length]; omega)
            ))
        | refine WP.ix1 tysOk rfl (by first | exact True.intro | exact rfl | exact ⟨⟨rfl, rfl⟩, rfl⟩) rfl rfl rfl rfl rfl rfl rfl rfl (by first | omega | (simp only []; omega)) ?_
        | refine WP.ix tysOk rfl (by first | exact True.intro | exact rfl | exact ⟨⟨rfl, rfl⟩, rfl⟩) rfl rfl rfl rfl rfl rfl rfl rfl (by first | omega | (simp only []; omega)) ?_
        | (refine WP.box rfl rfl rfl rfl rfl rfl ?_; intro g)
        | (refine WP.al tysOk rfl rfl rfl rfl rfl rfl ?_; intro g)
        | (refine WP.bs tysOk rfl rfl rfl rfl rfl rfl rfl rfl rfl rfl rfl rfl ?_; intro g)
        | refine WP.yes rfl rfl rfl ?_
        | refine WP.no rfl rfl rfl rfl rfl ?_
        | refine WP.noU rfl rfl rfl rfl ?_
        | (refine WP.gs rfl rfl rfl rfl (fun hh => ?_) (fun hh => ?_) <;> (try simp only [decide_eq_true_eq, decide_eq_false_iff_not, Bool.not_true, Bool.not_false] at hh) <;> (try (exfalso; omega)))
        | refine WP.condT rfl rfl ?_
        | refine WP.condF rfl rfl ?_
        | (refine WP.cond_d rfl rfl (fun hh => ?_) (fun hh => ?_) <;> try (exfalso; omega))
        | refine WP.cond rfl rfl (fun hh => ?_) (fun hh => ?_)
        | refine WP.bld tysOk rfl (by first | exact True.intro | exact rfl | exact ⟨⟨rfl, rfl⟩, rfl⟩) rfl rfl rfl rfl rfl rfl rfl ?_
        | (refine WP.lal tysOk rfl ⟨rfl, rfl⟩ rfl rfl rfl rfl rfl rfl rfl ?_; intro g)
        | refine WP.lend rfl ⟨rfl, rfl⟩ ?_
        | refine WP.qend rfl ?_
        | refine WP.mn rfl (by first | exact True.intro | exact rfl | exact ⟨⟨rfl, rfl⟩, rfl⟩) rfl rfl rfl rfl rfl rfl ?_
        | refine WP.mx rfl (by first | exact True.intro | exact rfl | exact ⟨⟨rfl, rfl⟩, rfl⟩) rfl rfl rfl rfl rfl rfl ?_)
      -- arcs out of it
      refine WP.loop (α := Nat × List Int) (fun x => x.1 ≤ (someL i n true false).length ∧ Tal (fun a => (arcAt i.arcs a).src) i.arcs.length n ((someL i n true false).take x.1) x.2)
        (fun x => [(6, .pointer (some ⟨gg, 0, none⟩)), (7, .slice (some ⟨go, 0, none⟩) i.arcs.length i.arcs.length), (8, .slice (some ⟨gi, 0, none⟩) i.arcs.length i.arcs.length), (9, .int .i64 n), (10, .slice Ao (someL i n true false).length co), (11, .int .i64 x.1)])
        (fun x => [.blk go 3 (ints x.2), .blk gi 3 (ints ins), .own (.slice Ao (someL i n true false).length co) 3 1 (someL i n true false).length (ints (someL i n true false)), .fz Z, .fz (PH.of w)])
        (fun x => (someL i n true false).length - x.1) rfl (0, outs) ⟨Nat.zero_le _, by simpa using ho⟩ ?_ ?_ ?_
      · repeat (first | exact True.intro | refine And.intro rfl ?_)
      · repeat (first | exact Pick.nil | (apply Pick.cons; (· repeat' (first | exact Rem.head | apply Rem.tail)
          )))
      · intro ⟨k, outs⟩ ⟨hk, ho⟩
        dsimp only at hk ho ⊢
        repeat' (first
          | (refine WP.st tysOk false rfl (by first | exact True.intro | exact rfl | exact ⟨⟨rfl, rfl⟩, rfl⟩) rfl rfl rfl rfl ?_ ?_; · (first | exact True.intro | exact ⟨by omega, by omega⟩ | exact ⟨by omega, by omega, by omega, by omega⟩ | omega))
          | (refine WP.ld tysOk rfl (by first | exact True.intro | exact rfl | exact ⟨⟨rfl, rfl⟩, rfl⟩) rfl rfl rfl rfl rfl rfl rfl ?_; apply ex2; (· first | (apply CellAt.blk; (· repeat' (first | exact Rem.head | apply Rem.tail)); (· rfl)) | (refine CellAt.fz ?_ (by assumption); repeat' (first | exact List.Mem.head _ | apply List.Mem.tail))
              ))
          | (refine WP.ldn tysOk rfl (by first | exact True.intro | exact rfl | exact ⟨⟨rfl, rfl⟩, rfl⟩) rfl rfl rfl rfl rfl rfl rfl ?_; apply ex2; (· first | (apply SegAt.blk'; (· repeat' (first | exact Rem.head | apply Rem.tail)); (· rfl)) | (refine ⟨SegAt.fz ?_ (by assumption), rfl⟩; repeat' (first | exact List.Mem.head _ | apply List.Mem.tail))
              ))
          | (refine WP.sto tysOk rfl rfl rfl rfl rfl rfl rfl rfl rfl ?_; apply ex3; (· repeat' (first | exact Rem.head | apply Rem.tail)
              ); (· first | exact Nat.le_of_ble_eq_true rfl | (simp [kints_length, arcsCells_length]; omega)
              ))
          | refine WP.ix1 tysOk rfl (by first | exact True.intro | exact rfl | exact ⟨⟨rfl, rfl⟩, rfl⟩) rfl rfl rfl rfl rfl rfl rfl rfl (by first | omega | (simp only []; omega)) ?_
          | refine WP.ix tysOk rfl (by first | exact True.intro | exact rfl | exact ⟨⟨rfl, rfl⟩, rfl⟩) rfl rfl rfl rfl rfl rfl rfl rfl (by first | omega | (simp only []; omega)) ?_
          | (refine WP.box rfl rfl rfl rfl rfl rfl ?_; intro g)
          | (refine WP.al tysOk rfl rfl rfl rfl rfl rfl ?_; intro g)
          | (refine WP.bs tysOk rfl rfl rfl rfl rfl rfl rfl rfl rfl rfl rfl rfl ?_; intro g)
          | refine WP.yes rfl rfl rfl ?_
          | refine WP.no rfl rfl rfl rfl rfl ?_
          | refine WP.noU rfl rfl rfl rfl ?_
          | (refine WP.gs rfl rfl rfl rfl (fun hh => ?_) (fun hh => ?_) <;> (try simp only [decide_eq_true_eq, decide_eq_false_iff_not, Bool.not_true, Bool.not_false] at hh) <;> (try (exfalso; omega)))
          | refine WP.condT rfl rfl ?_
          | refine WP.condF rfl rfl ?_
          | (refine WP.cond_d rfl rfl (fun hh => ?_) (fun hh => ?_) <;> try (exfalso; omega))
          | refine WP.cond rfl rfl (fun hh => ?_) (fun hh => ?_)
          | refine WP.bld tysOk rfl (by first | exact True.intro | exact rfl | exact ⟨⟨rfl, rfl⟩, rfl⟩) rfl rfl rfl rfl rfl rfl rfl ?_
          | (refine WP.lal tysOk rfl ⟨rfl, rfl⟩ rfl rfl rfl rfl rfl rfl rfl ?_; intro g)
          | refine WP.lend rfl ⟨rfl, rfl⟩ ?_
          | refine WP.qend rfl ?_
          | refine WP.mn rfl (by first | exact True.intro | exact rfl | exact ⟨⟨rfl, rfl⟩, rfl⟩) rfl rfl rfl rfl rfl rfl ?_
          | refine WP.mx rfl (by first | exact True.intro | exact rfl | exact ⟨⟨rfl, rfl⟩, rfl⟩) rfl rfl rfl rfl rfl rfl ?_)
        · have hkl : k < (someL i n true false).length := by omega
          obtain ⟨b, rfl⟩ := hAo (by omega)
          obtain ⟨a0, ha1, ha2, ha3⟩ := hall.out.1 (el_mem hkl)
          obtain ⟨hz, hstep⟩ := ho.step hkl ha3 ha1 ha2 (someL_rise _ _ _ _)
          have hol := ho.len
          have hoth := hall.other ha1 ha2
          repeat' (first
            | (refine WP.st tysOk false rfl (by first | exact True.intro | exact rfl | exact ⟨⟨rfl, rfl⟩, rfl⟩) rfl rfl rfl rfl ?_ ?_; · (first | exact True.intro | exact ⟨by omega, by omega⟩ | exact ⟨by omega, by omega, by omega, by omega⟩ | omega))
            | (refine WP.ld tysOk rfl (by first | exact True.intro | exact rfl | exact ⟨⟨rfl, rfl⟩, rfl⟩) rfl rfl rfl rfl rfl rfl rfl ?_; apply ex2; (· first | (apply CellAt.blk; (· repeat' (first | exact Rem.head | apply Rem.tail)); (· rfl)) | (refine CellAt.fz ?_ (by assumption); repeat' (first | exact List.Mem.head _ | apply List.Mem.tail))
                ))
            | (refine WP.ldn tysOk rfl (by first | exact True.intro | exact rfl | exact ⟨⟨rfl, rfl⟩, rfl⟩) rfl rfl rfl rfl rfl rfl rfl ?_; apply ex2; (· first | (apply SegAt.blk'; (· repeat' (first | exact Rem.head | apply Rem.tail)); (· rfl)) | (refine ⟨SegAt.fz ?_ (by assumption), rfl⟩; repeat' (first | exact List.Mem.head _ | apply List.Mem.tail))
                ))
            | (refine WP.sto tysOk rfl rfl rfl rfl rfl rfl rfl rfl rfl ?_; apply ex3; (· repeat' (first | exact Rem.head | apply Rem.tail)
                ); (· first | exact Nat.le_of_ble_eq_true rfl | (simp [kints_length, arcsCells_length]; omega)
                ))
            | refine WP.ix1 tysOk rfl (by first | exact True.intro | exact rfl | exact ⟨⟨rfl, rfl⟩, rfl⟩) rfl rfl rfl rfl rfl rfl rfl rfl (by first | omega | (simp only []; omega)) ?_
            | refine WP.ix tysOk rfl (by first | exact True.intro | exact rfl | exact ⟨⟨rfl, rfl⟩, rfl⟩) rfl rfl rfl rfl rfl rfl rfl rfl (by first | omega | (simp only []; omega)) ?_
            | (refine WP.box rfl rfl rfl rfl rfl rfl ?_; intro g)
            | (refine WP.al tysOk rfl rfl rfl rfl rfl rfl ?_; intro g)
            | (refine WP.bs tysOk rfl rfl rfl rfl rfl rfl rfl rfl rfl rfl rfl rfl ?_; intro g)
            | refine WP.yes rfl rfl rfl ?_
            | refine WP.no rfl rfl rfl rfl rfl ?_
            | refine WP.noU rfl rfl rfl rfl ?_
            | (refine WP.gs rfl rfl rfl rfl (fun hh => ?_) (fun hh => ?_) <;> (try simp only [decide_eq_true_eq, decide_eq_false_iff_not, Bool.not_true, Bool.not_false] at hh) <;> (try (exfalso; omega)))
            | refine WP.condT rfl rfl ?_
            | refine WP.condF rfl rfl ?_
            | (refine WP.cond_d rfl rfl (fun hh => ?_) (fun hh => ?_) <;> try (exfalso; omega))
            | refine WP.cond rfl rfl (fun hh => ?_) (fun hh => ?_)
            | refine WP.bld tysOk rfl (by first | exact True.intro | exact rfl | exact ⟨⟨rfl, rfl⟩, rfl⟩) rfl rfl rfl rfl rfl rfl rfl ?_
            | (refine WP.lal tysOk rfl ⟨rfl, rfl⟩ rfl rfl rfl rfl rfl rfl rfl ?_; intro g)
            | refine WP.lend rfl ⟨rfl, rfl⟩ ?_
            | refine WP.qend rfl ?_
            | refine WP.mn rfl (by first | exact True.intro | exact rfl | exact ⟨⟨rfl, rfl⟩, rfl⟩) rfl rfl rfl rfl rfl rfl ?_
            | refine WP.mx rfl (by first | exact True.intro | exact rfl | exact ⟨⟨rfl, rfl⟩, rfl⟩) rfl rfl rfl rfl rfl rfl ?_)
          refine WP.ld tysOk rfl (by first | exact True.intro | exact rfl | exact ⟨⟨rfl, rfl⟩, rfl⟩) rfl rfl rfl rfl rfl rfl rfl ?_
          refine ex2 (.int .i64 (el _ (k))) (CellAt.own (.tail (.tail .head)) (kints_get1 (by first | omega | (simp only [List.length_set]; omega) | (simp; omega)) (by first | omega | (simp only []; omega) | (simp; done) | (simp; omega)))) ?_
          rw [ha3]
          repeat' (first
            | (refine WP.st tysOk false rfl (by first | exact True.intro | exact rfl | exact ⟨⟨rfl, rfl⟩, rfl⟩) rfl rfl rfl rfl ?_ ?_; · (first | exact True.intro | exact ⟨by omega, by omega⟩ | exact ⟨by omega, by omega, by omega, by omega⟩ | omega))
            | (refine WP.ld tysOk rfl (by first | exact True.intro | exact rfl | exact ⟨⟨rfl, rfl⟩, rfl⟩) rfl rfl rfl rfl rfl rfl rfl ?_; apply ex2; (· first | (apply CellAt.blk; (· repeat' (first | exact Rem.head | apply Rem.tail)); (· rfl)) | (refine CellAt.fz ?_ (by assumption); repeat' (first | exact List.Mem.head _ | apply List.Mem.tail))
                ))
            | (refine WP.ldn tysOk rfl (by first | exact True.intro | exact rfl | exact ⟨⟨rfl, rfl⟩, rfl⟩) rfl rfl rfl rfl rfl rfl rfl ?_; apply ex2; (· first | (apply SegAt.blk'; (· repeat' (first | exact Rem.head | apply Rem.tail)); (· rfl)) | (refine ⟨SegAt.fz ?_ (by assumption), rfl⟩; repeat' (first | exact List.Mem.head _ | apply List.Mem.tail))
                ))
            | (refine WP.sto tysOk rfl rfl rfl rfl rfl rfl rfl rfl rfl ?_; apply ex3; (· repeat' (first | exact Rem.head | apply Rem.tail)
                ); (· first | exact Nat.le_of_ble_eq_true rfl | (simp [kints_length, arcsCells_length]; omega)
                ))
            | refine WP.ix1 tysOk rfl (by first | exact True.intro | exact rfl | exact ⟨⟨rfl, rfl⟩, rfl⟩) rfl rfl rfl rfl rfl rfl rfl rfl (by first | omega | (simp only []; omega)) ?_
            | refine WP.ix tysOk rfl (by first | exact True.intro | exact rfl | exact ⟨⟨rfl, rfl⟩, rfl⟩) rfl rfl rfl rfl rfl rfl rfl rfl (by first | omega | (simp only []; omega)) ?_
            | (refine WP.box rfl rfl rfl rfl rfl rfl ?_; intro g)
            | (refine WP.al tysOk rfl rfl rfl rfl rfl rfl ?_; intro g)
            | (refine WP.bs tysOk rfl rfl rfl rfl rfl rfl rfl rfl rfl rfl rfl rfl ?_; intro g)
            | refine WP.yes rfl rfl rfl ?_
            | refine WP.no rfl rfl rfl rfl rfl ?_
            | refine WP.noU rfl rfl rfl rfl ?_
            | (refine WP.gs rfl rfl rfl rfl (fun hh => ?_) (fun hh => ?_) <;> (try simp only [decide_eq_true_eq, decide_eq_false_iff_not, Bool.not_true, Bool.not_false] at hh) <;> (try (exfalso; omega)))
            | refine WP.condT rfl rfl ?_
            | refine WP.condF rfl rfl ?_
            | (refine WP.cond_d rfl rfl (fun hh => ?_) (fun hh => ?_) <;> try (exfalso; omega))
            | refine WP.cond rfl rfl (fun hh => ?_) (fun hh => ?_)
            | refine WP.bld tysOk rfl (by first | exact True.intro | exact rfl | exact ⟨⟨rfl, rfl⟩, rfl⟩) rfl rfl rfl rfl rfl rfl rfl ?_
            | (refine WP.lal tysOk rfl ⟨rfl, rfl⟩ rfl rfl rfl rfl rfl rfl rfl ?_; intro g)
            | refine WP.lend rfl ⟨rfl, rfl⟩ ?_
            | refine WP.qend rfl ?_
            | refine WP.mn rfl (by first | exact True.intro | exact rfl | exact ⟨⟨rfl, rfl⟩, rfl⟩) rfl rfl rfl rfl rfl rfl ?_
            | refine WP.mx rfl (by first | exact True.intro | exact rfl | exact ⟨⟨rfl, rfl⟩, rfl⟩) rfl rfl rfl rfl rfl rfl ?_)
          refine WP.ld tysOk rfl (by first | exact True.intro | exact rfl | exact ⟨⟨rfl, rfl⟩, rfl⟩) rfl rfl rfl rfl rfl rfl rfl ?_
          refine ex2 (.int .i64 (el _ (a0))) (CellAt.blk .head (kints_get1 (by first | omega | (simp only [List.length_set]; omega) | (simp; omega)) (by first | omega | (simp only []; omega) | (simp; done) | (simp; omega)))) ?_
          rw [hz]
          repeat' (first
            | (refine WP.st tysOk false rfl (by first | exact True.intro | exact rfl | exact ⟨⟨rfl, rfl⟩, rfl⟩) rfl rfl rfl rfl ?_ ?_; · (first | exact True.intro | exact ⟨by omega, by omega⟩ | exact ⟨by omega, by omega, by omega, by omega⟩ | omega))
            | (refine WP.ld tysOk rfl (by first | exact True.intro | exact rfl | exact ⟨⟨rfl, rfl⟩, rfl⟩) rfl rfl rfl rfl rfl rfl rfl ?_; apply ex2; (· first | (apply CellAt.blk; (· repeat' (first | exact Rem.head | apply Rem.tail)); (· rfl)) | (refine CellAt.fz ?_ (by assumption); repeat' (first | exact List.Mem.head _ | apply List.Mem.tail))
                ))
            | (refine WP.ldn tysOk rfl (by first | exact True.intro | exact rfl | exact ⟨⟨rfl, rfl⟩, rfl⟩) rfl rfl rfl rfl rfl rfl rfl ?_; apply ex2; (· first | (apply SegAt.blk'; (· repeat' (first | exact Rem.head | apply Rem.tail)); (· rfl)) | (refine ⟨SegAt.fz ?_ (by assumption), rfl⟩; repeat' (first | exact List.Mem.head _ | apply List.Mem.tail))
                ))
            | (refine WP.sto tysOk rfl rfl rfl rfl rfl rfl rfl rfl rfl ?_; apply ex3; (· repeat' (first | exact Rem.head | apply Rem.tail)
                ); (· first | exact Nat.le_of_ble_eq_true rfl | (simp [kints_length, arcsCells_length]; omega)
                ))
            | refine WP.ix1 tysOk rfl (by first | exact True.intro | exact rfl | exact ⟨⟨rfl, rfl⟩, rfl⟩) rfl rfl rfl rfl rfl rfl rfl rfl (by first | omega | (simp only []; omega)) ?_
            | refine WP.ix tysOk rfl (by first | exact True.intro | exact rfl | exact ⟨⟨rfl, rfl⟩, rfl⟩) rfl rfl rfl rfl rfl rfl rfl rfl (by first | omega | (simp only []; omega)) ?_
            | (refine WP.box rfl rfl rfl rfl rfl rfl ?_; intro g)
            | (refine WP.al tysOk rfl rfl rfl rfl rfl rfl ?_; intro g)
            | (refine WP.bs tysOk rfl rfl rfl rfl rfl rfl rfl rfl rfl rfl rfl rfl ?_; intro g)
            | refine WP.yes rfl rfl rfl ?_
            | refine WP.no rfl rfl rfl rfl rfl ?_
            | refine WP.noU rfl rfl rfl rfl ?_
            | (refine WP.gs rfl rfl rfl rfl (fun hh => ?_) (fun hh => ?_) <;> (try simp only [decide_eq_true_eq, decide_eq_false_iff_not, Bool.not_true, Bool.not_false] at hh) <;> (try (exfalso; omega)))
            | refine WP.condT rfl rfl ?_
            | refine WP.condF rfl rfl ?_
            | (refine WP.cond_d rfl rfl (fun hh => ?_) (fun hh => ?_) <;> try (exfalso; omega))
            | refine WP.cond rfl rfl (fun hh => ?_) (fun hh => ?_)
            | refine WP.bld tysOk rfl (by first | exact True.intro | exact rfl | exact ⟨⟨rfl, rfl⟩, rfl⟩) rfl rfl rfl rfl rfl rfl rfl ?_
            | (refine WP.lal tysOk rfl ⟨rfl, rfl⟩ rfl rfl rfl rfl rfl rfl rfl ?_; intro g)
            | refine WP.lend rfl ⟨rfl, rfl⟩ ?_
            | refine WP.qend rfl ?_
            | refine WP.mn rfl (by first | exact True.intro | exact rfl | exact ⟨⟨rfl, rfl⟩, rfl⟩) rfl rfl rfl rfl rfl rfl ?_
            | refine WP.mx rfl (by first | exact True.intro | exact rfl | exact ⟨⟨rfl, rfl⟩, rfl⟩) rfl rfl rfl rfl rfl rfl ?_)
          refine WP.reblk (cs' := ints (outs.set a0 1)) .head (kints_set1 (by omega) (by omega)) ?_
          refine WP.draw rfl (by kernel_rfl) (by kernel_rfl) ?_
          repeat' (first
            | (refine WP.st tysOk false rfl (by first | exact True.intro | exact rfl | exact ⟨⟨rfl, rfl⟩, rfl⟩) rfl rfl rfl rfl ?_ ?_; · (first | exact True.intro | exact ⟨by omega, by omega⟩ | exact ⟨by omega, by omega, by omega, by omega⟩ | omega))
            | (refine WP.ld tysOk rfl (by first | exact True.intro | exact rfl | exact ⟨⟨rfl, rfl⟩, rfl⟩) rfl rfl rfl rfl rfl rfl rfl ?_; apply ex2; (· first | (apply CellAt.blk; (· repeat' (first | exact Rem.head | apply Rem.tail)); (· rfl)) | (refine CellAt.fz ?_ (by assumption); repeat' (first | exact List.Mem.head _ | apply List.Mem.tail))
                ))
            | (refine WP.ldn tysOk rfl (by first | exact True.intro | exact rfl | exact ⟨⟨rfl, rfl⟩, rfl⟩) rfl rfl rfl rfl rfl rfl rfl ?_; apply ex2; (· first | (apply SegAt.blk'; (· repeat' (first | exact Rem.head | apply Rem.tail)); (· rfl)) | (refine ⟨SegAt.fz ?_ (by assumption), rfl⟩; repeat' (first | exact List.Mem.head _ | apply List.Mem.tail))
                ))
            | (refine WP.sto tysOk rfl rfl rfl rfl rfl rfl rfl rfl rfl ?_; apply ex3; (· repeat' (first | exact Rem.head | apply Rem.tail)
                ); (· first | exact Nat.le_of_ble_eq_true rfl | (simp [kints_length, arcsCells_length]; omega)
                ))
            | refine WP.ix1 tysOk rfl (by first | exact True.intro | exact rfl | exact ⟨⟨rfl, rfl⟩, rfl⟩) rfl rfl rfl rfl rfl rfl rfl rfl (by first | omega | (simp only []; omega)) ?_
            | refine WP.ix tysOk rfl (by first | exact True.intro | exact rfl | exact ⟨⟨rfl, rfl⟩, rfl⟩) rfl rfl rfl rfl rfl rfl rfl rfl (by first | omega | (simp only []; omega)) ?_
            | (refine WP.box rfl rfl rfl rfl rfl rfl ?_; intro g)
            | (refine WP.al tysOk rfl rfl rfl rfl rfl rfl ?_; intro g)
            | (refine WP.bs tysOk rfl rfl rfl rfl rfl rfl rfl rfl rfl rfl rfl rfl ?_; intro g)
            | refine WP.yes rfl rfl rfl ?_
            | refine WP.no rfl rfl rfl rfl rfl ?_
            | refine WP.noU rfl rfl rfl rfl ?_
            | (refine WP.gs rfl rfl rfl rfl (fun hh => ?_) (fun hh => ?_) <;> (try simp only [decide_eq_true_eq, decide_eq_false_iff_not, Bool.not_true, Bool.not_false] at hh) <;> (try (exfalso; omega)))
            | refine WP.condT rfl rfl ?_
            | refine WP.condF rfl rfl ?_
            | (refine WP.cond_d rfl rfl (fun hh => ?_) (fun hh => ?_) <;> try (exfalso; omega))
            | refine WP.cond rfl rfl (fun hh => ?_) (fun hh => ?_)
            | refine WP.bld tysOk rfl (by first | exact True.intro | exact rfl | exact ⟨⟨rfl, rfl⟩, rfl⟩) rfl rfl rfl rfl rfl rfl rfl ?_
            | (refine WP.lal tysOk rfl ⟨rfl, rfl⟩ rfl rfl rfl rfl rfl rfl rfl ?_; intro g)
            | refine WP.lend rfl ⟨rfl, rfl⟩ ?_
            | refine WP.qend rfl ?_
            | refine WP.mn rfl (by first | exact True.intro | exact rfl | exact ⟨⟨rfl, rfl⟩, rfl⟩) rfl rfl rfl rfl rfl rfl ?_
            | refine WP.mx rfl (by first | exact True.intro | exact rfl | exact ⟨⟨rfl, rfl⟩, rfl⟩) rfl rfl rfl rfl rfl rfl ?_)
          refine WP.ld tysOk rfl (by first | exact True.intro | exact rfl | exact ⟨⟨rfl, rfl⟩, rfl⟩) rfl rfl rfl rfl rfl rfl rfl ?_
          refine ex2 (.int .i64 (el _ (k))) (CellAt.own (.tail (.tail .head)) (kints_get1 (by first | omega | (simp only [List.length_set]; omega) | (simp; omega)) (by first | omega | (simp only []; omega) | (simp; done) | (simp; omega)))) ?_
          rw [ha3]
          repeat' (first
            | (refine WP.st tysOk false rfl (by first | exact True.intro | exact rfl | exact ⟨⟨rfl, rfl⟩, rfl⟩) rfl rfl rfl rfl ?_ ?_; · (first | exact True.intro | exact ⟨by omega, by omega⟩ | exact ⟨by omega, by omega, by omega, by omega⟩ | omega))
            | (refine WP.ld tysOk rfl (by first | exact True.intro | exact rfl | exact ⟨⟨rfl, rfl⟩, rfl⟩) rfl rfl rfl rfl rfl rfl rfl ?_; apply ex2; (· first | (apply CellAt.blk; (· repeat' (first | exact Rem.head | apply Rem.tail)); (· rfl)) | (refine CellAt.fz ?_ (by assumption); repeat' (first | exact List.Mem.head _ | apply List.Mem.tail))
                ))
            | (refine WP.ldn tysOk rfl (by first | exact True.intro | exact rfl | exact ⟨⟨rfl, rfl⟩, rfl⟩) rfl rfl rfl rfl rfl rfl rfl ?_; apply ex2; (· first | (apply SegAt.blk'; (· repeat' (first | exact Rem.head | apply Rem.tail)); (· rfl)) | (refine ⟨SegAt.fz ?_ (by assumption), rfl⟩; repeat' (first | exact List.Mem.head _ | apply List.Mem.tail))
                ))
            | (refine WP.sto tysOk rfl rfl rfl rfl rfl rfl rfl rfl rfl ?_; apply ex3; (· repeat' (first | exact Rem.head | apply Rem.tail)
                ); (· first | exact Nat.le_of_ble_eq_true rfl | (simp [kints_length, arcsCells_length]; omega)
                ))
            | refine WP.ix1 tysOk rfl (by first | exact True.intro | exact rfl | exact ⟨⟨rfl, rfl⟩, rfl⟩) rfl rfl rfl rfl rfl rfl rfl rfl (by first | omega | (simp only []; omega)) ?_
            | refine WP.ix tysOk rfl (by first | exact True.intro | exact rfl | exact ⟨⟨rfl, rfl⟩, rfl⟩) rfl rfl rfl rfl rfl rfl rfl rfl (by first | omega | (simp only []; omega)) ?_
            | (refine WP.box rfl rfl rfl rfl rfl rfl ?_; intro g)
            | (refine WP.al tysOk rfl rfl rfl rfl rfl rfl ?_; intro g)
            | (refine WP.bs tysOk rfl rfl rfl rfl rfl rfl rfl rfl rfl rfl rfl rfl ?_; intro g)
            | refine WP.yes rfl rfl rfl ?_
            | refine WP.no rfl rfl rfl rfl rfl ?_
            | refine WP.noU rfl rfl rfl rfl ?_
            | (refine WP.gs rfl rfl rfl rfl (fun hh => ?_) (fun hh => ?_) <;> (try simp only [decide_eq_true_eq, decide_eq_false_iff_not, Bool.not_true, Bool.not_false] at hh) <;> (try (exfalso; omega)))
            | refine WP.condT rfl rfl ?_
            | refine WP.condF rfl rfl ?_
            | (refine WP.cond_d rfl rfl (fun hh => ?_) (fun hh => ?_) <;> try (exfalso; omega))
            | refine WP.cond rfl rfl (fun hh => ?_) (fun hh => ?_)
            | refine WP.bld tysOk rfl (by first | exact True.intro | exact rfl | exact ⟨⟨rfl, rfl⟩, rfl⟩) rfl rfl rfl rfl rfl rfl rfl ?_
            | (refine WP.lal tysOk rfl ⟨rfl, rfl⟩ rfl rfl rfl rfl rfl rfl rfl ?_; intro g)
            | refine WP.lend rfl ⟨rfl, rfl⟩ ?_
            | refine WP.qend rfl ?_
            | refine WP.mn rfl (by first | exact True.intro | exact rfl | exact ⟨⟨rfl, rfl⟩, rfl⟩) rfl rfl rfl rfl rfl rfl ?_
            | refine WP.mx rfl (by first | exact True.intro | exact rfl | exact ⟨⟨rfl, rfl⟩, rfl⟩) rfl rfl rfl rfl rfl rfl ?_)
          refine WP.ld tysOk rfl (by first | exact True.intro | exact rfl | exact ⟨⟨rfl, rfl⟩, rfl⟩) rfl rfl rfl rfl rfl rfl rfl ?_
          refine ex2 (.int .i64 (el _ (k))) (CellAt.own (.tail (.tail .head)) (kints_get1 (by first | omega | (simp only [List.length_set]; omega) | (simp; omega)) (by first | omega | (simp only []; omega) | (simp; done) | (simp; omega)))) ?_
          rw [ha3]
          repeat' (first
            | (refine WP.st tysOk false rfl (by first | exact True.intro | exact rfl | exact ⟨⟨rfl, rfl⟩, rfl⟩) rfl rfl rfl rfl ?_ ?_; · (first | exact True.intro | exact ⟨by omega, by omega⟩ | exact ⟨by omega, by omega, by omega, by omega⟩ | omega))
            | (refine WP.ld tysOk rfl (by first | exact True.intro | exact rfl | exact ⟨⟨rfl, rfl⟩, rfl⟩) rfl rfl rfl rfl rfl rfl rfl ?_; apply ex2; (· first | (apply CellAt.blk; (· repeat' (first | exact Rem.head | apply Rem.tail)); (· rfl)) | (refine CellAt.fz ?_ (by assumption); repeat' (first | exact List.Mem.head _ | apply List.Mem.tail))
                ))
            | (refine WP.ldn tysOk rfl (by first | exact True.intro | exact rfl | exact ⟨⟨rfl, rfl⟩, rfl⟩) rfl rfl rfl rfl rfl rfl rfl ?_; apply ex2; (· first | (apply SegAt.blk'; (· repeat' (first | exact Rem.head | apply Rem.tail)); (· rfl)) | (refine ⟨SegAt.fz ?_ (by assumption), rfl⟩; repeat' (first | exact List.Mem.head _ | apply List.Mem.tail))
                ))
            | (refine WP.sto tysOk rfl rfl rfl rfl rfl rfl rfl rfl rfl ?_; apply ex3; (· repeat' (first | exact Rem.head | apply Rem.tail)
                ); (· first | exact Nat.le_of_ble_eq_true rfl | (simp [kints_length, arcsCells_length]; omega)
                ))
            | refine WP.ix1 tysOk rfl (by first | exact True.intro | exact rfl | exact ⟨⟨rfl, rfl⟩, rfl⟩) rfl rfl rfl rfl rfl rfl rfl rfl (by first | omega | (simp only []; omega)) ?_
            | refine WP.ix tysOk rfl (by first | exact True.intro | exact rfl | exact ⟨⟨rfl, rfl⟩, rfl⟩) rfl rfl rfl rfl rfl rfl rfl rfl (by first | omega | (simp only []; omega)) ?_
            | (refine WP.box rfl rfl rfl rfl rfl rfl ?_; intro g)
            | (refine WP.al tysOk rfl rfl rfl rfl rfl rfl ?_; intro g)
            | (refine WP.bs tysOk rfl rfl rfl rfl rfl rfl rfl rfl rfl rfl rfl rfl ?_; intro g)
            | refine WP.yes rfl rfl rfl ?_
            | refine WP.no rfl rfl rfl rfl rfl ?_
            | refine WP.noU rfl rfl rfl rfl ?_
            | (refine WP.gs rfl rfl rfl rfl (fun hh => ?_) (fun hh => ?_) <;> (try simp only [decide_eq_true_eq, decide_eq_false_iff_not, Bool.not_true, Bool.not_false] at hh) <;> (try (exfalso; omega)))
            | refine WP.condT rfl rfl ?_
            | refine WP.condF rfl rfl ?_
            | (refine WP.cond_d rfl rfl (fun hh => ?_) (fun hh => ?_) <;> try (exfalso; omega))
            | refine WP.cond rfl rfl (fun hh => ?_) (fun hh => ?_)
            | refine WP.bld tysOk rfl (by first | exact True.intro | exact rfl | exact ⟨⟨rfl, rfl⟩, rfl⟩) rfl rfl rfl rfl rfl rfl rfl ?_
            | (refine WP.lal tysOk rfl ⟨rfl, rfl⟩ rfl rfl rfl rfl rfl rfl rfl ?_; intro g)
            | refine WP.lend rfl ⟨rfl, rfl⟩ ?_
            | refine WP.qend rfl ?_
            | refine WP.mn rfl (by first | exact True.intro | exact rfl | exact ⟨⟨rfl, rfl⟩, rfl⟩) rfl rfl rfl rfl rfl rfl ?_
            | refine WP.mx rfl (by first | exact True.intro | exact rfl | exact ⟨⟨rfl, rfl⟩, rfl⟩) rfl rfl rfl rfl rfl rfl ?_)
          refine WP.callV rfl rfl rfl rfl rfl rfl rfl (by kernel_rfl) (fun w1 hw1 => other_c (a := (a0 : Int)) (n := n) (hg.le (hw1.le (by simp)))) (by first | exact True.intro | exact rfl | exact ⟨⟨rfl, rfl⟩, rfl⟩) ?_
          refine WP.callV rfl rfl rfl rfl rfl rfl rfl (by kernel_rfl) (fun w1 hw1 => other_c (a := (a0 : Int)) (n := otherOf i a0 n) (hg.le (hw1.le (by simp)))) (by first | exact True.intro | exact rfl | exact ⟨⟨rfl, rfl⟩, rfl⟩) ?_
          rw [hoth]
          repeat' (first
            | (refine WP.st tysOk false rfl (by first | exact True.intro | exact rfl | exact ⟨⟨rfl, rfl⟩, rfl⟩) rfl rfl rfl rfl ?_ ?_; · (first | exact True.intro | exact ⟨by omega, by omega⟩ | exact ⟨by omega, by omega, by omega, by omega⟩ | omega))
            | (refine WP.ld tysOk rfl (by first | exact True.intro | exact rfl | exact ⟨⟨rfl, rfl⟩, rfl⟩) rfl rfl rfl rfl rfl rfl rfl ?_; apply ex2; (· first | (apply CellAt.blk; (· repeat' (first | exact Rem.head | apply Rem.tail)); (· rfl)) | (refine CellAt.fz ?_ (by assumption); repeat' (first | exact List.Mem.head _ | apply List.Mem.tail))
                ))
            | (refine WP.ldn tysOk rfl (by first | exact True.intro | exact rfl | exact ⟨⟨rfl, rfl⟩, rfl⟩) rfl rfl rfl rfl rfl rfl rfl ?_; apply ex2; (· first | (apply SegAt.blk'; (· repeat' (first | exact Rem.head | apply Rem.tail)); (· rfl)) | (refine ⟨SegAt.fz ?_ (by assumption), rfl⟩; repeat' (first | exact List.Mem.head _ | apply List.Mem.tail))
                ))
            | (refine WP.sto tysOk rfl rfl rfl rfl rfl rfl rfl rfl rfl ?_; apply ex3; (· repeat' (first | exact Rem.head | apply Rem.tail)
                ); (· first | exact Nat.le_of_ble_eq_true rfl | (simp [kints_length, arcsCells_length]; omega)
                ))
            | refine WP.ix1 tysOk rfl (by first | exact True.intro | exact rfl | exact ⟨⟨rfl, rfl⟩, rfl⟩) rfl rfl rfl rfl rfl rfl rfl rfl (by first | omega | (simp only []; omega)) ?_
            | refine WP.ix tysOk rfl (by first | exact True.intro | exact rfl | exact ⟨⟨rfl, rfl⟩, rfl⟩) rfl rfl rfl rfl rfl rfl rfl rfl (by first | omega | (simp only []; omega)) ?_
            | (refine WP.box rfl rfl rfl rfl rfl rfl ?_; intro g)
            | (refine WP.al tysOk rfl rfl rfl rfl rfl rfl ?_; intro g)
            | (refine WP.bs tysOk rfl rfl rfl rfl rfl rfl rfl rfl rfl rfl rfl rfl ?_; intro g)
            | refine WP.yes rfl rfl rfl ?_
            | refine WP.no rfl rfl rfl rfl rfl ?_
            | refine WP.noU rfl rfl rfl rfl ?_
            | (refine WP.gs rfl rfl rfl rfl (fun hh => ?_) (fun hh => ?_) <;> (try simp only [decide_eq_true_eq, decide_eq_false_iff_not, Bool.not_true, Bool.not_false] at hh) <;> (try (exfalso; omega)))
            | refine WP.condT rfl rfl ?_
            | refine WP.condF rfl rfl ?_
            | (refine WP.cond_d rfl rfl (fun hh => ?_) (fun hh => ?_) <;> try (exfalso; omega))
            | refine WP.cond rfl rfl (fun hh => ?_) (fun hh => ?_)
            | refine WP.bld tysOk rfl (by first | exact True.intro | exact rfl | exact ⟨⟨rfl, rfl⟩, rfl⟩) rfl rfl rfl rfl rfl rfl rfl ?_
            | (refine WP.lal tysOk rfl ⟨rfl, rfl⟩ rfl rfl rfl rfl rfl rfl rfl ?_; intro g)
            | refine WP.lend rfl ⟨rfl, rfl⟩ ?_
            | refine WP.qend rfl ?_
            | refine WP.mn rfl (by first | exact True.intro | exact rfl | exact ⟨⟨rfl, rfl⟩, rfl⟩) rfl rfl rfl rfl rfl rfl ?_
            | refine WP.mx rfl (by first | exact True.intro | exact rfl | exact ⟨⟨rfl, rfl⟩, rfl⟩) rfl rfl rfl rfl rfl rfl ?_)
          refine WP.stop rfl (k + 1, outs.set a0 1) ⟨⟨by dsimp only; omega, hstep⟩, by dsimp only; omega⟩ ?_ ?_
          · repeat (first | exact True.intro | refine And.intro rfl ?_)
          · repeat (first | exact Pick.nil | (apply Pick.cons; (· repeat' (first | exact Rem.head | apply Rem.tail)
              )))
        · have hkl : k = (someL i n true false).length := by omega
          subst hkl
          rw [List.take_length] at ho
          have hon := ho.next (fun a ha => by rw [hall.out]; exact ⟨fun ⟨k, h1, h2, h3⟩ => by rw [show a = k by omega]; exact h2, fun h => ⟨a, ha, h, rfl⟩⟩)
          clear ho
          refine WP.callR (fun y : Option Addr × Nat => .slice y.1 (someL i n false true).length y.2) (fun y => [.own (.slice y.1 (someL i n false true).length y.2) 3 1 (someL i n false true).length (ints (someL i n false true))]) (fun _ => True) rfl rfl rfl rfl rfl rfl rfl (by kernel_rfl) (fun w1 hw1 => mkIn i n hg (by omega) (hw1.le (by simp))) ?_
          rintro ⟨Ai, ci⟩ _
          dsimp only
          refine WP.shape2 .head ?_
          rintro _ _ h hAi
          cases h
          repeat' (first
            | (refine WP.st tysOk false rfl (by first | exact True.intro | exact rfl | exact ⟨⟨rfl, rfl⟩, rfl⟩) rfl rfl rfl rfl ?_ ?_; · (first | exact True.intro | exact ⟨by omega, by omega⟩ | exact ⟨by omega, by omega, by omega, by omega⟩ | omega))
            | (refine WP.ld tysOk rfl (by first | exact True.intro | exact rfl | exact ⟨⟨rfl, rfl⟩, rfl⟩) rfl rfl rfl rfl rfl rfl rfl ?_; apply ex2; (· first | (apply CellAt.blk; (· repeat' (first | exact Rem.head | apply Rem.tail)); (· rfl)) | (refine CellAt.fz ?_ (by assumption); repeat' (first | exact List.Mem.head _ | apply List.Mem.tail))
                ))
            | (refine WP.ldn tysOk rfl (by first | exact True.intro | exact rfl | exact ⟨⟨rfl, rfl⟩, rfl⟩) rfl rfl rfl rfl rfl rfl rfl ?_; apply ex2; (· first | (apply SegAt.blk'; (· repeat' (first | exact Rem.head | apply Rem.tail)); (· rfl)) | (refine ⟨SegAt.fz ?_ (by assumption), rfl⟩; repeat' (first | exact List.Mem.head _ | apply List.Mem.tail))
                ))
            | (refine WP.sto tysOk rfl rfl rfl rfl rfl rfl rfl rfl rfl ?_; apply ex3; (· repeat' (first | exact Rem.head | apply Rem.tail)
                ); (· first | exact Nat.le_of_ble_eq_true rfl | (simp [kints_length, arcsCells_length]; omega)
                ))
            | refine WP.ix1 tysOk rfl (by first | exact True.intro | exact rfl | exact ⟨⟨rfl, rfl⟩, rfl⟩) rfl rfl rfl rfl rfl rfl rfl rfl (by first | omega | (simp only []; omega)) ?_
            | refine WP.ix tysOk rfl (by first | exact True.intro | exact rfl | exact ⟨⟨rfl, rfl⟩, rfl⟩) rfl rfl rfl rfl rfl rfl rfl rfl (by first | omega | (simp only []; omega)) ?_
            | (refine WP.box rfl rfl rfl rfl rfl rfl ?_; intro g)
            | (refine WP.al tysOk rfl rfl rfl rfl rfl rfl ?_; intro g)
            | (refine WP.bs tysOk rfl rfl rfl rfl rfl rfl rfl rfl rfl rfl rfl rfl ?_; intro g)
            | refine WP.yes rfl rfl rfl ?_
            | refine WP.no rfl rfl rfl rfl rfl ?_
            | refine WP.noU rfl rfl rfl rfl ?_
            | (refine WP.gs rfl rfl rfl rfl (fun hh => ?_) (fun hh => ?_) <;> (try simp only [decide_eq_true_eq, decide_eq_false_iff_not, Bool.not_true, Bool.not_false] at hh) <;> (try (exfalso; omega)))
            | refine WP.condT rfl rfl ?_
            | refine WP.condF rfl rfl ?_
            | (refine WP.cond_d rfl rfl (fun hh => ?_) (fun hh => ?_) <;> try (exfalso; omega))
            | refine WP.cond rfl rfl (fun hh => ?_) (fun hh => ?_)
            | refine WP.bld tysOk rfl (by first | exact True.intro | exact rfl | exact ⟨⟨rfl, rfl⟩, rfl⟩) rfl rfl rfl rfl rfl rfl rfl ?_
            | (refine WP.lal tysOk rfl ⟨rfl, rfl⟩ rfl rfl rfl rfl rfl rfl rfl ?_; intro g)
            | refine WP.lend rfl ⟨rfl, rfl⟩ ?_
            | refine WP.qend rfl ?_
            | refine WP.mn rfl (by first | exact True.intro | exact rfl | exact ⟨⟨rfl, rfl⟩, rfl⟩) rfl rfl rfl rfl rfl rfl ?_
            | refine WP.mx rfl (by first | exact True.intro | exact rfl | exact ⟨⟨rfl, rfl⟩, rfl⟩) rfl rfl rfl rfl rfl rfl ?_)
          refine WP.loop (α := Nat × List Int) (fun x => x.1 ≤ (someL i n false true).length ∧ Tal (fun a => (arcAt i.arcs a).dst) i.arcs.length n ((someL i n false true).take x.1) x.2)
            (fun x => [(6, .pointer (some ⟨gg, 0, none⟩)), (7, .slice (some ⟨go, 0, none⟩) i.arcs.length i.arcs.length), (8, .slice (some ⟨gi, 0, none⟩) i.arcs.length i.arcs.length), (9, .int .i64 n), (10, .slice Ao (someL i n true false).length co), (12, .slice Ai (someL i n false true).length ci), (13, .int .i64 x.1)])
            (fun x => [.blk go 3 (ints outs), .blk gi 3 (ints x.2), .own (.slice Ai (someL i n false true).length ci) 3 1 (someL i n false true).length (ints (someL i n false true)), .fz Z, .fz (PH.of w)])
            (fun x => (someL i n false true).length - x.1) rfl (0, ins) ⟨Nat.zero_le _, by simpa using hi⟩ ?_ ?_ ?_
          · repeat (first | exact True.intro | refine And.intro rfl ?_)
          · repeat (first | exact Pick.nil | (apply Pick.cons; (· repeat' (first | exact Rem.head | apply Rem.tail)
              )))
          · intro ⟨k, ins⟩ ⟨hk, hi⟩
            dsimp only at hk hi ⊢
            repeat' (first
              | (refine WP.st tysOk false rfl (by first | exact True.intro | exact rfl | exact ⟨⟨rfl, rfl⟩, rfl⟩) rfl rfl rfl rfl ?_ ?_; · (first | exact True.intro | exact ⟨by omega, by omega⟩ | exact ⟨by omega, by omega, by omega, by omega⟩ | omega))
              | (refine WP.ld tysOk rfl (by first | exact True.intro | exact rfl | exact ⟨⟨rfl, rfl⟩, rfl⟩) rfl rfl rfl rfl rfl rfl rfl ?_; apply ex2; (· first | (apply CellAt.blk; (· repeat' (first | exact Rem.head | apply Rem.tail)); (· rfl)) | (refine CellAt.fz ?_ (by assumption); repeat' (first | exact List.Mem.head _ | apply List.Mem.tail))
                  ))
              | (refine WP.ldn tysOk rfl (by first | exact True.intro | exact rfl | exact ⟨⟨rfl, rfl⟩, rfl⟩) rfl rfl rfl rfl rfl rfl rfl ?_; apply ex2; (· first | (apply SegAt.blk'; (· repeat' (first | exact Rem.head | apply Rem.tail)); (· rfl)) | (refine ⟨SegAt.fz ?_ (by assumption), rfl⟩; repeat' (first | exact List.Mem.head _ | apply List.Mem.tail))
                  ))
              | (refine WP.sto tysOk rfl rfl rfl rfl rfl rfl rfl rfl rfl ?_; apply ex3; (· repeat' (first | exact Rem.head | apply Rem.tail)
                  ); (· first | exact Nat.le_of_ble_eq_true rfl | (simp [kints_length, arcsCells_length]; omega)
                  ))
              | refine WP.ix1 tysOk rfl (by first | exact True.intro | exact rfl | exact ⟨⟨rfl, rfl⟩, rfl⟩) rfl rfl rfl rfl rfl rfl rfl rfl (by first | omega | (simp only []; omega)) ?_
              | refine WP.ix tysOk rfl (by first | exact True.intro | exact rfl | exact ⟨⟨rfl, rfl⟩, rfl⟩) rfl rfl rfl rfl rfl rfl rfl rfl (by first | omega | (simp only []; omega)) ?_
              | (refine WP.box rfl rfl rfl rfl rfl rfl ?_; intro g)
              | (refine WP.al tysOk rfl rfl rfl rfl rfl rfl ?_; intro g)
              | (refine WP.bs tysOk rfl rfl rfl rfl rfl rfl rfl rfl rfl rfl rfl rfl ?_; intro g)
              | refine WP.yes rfl rfl rfl ?_
              | refine WP.no rfl rfl rfl rfl rfl ?_
              | refine WP.noU rfl rfl rfl rfl ?_
              | (refine WP.gs rfl rfl rfl rfl (fun hh => ?_) (fun hh => ?_) <;> (try simp only [decide_eq_true_eq, decide_eq_false_iff_not, Bool.not_true, Bool.not_false] at hh) <;> (try (exfalso; omega)))
              | refine WP.condT rfl rfl ?_
              | refine WP.condF rfl rfl ?_
              | (refine WP.cond_d rfl rfl (fun hh => ?_) (fun hh => ?_) <;> try (exfalso; omega))
              | refine WP.cond rfl rfl (fun hh => ?_) (fun hh => ?_)
              | refine WP.bld tysOk rfl (by first | exact True.intro | exact rfl | exact ⟨⟨rfl, rfl⟩, rfl⟩) rfl rfl rfl rfl rfl rfl rfl ?_
              | (refine WP.lal tysOk rfl ⟨rfl, rfl⟩ rfl rfl rfl rfl rfl rfl rfl ?_; intro g)
              | refine WP.lend rfl ⟨rfl, rfl⟩ ?_
              | refine WP.qend rfl ?_
              | refine WP.mn rfl (by first | exact True.intro | exact rfl | exact ⟨⟨rfl, rfl⟩, rfl⟩) rfl rfl rfl rfl rfl rfl ?_
              | refine WP.mx rfl (by first | exact True.intro | exact rfl | exact ⟨⟨rfl, rfl⟩, rfl⟩) rfl rfl rfl rfl rfl rfl ?_)
            · have hkl : k < (someL i n false true).length := by omega
              obtain ⟨b, rfl⟩ := hAi (by omega)
              obtain ⟨a0, ha1, ha2, ha3⟩ := hall.inn.1 (el_mem hkl)
              obtain ⟨hz, hstep⟩ := hi.step hkl ha3 ha1 ha2 (someL_rise _ _ _ _)
              have hil := hi.len
              repeat' (first
                | (refine WP.st tysOk false rfl (by first | exact True.intro | exact rfl | exact ⟨⟨rfl, rfl⟩, rfl⟩) rfl rfl rfl rfl ?_ ?_; · (first | exact True.intro | exact ⟨by omega, by omega⟩ | exact ⟨by omega, by omega, by omega, by omega⟩ | omega))
                | (refine WP.ld tysOk rfl (by first | exact True.intro | exact rfl | exact ⟨⟨rfl, rfl⟩, rfl⟩) rfl rfl rfl rfl rfl rfl rfl ?_; apply ex2; (· first | (apply CellAt.blk; (· repeat' (first | exact Rem.head | apply Rem.tail)); (· rfl)) | (refine CellAt.fz ?_ (by assumption); repeat' (first | exact List.Mem.head _ | apply List.Mem.tail))
                    ))
                | (refine WP.ldn tysOk rfl (by first | exact True.intro | exact rfl | exact ⟨⟨rfl, rfl⟩, rfl⟩) rfl rfl rfl rfl rfl rfl rfl ?_; apply ex2; (· first | (apply SegAt.blk'; (· repeat' (first | exact Rem.head | apply Rem.tail)); (· rfl)) | (refine ⟨SegAt.fz ?_ (by assumption), rfl⟩; repeat' (first | exact List.Mem.head _ | apply List.Mem.tail))
                    ))
                | (refine WP.sto tysOk rfl rfl rfl rfl rfl rfl rfl rfl rfl ?_; apply ex3; (· repeat' (first | exact Rem.head | apply Rem.tail)
                    ); (· first | exact Nat.le_of_ble_eq_true rfl | (simp [kints_length, arcsCells_length]; omega)
                    ))
                | refine WP.ix1 tysOk rfl (by first | exact True.intro | exact rfl | exact ⟨⟨rfl, rfl⟩, rfl⟩) rfl rfl rfl rfl rfl rfl rfl rfl (by first | omega | (simp only []; omega)) ?_
                | refine WP.ix tysOk rfl (by first | exact True.intro | exact rfl | exact ⟨⟨rfl, rfl⟩, rfl⟩) rfl rfl rfl rfl rfl rfl rfl rfl (by first | omega | (simp only []; omega)) ?_
                | (refine WP.box rfl rfl rfl rfl rfl rfl ?_; intro g)
                | (refine WP.al tysOk rfl rfl rfl rfl rfl rfl ?_; intro g)
                | (refine WP.bs tysOk rfl rfl rfl rfl rfl rfl rfl rfl rfl rfl rfl rfl ?_; intro g)
                | refine WP.yes rfl rfl rfl ?_
                | refine WP.no rfl rfl rfl rfl rfl ?_
                | refine WP.noU rfl rfl rfl rfl ?_
                | (refine WP.gs rfl rfl rfl rfl (fun hh => ?_) (fun hh => ?_) <;> (try simp only [decide_eq_true_eq, decide_eq_false_iff_not, Bool.not_true, Bool.not_false] at hh) <;> (try (exfalso; omega)))
                | refine WP.condT rfl rfl ?_
                | refine WP.condF rfl rfl ?_
                | (refine WP.cond_d rfl rfl (fun hh => ?_) (fun hh => ?_) <;> try (exfalso; omega))
                | refine WP.cond rfl rfl (fun hh => ?_) (fun hh => ?_)
                | refine WP.bld tysOk rfl (by first | exact True.intro | exact rfl | exact ⟨⟨rfl, rfl⟩, rfl⟩) rfl rfl rfl rfl rfl rfl rfl ?_
                | (refine WP.lal tysOk rfl ⟨rfl, rfl⟩ rfl rfl rfl rfl rfl rfl rfl ?_; intro g)
                | refine WP.lend rfl ⟨rfl, rfl⟩ ?_
                | refine WP.qend rfl ?_
                | refine WP.mn rfl (by first | exact True.intro | exact rfl | exact ⟨⟨rfl, rfl⟩, rfl⟩) rfl rfl rfl rfl rfl rfl ?_
                | refine WP.mx rfl (by first | exact True.intro | exact rfl | exact ⟨⟨rfl, rfl⟩, rfl⟩) rfl rfl rfl rfl rfl rfl ?_)
              refine WP.ld tysOk rfl (by first | exact True.intro | exact rfl | exact ⟨⟨rfl, rfl⟩, rfl⟩) rfl rfl rfl rfl rfl rfl rfl ?_
              refine ex2 (.int .i64 (el _ (k))) (CellAt.own (.tail (.tail .head)) (kints_get1 (by first | omega | (simp only [List.length_set]; omega) | (simp; omega)) (by first | omega | (simp only []; omega) | (simp; done) | (simp; omega)))) ?_
              rw [ha3]
              repeat' (first
                | (refine WP.st tysOk false rfl (by first | exact True.intro | exact rfl | exact ⟨⟨rfl, rfl⟩, rfl⟩) rfl rfl rfl rfl ?_ ?_; · (first | exact True.intro | exact ⟨by omega, by omega⟩ | exact ⟨by omega, by omega, by omega, by omega⟩ | omega))
                | (refine WP.ld tysOk rfl (by first | exact True.intro | exact rfl | exact ⟨⟨rfl, rfl⟩, rfl⟩) rfl rfl rfl rfl rfl rfl rfl ?_; apply ex2; (· first | (apply CellAt.blk; (· repeat' (first | exact Rem.head | apply Rem.tail)); (· rfl)) | (refine CellAt.fz ?_ (by assumption); repeat' (first | exact List.Mem.head _ | apply List.Mem.tail))
                    ))
                | (refine WP.ldn tysOk rfl (by first | exact True.intro | exact rfl | exact ⟨⟨rfl, rfl⟩, rfl⟩) rfl rfl rfl rfl rfl rfl rfl ?_; apply ex2; (· first | (apply SegAt.blk'; (· repeat' (first | exact Rem.head | apply Rem.tail)); (· rfl)) | (refine ⟨SegAt.fz ?_ (by assumption), rfl⟩; repeat' (first | exact List.Mem.head _ | apply List.Mem.tail))
                    ))
                | (refine WP.sto tysOk rfl rfl rfl rfl rfl rfl rfl rfl rfl ?_; apply ex3; (· repeat' (first | exact Rem.head | apply Rem.tail)
                    ); (· first | exact Nat.le_of_ble_eq_true rfl | (simp [kints_length, arcsCells_length]; omega)
                    ))
                | refine WP.ix1 tysOk rfl (by first | exact True.intro | exact rfl | exact ⟨⟨rfl, rfl⟩, rfl⟩) rfl rfl rfl rfl rfl rfl rfl rfl (by first | omega | (simp only []; omega)) ?_
                | refine WP.ix tysOk rfl (by first | exact True.intro | exact rfl | exact ⟨⟨rfl, rfl⟩, rfl⟩) rfl rfl rfl rfl rfl rfl rfl rfl (by first | omega | (simp only []; omega)) ?_
                | (refine WP.box rfl rfl rfl rfl rfl rfl ?_; intro g)
                | (refine WP.al tysOk rfl rfl rfl rfl rfl rfl ?_; intro g)
                | (refine WP.bs tysOk rfl rfl rfl rfl rfl rfl rfl rfl rfl rfl rfl rfl ?_; intro g)
                | refine WP.yes rfl rfl rfl ?_
                | refine WP.no rfl rfl rfl rfl rfl ?_
                | refine WP.noU rfl rfl rfl rfl ?_
                | (refine WP.gs rfl rfl rfl rfl (fun hh => ?_) (fun hh => ?_) <;> (try simp only [decide_eq_true_eq, decide_eq_false_iff_not, Bool.not_true, Bool.not_false] at hh) <;> (try (exfalso; omega)))
                | refine WP.condT rfl rfl ?_
                | refine WP.condF rfl rfl ?_
                | (refine WP.cond_d rfl rfl (fun hh => ?_) (fun hh => ?_) <;> try (exfalso; omega))
                | refine WP.cond rfl rfl (fun hh => ?_) (fun hh => ?_)
                | refine WP.bld tysOk rfl (by first | exact True.intro | exact rfl | exact ⟨⟨rfl, rfl⟩, rfl⟩) rfl rfl rfl rfl rfl rfl rfl ?_
                | (refine WP.lal tysOk rfl ⟨rfl, rfl⟩ rfl rfl rfl rfl rfl rfl rfl ?_; intro g)
                | refine WP.lend rfl ⟨rfl, rfl⟩ ?_
                | refine WP.qend rfl ?_
                | refine WP.mn rfl (by first | exact True.intro | exact rfl | exact ⟨⟨rfl, rfl⟩, rfl⟩) rfl rfl rfl rfl rfl rfl ?_
                | refine WP.mx rfl (by first | exact True.intro | exact rfl | exact ⟨⟨rfl, rfl⟩, rfl⟩) rfl rfl rfl rfl rfl rfl ?_)
              refine WP.ld tysOk rfl (by first | exact True.intro | exact rfl | exact ⟨⟨rfl, rfl⟩, rfl⟩) rfl rfl rfl rfl rfl rfl rfl ?_
              refine ex2 (.int .i64 (el _ (a0))) (CellAt.blk (.tail .head) (kints_get1 (by first | omega | (simp only [List.length_set]; omega) | (simp; omega)) (by first | omega | (simp only []; omega) | (simp; done) | (simp; omega)))) ?_
              rw [hz]
              repeat' (first
                | (refine WP.st tysOk false rfl (by first | exact True.intro | exact rfl | exact ⟨⟨rfl, rfl⟩, rfl⟩) rfl rfl rfl rfl ?_ ?_; · (first | exact True.intro | exact ⟨by omega, by omega⟩ | exact ⟨by omega, by omega, by omega, by omega⟩ | omega))
                | (refine WP.ld tysOk rfl (by first | exact True.intro | exact rfl | exact ⟨⟨rfl, rfl⟩, rfl⟩) rfl rfl rfl rfl rfl rfl rfl ?_; apply ex2; (· first | (apply CellAt.blk; (· repeat' (first | exact Rem.head | apply Rem.tail)); (· rfl)) | (refine CellAt.fz ?_ (by assumption); repeat' (first | exact List.Mem.head _ | apply List.Mem.tail))
                    ))
                | (refine WP.ldn tysOk rfl (by first | exact True.intro | exact rfl | exact ⟨⟨rfl, rfl⟩, rfl⟩) rfl rfl rfl rfl rfl rfl rfl ?_; apply ex2; (· first | (apply SegAt.blk'; (· repeat' (first | exact Rem.head | apply Rem.tail)); (· rfl)) | (refine ⟨SegAt.fz ?_ (by assumption), rfl⟩; repeat' (first | exact List.Mem.head _ | apply List.Mem.tail))
                    ))
                | (refine WP.sto tysOk rfl rfl rfl rfl rfl rfl rfl rfl rfl ?_; apply ex3; (· repeat' (first | exact Rem.head | apply Rem.tail)
                    ); (· first | exact Nat.le_of_ble_eq_true rfl | (simp [kints_length, arcsCells_length]; omega)
                    ))
                | refine WP.ix1 tysOk rfl (by first | exact True.intro | exact rfl | exact ⟨⟨rfl, rfl⟩, rfl⟩) rfl rfl rfl rfl rfl rfl rfl rfl (by first | omega | (simp only []; omega)) ?_
                | refine WP.ix tysOk rfl (by first | exact True.intro | exact rfl | exact ⟨⟨rfl, rfl⟩, rfl⟩) rfl rfl rfl rfl rfl rfl rfl rfl (by first | omega | (simp only []; omega)) ?_
                | (refine WP.box rfl rfl rfl rfl rfl rfl ?_; intro g)
                | (refine WP.al tysOk rfl rfl rfl rfl rfl rfl ?_; intro g)
                | (refine WP.bs tysOk rfl rfl rfl rfl rfl rfl rfl rfl rfl rfl rfl rfl ?_; intro g)
                | refine WP.yes rfl rfl rfl ?_
                | refine WP.no rfl rfl rfl rfl rfl ?_
                | refine WP.noU rfl rfl rfl rfl ?_
                | (refine WP.gs rfl rfl rfl rfl (fun hh => ?_) (fun hh => ?_) <;> (try simp only [decide_eq_true_eq, decide_eq_false_iff_not, Bool.not_true, Bool.not_false] at hh) <;> (try (exfalso; omega)))
                | refine WP.condT rfl rfl ?_
                | refine WP.condF rfl rfl ?_
                | (refine WP.cond_d rfl rfl (fun hh => ?_) (fun hh => ?_) <;> try (exfalso; omega))
                | refine WP.cond rfl rfl (fun hh => ?_) (fun hh => ?_)
                | refine WP.bld tysOk rfl (by first | exact True.intro | exact rfl | exact ⟨⟨rfl, rfl⟩, rfl⟩) rfl rfl rfl rfl rfl rfl rfl ?_
                | (refine WP.lal tysOk rfl ⟨rfl, rfl⟩ rfl rfl rfl rfl rfl rfl rfl ?_; intro g)
                | refine WP.lend rfl ⟨rfl, rfl⟩ ?_
                | refine WP.qend rfl ?_
                | refine WP.mn rfl (by first | exact True.intro | exact rfl | exact ⟨⟨rfl, rfl⟩, rfl⟩) rfl rfl rfl rfl rfl rfl ?_
                | refine WP.mx rfl (by first | exact True.intro | exact rfl | exact ⟨⟨rfl, rfl⟩, rfl⟩) rfl rfl rfl rfl rfl rfl ?_)
              refine WP.reblk (cs' := ints (ins.set a0 1)) .head (kints_set1 (by omega) (by omega)) ?_
              repeat' (first
                | (refine WP.st tysOk false rfl (by first | exact True.intro | exact rfl | exact ⟨⟨rfl, rfl⟩, rfl⟩) rfl rfl rfl rfl ?_ ?_; · (first | exact True.intro | exact ⟨by omega, by omega⟩ | exact ⟨by omega, by omega, by omega, by omega⟩ | omega))
                | (refine WP.ld tysOk rfl (by first | exact True.intro | exact rfl | exact ⟨⟨rfl, rfl⟩, rfl⟩) rfl rfl rfl rfl rfl rfl rfl ?_; apply ex2; (· first | (apply CellAt.blk; (· repeat' (first | exact Rem.head | apply Rem.tail)); (· rfl)) | (refine CellAt.fz ?_ (by assumption); repeat' (first | exact List.Mem.head _ | apply List.Mem.tail))
                    ))
                | (refine WP.ldn tysOk rfl (by first | exact True.intro | exact rfl | exact ⟨⟨rfl, rfl⟩, rfl⟩) rfl rfl rfl rfl rfl rfl rfl ?_; apply ex2; (· first | (apply SegAt.blk'; (· repeat' (first | exact Rem.head | apply Rem.tail)); (· rfl)) | (refine ⟨SegAt.fz ?_ (by assumption), rfl⟩; repeat' (first | exact List.Mem.head _ | apply List.Mem.tail))
                    ))
                | (refine WP.sto tysOk rfl rfl rfl rfl rfl rfl rfl rfl rfl ?_; apply ex3; (· repeat' (first | exact Rem.head | apply Rem.tail)
                    ); (· first | exact Nat.le_of_ble_eq_true rfl | (simp [kints_length, arcsCells_length]; omega)
                    ))
                | refine WP.ix1 tysOk rfl (by first | exact True.intro | exact rfl | exact ⟨⟨rfl, rfl⟩, rfl⟩) rfl rfl rfl rfl rfl rfl rfl rfl (by first | omega | (simp only []; omega)) ?_
                | refine WP.ix tysOk rfl (by first | exact True.intro | exact rfl | exact ⟨⟨rfl, rfl⟩, rfl⟩) rfl rfl rfl rfl rfl rfl rfl rfl (by first | omega | (simp only []; omega)) ?_
                | (refine WP.box rfl rfl rfl rfl rfl rfl ?_; intro g)
                | (refine WP.al tysOk rfl rfl rfl rfl rfl rfl ?_; intro g)
                | (refine WP.bs tysOk rfl rfl rfl rfl rfl rfl rfl rfl rfl rfl rfl rfl ?_; intro g)
                | refine WP.yes rfl rfl rfl ?_
                | refine WP.no rfl rfl rfl rfl rfl ?_
                | refine WP.noU rfl rfl rfl rfl ?_
                | (refine WP.gs rfl rfl rfl rfl (fun hh => ?_) (fun hh => ?_) <;> (try simp only [decide_eq_true_eq, decide_eq_false_iff_not, Bool.not_true, Bool.not_false] at hh) <;> (try (exfalso; omega)))
                | refine WP.condT rfl rfl ?_
                | refine WP.condF rfl rfl ?_
                | (refine WP.cond_d rfl rfl (fun hh => ?_) (fun hh => ?_) <;> try (exfalso; omega))
                | refine WP.cond rfl rfl (fun hh => ?_) (fun hh => ?_)
                | refine WP.bld tysOk rfl (by first | exact True.intro | exact rfl | exact ⟨⟨rfl, rfl⟩, rfl⟩) rfl rfl rfl rfl rfl rfl rfl ?_
                | (refine WP.lal tysOk rfl ⟨rfl, rfl⟩ rfl rfl rfl rfl rfl rfl rfl ?_; intro g)
                | refine WP.lend rfl ⟨rfl, rfl⟩ ?_
                | refine WP.qend rfl ?_
                | refine WP.mn rfl (by first | exact True.intro | exact rfl | exact ⟨⟨rfl, rfl⟩, rfl⟩) rfl rfl rfl rfl rfl rfl ?_
                | refine WP.mx rfl (by first | exact True.intro | exact rfl | exact ⟨⟨rfl, rfl⟩, rfl⟩) rfl rfl rfl rfl rfl rfl ?_)
              refine WP.stop rfl (k + 1, ins.set a0 1) ⟨⟨by dsimp only; omega, hstep⟩, by dsimp only; omega⟩ ?_ ?_
              · repeat (first | exact True.intro | refine And.intro rfl ?_)
              · repeat (first | exact Pick.nil | (apply Pick.cons; (· repeat' (first | exact Rem.head | apply Rem.tail)
                  )))
            · have hkl : k = (someL i n false true).length := by omega
              subst hkl
              rw [List.take_length] at hi
              have hin := hi.next (fun a ha => by rw [hall.inn]; exact ⟨fun ⟨k, h1, h2, h3⟩ => by rw [show a = k by omega]; exact h2, fun h => ⟨a, ha, h, rfl⟩⟩)
              clear hi
              refine WP.callR (fun y : Option Addr × Nat => .slice y.1 (someL i n true true).length y.2) (fun y => [.own (.slice y.1 (someL i n true true).length y.2) 3 1 (someL i n true true).length (ints (someL i n true true))]) (fun _ => True) rfl rfl rfl rfl rfl rfl rfl (by kernel_rfl) (fun w1 hw1 => mkAt i n hg (by omega) (hw1.le (by simp))) ?_
              rintro ⟨Aa, ca⟩ _
              dsimp only
              repeat' (first
                | (refine WP.st tysOk false rfl (by first | exact True.intro | exact rfl | exact ⟨⟨rfl, rfl⟩, rfl⟩) rfl rfl rfl rfl ?_ ?_; · (first | exact True.intro | exact ⟨by omega, by omega⟩ | exact ⟨by omega, by omega, by omega, by omega⟩ | omega))
                | (refine WP.ld tysOk rfl (by first | exact True.intro | exact rfl | exact ⟨⟨rfl, rfl⟩, rfl⟩) rfl rfl rfl rfl rfl rfl rfl ?_; apply ex2; (· first | (apply CellAt.blk; (· repeat' (first | exact Rem.head | apply Rem.tail)); (· rfl)) | (refine CellAt.fz ?_ (by assumption); repeat' (first | exact List.Mem.head _ | apply List.Mem.tail))
                    ))
                | (refine WP.ldn tysOk rfl (by first | exact True.intro | exact rfl | exact ⟨⟨rfl, rfl⟩, rfl⟩) rfl rfl rfl rfl rfl rfl rfl ?_; apply ex2; (· first | (apply SegAt.blk'; (· repeat' (first | exact Rem.head | apply Rem.tail)); (· rfl)) | (refine ⟨SegAt.fz ?_ (by assumption), rfl⟩; repeat' (first | exact List.Mem.head _ | apply List.Mem.tail))
                    ))
                | (refine WP.sto tysOk rfl rfl rfl rfl rfl rfl rfl rfl rfl ?_; apply ex3; (· repeat' (first | exact Rem.head | apply Rem.tail)
                    ); (· first | exact Nat.le_of_ble_eq_true rfl | (simp [kints_length, arcsCells_length]; omega)
                    ))
                | refine WP.ix1 tysOk rfl (by first | exact True.intro | exact rfl | exact ⟨⟨rfl, rfl⟩, rfl⟩) rfl rfl rfl rfl rfl rfl rfl rfl (by first | omega | (simp only []; omega)) ?_
                | refine WP.ix tysOk rfl (by first | exact True.intro | exact rfl | exact ⟨⟨rfl, rfl⟩, rfl⟩) rfl rfl rfl rfl rfl rfl rfl rfl (by first | omega | (simp only []; omega)) ?_
                | (refine WP.box rfl rfl rfl rfl rfl rfl ?_; intro g)
                | (refine WP.al tysOk rfl rfl rfl rfl rfl rfl ?_; intro g)
                | (refine WP.bs tysOk rfl rfl rfl rfl rfl rfl rfl rfl rfl rfl rfl rfl ?_; intro g)
                | refine WP.yes rfl rfl rfl ?_
                | refine WP.no rfl rfl rfl rfl rfl ?_
                | refine WP.noU rfl rfl rfl rfl ?_
                | (refine WP.gs rfl rfl rfl rfl (fun hh => ?_) (fun hh => ?_) <;> (try simp only [decide_eq_true_eq, decide_eq_false_iff_not, Bool.not_true, Bool.not_false] at hh) <;> (try (exfalso; omega)))
                | refine WP.condT rfl rfl ?_
                | refine WP.condF rfl rfl ?_
                | (refine WP.cond_d rfl rfl (fun hh => ?_) (fun hh => ?_) <;> try (exfalso; omega))
                | refine WP.cond rfl rfl (fun hh => ?_) (fun hh => ?_)
                | refine WP.bld tysOk rfl (by first | exact True.intro | exact rfl | exact ⟨⟨rfl, rfl⟩, rfl⟩) rfl rfl rfl rfl rfl rfl rfl ?_
                | (refine WP.lal tysOk rfl ⟨rfl, rfl⟩ rfl rfl rfl rfl rfl rfl rfl ?_; intro g)
                | refine WP.lend rfl ⟨rfl, rfl⟩ ?_
                | refine WP.qend rfl ?_
                | refine WP.mn rfl (by first | exact True.intro | exact rfl | exact ⟨⟨rfl, rfl⟩, rfl⟩) rfl rfl rfl rfl rfl rfl ?_
                | refine WP.mx rfl (by first | exact True.intro | exact rfl | exact ⟨⟨rfl, rfl⟩, rfl⟩) rfl rfl rfl rfl rfl rfl ?_)
              have hlp : (fun w' (h : Z.le (PH.of w')) => loops_c (n := n) (hg.le h) (by omega)) = (fun w' (h : Z.le (PH.of w')) => loops_c (n := n) (hg.le h) (by omega)) := rfl
              refine WP.callV rfl rfl rfl rfl rfl rfl rfl (by kernel_rfl) (fun w1 hw1 => loops_c (n := n) (hg.le (hw1.le (by simp))) (by omega)) (by first | exact True.intro | exact rfl | exact ⟨⟨rfl, rfl⟩, rfl⟩) ?_
              have hloops : loopsOf i n = (someL i n true false).length + (someL i n false true).length - (someL i n true true).length := rfl
              repeat' (first
                | (refine WP.st tysOk false rfl (by first | exact True.intro | exact rfl | exact ⟨⟨rfl, rfl⟩, rfl⟩) rfl rfl rfl rfl ?_ ?_; · (first | exact True.intro | exact ⟨by omega, by omega⟩ | exact ⟨by omega, by omega, by omega, by omega⟩ | omega))
                | (refine WP.ld tysOk rfl (by first | exact True.intro | exact rfl | exact ⟨⟨rfl, rfl⟩, rfl⟩) rfl rfl rfl rfl rfl rfl rfl ?_; apply ex2; (· first | (apply CellAt.blk; (· repeat' (first | exact Rem.head | apply Rem.tail)); (· rfl)) | (refine CellAt.fz ?_ (by assumption); repeat' (first | exact List.Mem.head _ | apply List.Mem.tail))
                    ))
                | (refine WP.ldn tysOk rfl (by first | exact True.intro | exact rfl | exact ⟨⟨rfl, rfl⟩, rfl⟩) rfl rfl rfl rfl rfl rfl rfl ?_; apply ex2; (· first | (apply SegAt.blk'; (· repeat' (first | exact Rem.head | apply Rem.tail)); (· rfl)) | (refine ⟨SegAt.fz ?_ (by assumption), rfl⟩; repeat' (first | exact List.Mem.head _ | apply List.Mem.tail))
                    ))
                | (refine WP.sto tysOk rfl rfl rfl rfl rfl rfl rfl rfl rfl ?_; apply ex3; (· repeat' (first | exact Rem.head | apply Rem.tail)
                    ); (· first | exact Nat.le_of_ble_eq_true rfl | (simp [kints_length, arcsCells_length]; omega)
                    ))
                | refine WP.ix1 tysOk rfl (by first | exact True.intro | exact rfl | exact ⟨⟨rfl, rfl⟩, rfl⟩) rfl rfl rfl rfl rfl rfl rfl rfl (by first | omega | (simp only []; omega)) ?_
                | refine WP.ix tysOk rfl (by first | exact True.intro | exact rfl | exact ⟨⟨rfl, rfl⟩, rfl⟩) rfl rfl rfl rfl rfl rfl rfl rfl (by first | omega | (simp only []; omega)) ?_
                | (refine WP.box rfl rfl rfl rfl rfl rfl ?_; intro g)
                | (refine WP.al tysOk rfl rfl rfl rfl rfl rfl ?_; intro g)
                | (refine WP.bs tysOk rfl rfl rfl rfl rfl rfl rfl rfl rfl rfl rfl rfl ?_; intro g)
                | refine WP.yes rfl rfl rfl ?_
                | refine WP.no rfl rfl rfl rfl rfl ?_
                | refine WP.noU rfl rfl rfl rfl ?_
                | (refine WP.gs rfl rfl rfl rfl (fun hh => ?_) (fun hh => ?_) <;> (try simp only [decide_eq_true_eq, decide_eq_false_iff_not, Bool.not_true, Bool.not_false] at hh) <;> (try (exfalso; omega)))
                | refine WP.condT rfl rfl ?_
                | refine WP.condF rfl rfl ?_
                | (refine WP.cond_d rfl rfl (fun hh => ?_) (fun hh => ?_) <;> try (exfalso; omega))
                | refine WP.cond rfl rfl (fun hh => ?_) (fun hh => ?_)
                | refine WP.bld tysOk rfl (by first | exact True.intro | exact rfl | exact ⟨⟨rfl, rfl⟩, rfl⟩) rfl rfl rfl rfl rfl rfl rfl ?_
                | (refine WP.lal tysOk rfl ⟨rfl, rfl⟩ rfl rfl rfl rfl rfl rfl rfl ?_; intro g)
                | refine WP.lend rfl ⟨rfl, rfl⟩ ?_
                | refine WP.qend rfl ?_
                | refine WP.mn rfl (by first | exact True.intro | exact rfl | exact ⟨⟨rfl, rfl⟩, rfl⟩) rfl rfl rfl rfl rfl rfl ?_
                | refine WP.mx rfl (by first | exact True.intro | exact rfl | exact ⟨⟨rfl, rfl⟩, rfl⟩) rfl rfl rfl rfl rfl rfl ?_)
              refine WP.stop rfl (n + 1, outs, ins) ⟨⟨by dsimp only; omega, by simpa using hon, by simpa using hin⟩, by dsimp only; omega⟩ ?_ ?_
              · repeat (first | exact True.intro | refine And.intro rfl ?_)
              · repeat (first | exact Pick.nil | (apply Pick.cons; (· repeat' (first | exact Rem.head | apply Rem.tail)
                  )))
    · have hnl : n = i.supply.length := by omega
      subst hnl
      have hall1 : ∀ a, a < i.arcs.length → el outs a = 1 ∧ el ins a = 1 := fun a ha => by
        have h1 := ho.val a ha
        have h2 := hi.val a ha
        have := (hall a ha).src1
        have := (hall a ha).dst1
        rw [if_pos (by omega)] at h1 h2
        simpa using ⟨h1, h2⟩
      have hol := ho.len
      have hil := hi.len
      refine WP.loop (α := Nat) (fun k => k ≤ i.arcs.length)
        (fun k => [(7, .slice (some ⟨go, 0, none⟩) i.arcs.length i.arcs.length), (8, .slice (some ⟨gi, 0, none⟩) i.arcs.length i.arcs.length), (14, .int .i64 k)])
        (fun k => [.blk go 3 (ints outs), .blk gi 3 (ints ins), .fz (PH.of w)])
        (fun k => i.arcs.length - k) rfl 0 (Nat.zero_le _) ?_ ?_ ?_
      · repeat (first | exact True.intro | refine And.intro rfl ?_)
      · repeat (first | exact Pick.nil | (apply Pick.cons; (· repeat' (first | exact Rem.head | apply Rem.tail)
          )))
      · intro k hk
        repeat' (first
          | (refine WP.st tysOk false rfl (by first | exact True.intro | exact rfl | exact ⟨⟨rfl, rfl⟩, rfl⟩) rfl rfl rfl rfl ?_ ?_; · (first | exact True.intro | exact ⟨by omega, by omega⟩ | exact ⟨by omega, by omega, by omega, by omega⟩ | omega))
          | (refine WP.ld tysOk rfl (by first | exact True.intro | exact rfl | exact ⟨⟨rfl, rfl⟩, rfl⟩) rfl rfl rfl rfl rfl rfl rfl ?_; apply ex2; (· first | (apply CellAt.blk; (· repeat' (first | exact Rem.head | apply Rem.tail)); (· rfl)) | (refine CellAt.fz ?_ (by assumption); repeat' (first | exact List.Mem.head _ | apply List.Mem.tail))
              ))
          | (refine WP.ldn tysOk rfl (by first | exact True.intro | exact rfl | exact ⟨⟨rfl, rfl⟩, rfl⟩) rfl rfl rfl rfl rfl rfl rfl ?_; apply ex2; (· first | (apply SegAt.blk'; (· repeat' (first | exact Rem.head | apply Rem.tail)); (· rfl)) | (refine ⟨SegAt.fz ?_ (by assumption), rfl⟩; repeat' (first | exact List.Mem.head _ | apply List.Mem.tail))
              ))
          | (refine WP.sto tysOk rfl rfl rfl rfl rfl rfl rfl rfl rfl ?_; apply ex3; (· repeat' (first | exact Rem.head | apply Rem.tail)
              ); (· first | exact Nat.le_of_ble_eq_true rfl | (simp [kints_length, arcsCells_length]; omega)
              ))
          | refine WP.ix1 tysOk rfl (by first | exact True.intro | exact rfl | exact ⟨⟨rfl, rfl⟩, rfl⟩) rfl rfl rfl rfl rfl rfl rfl rfl (by first | omega | (simp only []; omega)) ?_
          | refine WP.ix tysOk rfl (by first | exact True.intro | exact rfl | exact ⟨⟨rfl, rfl⟩, rfl⟩) rfl rfl rfl rfl rfl rfl rfl rfl (by first | omega | (simp only []; omega)) ?_
          | (refine WP.box rfl rfl rfl rfl rfl rfl ?_; intro g)
          | (refine WP.al tysOk rfl rfl rfl rfl rfl rfl ?_; intro g)
          | (refine WP.bs tysOk rfl rfl rfl rfl rfl rfl rfl rfl rfl rfl rfl rfl ?_; intro g)
          | refine WP.yes rfl rfl rfl ?_
          | refine WP.no rfl rfl rfl rfl rfl ?_
          | refine WP.noU rfl rfl rfl rfl ?_
          | (refine WP.gs rfl rfl rfl rfl (fun hh => ?_) (fun hh => ?_) <;> (try simp only [decide_eq_true_eq, decide_eq_false_iff_not, Bool.not_true, Bool.not_false] at hh) <;> (try (exfalso; omega)))
          | refine WP.condT rfl rfl ?_
          | refine WP.condF rfl rfl ?_
          | (refine WP.cond_d rfl rfl (fun hh => ?_) (fun hh => ?_) <;> try (exfalso; omega))
          | refine WP.cond rfl rfl (fun hh => ?_) (fun hh => ?_)
          | refine WP.bld tysOk rfl (by first | exact True.intro | exact rfl | exact ⟨⟨rfl, rfl⟩, rfl⟩) rfl rfl rfl rfl rfl rfl rfl ?_
          | (refine WP.lal tysOk rfl ⟨rfl, rfl⟩ rfl rfl rfl rfl rfl rfl rfl ?_; intro g)
          | refine WP.lend rfl ⟨rfl, rfl⟩ ?_
          | refine WP.qend rfl ?_
          | refine WP.mn rfl (by first | exact True.intro | exact rfl | exact ⟨⟨rfl, rfl⟩, rfl⟩) rfl rfl rfl rfl rfl rfl ?_
          | refine WP.mx rfl (by first | exact True.intro | exact rfl | exact ⟨⟨rfl, rfl⟩, rfl⟩) rfl rfl rfl rfl rfl rfl ?_)
        · obtain ⟨h1, h2⟩ := hall1 k (by omega)
          refine WP.ld tysOk rfl (by first | exact True.intro | exact rfl | exact ⟨⟨rfl, rfl⟩, rfl⟩) rfl rfl rfl rfl rfl rfl rfl ?_
          refine ex2 (.int .i64 (el _ (k))) (CellAt.blk .head (kints_get1 (by first | omega | (simp only [List.length_set]; omega) | (simp; omega)) (by first | omega | (simp only []; omega) | (simp; done) | (simp; omega)))) ?_
          rw [h1]
          repeat' (first
            | (refine WP.st tysOk false rfl (by first | exact True.intro | exact rfl | exact ⟨⟨rfl, rfl⟩, rfl⟩) rfl rfl rfl rfl ?_ ?_; · (first | exact True.intro | exact ⟨by omega, by omega⟩ | exact ⟨by omega, by omega, by omega, by omega⟩ | omega))
            | (refine WP.ld tysOk rfl (by first | exact True.intro | exact rfl | exact ⟨⟨rfl, rfl⟩, rfl⟩) rfl rfl rfl rfl rfl rfl rfl ?_; apply ex2; (· first | (apply CellAt.blk; (· repeat' (first | exact Rem.head | apply Rem.tail)); (· rfl)) | (refine CellAt.fz ?_ (by assumption); repeat' (first | exact List.Mem.head _ | apply List.Mem.tail))
                ))
            | (refine WP.ldn tysOk rfl (by first | exact True.intro | exact rfl | exact ⟨⟨rfl, rfl⟩, rfl⟩) rfl rfl rfl rfl rfl rfl rfl ?_; apply ex2; (· first | (apply SegAt.blk'; (· repeat' (first | exact Rem.head | apply Rem.tail)); (· rfl)) | (refine ⟨SegAt.fz ?_ (by assumption), rfl⟩; repeat' (first | exact List.Mem.head _ | apply List.Mem.tail))
                ))
            | (refine WP.sto tysOk rfl rfl rfl rfl rfl rfl rfl rfl rfl ?_; apply ex3; (· repeat' (first | exact Rem.head | apply Rem.tail)
                ); (· first | exact Nat.le_of_ble_eq_true rfl | (simp [kints_length, arcsCells_length]; omega)
                ))
            | refine WP.ix1 tysOk rfl (by first | exact True.intro | exact rfl | exact ⟨⟨rfl, rfl⟩, rfl⟩) rfl rfl rfl rfl rfl rfl rfl rfl (by first | omega | (simp only []; omega)) ?_
            | refine WP.ix tysOk rfl (by first | exact True.intro | exact rfl | exact ⟨⟨rfl, rfl⟩, rfl⟩) rfl rfl rfl rfl rfl rfl rfl rfl (by first | omega | (simp only []; omega)) ?_
            | (refine WP.box rfl rfl rfl rfl rfl rfl ?_; intro g)
            | (refine WP.al tysOk rfl rfl rfl rfl rfl rfl ?_; intro g)
            | (refine WP.bs tysOk rfl rfl rfl rfl rfl rfl rfl rfl rfl rfl rfl rfl ?_; intro g)
            | refine WP.yes rfl rfl rfl ?_
            | refine WP.no rfl rfl rfl rfl rfl ?_
            | refine WP.noU rfl rfl rfl rfl ?_
            | (refine WP.gs rfl rfl rfl rfl (fun hh => ?_) (fun hh => ?_) <;> (try simp only [decide_eq_true_eq, decide_eq_false_iff_not, Bool.not_true, Bool.not_false] at hh) <;> (try (exfalso; omega)))
            | refine WP.condT rfl rfl ?_
            | refine WP.condF rfl rfl ?_
            | (refine WP.cond_d rfl rfl (fun hh => ?_) (fun hh => ?_) <;> try (exfalso; omega))
            | refine WP.cond rfl rfl (fun hh => ?_) (fun hh => ?_)
            | refine WP.bld tysOk rfl (by first | exact True.intro | exact rfl | exact ⟨⟨rfl, rfl⟩, rfl⟩) rfl rfl rfl rfl rfl rfl rfl ?_
            | (refine WP.lal tysOk rfl ⟨rfl, rfl⟩ rfl rfl rfl rfl rfl rfl rfl ?_; intro g)
            | refine WP.lend rfl ⟨rfl, rfl⟩ ?_
            | refine WP.qend rfl ?_
            | refine WP.mn rfl (by first | exact True.intro | exact rfl | exact ⟨⟨rfl, rfl⟩, rfl⟩) rfl rfl rfl rfl rfl rfl ?_
            | refine WP.mx rfl (by first | exact True.intro | exact rfl | exact ⟨⟨rfl, rfl⟩, rfl⟩) rfl rfl rfl rfl rfl rfl ?_)
          refine WP.ld tysOk rfl (by first | exact True.intro | exact rfl | exact ⟨⟨rfl, rfl⟩, rfl⟩) rfl rfl rfl rfl rfl rfl rfl ?_
          refine ex2 (.int .i64 (el _ (k))) (CellAt.blk (.tail .head) (kints_get1 (by first | omega | (simp only [List.length_set]; omega) | (simp; omega)) (by first | omega | (simp only []; omega) | (simp; done) | (simp; omega)))) ?_
          rw [h2]
          repeat' (first
            | (refine WP.st tysOk false rfl (by first | exact True.intro | exact rfl | exact ⟨⟨rfl, rfl⟩, rfl⟩) rfl rfl rfl rfl ?_ ?_; · (first | exact True.intro | exact ⟨by omega, by omega⟩ | exact ⟨by omega, by omega, by omega, by omega⟩ | omega))
            | (refine WP.ld tysOk rfl (by first | exact True.intro | exact rfl | exact ⟨⟨rfl, rfl⟩, rfl⟩) rfl rfl rfl rfl rfl rfl rfl ?_; apply ex2; (· first | (apply CellAt.blk; (· repeat' (first | exact Rem.head | apply Rem.tail)); (· rfl)) | (refine CellAt.fz ?_ (by assumption); repeat' (first | exact List.Mem.head _ | apply List.Mem.tail))
                ))
            | (refine WP.ldn tysOk rfl (by first | exact True.intro | exact rfl | exact ⟨⟨rfl, rfl⟩, rfl⟩) rfl rfl rfl rfl rfl rfl rfl ?_; apply ex2; (· first | (apply SegAt.blk'; (· repeat' (first | exact Rem.head | apply Rem.tail)); (· rfl)) | (refine ⟨SegAt.fz ?_ (by assumption), rfl⟩; repeat' (first | exact List.Mem.head _ | apply List.Mem.tail))
                ))
            | (refine WP.sto tysOk rfl rfl rfl rfl rfl rfl rfl rfl rfl ?_; apply ex3; (· repeat' (first | exact Rem.head | apply Rem.tail)
                ); (· first | exact Nat.le_of_ble_eq_true rfl | (simp [kints_length, arcsCells_length]; omega)
                ))
            | refine WP.ix1 tysOk rfl (by first | exact True.intro | exact rfl | exact ⟨⟨rfl, rfl⟩, rfl⟩) rfl rfl rfl rfl rfl rfl rfl rfl (by first | omega | (simp only []; omega)) ?_
            | refine WP.ix tysOk rfl (by first | exact True.intro | exact rfl | exact ⟨⟨rfl, rfl⟩, rfl⟩) rfl rfl rfl rfl rfl rfl rfl rfl (by first | omega | (simp only []; omega)) ?_
            | (refine WP.box rfl rfl rfl rfl rfl rfl ?_; intro g)
            | (refine WP.al tysOk rfl rfl rfl rfl rfl rfl ?_; intro g)
            | (refine WP.bs tysOk rfl rfl rfl rfl rfl rfl rfl rfl rfl rfl rfl rfl ?_; intro g)
            | refine WP.yes rfl rfl rfl ?_
            | refine WP.no rfl rfl rfl rfl rfl ?_
            | refine WP.noU rfl rfl rfl rfl ?_
            | (refine WP.gs rfl rfl rfl rfl (fun hh => ?_) (fun hh => ?_) <;> (try simp only [decide_eq_true_eq, decide_eq_false_iff_not, Bool.not_true, Bool.not_false] at hh) <;> (try (exfalso; omega)))
            | refine WP.condT rfl rfl ?_
            | refine WP.condF rfl rfl ?_
            | (refine WP.cond_d rfl rfl (fun hh => ?_) (fun hh => ?_) <;> try (exfalso; omega))
            | refine WP.cond rfl rfl (fun hh => ?_) (fun hh => ?_)
            | refine WP.bld tysOk rfl (by first | exact True.intro | exact rfl | exact ⟨⟨rfl, rfl⟩, rfl⟩) rfl rfl rfl rfl rfl rfl rfl ?_
            | (refine WP.lal tysOk rfl ⟨rfl, rfl⟩ rfl rfl rfl rfl rfl rfl rfl ?_; intro g)
            | refine WP.lend rfl ⟨rfl, rfl⟩ ?_
            | refine WP.qend rfl ?_
            | refine WP.mn rfl (by first | exact True.intro | exact rfl | exact ⟨⟨rfl, rfl⟩, rfl⟩) rfl rfl rfl rfl rfl rfl ?_
            | refine WP.mx rfl (by first | exact True.intro | exact rfl | exact ⟨⟨rfl, rfl⟩, rfl⟩) rfl rfl rfl rfl rfl rfl ?_)
          refine WP.stop rfl (k + 1) ⟨by omega, by omega⟩ ?_ ?_
          · repeat (first | exact True.intro | refine And.intro rfl ?_)
          · repeat (first | exact Pick.nil | (apply Pick.cons; (· repeat' (first | exact Rem.head | apply Rem.tail)
              )))
        · refine WP.callV rfl rfl rfl rfl rfl rfl rfl (by kernel_rfl) (fun w1 hw1 => known_c) (by first | exact True.intro | exact rfl | exact ⟨⟨rfl, rfl⟩, rfl⟩) ?_
          repeat' (first
            | (refine WP.st tysOk false rfl (by first | exact True.intro | exact rfl | exact ⟨⟨rfl, rfl⟩, rfl⟩) rfl rfl rfl rfl ?_ ?_; · (first | exact True.intro | exact ⟨by omega, by omega⟩ | exact ⟨by omega, by omega, by omega, by omega⟩ | omega))
            | (refine WP.ld tysOk rfl (by first | exact True.intro | exact rfl | exact ⟨⟨rfl, rfl⟩, rfl⟩) rfl rfl rfl rfl rfl rfl rfl ?_; apply ex2; (· first | (apply CellAt.blk; (· repeat' (first | exact Rem.head | apply Rem.tail)); (· rfl)) | (refine CellAt.fz ?_ (by assumption); repeat' (first | exact List.Mem.head _ | apply List.Mem.tail))
                ))
            | (refine WP.ldn tysOk rfl (by first | exact True.intro | exact rfl | exact ⟨⟨rfl, rfl⟩, rfl⟩) rfl rfl rfl rfl rfl rfl rfl ?_; apply ex2; (· first | (apply SegAt.blk'; (· repeat' (first | exact Rem.head | apply Rem.tail)); (· rfl)) | (refine ⟨SegAt.fz ?_ (by assumption), rfl⟩; repeat' (first | exact List.Mem.head _ | apply List.Mem.tail))
                ))
            | (refine WP.sto tysOk rfl rfl rfl rfl rfl rfl rfl rfl rfl ?_; apply ex3; (· repeat' (first | exact Rem.head | apply Rem.tail)
                ); (· first | exact Nat.le_of_ble_eq_true rfl | (simp [kints_length, arcsCells_length]; omega)
                ))
            | refine WP.ix1 tysOk rfl (by first | exact True.intro | exact rfl | exact ⟨⟨rfl, rfl⟩, rfl⟩) rfl rfl rfl rfl rfl rfl rfl rfl (by first | omega | (simp only []; omega)) ?_
            | refine WP.ix tysOk rfl (by first | exact True.intro | exact rfl | exact ⟨⟨rfl, rfl⟩, rfl⟩) rfl rfl rfl rfl rfl rfl rfl rfl (by first | omega | (simp only []; omega)) ?_
            | (refine WP.box rfl rfl rfl rfl rfl rfl ?_; intro g)
            | (refine WP.al tysOk rfl rfl rfl rfl rfl rfl ?_; intro g)
            | (refine WP.bs tysOk rfl rfl rfl rfl rfl rfl rfl rfl rfl rfl rfl rfl ?_; intro g)
            | refine WP.yes rfl rfl rfl ?_
            | refine WP.no rfl rfl rfl rfl rfl ?_
            | refine WP.noU rfl rfl rfl rfl ?_
            | (refine WP.gs rfl rfl rfl rfl (fun hh => ?_) (fun hh => ?_) <;> (try simp only [decide_eq_true_eq, decide_eq_false_iff_not, Bool.not_true, Bool.not_false] at hh) <;> (try (exfalso; omega)))
            | refine WP.condT rfl rfl ?_
            | refine WP.condF rfl rfl ?_
            | (refine WP.cond_d rfl rfl (fun hh => ?_) (fun hh => ?_) <;> try (exfalso; omega))
            | refine WP.cond rfl rfl (fun hh => ?_) (fun hh => ?_)
            | refine WP.bld tysOk rfl (by first | exact True.intro | exact rfl | exact ⟨⟨rfl, rfl⟩, rfl⟩) rfl rfl rfl rfl rfl rfl rfl ?_
            | (refine WP.lal tysOk rfl ⟨rfl, rfl⟩ rfl rfl rfl rfl rfl rfl rfl ?_; intro g)
            | refine WP.lend rfl ⟨rfl, rfl⟩ ?_
            | refine WP.qend rfl ?_
            | refine WP.mn rfl (by first | exact True.intro | exact rfl | exact ⟨⟨rfl, rfl⟩, rfl⟩) rfl rfl rfl rfl rfl rfl ?_
            | refine WP.mx rfl (by first | exact True.intro | exact rfl | exact ⟨⟨rfl, rfl⟩, rfl⟩) rfl rfl rfl rfl rfl rfl ?_)
          refine WP.ret1 rfl rfl rfl (fun w hw => ⟨rfl, Ret.below_ hw (by repeat (first | exact Pick.nil | (apply Pick.cons; (· repeat' (first | exact Rem.head | apply Rem.tail)
                                                                            )))
            )⟩)
end Go.Proofs.Ytcmcbiojkanlnaa
