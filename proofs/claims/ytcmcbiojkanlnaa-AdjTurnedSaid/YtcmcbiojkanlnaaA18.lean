/- Adj: Loops; the document's Out and At; the chapter's example. -/
import Derived.Test.YtcmcbiojkanlnaaA14
import Derived.Test.YtcmcbiojkanlnaaA17
namespace Go.Proofs.Ytcmcbiojkanlnaa
open Go.RowKit Go.Qe
set_option maxHeartbeats 1000000 in
theorem rout_c {w : World} {vi : Value} {i : Inst} {n : Int} (hi : InstZ (PH.of w) vi i) (hr : i.arcs.length ≤ 17592186044416) :
    Calls Try.prog 13 #[vi, .int .i64 n] w fun e w' => ∃ v, e = .returned v ∧ True ∧ Ret w w' [.own v 3 1 (someL i n true false).length (ints (someL i n true false))] := by
  have hi' := hi
  obtain ⟨s, l, rfl, hs, hl⟩ := hi
  refine enter_ Try.func13 rfl Try.ntmps13 rfl ?_
  repeat' (first
    | (refine WP.st tysOk false rfl (by first | exact True.intro | exact rfl | exact ⟨⟨rfl, rfl⟩, rfl⟩) rfl rfl rfl rfl ?_ ?_; · (first | exact True.intro | exact ⟨by omega, by omega⟩ | exact ⟨by omega, by omega, by omega, by omega⟩ | omega))
    | (refine WP.ld tysOk rfl (by first | exact True.intro | exact rfl | exact ⟨⟨rfl, rfl⟩, rfl⟩) rfl rfl rfl rfl rfl rfl rfl ?_; apply ex2; (· first | (apply CellAt.blk; (· repeat' (first | exact Rem.head | apply Rem.tail)); (· rfl)) | (refine CellAt.fz ?_ (by assumption); repeat' (first | exact List.Mem.head _ | apply List.Mem.tail))
        ))
    | (refine WP.ldn tysOk rfl (by first | exact True.intro | exact rfl | exact ⟨⟨rfl, rfl⟩, rfl⟩) rfl rfl rfl rfl rfl rfl rfl ?_; apply ex2; (· first | (apply SegAt.blk'; (· repeat' (first | exact Rem.head | apply Rem.tail)); (· rfl)) | (refine ⟨SegAt.fz ?_ (by assumption), rfl⟩; repeat' (first | exact List.Mem.head _ | apply List.Mem.tail))
        ))
    | (refine WP.sto tysOk rfl rfl rfl rfl rfl rfl rfl rfl rfl ?_; apply ex3; (· repeat' (first | exact Rem.head | apply Rem.tail)
        ); (· first | exact Nat.le_of_ble_eq_true rfl | (simp [kints_length, arcsCells_length]; omega)
        ))
    | refine WP.ix1 tysOk rfl (by first | exact True.intro | exact rfl | exact ⟨⟨rfl, rfl⟩, rfl⟩) rfl rfl rfl rfl rfl rfl rfl rfl (by first | omega | (simp only []; omega)) ?_
    | refine WP.ix tysOk rfl (by first | exact True.intro | exact rfl | exact ⟨⟨rfl, rfl⟩, rfl⟩) rfl rfl rfl rfl rfl rfl rfl rfl (by first | omega | (simp only []; omega)) ?_
    | (refine WP.box rfl rfl rfl rfl rfl rfl ?_; intro g)
    | (refine WP.al tysOk rfl rfl rfl rfl rfl rfl ?_; intro g)
    | (refine WP.bs tysOk rfl rfl rfl rfl rfl rfl rfl rfl rfl rfl rfl rfl ?_; intro g)
    | refine WP.yes rfl rfl rfl ?_
    | refine WP.no rfl rfl rfl rfl rfl ?_
    | refine WP.noU rfl rfl rfl rfl ?_
    | (refine WP.gs rfl rfl rfl rfl (fun hh => ?_) (fun hh => ?_) <;> (try simp only [decide_eq_true_eq, decide_eq_false_iff_not, Bool.not_true, Bool.not_false] at hh) <;> (try (exfalso; omega)))
    | refine WP.condT rfl rfl ?_
    | refine WP.condF rfl rfl ?_
    | (refine WP.cond_d rfl rfl (fun hh => ?_) (fun hh => ?_) <;> try (exfalso; omega))
    | refine WP.cond rfl rfl (fun hh => ?_) (fun hh => ?_)
    | refine WP.bld tysOk rfl (by first | exact True.intro | exact rfl | exact ⟨⟨rfl, rfl⟩, rfl⟩) rfl rfl rfl rfl rfl rfl rfl ?_
    | (refine WP.lal tysOk rfl ⟨rfl, rfl⟩ rfl rfl rfl rfl rfl rfl rfl ?_; intro g)
    | refine WP.lend rfl ⟨rfl, rfl⟩ ?_
    | refine WP.qend rfl ?_
    | refine WP.mn rfl (by first | exact True.intro | exact rfl | exact ⟨⟨rfl, rfl⟩, rfl⟩) rfl rfl rfl rfl rfl rfl ?_
    | refine WP.mx rfl (by first | exact True.intro | exact rfl | exact ⟨⟨rfl, rfl⟩, rfl⟩) rfl rfl rfl rfl rfl rfl ?_)
  refine WP.callR (fun v : Value => v) (fun v => [.own v 3 1 (someL i n true false).length (ints (someL i n true false))]) (fun _ => True) rfl rfl rfl rfl rfl rfl rfl (by kernel_rfl) (fun w1 hw1 => some_c (hi'.le (hw1.le (by simp))) hr) ?_
  intro v _
  repeat' (first
    | (refine WP.st tysOk false rfl (by first | exact True.intro | exact rfl | exact ⟨⟨rfl, rfl⟩, rfl⟩) rfl rfl rfl rfl ?_ ?_; · (first | exact True.intro | exact ⟨by omega, by omega⟩ | exact ⟨by omega, by omega, by omega, by omega⟩ | omega))
    | (refine WP.ld tysOk rfl (by first | exact True.intro | exact rfl | exact ⟨⟨rfl, rfl⟩, rfl⟩) rfl rfl rfl rfl rfl rfl rfl ?_; apply ex2; (· first | (apply CellAt.blk; (· repeat' (first | exact Rem.head | apply Rem.tail)); (· rfl)) | (refine CellAt.fz ?_ (by assumption); repeat' (first | exact List.Mem.head _ | apply List.Mem.tail))
        ))
    | (refine WP.ldn tysOk rfl (by first | exact True.intro | exact rfl | exact ⟨⟨rfl, rfl⟩, rfl⟩) rfl rfl rfl rfl rfl rfl rfl ?_; apply ex2; (· first | (apply SegAt.blk'; (· repeat' (first | exact Rem.head | apply Rem.tail)); (· rfl)) | (refine ⟨SegAt.fz ?_ (by assumption), rfl⟩; repeat' (first | exact List.Mem.head _ | apply List.Mem.tail))
        ))
    | (refine WP.sto tysOk rfl rfl rfl rfl rfl rfl rfl rfl rfl ?_; apply ex3; (· repeat' (first | exact Rem.head | apply Rem.tail)
        ); (· first | exact Nat.le_of_ble_eq_true rfl | (simp [kints_length, arcsCells_length]; omega)
        ))
    | refine WP.ix1 tysOk rfl (by first | exact True.intro | exact rfl | exact ⟨⟨rfl, rfl⟩, rfl⟩) rfl rfl rfl rfl rfl rfl rfl rfl (by first | omega | (simp only []; omega)) ?_
    | refine WP.ix tysOk rfl (by first | exact True.intro | exact rfl | exact ⟨⟨rfl, rfl⟩, rfl⟩) rfl rfl rfl rfl rfl rfl rfl rfl (by first | omega | (simp only []; omega)) ?_
    | (refine WP.box rfl rfl rfl rfl rfl rfl ?_; intro g)
    | (refine WP.al tysOk rfl rfl rfl rfl rfl rfl ?_; intro g)
    | (refine WP.bs tysOk rfl rfl rfl rfl rfl rfl rfl rfl rfl rfl rfl rfl ?_; intro g)
    | refine WP.yes rfl rfl rfl ?_
    | refine WP.no rfl rfl rfl rfl rfl ?_
    | refine WP.noU rfl rfl rfl rfl ?_
    | (refine WP.gs rfl rfl rfl rfl (fun hh => ?_) (fun hh => ?_) <;> (try simp only [decide_eq_true_eq, decide_eq_false_iff_not, Bool.not_true, Bool.not_false] at hh) <;> (try (exfalso; omega)))
    | refine WP.condT rfl rfl ?_
    | refine WP.condF rfl rfl ?_
    | (refine WP.cond_d rfl rfl (fun hh => ?_) (fun hh => ?_) <;> try (exfalso; omega))
    | refine WP.cond rfl rfl (fun hh => ?_) (fun hh => ?_)
    | refine WP.bld tysOk rfl (by first | exact True.intro | exact rfl | exact ⟨⟨rfl, rfl⟩, rfl⟩) rfl rfl rfl rfl rfl rfl rfl ?_
    | (refine WP.lal tysOk rfl ⟨rfl, rfl⟩ rfl rfl rfl rfl rfl rfl rfl ?_; intro g)
    | refine WP.lend rfl ⟨rfl, rfl⟩ ?_
    | refine WP.qend rfl ?_
    | refine WP.mn rfl (by first | exact True.intro | exact rfl | exact ⟨⟨rfl, rfl⟩, rfl⟩) rfl rfl rfl rfl rfl rfl ?_
    | refine WP.mx rfl (by first | exact True.intro | exact rfl | exact ⟨⟨rfl, rfl⟩, rfl⟩) rfl rfl rfl rfl rfl rfl ?_)
  refine WP.ret1 rfl rfl rfl (fun w hw => ⟨_, rfl, True.intro, Ret.of_KH hw (by repeat (first | exact Pick.nil | (apply Pick.cons; (· repeat' (first | exact Rem.head | apply Rem.tail)
                                                                                  )))
    )⟩)
set_option maxHeartbeats 1000000 in
theorem rat_c {w : World} {vi : Value} {i : Inst} {n : Int} (hi : InstZ (PH.of w) vi i) (hr : i.arcs.length ≤ 17592186044416) :
    Calls Try.prog 15 #[vi, .int .i64 n] w fun e w' => ∃ v, e = .returned v ∧ True ∧ Ret w w' [.own v 3 1 (someL i n true true).length (ints (someL i n true true))] := by
  have hi' := hi
  obtain ⟨s, l, rfl, hs, hl⟩ := hi
  refine enter_ Try.func15 rfl Try.ntmps15 rfl ?_
  repeat' (first
    | (refine WP.st tysOk false rfl (by first | exact True.intro | exact rfl | exact ⟨⟨rfl, rfl⟩, rfl⟩) rfl rfl rfl rfl ?_ ?_; · (first | exact True.intro | exact ⟨by omega, by omega⟩ | exact ⟨by omega, by omega, by omega, by omega⟩ | omega))
    | (refine WP.ld tysOk rfl (by first | exact True.intro | exact rfl | exact ⟨⟨rfl, rfl⟩, rfl⟩) rfl rfl rfl rfl rfl rfl rfl ?_; apply ex2; (· first | (apply CellAt.blk; (· repeat' (first | exact Rem.head | apply Rem.tail)); (· rfl)) | (refine CellAt.fz ?_ (by assumption); repeat' (first | exact List.Mem.head _ | apply List.Mem.tail))
        ))
    | (refine WP.ldn tysOk rfl (by first | exact True.intro | exact rfl | exact ⟨⟨rfl, rfl⟩, rfl⟩) rfl rfl rfl rfl rfl rfl rfl ?_; apply ex2; (· first | (apply SegAt.blk'; (· repeat' (first | exact Rem.head | apply Rem.tail)); (· rfl)) | (refine ⟨SegAt.fz ?_ (by assumption), rfl⟩; repeat' (first | exact List.Mem.head _ | apply List.Mem.tail))
        ))
    | (refine WP.sto tysOk rfl rfl rfl rfl rfl rfl rfl rfl rfl ?_; apply ex3; (· repeat' (first | exact Rem.head | apply Rem.tail)
        ); (· first | exact Nat.le_of_ble_eq_true rfl | (simp [kints_length, arcsCells_length]; omega)
        ))
    | refine WP.ix1 tysOk rfl (by first | exact True.intro | exact rfl | exact ⟨⟨rfl, rfl⟩, rfl⟩) rfl rfl rfl rfl rfl rfl rfl rfl (by first | omega | (simp only []; omega)) ?_
    | refine WP.ix tysOk rfl (by first | exact True.intro | exact rfl | exact ⟨⟨rfl, rfl⟩, rfl⟩) rfl rfl rfl rfl rfl rfl rfl rfl (by first | omega | (simp only []; omega)) ?_
    | (refine WP.box rfl rfl rfl rfl rfl rfl ?_; intro g)
    | (refine WP.al tysOk rfl rfl rfl rfl rfl rfl ?_; intro g)
    | (refine WP.bs tysOk rfl rfl rfl rfl rfl rfl rfl rfl rfl rfl rfl rfl ?_; intro g)
    | refine WP.yes rfl rfl rfl ?_
    | refine WP.no rfl rfl rfl rfl rfl ?_
    | refine WP.noU rfl rfl rfl rfl ?_
    | (refine WP.gs rfl rfl rfl rfl (fun hh => ?_) (fun hh => ?_) <;> (try simp only [decide_eq_true_eq, decide_eq_false_iff_not, Bool.not_true, Bool.not_false] at hh) <;> (try (exfalso; omega)))
    | refine WP.condT rfl rfl ?_
    | refine WP.condF rfl rfl ?_
    | (refine WP.cond_d rfl rfl (fun hh => ?_) (fun hh => ?_) <;> try (exfalso; omega))
    | refine WP.cond rfl rfl (fun hh => ?_) (fun hh => ?_)
    | refine WP.bld tysOk rfl (by first | exact True.intro | exact rfl | exact ⟨⟨rfl, rfl⟩, rfl⟩) rfl rfl rfl rfl rfl rfl rfl ?_
    | (refine WP.lal tysOk rfl ⟨rfl, rfl⟩ rfl rfl rfl rfl rfl rfl rfl ?_; intro g)
    | refine WP.lend rfl ⟨rfl, rfl⟩ ?_
    | refine WP.qend rfl ?_
    | refine WP.mn rfl (by first | exact True.intro | exact rfl | exact ⟨⟨rfl, rfl⟩, rfl⟩) rfl rfl rfl rfl rfl rfl ?_
    | refine WP.mx rfl (by first | exact True.intro | exact rfl | exact ⟨⟨rfl, rfl⟩, rfl⟩) rfl rfl rfl rfl rfl rfl ?_)
  refine WP.callR (fun v : Value => v) (fun v => [.own v 3 1 (someL i n true true).length (ints (someL i n true true))]) (fun _ => True) rfl rfl rfl rfl rfl rfl rfl (by kernel_rfl) (fun w1 hw1 => some_c (hi'.le (hw1.le (by simp))) hr) ?_
  intro v _
  repeat' (first
    | (refine WP.st tysOk false rfl (by first | exact True.intro | exact rfl | exact ⟨⟨rfl, rfl⟩, rfl⟩) rfl rfl rfl rfl ?_ ?_; · (first | exact True.intro | exact ⟨by omega, by omega⟩ | exact ⟨by omega, by omega, by omega, by omega⟩ | omega))
    | (refine WP.ld tysOk rfl (by first | exact True.intro | exact rfl | exact ⟨⟨rfl, rfl⟩, rfl⟩) rfl rfl rfl rfl rfl rfl rfl ?_; apply ex2; (· first | (apply CellAt.blk; (· repeat' (first | exact Rem.head | apply Rem.tail)); (· rfl)) | (refine CellAt.fz ?_ (by assumption); repeat' (first | exact List.Mem.head _ | apply List.Mem.tail))
        ))
    | (refine WP.ldn tysOk rfl (by first | exact True.intro | exact rfl | exact ⟨⟨rfl, rfl⟩, rfl⟩) rfl rfl rfl rfl rfl rfl rfl ?_; apply ex2; (· first | (apply SegAt.blk'; (· repeat' (first | exact Rem.head | apply Rem.tail)); (· rfl)) | (refine ⟨SegAt.fz ?_ (by assumption), rfl⟩; repeat' (first | exact List.Mem.head _ | apply List.Mem.tail))
        ))
    | (refine WP.sto tysOk rfl rfl rfl rfl rfl rfl rfl rfl rfl ?_; apply ex3; (· repeat' (first | exact Rem.head | apply Rem.tail)
        ); (· first | exact Nat.le_of_ble_eq_true rfl | (simp [kints_length, arcsCells_length]; omega)
        ))
    | refine WP.ix1 tysOk rfl (by first | exact True.intro | exact rfl | exact ⟨⟨rfl, rfl⟩, rfl⟩) rfl rfl rfl rfl rfl rfl rfl rfl (by first | omega | (simp only []; omega)) ?_
    | refine WP.ix tysOk rfl (by first | exact True.intro | exact rfl | exact ⟨⟨rfl, rfl⟩, rfl⟩) rfl rfl rfl rfl rfl rfl rfl rfl (by first | omega | (simp only []; omega)) ?_
    | (refine WP.box rfl rfl rfl rfl rfl rfl ?_; intro g)
    | (refine WP.al tysOk rfl rfl rfl rfl rfl rfl ?_; intro g)
    | (refine WP.bs tysOk rfl rfl rfl rfl rfl rfl rfl rfl rfl rfl rfl rfl ?_; intro g)
    | refine WP.yes rfl rfl rfl ?_
    | refine WP.no rfl rfl rfl rfl rfl ?_
    | refine WP.noU rfl rfl rfl rfl ?_
    | (refine WP.gs rfl rfl rfl rfl (fun hh => ?_) (fun hh => ?_) <;> (try simp only [decide_eq_true_eq, decide_eq_false_iff_not, Bool.not_true, Bool.not_false] at hh) <;> (try (exfalso; omega)))
    | refine WP.condT rfl rfl ?_
    | refine WP.condF rfl rfl ?_
    | (refine WP.cond_d rfl rfl (fun hh => ?_) (fun hh => ?_) <;> try (exfalso; omega))
    | refine WP.cond rfl rfl (fun hh => ?_) (fun hh => ?_)
    | refine WP.bld tysOk rfl (by first | exact True.intro | exact rfl | exact ⟨⟨rfl, rfl⟩, rfl⟩) rfl rfl rfl rfl rfl rfl rfl ?_
    | (refine WP.lal tysOk rfl ⟨rfl, rfl⟩ rfl rfl rfl rfl rfl rfl rfl ?_; intro g)
    | refine WP.lend rfl ⟨rfl, rfl⟩ ?_
    | refine WP.qend rfl ?_
    | refine WP.mn rfl (by first | exact True.intro | exact rfl | exact ⟨⟨rfl, rfl⟩, rfl⟩) rfl rfl rfl rfl rfl rfl ?_
    | refine WP.mx rfl (by first | exact True.intro | exact rfl | exact ⟨⟨rfl, rfl⟩, rfl⟩) rfl rfl rfl rfl rfl rfl ?_)
  refine WP.ret1 rfl rfl rfl (fun w hw => ⟨_, rfl, True.intro, Ret.of_KH hw (by repeat (first | exact Pick.nil | (apply Pick.cons; (· repeat' (first | exact Rem.head | apply Rem.tail)
                                                                                  )))
    )⟩)
def loopsOf (i : Inst) (n : Int) : Int := (someL i n true false).length + (someL i n false true).length - (someL i n true true).length
set_option maxHeartbeats 1000000 in
theorem loops_c {w : World} {vg : Value} {i : Inst} {n : Int} (hg : GraphZ (PH.of w) vg i) (hb : i.arcs.length ≤ 3518437208883) :
    Calls Try.prog 19 #[vg, .int .i64 n] w fun e w' => e = .returned (.int .i64 (loopsOf i n)) ∧ Below w.heap.size w w' := by
  unfold loopsOf
  have l1 := someL_len i n true false
  have l2 := someL_len i n false true
  have l3 := someL_len i n true true
  refine enter_ Try.func19 rfl Try.ntmps19 rfl ?_
  repeat' (first
    | (refine WP.st tysOk false rfl (by first | exact True.intro | exact rfl | exact ⟨⟨rfl, rfl⟩, rfl⟩) rfl rfl rfl rfl ?_ ?_; · (first | exact True.intro | exact ⟨by omega, by omega⟩ | exact ⟨by omega, by omega, by omega, by omega⟩ | omega))
    | (refine WP.ld tysOk rfl (by first | exact True.intro | exact rfl | exact ⟨⟨rfl, rfl⟩, rfl⟩) rfl rfl rfl rfl rfl rfl rfl ?_; apply ex2; (· first | (apply CellAt.blk; (· repeat' (first | exact Rem.head | apply Rem.tail)); (· rfl)) | (refine CellAt.fz ?_ (by assumption); repeat' (first | exact List.Mem.head _ | apply List.Mem.tail))
        ))
    | (refine WP.ldn tysOk rfl (by first | exact True.intro | exact rfl | exact ⟨⟨rfl, rfl⟩, rfl⟩) rfl rfl rfl rfl rfl rfl rfl ?_; apply ex2; (· first | (apply SegAt.blk'; (· repeat' (first | exact Rem.head | apply Rem.tail)); (· rfl)) | (refine ⟨SegAt.fz ?_ (by assumption), rfl⟩; repeat' (first | exact List.Mem.head _ | apply List.Mem.tail))
        ))
    | (refine WP.sto tysOk rfl rfl rfl rfl rfl rfl rfl rfl rfl ?_; apply ex3; (· repeat' (first | exact Rem.head | apply Rem.tail)
        ); (· first | exact Nat.le_of_ble_eq_true rfl | (simp [kints_length, arcsCells_length]; omega)
        ))
    | refine WP.ix1 tysOk rfl (by first | exact True.intro | exact rfl | exact ⟨⟨rfl, rfl⟩, rfl⟩) rfl rfl rfl rfl rfl rfl rfl rfl (by first | omega | (simp only []; omega)) ?_
    | refine WP.ix tysOk rfl (by first | exact True.intro | exact rfl | exact ⟨⟨rfl, rfl⟩, rfl⟩) rfl rfl rfl rfl rfl rfl rfl rfl (by first | omega | (simp only []; omega)) ?_
    | (refine WP.box rfl rfl rfl rfl rfl rfl ?_; intro g)
    | (refine WP.al tysOk rfl rfl rfl rfl rfl rfl ?_; intro g)
    | (refine WP.bs tysOk rfl rfl rfl rfl rfl rfl rfl rfl rfl rfl rfl rfl ?_; intro g)
    | refine WP.yes rfl rfl rfl ?_
    | refine WP.no rfl rfl rfl rfl rfl ?_
    | refine WP.noU rfl rfl rfl rfl ?_
    | (refine WP.gs rfl rfl rfl rfl (fun hh => ?_) (fun hh => ?_) <;> (try simp only [decide_eq_true_eq, decide_eq_false_iff_not, Bool.not_true, Bool.not_false] at hh) <;> (try (exfalso; omega)))
    | refine WP.condT rfl rfl ?_
    | refine WP.condF rfl rfl ?_
    | (refine WP.cond_d rfl rfl (fun hh => ?_) (fun hh => ?_) <;> try (exfalso; omega))
    | refine WP.cond rfl rfl (fun hh => ?_) (fun hh => ?_)
    | refine WP.bld tysOk rfl (by first | exact True.intro | exact rfl | exact ⟨⟨rfl, rfl⟩, rfl⟩) rfl rfl rfl rfl rfl rfl rfl ?_
    | (refine WP.lal tysOk rfl ⟨rfl, rfl⟩ rfl rfl rfl rfl rfl rfl rfl ?_; intro g)
    | refine WP.lend rfl ⟨rfl, rfl⟩ ?_
    | refine WP.qend rfl ?_
    | refine WP.mn rfl (by first | exact True.intro | exact rfl | exact ⟨⟨rfl, rfl⟩, rfl⟩) rfl rfl rfl rfl rfl rfl ?_
    | refine WP.mx rfl (by first | exact True.intro | exact rfl | exact ⟨⟨rfl, rfl⟩, rfl⟩) rfl rfl rfl rfl rfl rfl ?_)
  refine WP.callR (fun v : Value => v) (fun v => [.own v 3 1 (someL i n true false).length (ints (someL i n true false))]) (fun _ => True) rfl rfl rfl rfl rfl rfl rfl (by kernel_rfl) (fun w1 hw1 => out_c (hg.le (hw1.le (by simp))) (by omega)) ?_
  intro v1 _
  refine WP.shape .head ?_
  rintro A1 c1 rfl
  repeat' (first
    | (refine WP.st tysOk false rfl (by first | exact True.intro | exact rfl | exact ⟨⟨rfl, rfl⟩, rfl⟩) rfl rfl rfl rfl ?_ ?_; · (first | exact True.intro | exact ⟨by omega, by omega⟩ | exact ⟨by omega, by omega, by omega, by omega⟩ | omega))
    | (refine WP.ld tysOk rfl (by first | exact True.intro | exact rfl | exact ⟨⟨rfl, rfl⟩, rfl⟩) rfl rfl rfl rfl rfl rfl rfl ?_; apply ex2; (· first | (apply CellAt.blk; (· repeat' (first | exact Rem.head | apply Rem.tail)); (· rfl)) | (refine CellAt.fz ?_ (by assumption); repeat' (first | exact List.Mem.head _ | apply List.Mem.tail))
        ))
    | (refine WP.ldn tysOk rfl (by first | exact True.intro | exact rfl | exact ⟨⟨rfl, rfl⟩, rfl⟩) rfl rfl rfl rfl rfl rfl rfl ?_; apply ex2; (· first | (apply SegAt.blk'; (· repeat' (first | exact Rem.head | apply Rem.tail)); (· rfl)) | (refine ⟨SegAt.fz ?_ (by assumption), rfl⟩; repeat' (first | exact List.Mem.head _ | apply List.Mem.tail))
        ))
    | (refine WP.sto tysOk rfl rfl rfl rfl rfl rfl rfl rfl rfl ?_; apply ex3; (· repeat' (first | exact Rem.head | apply Rem.tail)
        ); (· first | exact Nat.le_of_ble_eq_true rfl | (simp [kints_length, arcsCells_length]; omega)
        ))
    | refine WP.ix1 tysOk rfl (by first | exact True.intro | exact rfl | exact ⟨⟨rfl, rfl⟩, rfl⟩) rfl rfl rfl rfl rfl rfl rfl rfl (by first | omega | (simp only []; omega)) ?_
    | refine WP.ix tysOk rfl (by first | exact True.intro | exact rfl | exact ⟨⟨rfl, rfl⟩, rfl⟩) rfl rfl rfl rfl rfl rfl rfl rfl (by first | omega | (simp only []; omega)) ?_
    | (refine WP.box rfl rfl rfl rfl rfl rfl ?_; intro g)
    | (refine WP.al tysOk rfl rfl rfl rfl rfl rfl ?_; intro g)
    | (refine WP.bs tysOk rfl rfl rfl rfl rfl rfl rfl rfl rfl rfl rfl rfl ?_; intro g)
    | refine WP.yes rfl rfl rfl ?_
    | refine WP.no rfl rfl rfl rfl rfl ?_
    | refine WP.noU rfl rfl rfl rfl ?_
    | (refine WP.gs rfl rfl rfl rfl (fun hh => ?_) (fun hh => ?_) <;> (try simp only [decide_eq_true_eq, decide_eq_false_iff_not, Bool.not_true, Bool.not_false] at hh) <;> (try (exfalso; omega)))
    | refine WP.condT rfl rfl ?_
    | refine WP.condF rfl rfl ?_
    | (refine WP.cond_d rfl rfl (fun hh => ?_) (fun hh => ?_) <;> try (exfalso; omega))
    | refine WP.cond rfl rfl (fun hh => ?_) (fun hh => ?_)
    | refine WP.bld tysOk rfl (by first | exact True.intro | exact rfl | exact ⟨⟨rfl, rfl⟩, rfl⟩) rfl rfl rfl rfl rfl rfl rfl ?_
    | (refine WP.lal tysOk rfl ⟨rfl, rfl⟩ rfl rfl rfl rfl rfl rfl rfl ?_; intro g)
    | refine WP.lend rfl ⟨rfl, rfl⟩ ?_
    | refine WP.qend rfl ?_
    | refine WP.mn rfl (by first | exact True.intro | exact rfl | exact ⟨⟨rfl, rfl⟩, rfl⟩) rfl rfl rfl rfl rfl rfl ?_
    | refine WP.mx rfl (by first | exact True.intro | exact rfl | exact ⟨⟨rfl, rfl⟩, rfl⟩) rfl rfl rfl rfl rfl rfl ?_)
  refine WP.callR (fun v : Value => v) (fun v => [.own v 3 1 (someL i n false true).length (ints (someL i n false true))]) (fun _ => True) rfl rfl rfl rfl rfl rfl rfl (by kernel_rfl) (fun w1 hw1 => in_c (hg.le (hw1.le (by simp))) (by omega)) ?_
  intro v2 _
  refine WP.shape .head ?_
  rintro A2 c2 rfl
  repeat' (first
    | (refine WP.st tysOk false rfl (by first | exact True.intro | exact rfl | exact ⟨⟨rfl, rfl⟩, rfl⟩) rfl rfl rfl rfl ?_ ?_; · (first | exact True.intro | exact ⟨by omega, by omega⟩ | exact ⟨by omega, by omega, by omega, by omega⟩ | omega))
    | (refine WP.ld tysOk rfl (by first | exact True.intro | exact rfl | exact ⟨⟨rfl, rfl⟩, rfl⟩) rfl rfl rfl rfl rfl rfl rfl ?_; apply ex2; (· first | (apply CellAt.blk; (· repeat' (first | exact Rem.head | apply Rem.tail)); (· rfl)) | (refine CellAt.fz ?_ (by assumption); repeat' (first | exact List.Mem.head _ | apply List.Mem.tail))
        ))
    | (refine WP.ldn tysOk rfl (by first | exact True.intro | exact rfl | exact ⟨⟨rfl, rfl⟩, rfl⟩) rfl rfl rfl rfl rfl rfl rfl ?_; apply ex2; (· first | (apply SegAt.blk'; (· repeat' (first | exact Rem.head | apply Rem.tail)); (· rfl)) | (refine ⟨SegAt.fz ?_ (by assumption), rfl⟩; repeat' (first | exact List.Mem.head _ | apply List.Mem.tail))
        ))
    | (refine WP.sto tysOk rfl rfl rfl rfl rfl rfl rfl rfl rfl ?_; apply ex3; (· repeat' (first | exact Rem.head | apply Rem.tail)
        ); (· first | exact Nat.le_of_ble_eq_true rfl | (simp [kints_length, arcsCells_length]; omega)
        ))
    | refine WP.ix1 tysOk rfl (by first | exact True.intro | exact rfl | exact ⟨⟨rfl, rfl⟩, rfl⟩) rfl rfl rfl rfl rfl rfl rfl rfl (by first | omega | (simp only []; omega)) ?_
    | refine WP.ix tysOk rfl (by first | exact True.intro | exact rfl | exact ⟨⟨rfl, rfl⟩, rfl⟩) rfl rfl rfl rfl rfl rfl rfl rfl (by first | omega | (simp only []; omega)) ?_
    | (refine WP.box rfl rfl rfl rfl rfl rfl ?_; intro g)
    | (refine WP.al tysOk rfl rfl rfl rfl rfl rfl ?_; intro g)
    | (refine WP.bs tysOk rfl rfl rfl rfl rfl rfl rfl rfl rfl rfl rfl rfl ?_; intro g)
    | refine WP.yes rfl rfl rfl ?_
    | refine WP.no rfl rfl rfl rfl rfl ?_
    | refine WP.noU rfl rfl rfl rfl ?_
    | (refine WP.gs rfl rfl rfl rfl (fun hh => ?_) (fun hh => ?_) <;> (try simp only [decide_eq_true_eq, decide_eq_false_iff_not, Bool.not_true, Bool.not_false] at hh) <;> (try (exfalso; omega)))
    | refine WP.condT rfl rfl ?_
    | refine WP.condF rfl rfl ?_
    | (refine WP.cond_d rfl rfl (fun hh => ?_) (fun hh => ?_) <;> try (exfalso; omega))
    | refine WP.cond rfl rfl (fun hh => ?_) (fun hh => ?_)
    | refine WP.bld tysOk rfl (by first | exact True.intro | exact rfl | exact ⟨⟨rfl, rfl⟩, rfl⟩) rfl rfl rfl rfl rfl rfl rfl ?_
    | (refine WP.lal tysOk rfl ⟨rfl, rfl⟩ rfl rfl rfl rfl rfl rfl rfl ?_; intro g)
    | refine WP.lend rfl ⟨rfl, rfl⟩ ?_
    | refine WP.qend rfl ?_
    | refine WP.mn rfl (by first | exact True.intro | exact rfl | exact ⟨⟨rfl, rfl⟩, rfl⟩) rfl rfl rfl rfl rfl rfl ?_
    | refine WP.mx rfl (by first | exact True.intro | exact rfl | exact ⟨⟨rfl, rfl⟩, rfl⟩) rfl rfl rfl rfl rfl rfl ?_)
  refine WP.callR (fun v : Value => v) (fun v => [.own v 3 1 (someL i n true true).length (ints (someL i n true true))]) (fun _ => True) rfl rfl rfl rfl rfl rfl rfl (by kernel_rfl) (fun w1 hw1 => at_c (hg.le (hw1.le (by simp))) hb) ?_
  intro v3 _
  refine WP.shape .head ?_
  rintro A3 c3 rfl
  repeat' (first
    | (refine WP.st tysOk false rfl (by first | exact True.intro | exact rfl | exact ⟨⟨rfl, rfl⟩, rfl⟩) rfl rfl rfl rfl ?_ ?_; · (first | exact True.intro | exact ⟨by omega, by omega⟩ | exact ⟨by omega, by omega, by omega, by omega⟩ | omega))
    | (refine WP.ld tysOk rfl (by first | exact True.intro | exact rfl | exact ⟨⟨rfl, rfl⟩, rfl⟩) rfl rfl rfl rfl rfl rfl rfl ?_; apply ex2; (· first | (apply CellAt.blk; (· repeat' (first | exact Rem.head | apply Rem.tail)); (· rfl)) | (refine CellAt.fz ?_ (by assumption); repeat' (first | exact List.Mem.head _ | apply List.Mem.tail))
        ))
    | (refine WP.ldn tysOk rfl (by first | exact True.intro | exact rfl | exact ⟨⟨rfl, rfl⟩, rfl⟩) rfl rfl rfl rfl rfl rfl rfl ?_; apply ex2; (· first | (apply SegAt.blk'; (· repeat' (first | exact Rem.head | apply Rem.tail)); (· rfl)) | (refine ⟨SegAt.fz ?_ (by assumption), rfl⟩; repeat' (first | exact List.Mem.head _ | apply List.Mem.tail))
        ))
    | (refine WP.sto tysOk rfl rfl rfl rfl rfl rfl rfl rfl rfl ?_; apply ex3; (· repeat' (first | exact Rem.head | apply Rem.tail)
        ); (· first | exact Nat.le_of_ble_eq_true rfl | (simp [kints_length, arcsCells_length]; omega)
        ))
    | refine WP.ix1 tysOk rfl (by first | exact True.intro | exact rfl | exact ⟨⟨rfl, rfl⟩, rfl⟩) rfl rfl rfl rfl rfl rfl rfl rfl (by first | omega | (simp only []; omega)) ?_
    | refine WP.ix tysOk rfl (by first | exact True.intro | exact rfl | exact ⟨⟨rfl, rfl⟩, rfl⟩) rfl rfl rfl rfl rfl rfl rfl rfl (by first | omega | (simp only []; omega)) ?_
    | (refine WP.box rfl rfl rfl rfl rfl rfl ?_; intro g)
    | (refine WP.al tysOk rfl rfl rfl rfl rfl rfl ?_; intro g)
    | (refine WP.bs tysOk rfl rfl rfl rfl rfl rfl rfl rfl rfl rfl rfl rfl ?_; intro g)
    | refine WP.yes rfl rfl rfl ?_
    | refine WP.no rfl rfl rfl rfl rfl ?_
    | refine WP.noU rfl rfl rfl rfl ?_
    | (refine WP.gs rfl rfl rfl rfl (fun hh => ?_) (fun hh => ?_) <;> (try simp only [decide_eq_true_eq, decide_eq_false_iff_not, Bool.not_true, Bool.not_false] at hh) <;> (try (exfalso; omega)))
    | refine WP.condT rfl rfl ?_
    | refine WP.condF rfl rfl ?_
    | (refine WP.cond_d rfl rfl (fun hh => ?_) (fun hh => ?_) <;> try (exfalso; omega))
    | refine WP.cond rfl rfl (fun hh => ?_) (fun hh => ?_)
    | refine WP.bld tysOk rfl (by first | exact True.intro | exact rfl | exact ⟨⟨rfl, rfl⟩, rfl⟩) rfl rfl rfl rfl rfl rfl rfl ?_
    | (refine WP.lal tysOk rfl ⟨rfl, rfl⟩ rfl rfl rfl rfl rfl rfl rfl ?_; intro g)
    | refine WP.lend rfl ⟨rfl, rfl⟩ ?_
    | refine WP.qend rfl ?_
    | refine WP.mn rfl (by first | exact True.intro | exact rfl | exact ⟨⟨rfl, rfl⟩, rfl⟩) rfl rfl rfl rfl rfl rfl ?_
    | refine WP.mx rfl (by first | exact True.intro | exact rfl | exact ⟨⟨rfl, rfl⟩, rfl⟩) rfl rfl rfl rfl rfl rfl ?_)
  refine WP.ret1 rfl rfl rfl (fun w hw => ⟨rfl, Ret.below_ hw (by repeat (first | exact Pick.nil | (apply Pick.cons; (· repeat' (first | exact Rem.head | apply Rem.tail)
                                                                    )))
    )⟩)
/-- the example -/
def ex0 : Inst := ⟨[0, 0], [⟨0, 1, 0, 0, 0⟩]⟩
theorem ints_t {w : World} {va vb : Value} {xs : List Int} (ha : IntsZ (PH.of w) va xs) (hb : IntsZ (PH.of w) vb xs) :
    Calls Try.prog 12 #[va, vb] w fun e w' => e = .returned (.bool true) ∧ Below w.heap.size w w' :=
  (ints_c ha hb).mono fun e w' h => ⟨by rw [h.1, decide_eq_true rfl], h.2⟩
theorem ex0_out : someL ex0 0 true false = [0] := by decide
theorem ex0_in : someL ex0 1 false true = [0] := by decide
theorem ex0_at : someL ex0 1 true true = [0] := by decide
theorem ex0_o1 : otherOf ex0 0 1 = 0 := by decide
theorem ex0_o5 : otherOf ex0 0 5 = -1 := by decide
set_option maxHeartbeats 2000000 in
theorem known_c {w : World} : Calls Try.prog 11 #[] w fun e w' => e = .returned (.bool true) ∧ Below w.heap.size w w' := by
  refine enter_ Try.func11 rfl Try.ntmps11 rfl ?_
  repeat' (first
    | (refine WP.st tysOk false rfl (by first | exact True.intro | exact rfl | exact ⟨⟨rfl, rfl⟩, rfl⟩) rfl rfl rfl rfl ?_ ?_; · (first | exact True.intro | exact ⟨by omega, by omega⟩ | exact ⟨by omega, by omega, by omega, by omega⟩ | omega))
    | (refine WP.ld tysOk rfl (by first | exact True.intro | exact rfl | exact ⟨⟨rfl, rfl⟩, rfl⟩) rfl rfl rfl rfl rfl rfl rfl ?_; apply ex2; (· first | (apply CellAt.blk; (· repeat' (first | exact Rem.head | apply Rem.tail)); (· rfl)) | (refine CellAt.fz ?_ (by assumption); repeat' (first | exact List.Mem.head _ | apply List.Mem.tail))
        ))
    | (refine WP.ldn tysOk rfl (by first | exact True.intro | exact rfl | exact ⟨⟨rfl, rfl⟩, rfl⟩) rfl rfl rfl rfl rfl rfl rfl ?_; apply ex2; (· first | (apply SegAt.blk'; (· repeat' (first | exact Rem.head | apply Rem.tail)); (· rfl)) | (refine ⟨SegAt.fz ?_ (by assumption), rfl⟩; repeat' (first | exact List.Mem.head _ | apply List.Mem.tail))
        ))
    | (refine WP.sto tysOk rfl rfl rfl rfl rfl rfl rfl rfl rfl ?_; apply ex3; (· repeat' (first | exact Rem.head | apply Rem.tail)
        ); (· first | exact Nat.le_of_ble_eq_true rfl | (simp [kints_length, arcsCells_length]; omega)
        ))
    | refine WP.ix1 tysOk rfl (by first | exact True.intro | exact rfl | exact ⟨⟨rfl, rfl⟩, rfl⟩) rfl rfl rfl rfl rfl rfl rfl rfl (by first | omega | (simp only []; omega)) ?_
    | refine WP.ix tysOk rfl (by first | exact True.intro | exact rfl | exact ⟨⟨rfl, rfl⟩, rfl⟩) rfl rfl rfl rfl rfl rfl rfl rfl (by first | omega | (simp only []; omega)) ?_
    | (refine WP.box rfl rfl rfl rfl rfl rfl ?_; intro g)
    | (refine WP.al tysOk rfl rfl rfl rfl rfl rfl ?_; intro g)
    | (refine WP.bs tysOk rfl rfl rfl rfl rfl rfl rfl rfl rfl rfl rfl rfl ?_; intro g)
    | refine WP.yes rfl rfl rfl ?_
    | refine WP.no rfl rfl rfl rfl rfl ?_
    | refine WP.noU rfl rfl rfl rfl ?_
    | (refine WP.gs rfl rfl rfl rfl (fun hh => ?_) (fun hh => ?_) <;> (try simp only [decide_eq_true_eq, decide_eq_false_iff_not, Bool.not_true, Bool.not_false] at hh) <;> (try (exfalso; omega)))
    | refine WP.condT rfl rfl ?_
    | refine WP.condF rfl rfl ?_
    | (refine WP.cond_d rfl rfl (fun hh => ?_) (fun hh => ?_) <;> try (exfalso; omega))
    | refine WP.cond rfl rfl (fun hh => ?_) (fun hh => ?_)
    | refine WP.bld tysOk rfl (by first | exact True.intro | exact rfl | exact ⟨⟨rfl, rfl⟩, rfl⟩) rfl rfl rfl rfl rfl rfl rfl ?_
    | (refine WP.lal tysOk rfl ⟨rfl, rfl⟩ rfl rfl rfl rfl rfl rfl rfl ?_; intro g)
    | refine WP.lend rfl ⟨rfl, rfl⟩ ?_
    | refine WP.qend rfl ?_
    | refine WP.mn rfl (by first | exact True.intro | exact rfl | exact ⟨⟨rfl, rfl⟩, rfl⟩) rfl rfl rfl rfl rfl rfl ?_
    | refine WP.mx rfl (by first | exact True.intro | exact rfl | exact ⟨⟨rfl, rfl⟩, rfl⟩) rfl rfl rfl rfl rfl rfl ?_)
  refine WP.callR (fun x : Value × PH => x.1) (fun x => [.fz x.2]) (fun x => GraphZ x.2 x.1 ex0) rfl rfl rfl rfl rfl rfl rfl (by kernel_rfl)
    (fun w1 hw1 => new_c (i := ex0) ⟨_, _, rfl, hw1.kblk0 (xs := [0, 0]) (.tail .head) (by simp) (by omega), hw1.arcsblk (l := [⟨0, 1, 0, 0, 0⟩]) (sl := []) (c := 1) .head (by simp) (by omega)⟩ (by simp [ex0]) (by simp [ex0])) ?_
  rintro ⟨vg, Z⟩ hg
  dsimp only at hg ⊢
  have hvg : ∃ g, vg = .pointer (some ⟨g, 0, none⟩) := by obtain ⟨g, _, _, _, _, _, _, h, _⟩ := hg; exact ⟨g, h⟩
  obtain ⟨gg, rfl⟩ := hvg
  have h1 := fun (w : World) (h : Z.le (PH.of w)) => out_c (n := 0) (hg.le h) (by simp [ex0])
  have h2 := fun (w : World) (h : Z.le (PH.of w)) => in_c (n := 1) (hg.le h) (by simp [ex0])
  have h3 := fun (w : World) (h : Z.le (PH.of w)) => at_c (n := 1) (hg.le h) (by simp [ex0])
  have h4 := fun (w : World) (h : Z.le (PH.of w)) => other_c (a := 0) (n := 1) (hg.le h)
  have h5 := fun (w : World) (h : Z.le (PH.of w)) => other_c (a := 0) (n := 5) (hg.le h)
  rw [ex0_out] at h1
  rw [ex0_in] at h2
  rw [ex0_at] at h3
  rw [ex0_o1] at h4
  rw [ex0_o5] at h5
  repeat' (first
    | (refine WP.st tysOk false rfl (by first | exact True.intro | exact rfl | exact ⟨⟨rfl, rfl⟩, rfl⟩) rfl rfl rfl rfl ?_ ?_; · (first | exact True.intro | exact ⟨by omega, by omega⟩ | exact ⟨by omega, by omega, by omega, by omega⟩ | omega))
    | (refine WP.ld tysOk rfl (by first | exact True.intro | exact rfl | exact ⟨⟨rfl, rfl⟩, rfl⟩) rfl rfl rfl rfl rfl rfl rfl ?_; apply ex2; (· first | (apply CellAt.blk; (· repeat' (first | exact Rem.head | apply Rem.tail)); (· rfl)) | (refine CellAt.fz ?_ (by assumption); repeat' (first | exact List.Mem.head _ | apply List.Mem.tail))
        ))
    | (refine WP.ldn tysOk rfl (by first | exact True.intro | exact rfl | exact ⟨⟨rfl, rfl⟩, rfl⟩) rfl rfl rfl rfl rfl rfl rfl ?_; apply ex2; (· first | (apply SegAt.blk'; (· repeat' (first | exact Rem.head | apply Rem.tail)); (· rfl)) | (refine ⟨SegAt.fz ?_ (by assumption), rfl⟩; repeat' (first | exact List.Mem.head _ | apply List.Mem.tail))
        ))
    | (refine WP.sto tysOk rfl rfl rfl rfl rfl rfl rfl rfl rfl ?_; apply ex3; (· repeat' (first | exact Rem.head | apply Rem.tail)
        ); (· first | exact Nat.le_of_ble_eq_true rfl | (simp [kints_length, arcsCells_length]; omega)
        ))
    | refine WP.ix1 tysOk rfl (by first | exact True.intro | exact rfl | exact ⟨⟨rfl, rfl⟩, rfl⟩) rfl rfl rfl rfl rfl rfl rfl rfl (by first | omega | (simp only []; omega)) ?_
    | refine WP.ix tysOk rfl (by first | exact True.intro | exact rfl | exact ⟨⟨rfl, rfl⟩, rfl⟩) rfl rfl rfl rfl rfl rfl rfl rfl (by first | omega | (simp only []; omega)) ?_
    | (refine WP.box rfl rfl rfl rfl rfl rfl ?_; intro g)
    | (refine WP.al tysOk rfl rfl rfl rfl rfl rfl ?_; intro g)
    | (refine WP.bs tysOk rfl rfl rfl rfl rfl rfl rfl rfl rfl rfl rfl rfl ?_; intro g)
    | refine WP.yes rfl rfl rfl ?_
    | refine WP.no rfl rfl rfl rfl rfl ?_
    | refine WP.noU rfl rfl rfl rfl ?_
    | (refine WP.gs rfl rfl rfl rfl (fun hh => ?_) (fun hh => ?_) <;> (try simp only [decide_eq_true_eq, decide_eq_false_iff_not, Bool.not_true, Bool.not_false] at hh) <;> (try (exfalso; omega)))
    | refine WP.condT rfl rfl ?_
    | refine WP.condF rfl rfl ?_
    | (refine WP.cond_d rfl rfl (fun hh => ?_) (fun hh => ?_) <;> try (exfalso; omega))
    | refine WP.cond rfl rfl (fun hh => ?_) (fun hh => ?_)
    | refine WP.bld tysOk rfl (by first | exact True.intro | exact rfl | exact ⟨⟨rfl, rfl⟩, rfl⟩) rfl rfl rfl rfl rfl rfl rfl ?_
    | (refine WP.lal tysOk rfl ⟨rfl, rfl⟩ rfl rfl rfl rfl rfl rfl rfl ?_; intro g)
    | refine WP.lend rfl ⟨rfl, rfl⟩ ?_
    | refine WP.qend rfl ?_
    | refine WP.mn rfl (by first | exact True.intro | exact rfl | exact ⟨⟨rfl, rfl⟩, rfl⟩) rfl rfl rfl rfl rfl rfl ?_
    | refine WP.mx rfl (by first | exact True.intro | exact rfl | exact ⟨⟨rfl, rfl⟩, rfl⟩) rfl rfl rfl rfl rfl rfl ?_)
  refine WP.callV rfl rfl rfl rfl rfl rfl rfl (by kernel_rfl) (fun w1 hw1 => nodes_c (hg.le (hw1.le (by simp)))) (by first | exact True.intro | exact rfl | exact ⟨⟨rfl, rfl⟩, rfl⟩) ?_
  repeat' (first
    | (refine WP.st tysOk false rfl (by first | exact True.intro | exact rfl | exact ⟨⟨rfl, rfl⟩, rfl⟩) rfl rfl rfl rfl ?_ ?_; · (first | exact True.intro | exact ⟨by omega, by omega⟩ | exact ⟨by omega, by omega, by omega, by omega⟩ | omega))
    | (refine WP.ld tysOk rfl (by first | exact True.intro | exact rfl | exact ⟨⟨rfl, rfl⟩, rfl⟩) rfl rfl rfl rfl rfl rfl rfl ?_; apply ex2; (· first | (apply CellAt.blk; (· repeat' (first | exact Rem.head | apply Rem.tail)); (· rfl)) | (refine CellAt.fz ?_ (by assumption); repeat' (first | exact List.Mem.head _ | apply List.Mem.tail))
        ))
    | (refine WP.ldn tysOk rfl (by first | exact True.intro | exact rfl | exact ⟨⟨rfl, rfl⟩, rfl⟩) rfl rfl rfl rfl rfl rfl rfl ?_; apply ex2; (· first | (apply SegAt.blk'; (· repeat' (first | exact Rem.head | apply Rem.tail)); (· rfl)) | (refine ⟨SegAt.fz ?_ (by assumption), rfl⟩; repeat' (first | exact List.Mem.head _ | apply List.Mem.tail))
        ))
    | (refine WP.sto tysOk rfl rfl rfl rfl rfl rfl rfl rfl rfl ?_; apply ex3; (· repeat' (first | exact Rem.head | apply Rem.tail)
        ); (· first | exact Nat.le_of_ble_eq_true rfl | (simp [kints_length, arcsCells_length]; omega)
        ))
    | refine WP.ix1 tysOk rfl (by first | exact True.intro | exact rfl | exact ⟨⟨rfl, rfl⟩, rfl⟩) rfl rfl rfl rfl rfl rfl rfl rfl (by first | omega | (simp only []; omega)) ?_
    | refine WP.ix tysOk rfl (by first | exact True.intro | exact rfl | exact ⟨⟨rfl, rfl⟩, rfl⟩) rfl rfl rfl rfl rfl rfl rfl rfl (by first | omega | (simp only []; omega)) ?_
    | (refine WP.box rfl rfl rfl rfl rfl rfl ?_; intro g)
    | (refine WP.al tysOk rfl rfl rfl rfl rfl rfl ?_; intro g)
    | (refine WP.bs tysOk rfl rfl rfl rfl rfl rfl rfl rfl rfl rfl rfl rfl ?_; intro g)
    | refine WP.yes rfl rfl rfl ?_
    | refine WP.no rfl rfl rfl rfl rfl ?_
    | refine WP.noU rfl rfl rfl rfl ?_
    | (refine WP.gs rfl rfl rfl rfl (fun hh => ?_) (fun hh => ?_) <;> (try simp only [decide_eq_true_eq, decide_eq_false_iff_not, Bool.not_true, Bool.not_false] at hh) <;> (try (exfalso; omega)))
    | refine WP.condT rfl rfl ?_
    | refine WP.condF rfl rfl ?_
    | (refine WP.cond_d rfl rfl (fun hh => ?_) (fun hh => ?_) <;> try (exfalso; omega))
    | refine WP.cond rfl rfl (fun hh => ?_) (fun hh => ?_)
    | refine WP.bld tysOk rfl (by first | exact True.intro | exact rfl | exact ⟨⟨rfl, rfl⟩, rfl⟩) rfl rfl rfl rfl rfl rfl rfl ?_
    | (refine WP.lal tysOk rfl ⟨rfl, rfl⟩ rfl rfl rfl rfl rfl rfl rfl ?_; intro g)
    | refine WP.lend rfl ⟨rfl, rfl⟩ ?_
    | refine WP.qend rfl ?_
    | refine WP.mn rfl (by first | exact True.intro | exact rfl | exact ⟨⟨rfl, rfl⟩, rfl⟩) rfl rfl rfl rfl rfl rfl ?_
    | refine WP.mx rfl (by first | exact True.intro | exact rfl | exact ⟨⟨rfl, rfl⟩, rfl⟩) rfl rfl rfl rfl rfl rfl ?_)
  refine WP.callR (fun v : Value => v) (fun v => [.own v 3 1 [(0 : Int)].length (ints [0])]) (fun _ => True) rfl rfl rfl rfl rfl rfl rfl (by kernel_rfl) (fun w1 hw1 => h1 _ (hw1.le (by simp))) ?_
  intro v1 _
  repeat' (first
    | (refine WP.st tysOk false rfl (by first | exact True.intro | exact rfl | exact ⟨⟨rfl, rfl⟩, rfl⟩) rfl rfl rfl rfl ?_ ?_; · (first | exact True.intro | exact ⟨by omega, by omega⟩ | exact ⟨by omega, by omega, by omega, by omega⟩ | omega))
    | (refine WP.ld tysOk rfl (by first | exact True.intro | exact rfl | exact ⟨⟨rfl, rfl⟩, rfl⟩) rfl rfl rfl rfl rfl rfl rfl ?_; apply ex2; (· first | (apply CellAt.blk; (· repeat' (first | exact Rem.head | apply Rem.tail)); (· rfl)) | (refine CellAt.fz ?_ (by assumption); repeat' (first | exact List.Mem.head _ | apply List.Mem.tail))
        ))
    | (refine WP.ldn tysOk rfl (by first | exact True.intro | exact rfl | exact ⟨⟨rfl, rfl⟩, rfl⟩) rfl rfl rfl rfl rfl rfl rfl ?_; apply ex2; (· first | (apply SegAt.blk'; (· repeat' (first | exact Rem.head | apply Rem.tail)); (· rfl)) | (refine ⟨SegAt.fz ?_ (by assumption), rfl⟩; repeat' (first | exact List.Mem.head _ | apply List.Mem.tail))
        ))
    | (refine WP.sto tysOk rfl rfl rfl rfl rfl rfl rfl rfl rfl ?_; apply ex3; (· repeat' (first | exact Rem.head | apply Rem.tail)
        ); (· first | exact Nat.le_of_ble_eq_true rfl | (simp [kints_length, arcsCells_length]; omega)
        ))
    | refine WP.ix1 tysOk rfl (by first | exact True.intro | exact rfl | exact ⟨⟨rfl, rfl⟩, rfl⟩) rfl rfl rfl rfl rfl rfl rfl rfl (by first | omega | (simp only []; omega)) ?_
    | refine WP.ix tysOk rfl (by first | exact True.intro | exact rfl | exact ⟨⟨rfl, rfl⟩, rfl⟩) rfl rfl rfl rfl rfl rfl rfl rfl (by first | omega | (simp only []; omega)) ?_
    | (refine WP.box rfl rfl rfl rfl rfl rfl ?_; intro g)
    | (refine WP.al tysOk rfl rfl rfl rfl rfl rfl ?_; intro g)
    | (refine WP.bs tysOk rfl rfl rfl rfl rfl rfl rfl rfl rfl rfl rfl rfl ?_; intro g)
    | refine WP.yes rfl rfl rfl ?_
    | refine WP.no rfl rfl rfl rfl rfl ?_
    | refine WP.noU rfl rfl rfl rfl ?_
    | (refine WP.gs rfl rfl rfl rfl (fun hh => ?_) (fun hh => ?_) <;> (try simp only [decide_eq_true_eq, decide_eq_false_iff_not, Bool.not_true, Bool.not_false] at hh) <;> (try (exfalso; omega)))
    | refine WP.condT rfl rfl ?_
    | refine WP.condF rfl rfl ?_
    | (refine WP.cond_d rfl rfl (fun hh => ?_) (fun hh => ?_) <;> try (exfalso; omega))
    | refine WP.cond rfl rfl (fun hh => ?_) (fun hh => ?_)
    | refine WP.bld tysOk rfl (by first | exact True.intro | exact rfl | exact ⟨⟨rfl, rfl⟩, rfl⟩) rfl rfl rfl rfl rfl rfl rfl ?_
    | (refine WP.lal tysOk rfl ⟨rfl, rfl⟩ rfl rfl rfl rfl rfl rfl rfl ?_; intro g)
    | refine WP.lend rfl ⟨rfl, rfl⟩ ?_
    | refine WP.qend rfl ?_
    | refine WP.mn rfl (by first | exact True.intro | exact rfl | exact ⟨⟨rfl, rfl⟩, rfl⟩) rfl rfl rfl rfl rfl rfl ?_
    | refine WP.mx rfl (by first | exact True.intro | exact rfl | exact ⟨⟨rfl, rfl⟩, rfl⟩) rfl rfl rfl rfl rfl rfl ?_)
  refine WP.callV rfl rfl rfl rfl rfl rfl rfl (by kernel_rfl) (fun w1 hw1 => ints_t (hw1.kints (.tail .head)) (hw1.kblk0 (xs := [0]) .head (by simp) (by omega))) (by first | exact True.intro | exact rfl | exact ⟨⟨rfl, rfl⟩, rfl⟩) ?_
  repeat' (first
    | (refine WP.st tysOk false rfl (by first | exact True.intro | exact rfl | exact ⟨⟨rfl, rfl⟩, rfl⟩) rfl rfl rfl rfl ?_ ?_; · (first | exact True.intro | exact ⟨by omega, by omega⟩ | exact ⟨by omega, by omega, by omega, by omega⟩ | omega))
    | (refine WP.ld tysOk rfl (by first | exact True.intro | exact rfl | exact ⟨⟨rfl, rfl⟩, rfl⟩) rfl rfl rfl rfl rfl rfl rfl ?_; apply ex2; (· first | (apply CellAt.blk; (· repeat' (first | exact Rem.head | apply Rem.tail)); (· rfl)) | (refine CellAt.fz ?_ (by assumption); repeat' (first | exact List.Mem.head _ | apply List.Mem.tail))
        ))
    | (refine WP.ldn tysOk rfl (by first | exact True.intro | exact rfl | exact ⟨⟨rfl, rfl⟩, rfl⟩) rfl rfl rfl rfl rfl rfl rfl ?_; apply ex2; (· first | (apply SegAt.blk'; (· repeat' (first | exact Rem.head | apply Rem.tail)); (· rfl)) | (refine ⟨SegAt.fz ?_ (by assumption), rfl⟩; repeat' (first | exact List.Mem.head _ | apply List.Mem.tail))
        ))
    | (refine WP.sto tysOk rfl rfl rfl rfl rfl rfl rfl rfl rfl ?_; apply ex3; (· repeat' (first | exact Rem.head | apply Rem.tail)
        ); (· first | exact Nat.le_of_ble_eq_true rfl | (simp [kints_length, arcsCells_length]; omega)
        ))
    | refine WP.ix1 tysOk rfl (by first | exact True.intro | exact rfl | exact ⟨⟨rfl, rfl⟩, rfl⟩) rfl rfl rfl rfl rfl rfl rfl rfl (by first | omega | (simp only []; omega)) ?_
    | refine WP.ix tysOk rfl (by first | exact True.intro | exact rfl | exact ⟨⟨rfl, rfl⟩, rfl⟩) rfl rfl rfl rfl rfl rfl rfl rfl (by first | omega | (simp only []; omega)) ?_
    | (refine WP.box rfl rfl rfl rfl rfl rfl ?_; intro g)
    | (refine WP.al tysOk rfl rfl rfl rfl rfl rfl ?_; intro g)
    | (refine WP.bs tysOk rfl rfl rfl rfl rfl rfl rfl rfl rfl rfl rfl rfl ?_; intro g)
    | refine WP.yes rfl rfl rfl ?_
    | refine WP.no rfl rfl rfl rfl rfl ?_
    | refine WP.noU rfl rfl rfl rfl ?_
    | (refine WP.gs rfl rfl rfl rfl (fun hh => ?_) (fun hh => ?_) <;> (try simp only [decide_eq_true_eq, decide_eq_false_iff_not, Bool.not_true, Bool.not_false] at hh) <;> (try (exfalso; omega)))
    | refine WP.condT rfl rfl ?_
    | refine WP.condF rfl rfl ?_
    | (refine WP.cond_d rfl rfl (fun hh => ?_) (fun hh => ?_) <;> try (exfalso; omega))
    | refine WP.cond rfl rfl (fun hh => ?_) (fun hh => ?_)
    | refine WP.bld tysOk rfl (by first | exact True.intro | exact rfl | exact ⟨⟨rfl, rfl⟩, rfl⟩) rfl rfl rfl rfl rfl rfl rfl ?_
    | (refine WP.lal tysOk rfl ⟨rfl, rfl⟩ rfl rfl rfl rfl rfl rfl rfl ?_; intro g)
    | refine WP.lend rfl ⟨rfl, rfl⟩ ?_
    | refine WP.qend rfl ?_
    | refine WP.mn rfl (by first | exact True.intro | exact rfl | exact ⟨⟨rfl, rfl⟩, rfl⟩) rfl rfl rfl rfl rfl rfl ?_
    | refine WP.mx rfl (by first | exact True.intro | exact rfl | exact ⟨⟨rfl, rfl⟩, rfl⟩) rfl rfl rfl rfl rfl rfl ?_)
  refine WP.callR (fun v : Value => v) (fun v => [.own v 3 1 [(0 : Int)].length (ints [0])]) (fun _ => True) rfl rfl rfl rfl rfl rfl rfl (by kernel_rfl) (fun w1 hw1 => h2 _ (hw1.le (by simp))) ?_
  intro v2 _
  repeat' (first
    | (refine WP.st tysOk false rfl (by first | exact True.intro | exact rfl | exact ⟨⟨rfl, rfl⟩, rfl⟩) rfl rfl rfl rfl ?_ ?_; · (first | exact True.intro | exact ⟨by omega, by omega⟩ | exact ⟨by omega, by omega, by omega, by omega⟩ | omega))
    | (refine WP.ld tysOk rfl (by first | exact True.intro | exact rfl | exact ⟨⟨rfl, rfl⟩, rfl⟩) rfl rfl rfl rfl rfl rfl rfl ?_; apply ex2; (· first | (apply CellAt.blk; (· repeat' (first | exact Rem.head | apply Rem.tail)); (· rfl)) | (refine CellAt.fz ?_ (by assumption); repeat' (first | exact List.Mem.head _ | apply List.Mem.tail))
        ))
    | (refine WP.ldn tysOk rfl (by first | exact True.intro | exact rfl | exact ⟨⟨rfl, rfl⟩, rfl⟩) rfl rfl rfl rfl rfl rfl rfl ?_; apply ex2; (· first | (apply SegAt.blk'; (· repeat' (first | exact Rem.head | apply Rem.tail)); (· rfl)) | (refine ⟨SegAt.fz ?_ (by assumption), rfl⟩; repeat' (first | exact List.Mem.head _ | apply List.Mem.tail))
        ))
    | (refine WP.sto tysOk rfl rfl rfl rfl rfl rfl rfl rfl rfl ?_; apply ex3; (· repeat' (first | exact Rem.head | apply Rem.tail)
        ); (· first | exact Nat.le_of_ble_eq_true rfl | (simp [kints_length, arcsCells_length]; omega)
        ))
    | refine WP.ix1 tysOk rfl (by first | exact True.intro | exact rfl | exact ⟨⟨rfl, rfl⟩, rfl⟩) rfl rfl rfl rfl rfl rfl rfl rfl (by first | omega | (simp only []; omega)) ?_
    | refine WP.ix tysOk rfl (by first | exact True.intro | exact rfl | exact ⟨⟨rfl, rfl⟩, rfl⟩) rfl rfl rfl rfl rfl rfl rfl rfl (by first | omega | (simp only []; omega)) ?_
    | (refine WP.box rfl rfl rfl rfl rfl rfl ?_; intro g)
    | (refine WP.al tysOk rfl rfl rfl rfl rfl rfl ?_; intro g)
    | (refine WP.bs tysOk rfl rfl rfl rfl rfl rfl rfl rfl rfl rfl rfl rfl ?_; intro g)
    | refine WP.yes rfl rfl rfl ?_
    | refine WP.no rfl rfl rfl rfl rfl ?_
    | refine WP.noU rfl rfl rfl rfl ?_
    | (refine WP.gs rfl rfl rfl rfl (fun hh => ?_) (fun hh => ?_) <;> (try simp only [decide_eq_true_eq, decide_eq_false_iff_not, Bool.not_true, Bool.not_false] at hh) <;> (try (exfalso; omega)))
    | refine WP.condT rfl rfl ?_
    | refine WP.condF rfl rfl ?_
    | (refine WP.cond_d rfl rfl (fun hh => ?_) (fun hh => ?_) <;> try (exfalso; omega))
    | refine WP.cond rfl rfl (fun hh => ?_) (fun hh => ?_)
    | refine WP.bld tysOk rfl (by first | exact True.intro | exact rfl | exact ⟨⟨rfl, rfl⟩, rfl⟩) rfl rfl rfl rfl rfl rfl rfl ?_
    | (refine WP.lal tysOk rfl ⟨rfl, rfl⟩ rfl rfl rfl rfl rfl rfl rfl ?_; intro g)
    | refine WP.lend rfl ⟨rfl, rfl⟩ ?_
    | refine WP.qend rfl ?_
    | refine WP.mn rfl (by first | exact True.intro | exact rfl | exact ⟨⟨rfl, rfl⟩, rfl⟩) rfl rfl rfl rfl rfl rfl ?_
    | refine WP.mx rfl (by first | exact True.intro | exact rfl | exact ⟨⟨rfl, rfl⟩, rfl⟩) rfl rfl rfl rfl rfl rfl ?_)
  refine WP.callV rfl rfl rfl rfl rfl rfl rfl (by kernel_rfl) (fun w1 hw1 => ints_t (hw1.kints (.tail .head)) (hw1.kblk0 (xs := [0]) .head (by simp) (by omega))) (by first | exact True.intro | exact rfl | exact ⟨⟨rfl, rfl⟩, rfl⟩) ?_
  repeat' (first
    | (refine WP.st tysOk false rfl (by first | exact True.intro | exact rfl | exact ⟨⟨rfl, rfl⟩, rfl⟩) rfl rfl rfl rfl ?_ ?_; · (first | exact True.intro | exact ⟨by omega, by omega⟩ | exact ⟨by omega, by omega, by omega, by omega⟩ | omega))
    | (refine WP.ld tysOk rfl (by first | exact True.intro | exact rfl | exact ⟨⟨rfl, rfl⟩, rfl⟩) rfl rfl rfl rfl rfl rfl rfl ?_; apply ex2; (· first | (apply CellAt.blk; (· repeat' (first | exact Rem.head | apply Rem.tail)); (· rfl)) | (refine CellAt.fz ?_ (by assumption); repeat' (first | exact List.Mem.head _ | apply List.Mem.tail))
        ))
    | (refine WP.ldn tysOk rfl (by first | exact True.intro | exact rfl | exact ⟨⟨rfl, rfl⟩, rfl⟩) rfl rfl rfl rfl rfl rfl rfl ?_; apply ex2; (· first | (apply SegAt.blk'; (· repeat' (first | exact Rem.head | apply Rem.tail)); (· rfl)) | (refine ⟨SegAt.fz ?_ (by assumption), rfl⟩; repeat' (first | exact List.Mem.head _ | apply List.Mem.tail))
        ))
    | (refine WP.sto tysOk rfl rfl rfl rfl rfl rfl rfl rfl rfl ?_; apply ex3; (· repeat' (first | exact Rem.head | apply Rem.tail)
        ); (· first | exact Nat.le_of_ble_eq_true rfl | (simp [kints_length, arcsCells_length]; omega)
        ))
    | refine WP.ix1 tysOk rfl (by first | exact True.intro | exact rfl | exact ⟨⟨rfl, rfl⟩, rfl⟩) rfl rfl rfl rfl rfl rfl rfl rfl (by first | omega | (simp only []; omega)) ?_
    | refine WP.ix tysOk rfl (by first | exact True.intro | exact rfl | exact ⟨⟨rfl, rfl⟩, rfl⟩) rfl rfl rfl rfl rfl rfl rfl rfl (by first | omega | (simp only []; omega)) ?_
    | (refine WP.box rfl rfl rfl rfl rfl rfl ?_; intro g)
    | (refine WP.al tysOk rfl rfl rfl rfl rfl rfl ?_; intro g)
    | (refine WP.bs tysOk rfl rfl rfl rfl rfl rfl rfl rfl rfl rfl rfl rfl ?_; intro g)
    | refine WP.yes rfl rfl rfl ?_
    | refine WP.no rfl rfl rfl rfl rfl ?_
    | refine WP.noU rfl rfl rfl rfl ?_
    | (refine WP.gs rfl rfl rfl rfl (fun hh => ?_) (fun hh => ?_) <;> (try simp only [decide_eq_true_eq, decide_eq_false_iff_not, Bool.not_true, Bool.not_false] at hh) <;> (try (exfalso; omega)))
    | refine WP.condT rfl rfl ?_
    | refine WP.condF rfl rfl ?_
    | (refine WP.cond_d rfl rfl (fun hh => ?_) (fun hh => ?_) <;> try (exfalso; omega))
    | refine WP.cond rfl rfl (fun hh => ?_) (fun hh => ?_)
    | refine WP.bld tysOk rfl (by first | exact True.intro | exact rfl | exact ⟨⟨rfl, rfl⟩, rfl⟩) rfl rfl rfl rfl rfl rfl rfl ?_
    | (refine WP.lal tysOk rfl ⟨rfl, rfl⟩ rfl rfl rfl rfl rfl rfl rfl ?_; intro g)
    | refine WP.lend rfl ⟨rfl, rfl⟩ ?_
    | refine WP.qend rfl ?_
    | refine WP.mn rfl (by first | exact True.intro | exact rfl | exact ⟨⟨rfl, rfl⟩, rfl⟩) rfl rfl rfl rfl rfl rfl ?_
    | refine WP.mx rfl (by first | exact True.intro | exact rfl | exact ⟨⟨rfl, rfl⟩, rfl⟩) rfl rfl rfl rfl rfl rfl ?_)
  refine WP.callR (fun v : Value => v) (fun v => [.own v 3 1 [(0 : Int)].length (ints [0])]) (fun _ => True) rfl rfl rfl rfl rfl rfl rfl (by kernel_rfl) (fun w1 hw1 => h3 _ (hw1.le (by simp))) ?_
  intro v3 _
  repeat' (first
    | (refine WP.st tysOk false rfl (by first | exact True.intro | exact rfl | exact ⟨⟨rfl, rfl⟩, rfl⟩) rfl rfl rfl rfl ?_ ?_; · (first | exact True.intro | exact ⟨by omega, by omega⟩ | exact ⟨by omega, by omega, by omega, by omega⟩ | omega))
    | (refine WP.ld tysOk rfl (by first | exact True.intro | exact rfl | exact ⟨⟨rfl, rfl⟩, rfl⟩) rfl rfl rfl rfl rfl rfl rfl ?_; apply ex2; (· first | (apply CellAt.blk; (· repeat' (first | exact Rem.head | apply Rem.tail)); (· rfl)) | (refine CellAt.fz ?_ (by assumption); repeat' (first | exact List.Mem.head _ | apply List.Mem.tail))
        ))
    | (refine WP.ldn tysOk rfl (by first | exact True.intro | exact rfl | exact ⟨⟨rfl, rfl⟩, rfl⟩) rfl rfl rfl rfl rfl rfl rfl ?_; apply ex2; (· first | (apply SegAt.blk'; (· repeat' (first | exact Rem.head | apply Rem.tail)); (· rfl)) | (refine ⟨SegAt.fz ?_ (by assumption), rfl⟩; repeat' (first | exact List.Mem.head _ | apply List.Mem.tail))
        ))
    | (refine WP.sto tysOk rfl rfl rfl rfl rfl rfl rfl rfl rfl ?_; apply ex3; (· repeat' (first | exact Rem.head | apply Rem.tail)
        ); (· first | exact Nat.le_of_ble_eq_true rfl | (simp [kints_length, arcsCells_length]; omega)
        ))
    | refine WP.ix1 tysOk rfl (by first | exact True.intro | exact rfl | exact ⟨⟨rfl, rfl⟩, rfl⟩) rfl rfl rfl rfl rfl rfl rfl rfl (by first | omega | (simp only []; omega)) ?_
    | refine WP.ix tysOk rfl (by first | exact True.intro | exact rfl | exact ⟨⟨rfl, rfl⟩, rfl⟩) rfl rfl rfl rfl rfl rfl rfl rfl (by first | omega | (simp only []; omega)) ?_
    | (refine WP.box rfl rfl rfl rfl rfl rfl ?_; intro g)
    | (refine WP.al tysOk rfl rfl rfl rfl rfl rfl ?_; intro g)
    | (refine WP.bs tysOk rfl rfl rfl rfl rfl rfl rfl rfl rfl rfl rfl rfl ?_; intro g)
    | refine WP.yes rfl rfl rfl ?_
    | refine WP.no rfl rfl rfl rfl rfl ?_
    | refine WP.noU rfl rfl rfl rfl ?_
    | (refine WP.gs rfl rfl rfl rfl (fun hh => ?_) (fun hh => ?_) <;> (try simp only [decide_eq_true_eq, decide_eq_false_iff_not, Bool.not_true, Bool.not_false] at hh) <;> (try (exfalso; omega)))
    | refine WP.condT rfl rfl ?_
    | refine WP.condF rfl rfl ?_
    | (refine WP.cond_d rfl rfl (fun hh => ?_) (fun hh => ?_) <;> try (exfalso; omega))
    | refine WP.cond rfl rfl (fun hh => ?_) (fun hh => ?_)
    | refine WP.bld tysOk rfl (by first | exact True.intro | exact rfl | exact ⟨⟨rfl, rfl⟩, rfl⟩) rfl rfl rfl rfl rfl rfl rfl ?_
    | (refine WP.lal tysOk rfl ⟨rfl, rfl⟩ rfl rfl rfl rfl rfl rfl rfl ?_; intro g)
    | refine WP.lend rfl ⟨rfl, rfl⟩ ?_
    | refine WP.qend rfl ?_
    | refine WP.mn rfl (by first | exact True.intro | exact rfl | exact ⟨⟨rfl, rfl⟩, rfl⟩) rfl rfl rfl rfl rfl rfl ?_
    | refine WP.mx rfl (by first | exact True.intro | exact rfl | exact ⟨⟨rfl, rfl⟩, rfl⟩) rfl rfl rfl rfl rfl rfl ?_)
  refine WP.callV rfl rfl rfl rfl rfl rfl rfl (by kernel_rfl) (fun w1 hw1 => ints_t (hw1.kints (.tail .head)) (hw1.kblk0 (xs := [0]) .head (by simp) (by omega))) (by first | exact True.intro | exact rfl | exact ⟨⟨rfl, rfl⟩, rfl⟩) ?_
  repeat' (first
    | (refine WP.st tysOk false rfl (by first | exact True.intro | exact rfl | exact ⟨⟨rfl, rfl⟩, rfl⟩) rfl rfl rfl rfl ?_ ?_; · (first | exact True.intro | exact ⟨by omega, by omega⟩ | exact ⟨by omega, by omega, by omega, by omega⟩ | omega))
    | (refine WP.ld tysOk rfl (by first | exact True.intro | exact rfl | exact ⟨⟨rfl, rfl⟩, rfl⟩) rfl rfl rfl rfl rfl rfl rfl ?_; apply ex2; (· first | (apply CellAt.blk; (· repeat' (first | exact Rem.head | apply Rem.tail)); (· rfl)) | (refine CellAt.fz ?_ (by assumption); repeat' (first | exact List.Mem.head _ | apply List.Mem.tail))
        ))
    | (refine WP.ldn tysOk rfl (by first | exact True.intro | exact rfl | exact ⟨⟨rfl, rfl⟩, rfl⟩) rfl rfl rfl rfl rfl rfl rfl ?_; apply ex2; (· first | (apply SegAt.blk'; (· repeat' (first | exact Rem.head | apply Rem.tail)); (· rfl)) | (refine ⟨SegAt.fz ?_ (by assumption), rfl⟩; repeat' (first | exact List.Mem.head _ | apply List.Mem.tail))
        ))
    | (refine WP.sto tysOk rfl rfl rfl rfl rfl rfl rfl rfl rfl ?_; apply ex3; (· repeat' (first | exact Rem.head | apply Rem.tail)
        ); (· first | exact Nat.le_of_ble_eq_true rfl | (simp [kints_length, arcsCells_length]; omega)
        ))
    | refine WP.ix1 tysOk rfl (by first | exact True.intro | exact rfl | exact ⟨⟨rfl, rfl⟩, rfl⟩) rfl rfl rfl rfl rfl rfl rfl rfl (by first | omega | (simp only []; omega)) ?_
    | refine WP.ix tysOk rfl (by first | exact True.intro | exact rfl | exact ⟨⟨rfl, rfl⟩, rfl⟩) rfl rfl rfl rfl rfl rfl rfl rfl (by first | omega | (simp only []; omega)) ?_
    | (refine WP.box rfl rfl rfl rfl rfl rfl ?_; intro g)
    | (refine WP.al tysOk rfl rfl rfl rfl rfl rfl ?_; intro g)
    | (refine WP.bs tysOk rfl rfl rfl rfl rfl rfl rfl rfl rfl rfl rfl rfl ?_; intro g)
    | refine WP.yes rfl rfl rfl ?_
    | refine WP.no rfl rfl rfl rfl rfl ?_
    | refine WP.noU rfl rfl rfl rfl ?_
    | (refine WP.gs rfl rfl rfl rfl (fun hh => ?_) (fun hh => ?_) <;> (try simp only [decide_eq_true_eq, decide_eq_false_iff_not, Bool.not_true, Bool.not_false] at hh) <;> (try (exfalso; omega)))
    | refine WP.condT rfl rfl ?_
    | refine WP.condF rfl rfl ?_
    | (refine WP.cond_d rfl rfl (fun hh => ?_) (fun hh => ?_) <;> try (exfalso; omega))
    | refine WP.cond rfl rfl (fun hh => ?_) (fun hh => ?_)
    | refine WP.bld tysOk rfl (by first | exact True.intro | exact rfl | exact ⟨⟨rfl, rfl⟩, rfl⟩) rfl rfl rfl rfl rfl rfl rfl ?_
    | (refine WP.lal tysOk rfl ⟨rfl, rfl⟩ rfl rfl rfl rfl rfl rfl rfl ?_; intro g)
    | refine WP.lend rfl ⟨rfl, rfl⟩ ?_
    | refine WP.qend rfl ?_
    | refine WP.mn rfl (by first | exact True.intro | exact rfl | exact ⟨⟨rfl, rfl⟩, rfl⟩) rfl rfl rfl rfl rfl rfl ?_
    | refine WP.mx rfl (by first | exact True.intro | exact rfl | exact ⟨⟨rfl, rfl⟩, rfl⟩) rfl rfl rfl rfl rfl rfl ?_)
  refine WP.callV rfl rfl rfl rfl rfl rfl rfl (by kernel_rfl) (fun w1 hw1 => h4 _ (hw1.le (by simp))) (by first | exact True.intro | exact rfl | exact ⟨⟨rfl, rfl⟩, rfl⟩) ?_
  repeat' (first
    | (refine WP.st tysOk false rfl (by first | exact True.intro | exact rfl | exact ⟨⟨rfl, rfl⟩, rfl⟩) rfl rfl rfl rfl ?_ ?_; · (first | exact True.intro | exact ⟨by omega, by omega⟩ | exact ⟨by omega, by omega, by omega, by omega⟩ | omega))
    | (refine WP.ld tysOk rfl (by first | exact True.intro | exact rfl | exact ⟨⟨rfl, rfl⟩, rfl⟩) rfl rfl rfl rfl rfl rfl rfl ?_; apply ex2; (· first | (apply CellAt.blk; (· repeat' (first | exact Rem.head | apply Rem.tail)); (· rfl)) | (refine CellAt.fz ?_ (by assumption); repeat' (first | exact List.Mem.head _ | apply List.Mem.tail))
        ))
    | (refine WP.ldn tysOk rfl (by first | exact True.intro | exact rfl | exact ⟨⟨rfl, rfl⟩, rfl⟩) rfl rfl rfl rfl rfl rfl rfl ?_; apply ex2; (· first | (apply SegAt.blk'; (· repeat' (first | exact Rem.head | apply Rem.tail)); (· rfl)) | (refine ⟨SegAt.fz ?_ (by assumption), rfl⟩; repeat' (first | exact List.Mem.head _ | apply List.Mem.tail))
        ))
    | (refine WP.sto tysOk rfl rfl rfl rfl rfl rfl rfl rfl rfl ?_; apply ex3; (· repeat' (first | exact Rem.head | apply Rem.tail)
        ); (· first | exact Nat.le_of_ble_eq_true rfl | (simp [kints_length, arcsCells_length]; omega)
        ))
    | refine WP.ix1 tysOk rfl (by first | exact True.intro | exact rfl | exact ⟨⟨rfl, rfl⟩, rfl⟩) rfl rfl rfl rfl rfl rfl rfl rfl (by first | omega | (simp only []; omega)) ?_
    | refine WP.ix tysOk rfl (by first | exact True.intro | exact rfl | exact ⟨⟨rfl, rfl⟩, rfl⟩) rfl rfl rfl rfl rfl rfl rfl rfl (by first | omega | (simp only []; omega)) ?_
    | (refine WP.box rfl rfl rfl rfl rfl rfl ?_; intro g)
    | (refine WP.al tysOk rfl rfl rfl rfl rfl rfl ?_; intro g)
    | (refine WP.bs tysOk rfl rfl rfl rfl rfl rfl rfl rfl rfl rfl rfl rfl ?_; intro g)
    | refine WP.yes rfl rfl rfl ?_
    | refine WP.no rfl rfl rfl rfl rfl ?_
    | refine WP.noU rfl rfl rfl rfl ?_
    | (refine WP.gs rfl rfl rfl rfl (fun hh => ?_) (fun hh => ?_) <;> (try simp only [decide_eq_true_eq, decide_eq_false_iff_not, Bool.not_true, Bool.not_false] at hh) <;> (try (exfalso; omega)))
    | refine WP.condT rfl rfl ?_
    | refine WP.condF rfl rfl ?_
    | (refine WP.cond_d rfl rfl (fun hh => ?_) (fun hh => ?_) <;> try (exfalso; omega))
    | refine WP.cond rfl rfl (fun hh => ?_) (fun hh => ?_)
    | refine WP.bld tysOk rfl (by first | exact True.intro | exact rfl | exact ⟨⟨rfl, rfl⟩, rfl⟩) rfl rfl rfl rfl rfl rfl rfl ?_
    | (refine WP.lal tysOk rfl ⟨rfl, rfl⟩ rfl rfl rfl rfl rfl rfl rfl ?_; intro g)
    | refine WP.lend rfl ⟨rfl, rfl⟩ ?_
    | refine WP.qend rfl ?_
    | refine WP.mn rfl (by first | exact True.intro | exact rfl | exact ⟨⟨rfl, rfl⟩, rfl⟩) rfl rfl rfl rfl rfl rfl ?_
    | refine WP.mx rfl (by first | exact True.intro | exact rfl | exact ⟨⟨rfl, rfl⟩, rfl⟩) rfl rfl rfl rfl rfl rfl ?_)
  refine WP.callV rfl rfl rfl rfl rfl rfl rfl (by kernel_rfl) (fun w1 hw1 => h5 _ (hw1.le (by simp))) (by first | exact True.intro | exact rfl | exact ⟨⟨rfl, rfl⟩, rfl⟩) ?_
  repeat' (first
    | (refine WP.st tysOk false rfl (by first | exact True.intro | exact rfl | exact ⟨⟨rfl, rfl⟩, rfl⟩) rfl rfl rfl rfl ?_ ?_; · (first | exact True.intro | exact ⟨by omega, by omega⟩ | exact ⟨by omega, by omega, by omega, by omega⟩ | omega))
    | (refine WP.ld tysOk rfl (by first | exact True.intro | exact rfl | exact ⟨⟨rfl, rfl⟩, rfl⟩) rfl rfl rfl rfl rfl rfl rfl ?_; apply ex2; (· first | (apply CellAt.blk; (· repeat' (first | exact Rem.head | apply Rem.tail)); (· rfl)) | (refine CellAt.fz ?_ (by assumption); repeat' (first | exact List.Mem.head _ | apply List.Mem.tail))
        ))
    | (refine WP.ldn tysOk rfl (by first | exact True.intro | exact rfl | exact ⟨⟨rfl, rfl⟩, rfl⟩) rfl rfl rfl rfl rfl rfl rfl ?_; apply ex2; (· first | (apply SegAt.blk'; (· repeat' (first | exact Rem.head | apply Rem.tail)); (· rfl)) | (refine ⟨SegAt.fz ?_ (by assumption), rfl⟩; repeat' (first | exact List.Mem.head _ | apply List.Mem.tail))
        ))
    | (refine WP.sto tysOk rfl rfl rfl rfl rfl rfl rfl rfl rfl ?_; apply ex3; (· repeat' (first | exact Rem.head | apply Rem.tail)
        ); (· first | exact Nat.le_of_ble_eq_true rfl | (simp [kints_length, arcsCells_length]; omega)
        ))
    | refine WP.ix1 tysOk rfl (by first | exact True.intro | exact rfl | exact ⟨⟨rfl, rfl⟩, rfl⟩) rfl rfl rfl rfl rfl rfl rfl rfl (by first | omega | (simp only []; omega)) ?_
    | refine WP.ix tysOk rfl (by first | exact True.intro | exact rfl | exact ⟨⟨rfl, rfl⟩, rfl⟩) rfl rfl rfl rfl rfl rfl rfl rfl (by first | omega | (simp only []; omega)) ?_
    | (refine WP.box rfl rfl rfl rfl rfl rfl ?_; intro g)
    | (refine WP.al tysOk rfl rfl rfl rfl rfl rfl ?_; intro g)
    | (refine WP.bs tysOk rfl rfl rfl rfl rfl rfl rfl rfl rfl rfl rfl rfl ?_; intro g)
    | refine WP.yes rfl rfl rfl ?_
    | refine WP.no rfl rfl rfl rfl rfl ?_
    | refine WP.noU rfl rfl rfl rfl ?_
    | (refine WP.gs rfl rfl rfl rfl (fun hh => ?_) (fun hh => ?_) <;> (try simp only [decide_eq_true_eq, decide_eq_false_iff_not, Bool.not_true, Bool.not_false] at hh) <;> (try (exfalso; omega)))
    | refine WP.condT rfl rfl ?_
    | refine WP.condF rfl rfl ?_
    | (refine WP.cond_d rfl rfl (fun hh => ?_) (fun hh => ?_) <;> try (exfalso; omega))
    | refine WP.cond rfl rfl (fun hh => ?_) (fun hh => ?_)
    | refine WP.bld tysOk rfl (by first | exact True.intro | exact rfl | exact ⟨⟨rfl, rfl⟩, rfl⟩) rfl rfl rfl rfl rfl rfl rfl ?_
    | (refine WP.lal tysOk rfl ⟨rfl, rfl⟩ rfl rfl rfl rfl rfl rfl rfl ?_; intro g)
    | refine WP.lend rfl ⟨rfl, rfl⟩ ?_
    | refine WP.qend rfl ?_
    | refine WP.mn rfl (by first | exact True.intro | exact rfl | exact ⟨⟨rfl, rfl⟩, rfl⟩) rfl rfl rfl rfl rfl rfl ?_
    | refine WP.mx rfl (by first | exact True.intro | exact rfl | exact ⟨⟨rfl, rfl⟩, rfl⟩) rfl rfl rfl rfl rfl rfl ?_)
  refine WP.ret1 rfl rfl rfl (fun w hw => ⟨rfl, Ret.below_ hw (by repeat (first | exact Pick.nil | (apply Pick.cons; (· repeat' (first | exact Rem.head | apply Rem.tail)
                                                                    )))
    )⟩)
end Go.Proofs.Ytcmcbiojkanlnaa
