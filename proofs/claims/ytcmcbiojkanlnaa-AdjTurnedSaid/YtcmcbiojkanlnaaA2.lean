/- Adj: ref04.some, Out, At. -/
import Derived.Test.YtcmcbiojkanlnaaA1
namespace Go.Proofs.Ytcmcbiojkanlnaa
open Go.RowKit Go.Qe
def pickB (i : Inst) (n : Int) (out inn : Bool) (k : Nat) : Bool := fitB i k && (out && decide ((arcAt i.arcs k).src = n) || inn && decide ((arcAt i.arcs k).dst = n))
/-- the arcs up to k that are picked -/
def someTo (i : Inst) (n : Int) (out inn : Bool) (k : Nat) : List Int := ((List.range k).filter (pickB i n out inn)).map fun k : Nat => (k : Int)
def someL (i : Inst) (n : Int) (out inn : Bool) : List Int := someTo i n out inn i.arcs.length
theorem someTo_yes {i : Inst} {n : Int} {out inn : Bool} {k : Nat} (h : pickB i n out inn k = true) : someTo i n out inn (k + 1) = someTo i n out inn k ++ [(k : Int)] := by
  simp [someTo, List.range_succ, List.filter_append, h]
theorem someTo_no {i : Inst} {n : Int} {out inn : Bool} {k : Nat} (h : pickB i n out inn k = false) : someTo i n out inn (k + 1) = someTo i n out inn k := by
  simp [someTo, List.range_succ, List.filter_append, h]
theorem someTo_len (i : Inst) (n : Int) (out inn : Bool) (k : Nat) : (someTo i n out inn k).length ≤ k := by
  simp only [someTo, List.length_map]
  exact Nat.le_trans (List.length_filter_le _ _) (by simp)
set_option maxHeartbeats 1000000 in
theorem some_c {w : World} {vi : Value} {i : Inst} {n : Int} {out inn : Bool} (hi : InstZ (PH.of w) vi i) (hreach : i.arcs.length ≤ 17592186044416) :
    Calls Try.prog 28 #[vi, .int .i64 n, .bool out, .bool inn] w fun e w' => ∃ v, e = .returned v ∧ True ∧ Ret w w' [.own v 3 1 (someL i n out inn).length (ints (someL i n out inn))] := by
  have hi' := hi
  obtain ⟨s, l, rfl, hs, hl⟩ := hi
  obtain ⟨A, c, rfl, hc, hm, hcell⟩ := hs.open_
  obtain ⟨A', c', rfl, hc', hm', hcell'⟩ := hl.open_
  clear hs hl hcell
  refine enter_ Try.func28 rfl Try.ntmps28 rfl ?_
  repeat' (first
    | (refine WP.st tysOk false rfl (by first | exact True.intro | exact rfl | exact ⟨⟨rfl, rfl⟩, rfl⟩) rfl rfl rfl rfl ?_ ?_; · (first | exact True.intro | exact ⟨by omega, by omega⟩ | exact ⟨by omega, by omega, by omega, by omega⟩ | omega))
    | (refine WP.ld tysOk rfl (by first | exact True.intro | exact rfl | exact ⟨⟨rfl, rfl⟩, rfl⟩) rfl rfl rfl rfl rfl rfl rfl ?_; apply ex2; (· first | (apply CellAt.blk; (· repeat' (first | exact Rem.head | apply Rem.tail)); (· rfl)) | (refine CellAt.fz ?_ (by assumption); repeat' (first | exact List.Mem.head _ | apply List.Mem.tail))
        ))
    | (refine WP.ldn tysOk rfl (by first | exact True.intro | exact rfl | exact ⟨⟨rfl, rfl⟩, rfl⟩) rfl rfl rfl rfl rfl rfl rfl ?_; apply ex2; (· first | (apply SegAt.blk'; (· repeat' (first | exact Rem.head | apply Rem.tail)); (· rfl)) | (refine ⟨SegAt.fz ?_ (by assumption), rfl⟩; repeat' (first | exact List.Mem.head _ | apply List.Mem.tail))
        ))
    | (refine WP.sto tysOk rfl rfl rfl rfl rfl rfl rfl rfl rfl ?_; apply ex3; (· repeat' (first | exact Rem.head | apply Rem.tail)
        ); (· first | exact Nat.le_of_ble_eq_true rfl | (simp [kints_length, arcsCells_length]; omega)
        ))
    | refine WP.ix1 tysOk rfl (by first | exact True.intro | exact rfl | exact ⟨⟨rfl, rfl⟩, rfl⟩) rfl rfl rfl rfl rfl rfl rfl rfl (by first | omega | (simp only []; omega)) ?_
    | refine WP.ix tysOk rfl (by first | exact True.intro | exact rfl | exact ⟨⟨rfl, rfl⟩, rfl⟩) rfl rfl rfl rfl rfl rfl rfl rfl (by first | omega | (simp only []; omega)) ?_
    | (refine WP.box rfl rfl rfl rfl rfl rfl ?_; intro g)
    | (refine WP.al tysOk rfl rfl rfl rfl rfl rfl ?_; intro g)
    | (refine WP.bs tysOk rfl rfl rfl rfl rfl rfl rfl rfl rfl rfl rfl rfl ?_; intro g)
    | refine WP.yes rfl rfl rfl ?_
    | refine WP.no rfl rfl rfl rfl rfl ?_
    | refine WP.noU rfl rfl rfl rfl ?_
    | (refine WP.gs rfl rfl rfl rfl (fun hh => ?_) (fun hh => ?_) <;> (try simp only [decide_eq_true_eq, decide_eq_false_iff_not, Bool.not_true, Bool.not_false] at hh) <;> (try (exfalso; omega)))
    | refine WP.condT rfl rfl ?_
    | refine WP.condF rfl rfl ?_
    | (refine WP.cond_d rfl rfl (fun hh => ?_) (fun hh => ?_) <;> try (exfalso; omega))
    | refine WP.cond rfl rfl (fun hh => ?_) (fun hh => ?_)
    | refine WP.bld tysOk rfl (by first | exact True.intro | exact rfl | exact ⟨⟨rfl, rfl⟩, rfl⟩) rfl rfl rfl rfl rfl rfl rfl ?_
    | (refine WP.lal tysOk rfl ⟨rfl, rfl⟩ rfl rfl rfl rfl rfl rfl rfl ?_; intro g)
    | refine WP.lend rfl ⟨rfl, rfl⟩ ?_
    | refine WP.qend rfl ?_
    | refine WP.mn rfl (by first | exact True.intro | exact rfl | exact ⟨⟨rfl, rfl⟩, rfl⟩) rfl rfl rfl rfl rfl rfl ?_
    | refine WP.mx rfl (by first | exact True.intro | exact rfl | exact ⟨⟨rfl, rfl⟩, rfl⟩) rfl rfl rfl rfl rfl rfl ?_)
  refine WP.own_nil 3 1 ?_
  refine WP.loop (α := Value × Nat) (fun x => x.2 ≤ i.arcs.length)
    (fun x => [(1, .int .i64 n), (2, .bool out), (3, .bool inn), (4, .pointer (some ⟨g, 0, none⟩)), (9, x.1), (10, .int .i64 x.2)])
    (fun x => [.own x.1 3 1 (someTo i n out inn x.2).length (ints (someTo i n out inn x.2)), .blk g 26 [.slice A i.supply.length c, .slice A' i.arcs.length c'], .fz (PH.of w)])
    (fun x => i.arcs.length - x.2) rfl (.slice none 0 0, 0) (Nat.zero_le _) ?_ ?_ ?_
  · repeat (first | exact True.intro | refine And.intro rfl ?_)
  · repeat (first | exact Pick.nil | (apply Pick.cons; (· repeat' (first | exact Rem.head | apply Rem.tail)
      )))
  · intro ⟨v, k⟩ hk
    dsimp only at hk ⊢
    repeat' (first
      | (refine WP.st tysOk false rfl (by first | exact True.intro | exact rfl | exact ⟨⟨rfl, rfl⟩, rfl⟩) rfl rfl rfl rfl ?_ ?_; · (first | exact True.intro | exact ⟨by omega, by omega⟩ | exact ⟨by omega, by omega, by omega, by omega⟩ | omega))
      | (refine WP.ld tysOk rfl (by first | exact True.intro | exact rfl | exact ⟨⟨rfl, rfl⟩, rfl⟩) rfl rfl rfl rfl rfl rfl rfl ?_; apply ex2; (· first | (apply CellAt.blk; (· repeat' (first | exact Rem.head | apply Rem.tail)); (· rfl)) | (refine CellAt.fz ?_ (by assumption); repeat' (first | exact List.Mem.head _ | apply List.Mem.tail))
          ))
      | (refine WP.ldn tysOk rfl (by first | exact True.intro | exact rfl | exact ⟨⟨rfl, rfl⟩, rfl⟩) rfl rfl rfl rfl rfl rfl rfl ?_; apply ex2; (· first | (apply SegAt.blk'; (· repeat' (first | exact Rem.head | apply Rem.tail)); (· rfl)) | (refine ⟨SegAt.fz ?_ (by assumption), rfl⟩; repeat' (first | exact List.Mem.head _ | apply List.Mem.tail))
          ))
      | (refine WP.sto tysOk rfl rfl rfl rfl rfl rfl rfl rfl rfl ?_; apply ex3; (· repeat' (first | exact Rem.head | apply Rem.tail)
          ); (· first | exact Nat.le_of_ble_eq_true rfl | (simp [kints_length, arcsCells_length]; omega)
          ))
      | refine WP.ix1 tysOk rfl (by first | exact True.intro | exact rfl | exact ⟨⟨rfl, rfl⟩, rfl⟩) rfl rfl rfl rfl rfl rfl rfl rfl (by first | omega | (simp only []; omega)) ?_
      | refine WP.ix tysOk rfl (by first | exact True.intro | exact rfl | exact ⟨⟨rfl, rfl⟩, rfl⟩) rfl rfl rfl rfl rfl rfl rfl rfl (by first | omega | (simp only []; omega)) ?_
      | (refine WP.box rfl rfl rfl rfl rfl rfl ?_; intro g)
      | (refine WP.al tysOk rfl rfl rfl rfl rfl rfl ?_; intro g)
      | (refine WP.bs tysOk rfl rfl rfl rfl rfl rfl rfl rfl rfl rfl rfl rfl ?_; intro g)
      | refine WP.yes rfl rfl rfl ?_
      | refine WP.no rfl rfl rfl rfl rfl ?_
      | refine WP.noU rfl rfl rfl rfl ?_
      | (refine WP.gs rfl rfl rfl rfl (fun hh => ?_) (fun hh => ?_) <;> (try simp only [decide_eq_true_eq, decide_eq_false_iff_not, Bool.not_true, Bool.not_false] at hh) <;> (try (exfalso; omega)))
      | refine WP.condT rfl rfl ?_
      | refine WP.condF rfl rfl ?_
      | (refine WP.cond_d rfl rfl (fun hh => ?_) (fun hh => ?_) <;> try (exfalso; omega))
      | refine WP.cond rfl rfl (fun hh => ?_) (fun hh => ?_)
      | refine WP.bld tysOk rfl (by first | exact True.intro | exact rfl | exact ⟨⟨rfl, rfl⟩, rfl⟩) rfl rfl rfl rfl rfl rfl rfl ?_
      | (refine WP.lal tysOk rfl ⟨rfl, rfl⟩ rfl rfl rfl rfl rfl rfl rfl ?_; intro g)
      | refine WP.lend rfl ⟨rfl, rfl⟩ ?_
      | refine WP.qend rfl ?_
      | refine WP.mn rfl (by first | exact True.intro | exact rfl | exact ⟨⟨rfl, rfl⟩, rfl⟩) rfl rfl rfl rfl rfl rfl ?_
      | refine WP.mx rfl (by first | exact True.intro | exact rfl | exact ⟨⟨rfl, rfl⟩, rfl⟩) rfl rfl rfl rfl rfl rfl ?_)
    · obtain ⟨b, off, rfl, hcs⟩ := hcell' (by omega)
      obtain ⟨g0, g1, _⟩ := hcs k (by omega)
      clear hcs hcell'
      refine WP.joinO (α := Unit) (fun _ => True)
        (fun _ => [(1, .int .i64 n), (2, .bool out), (3, .bool inn), (4, .pointer (some ⟨g, 0, none⟩)), (9, v), (10, .int .i64 k), (46, .bool (pickB i n out inn k))])
        (fun _ => [.own v 3 1 (someTo i n out inn k).length (ints (someTo i n out inn k)), .blk g 26 [.slice A i.supply.length c, .slice (some ⟨b, off, none⟩) i.arcs.length c'], .fz (PH.of w)]) rfl ?_ ?_
      · repeat' (first
          | (refine WP.st tysOk false rfl (by first | exact True.intro | exact rfl | exact ⟨⟨rfl, rfl⟩, rfl⟩) rfl rfl rfl rfl ?_ ?_; · (first | exact True.intro | exact ⟨by omega, by omega⟩ | exact ⟨by omega, by omega, by omega, by omega⟩ | omega))
          | (refine WP.ld tysOk rfl (by first | exact True.intro | exact rfl | exact ⟨⟨rfl, rfl⟩, rfl⟩) rfl rfl rfl rfl rfl rfl rfl ?_; apply ex2; (· first | (apply CellAt.blk; (· repeat' (first | exact Rem.head | apply Rem.tail)); (· rfl)) | (refine CellAt.fz ?_ (by assumption); repeat' (first | exact List.Mem.head _ | apply List.Mem.tail))
              ))
          | (refine WP.ldn tysOk rfl (by first | exact True.intro | exact rfl | exact ⟨⟨rfl, rfl⟩, rfl⟩) rfl rfl rfl rfl rfl rfl rfl ?_; apply ex2; (· first | (apply SegAt.blk'; (· repeat' (first | exact Rem.head | apply Rem.tail)); (· rfl)) | (refine ⟨SegAt.fz ?_ (by assumption), rfl⟩; repeat' (first | exact List.Mem.head _ | apply List.Mem.tail))
              ))
          | (refine WP.sto tysOk rfl rfl rfl rfl rfl rfl rfl rfl rfl ?_; apply ex3; (· repeat' (first | exact Rem.head | apply Rem.tail)
              ); (· first | exact Nat.le_of_ble_eq_true rfl | (simp [kints_length, arcsCells_length]; omega)
              ))
          | refine WP.ix1 tysOk rfl (by first | exact True.intro | exact rfl | exact ⟨⟨rfl, rfl⟩, rfl⟩) rfl rfl rfl rfl rfl rfl rfl rfl (by first | omega | (simp only []; omega)) ?_
          | refine WP.ix tysOk rfl (by first | exact True.intro | exact rfl | exact ⟨⟨rfl, rfl⟩, rfl⟩) rfl rfl rfl rfl rfl rfl rfl rfl (by first | omega | (simp only []; omega)) ?_
          | (refine WP.box rfl rfl rfl rfl rfl rfl ?_; intro g)
          | (refine WP.al tysOk rfl rfl rfl rfl rfl rfl ?_; intro g)
          | (refine WP.bs tysOk rfl rfl rfl rfl rfl rfl rfl rfl rfl rfl rfl rfl ?_; intro g)
          | refine WP.yes rfl rfl rfl ?_
          | refine WP.no rfl rfl rfl rfl rfl ?_
          | refine WP.noU rfl rfl rfl rfl ?_
          | (refine WP.gs rfl rfl rfl rfl (fun hh => ?_) (fun hh => ?_) <;> (try simp only [decide_eq_true_eq, decide_eq_false_iff_not, Bool.not_true, Bool.not_false] at hh) <;> (try (exfalso; omega)))
          | refine WP.condT rfl rfl ?_
          | refine WP.condF rfl rfl ?_
          | (refine WP.cond_d rfl rfl (fun hh => ?_) (fun hh => ?_) <;> try (exfalso; omega))
          | refine WP.cond rfl rfl (fun hh => ?_) (fun hh => ?_)
          | refine WP.bld tysOk rfl (by first | exact True.intro | exact rfl | exact ⟨⟨rfl, rfl⟩, rfl⟩) rfl rfl rfl rfl rfl rfl rfl ?_
          | (refine WP.lal tysOk rfl ⟨rfl, rfl⟩ rfl rfl rfl rfl rfl rfl rfl ?_; intro g)
          | refine WP.lend rfl ⟨rfl, rfl⟩ ?_
          | refine WP.qend rfl ?_
          | refine WP.mn rfl (by first | exact True.intro | exact rfl | exact ⟨⟨rfl, rfl⟩, rfl⟩) rfl rfl rfl rfl rfl rfl ?_
          | refine WP.mx rfl (by first | exact True.intro | exact rfl | exact ⟨⟨rfl, rfl⟩, rfl⟩) rfl rfl rfl rfl rfl rfl ?_)
        refine WP.callV rfl rfl rfl rfl rfl rfl rfl (by kernel_rfl) (fun w1 hw1 => fit_c (hi'.le (hw1.le (by simp)))) (by first | exact True.intro | exact rfl | exact ⟨⟨rfl, rfl⟩, rfl⟩) ?_
        repeat' (first
          | (refine WP.st tysOk false rfl (by first | exact True.intro | exact rfl | exact ⟨⟨rfl, rfl⟩, rfl⟩) rfl rfl rfl rfl ?_ ?_; · (first | exact True.intro | exact ⟨by omega, by omega⟩ | exact ⟨by omega, by omega, by omega, by omega⟩ | omega))
          | (refine WP.ld tysOk rfl (by first | exact True.intro | exact rfl | exact ⟨⟨rfl, rfl⟩, rfl⟩) rfl rfl rfl rfl rfl rfl rfl ?_; apply ex2; (· first | (apply CellAt.blk; (· repeat' (first | exact Rem.head | apply Rem.tail)); (· rfl)) | (refine CellAt.fz ?_ (by assumption); repeat' (first | exact List.Mem.head _ | apply List.Mem.tail))
              ))
          | (refine WP.ldn tysOk rfl (by first | exact True.intro | exact rfl | exact ⟨⟨rfl, rfl⟩, rfl⟩) rfl rfl rfl rfl rfl rfl rfl ?_; apply ex2; (· first | (apply SegAt.blk'; (· repeat' (first | exact Rem.head | apply Rem.tail)); (· rfl)) | (refine ⟨SegAt.fz ?_ (by assumption), rfl⟩; repeat' (first | exact List.Mem.head _ | apply List.Mem.tail))
              ))
          | (refine WP.sto tysOk rfl rfl rfl rfl rfl rfl rfl rfl rfl ?_; apply ex3; (· repeat' (first | exact Rem.head | apply Rem.tail)
              ); (· first | exact Nat.le_of_ble_eq_true rfl | (simp [kints_length, arcsCells_length]; omega)
              ))
          | refine WP.ix1 tysOk rfl (by first | exact True.intro | exact rfl | exact ⟨⟨rfl, rfl⟩, rfl⟩) rfl rfl rfl rfl rfl rfl rfl rfl (by first | omega | (simp only []; omega)) ?_
          | refine WP.ix tysOk rfl (by first | exact True.intro | exact rfl | exact ⟨⟨rfl, rfl⟩, rfl⟩) rfl rfl rfl rfl rfl rfl rfl rfl (by first | omega | (simp only []; omega)) ?_
          | (refine WP.box rfl rfl rfl rfl rfl rfl ?_; intro g)
          | (refine WP.al tysOk rfl rfl rfl rfl rfl rfl ?_; intro g)
          | (refine WP.bs tysOk rfl rfl rfl rfl rfl rfl rfl rfl rfl rfl rfl rfl ?_; intro g)
          | refine WP.yes rfl rfl rfl ?_
          | refine WP.no rfl rfl rfl rfl rfl ?_
          | refine WP.noU rfl rfl rfl rfl ?_
          | (refine WP.gs rfl rfl rfl rfl (fun hh => ?_) (fun hh => ?_) <;> (try simp only [decide_eq_true_eq, decide_eq_false_iff_not, Bool.not_true, Bool.not_false] at hh) <;> (try (exfalso; omega)))
          | refine WP.condT rfl rfl ?_
          | refine WP.condF rfl rfl ?_
          | (refine WP.cond_d rfl rfl (fun hh => ?_) (fun hh => ?_) <;> try (exfalso; omega))
          | refine WP.cond rfl rfl (fun hh => ?_) (fun hh => ?_)
          | refine WP.bld tysOk rfl (by first | exact True.intro | exact rfl | exact ⟨⟨rfl, rfl⟩, rfl⟩) rfl rfl rfl rfl rfl rfl rfl ?_
          | (refine WP.lal tysOk rfl ⟨rfl, rfl⟩ rfl rfl rfl rfl rfl rfl rfl ?_; intro g)
          | refine WP.lend rfl ⟨rfl, rfl⟩ ?_
          | refine WP.qend rfl ?_
          | refine WP.mn rfl (by first | exact True.intro | exact rfl | exact ⟨⟨rfl, rfl⟩, rfl⟩) rfl rfl rfl rfl rfl rfl ?_
          | refine WP.mx rfl (by first | exact True.intro | exact rfl | exact ⟨⟨rfl, rfl⟩, rfl⟩) rfl rfl rfl rfl rfl rfl ?_)
        all_goals
          refine WP.retell (s := 46) (.bool (pickB i n out inn k)) rfl (congrArg Value.bool ?_) ?_
          · simp_all [pickB]
          · refine WP.stop rfl () True.intro ?_ ?_
            · repeat (first | exact True.intro | refine And.intro rfl ?_)
            · repeat (first | exact Pick.nil | (apply Pick.cons; (· repeat' (first | exact Rem.head | apply Rem.tail)
                )))
      · intro _ _
        repeat' (first
          | (refine WP.st tysOk false rfl (by first | exact True.intro | exact rfl | exact ⟨⟨rfl, rfl⟩, rfl⟩) rfl rfl rfl rfl ?_ ?_; · (first | exact True.intro | exact ⟨by omega, by omega⟩ | exact ⟨by omega, by omega, by omega, by omega⟩ | omega))
          | (refine WP.ld tysOk rfl (by first | exact True.intro | exact rfl | exact ⟨⟨rfl, rfl⟩, rfl⟩) rfl rfl rfl rfl rfl rfl rfl ?_; apply ex2; (· first | (apply CellAt.blk; (· repeat' (first | exact Rem.head | apply Rem.tail)); (· rfl)) | (refine CellAt.fz ?_ (by assumption); repeat' (first | exact List.Mem.head _ | apply List.Mem.tail))
              ))
          | (refine WP.ldn tysOk rfl (by first | exact True.intro | exact rfl | exact ⟨⟨rfl, rfl⟩, rfl⟩) rfl rfl rfl rfl rfl rfl rfl ?_; apply ex2; (· first | (apply SegAt.blk'; (· repeat' (first | exact Rem.head | apply Rem.tail)); (· rfl)) | (refine ⟨SegAt.fz ?_ (by assumption), rfl⟩; repeat' (first | exact List.Mem.head _ | apply List.Mem.tail))
              ))
          | (refine WP.sto tysOk rfl rfl rfl rfl rfl rfl rfl rfl rfl ?_; apply ex3; (· repeat' (first | exact Rem.head | apply Rem.tail)
              ); (· first | exact Nat.le_of_ble_eq_true rfl | (simp [kints_length, arcsCells_length]; omega)
              ))
          | refine WP.ix1 tysOk rfl (by first | exact True.intro | exact rfl | exact ⟨⟨rfl, rfl⟩, rfl⟩) rfl rfl rfl rfl rfl rfl rfl rfl (by first | omega | (simp only []; omega)) ?_
          | refine WP.ix tysOk rfl (by first | exact True.intro | exact rfl | exact ⟨⟨rfl, rfl⟩, rfl⟩) rfl rfl rfl rfl rfl rfl rfl rfl (by first | omega | (simp only []; omega)) ?_
          | (refine WP.box rfl rfl rfl rfl rfl rfl ?_; intro g)
          | (refine WP.al tysOk rfl rfl rfl rfl rfl rfl ?_; intro g)
          | (refine WP.bs tysOk rfl rfl rfl rfl rfl rfl rfl rfl rfl rfl rfl rfl ?_; intro g)
          | refine WP.yes rfl rfl rfl ?_
          | refine WP.no rfl rfl rfl rfl rfl ?_
          | refine WP.noU rfl rfl rfl rfl ?_
          | (refine WP.gs rfl rfl rfl rfl (fun hh => ?_) (fun hh => ?_) <;> (try simp only [decide_eq_true_eq, decide_eq_false_iff_not, Bool.not_true, Bool.not_false] at hh) <;> (try (exfalso; omega)))
          | refine WP.condT rfl rfl ?_
          | refine WP.condF rfl rfl ?_
          | (refine WP.cond_d rfl rfl (fun hh => ?_) (fun hh => ?_) <;> try (exfalso; omega))
          | refine WP.cond rfl rfl (fun hh => ?_) (fun hh => ?_)
          | refine WP.bld tysOk rfl (by first | exact True.intro | exact rfl | exact ⟨⟨rfl, rfl⟩, rfl⟩) rfl rfl rfl rfl rfl rfl rfl ?_
          | (refine WP.lal tysOk rfl ⟨rfl, rfl⟩ rfl rfl rfl rfl rfl rfl rfl ?_; intro g)
          | refine WP.lend rfl ⟨rfl, rfl⟩ ?_
          | refine WP.qend rfl ?_
          | refine WP.mn rfl (by first | exact True.intro | exact rfl | exact ⟨⟨rfl, rfl⟩, rfl⟩) rfl rfl rfl rfl rfl rfl ?_
          | refine WP.mx rfl (by first | exact True.intro | exact rfl | exact ⟨⟨rfl, rfl⟩, rfl⟩) rfl rfl rfl rfl rfl rfl ?_)
        · rename_i hp
          have hlen := someTo_len i n out inn k
          refine WP.app tysOk rfl rfl rfl rfl rfl rfl rfl rfl rfl rfl rfl ?_
          apply exo
          · repeat' (first | exact Rem.head | apply Rem.tail)
          apply ex2
          · first | (apply SegAt.blk'; (· repeat' (first | exact Rem.head | apply Rem.tail)); (· rfl)) | (refine ⟨SegAt.fz ?_ (by assumption), rfl⟩; repeat' (first | exact List.Mem.head _ | apply List.Mem.tail))
          refine ⟨rfl, by omega, by omega, ?_⟩
          intro v'
          repeat' (first
            | (refine WP.st tysOk false rfl (by first | exact True.intro | exact rfl | exact ⟨⟨rfl, rfl⟩, rfl⟩) rfl rfl rfl rfl ?_ ?_; · (first | exact True.intro | exact ⟨by omega, by omega⟩ | exact ⟨by omega, by omega, by omega, by omega⟩ | omega))
            | (refine WP.ld tysOk rfl (by first | exact True.intro | exact rfl | exact ⟨⟨rfl, rfl⟩, rfl⟩) rfl rfl rfl rfl rfl rfl rfl ?_; apply ex2; (· first | (apply CellAt.blk; (· repeat' (first | exact Rem.head | apply Rem.tail)); (· rfl)) | (refine CellAt.fz ?_ (by assumption); repeat' (first | exact List.Mem.head _ | apply List.Mem.tail))
                ))
            | (refine WP.ldn tysOk rfl (by first | exact True.intro | exact rfl | exact ⟨⟨rfl, rfl⟩, rfl⟩) rfl rfl rfl rfl rfl rfl rfl ?_; apply ex2; (· first | (apply SegAt.blk'; (· repeat' (first | exact Rem.head | apply Rem.tail)); (· rfl)) | (refine ⟨SegAt.fz ?_ (by assumption), rfl⟩; repeat' (first | exact List.Mem.head _ | apply List.Mem.tail))
                ))
            | (refine WP.sto tysOk rfl rfl rfl rfl rfl rfl rfl rfl rfl ?_; apply ex3; (· repeat' (first | exact Rem.head | apply Rem.tail)
                ); (· first | exact Nat.le_of_ble_eq_true rfl | (simp [kints_length, arcsCells_length]; omega)
                ))
            | refine WP.ix1 tysOk rfl (by first | exact True.intro | exact rfl | exact ⟨⟨rfl, rfl⟩, rfl⟩) rfl rfl rfl rfl rfl rfl rfl rfl (by first | omega | (simp only []; omega)) ?_
            | refine WP.ix tysOk rfl (by first | exact True.intro | exact rfl | exact ⟨⟨rfl, rfl⟩, rfl⟩) rfl rfl rfl rfl rfl rfl rfl rfl (by first | omega | (simp only []; omega)) ?_
            | (refine WP.box rfl rfl rfl rfl rfl rfl ?_; intro g)
            | (refine WP.al tysOk rfl rfl rfl rfl rfl rfl ?_; intro g)
            | (refine WP.bs tysOk rfl rfl rfl rfl rfl rfl rfl rfl rfl rfl rfl rfl ?_; intro g)
            | refine WP.yes rfl rfl rfl ?_
            | refine WP.no rfl rfl rfl rfl rfl ?_
            | refine WP.noU rfl rfl rfl rfl ?_
            | (refine WP.gs rfl rfl rfl rfl (fun hh => ?_) (fun hh => ?_) <;> (try simp only [decide_eq_true_eq, decide_eq_false_iff_not, Bool.not_true, Bool.not_false] at hh) <;> (try (exfalso; omega)))
            | refine WP.condT rfl rfl ?_
            | refine WP.condF rfl rfl ?_
            | (refine WP.cond_d rfl rfl (fun hh => ?_) (fun hh => ?_) <;> try (exfalso; omega))
            | refine WP.cond rfl rfl (fun hh => ?_) (fun hh => ?_)
            | refine WP.bld tysOk rfl (by first | exact True.intro | exact rfl | exact ⟨⟨rfl, rfl⟩, rfl⟩) rfl rfl rfl rfl rfl rfl rfl ?_
            | (refine WP.lal tysOk rfl ⟨rfl, rfl⟩ rfl rfl rfl rfl rfl rfl rfl ?_; intro g)
            | refine WP.lend rfl ⟨rfl, rfl⟩ ?_
            | refine WP.qend rfl ?_
            | refine WP.mn rfl (by first | exact True.intro | exact rfl | exact ⟨⟨rfl, rfl⟩, rfl⟩) rfl rfl rfl rfl rfl rfl ?_
            | refine WP.mx rfl (by first | exact True.intro | exact rfl | exact ⟨⟨rfl, rfl⟩, rfl⟩) rfl rfl rfl rfl rfl rfl ?_)
          refine WP.reown (n' := (someTo i n out inn (k + 1)).length) (cs' := ints (someTo i n out inn (k + 1))) .head (by rw [someTo_yes hh]; simp) (by rw [someTo_yes hh]; exact kints_snoc _ _ _) ?_
          refine WP.stop rfl (v', k + 1) ⟨by dsimp only; omega, by dsimp only; omega⟩ ?_ ?_
          · repeat (first | exact True.intro | refine And.intro rfl ?_)
          · repeat (first | exact Pick.nil | (apply Pick.cons; (· repeat' (first | exact Rem.head | apply Rem.tail)
              )))
        · repeat' (first
            | (refine WP.st tysOk false rfl (by first | exact True.intro | exact rfl | exact ⟨⟨rfl, rfl⟩, rfl⟩) rfl rfl rfl rfl ?_ ?_; · (first | exact True.intro | exact ⟨by omega, by omega⟩ | exact ⟨by omega, by omega, by omega, by omega⟩ | omega))
            | (refine WP.ld tysOk rfl (by first | exact True.intro | exact rfl | exact ⟨⟨rfl, rfl⟩, rfl⟩) rfl rfl rfl rfl rfl rfl rfl ?_; apply ex2; (· first | (apply CellAt.blk; (· repeat' (first | exact Rem.head | apply Rem.tail)); (· rfl)) | (refine CellAt.fz ?_ (by assumption); repeat' (first | exact List.Mem.head _ | apply List.Mem.tail))
                ))
            | (refine WP.ldn tysOk rfl (by first | exact True.intro | exact rfl | exact ⟨⟨rfl, rfl⟩, rfl⟩) rfl rfl rfl rfl rfl rfl rfl ?_; apply ex2; (· first | (apply SegAt.blk'; (· repeat' (first | exact Rem.head | apply Rem.tail)); (· rfl)) | (refine ⟨SegAt.fz ?_ (by assumption), rfl⟩; repeat' (first | exact List.Mem.head _ | apply List.Mem.tail))
                ))
            | (refine WP.sto tysOk rfl rfl rfl rfl rfl rfl rfl rfl rfl ?_; apply ex3; (· repeat' (first | exact Rem.head | apply Rem.tail)
                ); (· first | exact Nat.le_of_ble_eq_true rfl | (simp [kints_length, arcsCells_length]; omega)
                ))
            | refine WP.ix1 tysOk rfl (by first | exact True.intro | exact rfl | exact ⟨⟨rfl, rfl⟩, rfl⟩) rfl rfl rfl rfl rfl rfl rfl rfl (by first | omega | (simp only []; omega)) ?_
            | refine WP.ix tysOk rfl (by first | exact True.intro | exact rfl | exact ⟨⟨rfl, rfl⟩, rfl⟩) rfl rfl rfl rfl rfl rfl rfl rfl (by first | omega | (simp only []; omega)) ?_
            | (refine WP.box rfl rfl rfl rfl rfl rfl ?_; intro g)
            | (refine WP.al tysOk rfl rfl rfl rfl rfl rfl ?_; intro g)
            | (refine WP.bs tysOk rfl rfl rfl rfl rfl rfl rfl rfl rfl rfl rfl rfl ?_; intro g)
            | refine WP.yes rfl rfl rfl ?_
            | refine WP.no rfl rfl rfl rfl rfl ?_
            | refine WP.noU rfl rfl rfl rfl ?_
            | (refine WP.gs rfl rfl rfl rfl (fun hh => ?_) (fun hh => ?_) <;> (try simp only [decide_eq_true_eq, decide_eq_false_iff_not, Bool.not_true, Bool.not_false] at hh) <;> (try (exfalso; omega)))
            | refine WP.condT rfl rfl ?_
            | refine WP.condF rfl rfl ?_
            | (refine WP.cond_d rfl rfl (fun hh => ?_) (fun hh => ?_) <;> try (exfalso; omega))
            | refine WP.cond rfl rfl (fun hh => ?_) (fun hh => ?_)
            | refine WP.bld tysOk rfl (by first | exact True.intro | exact rfl | exact ⟨⟨rfl, rfl⟩, rfl⟩) rfl rfl rfl rfl rfl rfl rfl ?_
            | (refine WP.lal tysOk rfl ⟨rfl, rfl⟩ rfl rfl rfl rfl rfl rfl rfl ?_; intro g)
            | refine WP.lend rfl ⟨rfl, rfl⟩ ?_
            | refine WP.qend rfl ?_
            | refine WP.mn rfl (by first | exact True.intro | exact rfl | exact ⟨⟨rfl, rfl⟩, rfl⟩) rfl rfl rfl rfl rfl rfl ?_
            | refine WP.mx rfl (by first | exact True.intro | exact rfl | exact ⟨⟨rfl, rfl⟩, rfl⟩) rfl rfl rfl rfl rfl rfl ?_)
          refine WP.reown (n' := (someTo i n out inn (k + 1)).length) (cs' := ints (someTo i n out inn (k + 1))) .head (by rw [someTo_no hh]) (by rw [someTo_no hh]) ?_
          refine WP.stop rfl (v, k + 1) ⟨by dsimp only; omega, by dsimp only; omega⟩ ?_ ?_
          · repeat (first | exact True.intro | refine And.intro rfl ?_)
          · repeat (first | exact Pick.nil | (apply Pick.cons; (· repeat' (first | exact Rem.head | apply Rem.tail)
              )))
    · refine WP.ret1 rfl rfl rfl (fun w1 hw1 => ⟨v, rfl, True.intro, ?_⟩)
      have : k = i.arcs.length := by omega
      subst this
      refine Ret.of_KH hw1 ?_
      repeat (first | exact Pick.nil | (apply Pick.cons; (· repeat' (first | exact Rem.head | apply Rem.tail)
        )))
end Go.Proofs.Ytcmcbiojkanlnaa
