/- The instances of the statements (quittancelaw03.Arcs): what choices give, and that they do. -/
import Derived.Test.YtcmcbiojkanlnaaTys
import Derived.Test.YtcmcbiojkanlnaaRd
import Derived.Test.YtcmcbiojkanlnaaInp
namespace Go.Proofs.Ytcmcbiojkanlnaa
open Go.RowKit Go.Qe
def INF : Int := 4611686018427387904
def arcOf (c : List Int) (many : Int) (p : Nat) : Arc :=
  { src := el c p % many, dst := el c p / 16 % many,
    low := if el c (p + 3) % 8 = 1 then 0 else el c (p + 1) % 3,
    cap := if el c (p + 3) % 8 = 0 then INF else el c (p + 1) % 3 + el c (p + 1) / 3 % 6,
    cost := if el c (p + 3) % 8 = 2 then 0 else el c (p + 2) % 21 - 8 }
def arcsTo (c : List Int) (many : Int) (k : Nat) : List Arc := (List.range k).map fun j => arcOf c many (4 * j)
def cntOf (c : List Int) : Nat := min (c.length / 4) 18
def arcsOf (c : List Int) (many : Int) : List Arc := arcsTo c many (cntOf c)
theorem arcsTo_succ (c : List Int) (many : Int) (k : Nat) : arcsTo c many (k + 1) = arcsTo c many k ++ [arcOf c many (4 * k)] := by simp [arcsTo, List.range_succ]
theorem arcsTo_length (c : List Int) (many : Int) (k : Nat) : (arcsTo c many k).length = k := by simp [arcsTo]
theorem arcsOf_length (c : List Int) (many : Int) : (arcsOf c many).length = cntOf c := arcsTo_length _ _ _
theorem arcs_snoc (l : List Arc) (a : Arc) : arcsCells l ++ a.cells = arcsCells (l ++ [a]) := by simp [arcsCells]
set_option maxHeartbeats 4000000 in
theorem arcs_c {w : World} {vc : Value} {c : List Int} {many : Int} (hc : U8Z (PH.of w) vc c) (h8 : Byt c) (hm : 0 < many) (hm2 : many ≤ 1000000) :
    Calls Try.prog 20 #[vc, .int .i64 many] w fun e w' => ∃ x : Option Addr × Nat, e = .returned (.slice x.1 (arcsOf c many).length x.2) ∧ True ∧ Ret w w' [.own (.slice x.1 (arcsOf c many).length x.2) 31 5 (arcsOf c many).length (arcsCells (arcsOf c many))] := by
  obtain ⟨A, cc, rfl, hc1, hc2, hcell⟩ := hc.open_
  clear hc
  refine enter_ Try.func20 rfl Try.ntmps20 rfl ?_
  repeat' (first
    | (refine WP.st tysOk false rfl (by first | exact True.intro | exact rfl | exact ⟨⟨rfl, rfl⟩, rfl⟩) rfl rfl rfl rfl ?_ ?_; · (first | exact True.intro | exact ⟨by omega, by omega⟩ | exact ⟨by omega, by omega, by omega, by omega⟩ | omega))
    | (refine WP.ld tysOk rfl (by first | exact True.intro | exact rfl | exact ⟨⟨rfl, rfl⟩, rfl⟩) rfl rfl rfl rfl rfl rfl rfl ?_; apply ex2; (· first | (apply CellAt.blk; (· repeat' (first | exact Rem.head | apply Rem.tail)); (· rfl)) | (refine CellAt.fz ?_ (by assumption); repeat' (first | exact List.Mem.head _ | apply List.Mem.tail))
        ))
    | (refine WP.ldn tysOk rfl (by first | exact True.intro | exact rfl | exact ⟨⟨rfl, rfl⟩, rfl⟩) rfl rfl rfl rfl rfl rfl rfl ?_; apply ex2; (· first | (apply SegAt.blk'; (· repeat' (first | exact Rem.head | apply Rem.tail)); (· rfl)) | (refine ⟨SegAt.fz ?_ (by assumption), rfl⟩; repeat' (first | exact List.Mem.head _ | apply List.Mem.tail))
        ))
    | (refine WP.sto tysOk rfl rfl rfl rfl rfl rfl rfl rfl rfl ?_; apply ex3; (· repeat' (first | exact Rem.head | apply Rem.tail)
        ); (· first | exact Nat.le_of_ble_eq_true rfl | (simp [kints_length, arcsCells_length]; omega)
        ))
    | refine WP.ix1 tysOk rfl (by first | exact True.intro | exact rfl | exact ⟨⟨rfl, rfl⟩, rfl⟩) rfl rfl rfl rfl rfl rfl rfl rfl (by first | omega | (simp only []; omega)) ?_
    | refine WP.ix tysOk rfl (by first | exact True.intro | exact rfl | exact ⟨⟨rfl, rfl⟩, rfl⟩) rfl rfl rfl rfl rfl rfl rfl rfl (by first | omega | (simp only []; omega)) ?_
    | (refine WP.box rfl rfl rfl rfl rfl rfl ?_; intro g)
    | (refine WP.al tysOk rfl rfl rfl rfl rfl rfl ?_; intro g)
    | (refine WP.bs tysOk rfl rfl rfl rfl rfl rfl rfl rfl rfl rfl rfl rfl ?_; intro g)
    | refine WP.yes rfl rfl rfl ?_
    | refine WP.no rfl rfl rfl rfl rfl ?_
    | refine WP.noU rfl rfl rfl rfl ?_
    | (refine WP.gs rfl rfl rfl rfl (fun hh => ?_) (fun hh => ?_) <;> (try simp only [decide_eq_true_eq, decide_eq_false_iff_not, Bool.not_true, Bool.not_false] at hh) <;> (try (exfalso; omega)))
    | refine WP.condT rfl rfl ?_
    | refine WP.condF rfl rfl ?_
    | (refine WP.cond_d rfl rfl (fun hh => ?_) (fun hh => ?_) <;> try (exfalso; omega))
    | refine WP.cond rfl rfl (fun hh => ?_) (fun hh => ?_)
    | refine WP.bld tysOk rfl (by first | exact True.intro | exact rfl | exact ⟨⟨rfl, rfl⟩, rfl⟩) rfl rfl rfl rfl rfl rfl rfl ?_
    | (refine WP.lal tysOk rfl ⟨rfl, rfl⟩ rfl rfl rfl rfl rfl rfl rfl ?_; intro g)
    | refine WP.lend rfl ⟨rfl, rfl⟩ ?_
    | refine WP.qend rfl ?_
    | refine WP.mn rfl (by first | exact True.intro | exact rfl | exact ⟨⟨rfl, rfl⟩, rfl⟩) rfl rfl rfl rfl rfl rfl ?_
    | refine WP.mx rfl (by first | exact True.intro | exact rfl | exact ⟨⟨rfl, rfl⟩, rfl⟩) rfl rfl rfl rfl rfl rfl ?_)
  refine WP.own_nil 31 5 ?_
  refine WP.loop (α := Option Addr × Nat × Nat) (fun x => x.2.2 ≤ cntOf c)
    (fun x => [(0, .slice A c.length cc), (1, .int .i64 many), (5, .slice x.1 (arcsTo c many x.2.2).length x.2.1), (6, .int .i64 (4 * x.2.2 : Nat))])
    (fun x => [.own (.slice x.1 (arcsTo c many x.2.2).length x.2.1) 31 5 (arcsTo c many x.2.2).length (arcsCells (arcsTo c many x.2.2)), .fz (PH.of w)])
    (fun x => cntOf c - x.2.2) rfl (none, 0, 0) (Nat.zero_le _) ?_ ?_ ?_
  · repeat (first | exact True.intro | refine And.intro rfl ?_)
  · repeat (first | exact Pick.nil | (apply Pick.cons; (· repeat' (first | exact Rem.head | apply Rem.tail)
      )))
  · intro ⟨B, bc, k⟩ hk
    dsimp only at hk ⊢
    have hk' : k ≤ c.length / 4 ∧ k ≤ 18 := by simp only [cntOf] at hk; omega
    repeat' (first
      | (refine WP.st tysOk false rfl (by first | exact True.intro | exact rfl | exact ⟨⟨rfl, rfl⟩, rfl⟩) rfl rfl rfl rfl ?_ ?_; · (first | exact True.intro | exact ⟨by omega, by omega⟩ | exact ⟨by omega, by omega, by omega, by omega⟩ | omega))
      | (refine WP.ld tysOk rfl (by first | exact True.intro | exact rfl | exact ⟨⟨rfl, rfl⟩, rfl⟩) rfl rfl rfl rfl rfl rfl rfl ?_; apply ex2; (· first | (apply CellAt.blk; (· repeat' (first | exact Rem.head | apply Rem.tail)); (· rfl)) | (refine CellAt.fz ?_ (by assumption); repeat' (first | exact List.Mem.head _ | apply List.Mem.tail))
          ))
      | (refine WP.ldn tysOk rfl (by first | exact True.intro | exact rfl | exact ⟨⟨rfl, rfl⟩, rfl⟩) rfl rfl rfl rfl rfl rfl rfl ?_; apply ex2; (· first | (apply SegAt.blk'; (· repeat' (first | exact Rem.head | apply Rem.tail)); (· rfl)) | (refine ⟨SegAt.fz ?_ (by assumption), rfl⟩; repeat' (first | exact List.Mem.head _ | apply List.Mem.tail))
          ))
      | (refine WP.sto tysOk rfl rfl rfl rfl rfl rfl rfl rfl rfl ?_; apply ex3; (· repeat' (first | exact Rem.head | apply Rem.tail)
          ); (· first | exact Nat.le_of_ble_eq_true rfl | (simp [kints_length, arcsCells_length]; omega)
          ))
      | refine WP.ix1 tysOk rfl (by first | exact True.intro | exact rfl | exact ⟨⟨rfl, rfl⟩, rfl⟩) rfl rfl rfl rfl rfl rfl rfl rfl (by first | omega | (simp only []; omega)) ?_
      | refine WP.ix tysOk rfl (by first | exact True.intro | exact rfl | exact ⟨⟨rfl, rfl⟩, rfl⟩) rfl rfl rfl rfl rfl rfl rfl rfl (by first | omega | (simp only []; omega)) ?_
      | (refine WP.box rfl rfl rfl rfl rfl rfl ?_; intro g)
      | (refine WP.al tysOk rfl rfl rfl rfl rfl rfl ?_; intro g)
      | (refine WP.bs tysOk rfl rfl rfl rfl rfl rfl rfl rfl rfl rfl rfl rfl ?_; intro g)
      | refine WP.yes rfl rfl rfl ?_
      | refine WP.no rfl rfl rfl rfl rfl ?_
      | refine WP.noU rfl rfl rfl rfl ?_
      | (refine WP.gs rfl rfl rfl rfl (fun hh => ?_) (fun hh => ?_) <;> (try simp only [decide_eq_true_eq, decide_eq_false_iff_not, Bool.not_true, Bool.not_false] at hh) <;> (try (exfalso; omega)))
      | refine WP.condT rfl rfl ?_
      | refine WP.condF rfl rfl ?_
      | (refine WP.cond_d rfl rfl (fun hh => ?_) (fun hh => ?_) <;> try (exfalso; omega))
      | refine WP.cond rfl rfl (fun hh => ?_) (fun hh => ?_)
      | refine WP.bld tysOk rfl (by first | exact True.intro | exact rfl | exact ⟨⟨rfl, rfl⟩, rfl⟩) rfl rfl rfl rfl rfl rfl rfl ?_
      | (refine WP.lal tysOk rfl ⟨rfl, rfl⟩ rfl rfl rfl rfl rfl rfl rfl ?_; intro g)
      | refine WP.lend rfl ⟨rfl, rfl⟩ ?_
      | refine WP.qend rfl ?_
      | refine WP.mn rfl (by first | exact True.intro | exact rfl | exact ⟨⟨rfl, rfl⟩, rfl⟩) rfl rfl rfl rfl rfl rfl ?_
      | refine WP.mx rfl (by first | exact True.intro | exact rfl | exact ⟨⟨rfl, rfl⟩, rfl⟩) rfl rfl rfl rfl rfl rfl ?_)
    · obtain ⟨b, off, rfl, hcs⟩ := hcell (by omega)
      have g0 := hcs (4 * k) (by omega)
      have g1 := hcs (4 * k + 1) (by omega)
      have g2 := hcs (4 * k + 2) (by omega)
      have g3 := hcs (4 * k + 3) (by omega)
      have r0 := h8 (4 * k)
      have r1 := h8 (4 * k + 1)
      have r2 := h8 (4 * k + 2)
      have r3 := h8 (4 * k + 3)
      clear hcs hcell
      have hq : ∀ x : Int, 0 ≤ x % many ∧ x % many < many := fun x => ⟨Int.emod_nonneg _ (by omega), Int.emod_lt_of_pos _ hm⟩
      refine WP.drawL 32 [(31, [], fun _ => blkSpec 31 (Arc.cells default))] rfl (by kernel_rfl) (by kernel_rfl) rfl ?_
      repeat' (first
        | (refine WP.st tysOk false rfl (by first | exact True.intro | exact rfl | exact ⟨⟨rfl, rfl⟩, rfl⟩) rfl rfl rfl rfl ?_ ?_; · (first | exact True.intro | exact ⟨by omega, by omega⟩ | exact ⟨by omega, by omega, by omega, by omega⟩ | omega))
        | (refine WP.ld tysOk rfl (by first | exact True.intro | exact rfl | exact ⟨⟨rfl, rfl⟩, rfl⟩) rfl rfl rfl rfl rfl rfl rfl ?_; apply ex2; (· first | (apply CellAt.blk; (· repeat' (first | exact Rem.head | apply Rem.tail)); (· rfl)) | (refine CellAt.fz ?_ (by assumption); repeat' (first | exact List.Mem.head _ | apply List.Mem.tail))
            ))
        | (refine WP.ldn tysOk rfl (by first | exact True.intro | exact rfl | exact ⟨⟨rfl, rfl⟩, rfl⟩) rfl rfl rfl rfl rfl rfl rfl ?_; apply ex2; (· first | (apply SegAt.blk'; (· repeat' (first | exact Rem.head | apply Rem.tail)); (· rfl)) | (refine ⟨SegAt.fz ?_ (by assumption), rfl⟩; repeat' (first | exact List.Mem.head _ | apply List.Mem.tail))
            ))
        | (refine WP.sto tysOk rfl rfl rfl rfl rfl rfl rfl rfl rfl ?_; apply ex3; (· repeat' (first | exact Rem.head | apply Rem.tail)
            ); (· first | exact Nat.le_of_ble_eq_true rfl | (simp [kints_length, arcsCells_length]; omega)
            ))
        | refine WP.ix1 tysOk rfl (by first | exact True.intro | exact rfl | exact ⟨⟨rfl, rfl⟩, rfl⟩) rfl rfl rfl rfl rfl rfl rfl rfl (by first | omega | (simp only []; omega)) ?_
        | refine WP.ix tysOk rfl (by first | exact True.intro | exact rfl | exact ⟨⟨rfl, rfl⟩, rfl⟩) rfl rfl rfl rfl rfl rfl rfl rfl (by first | omega | (simp only []; omega)) ?_
        | (refine WP.box rfl rfl rfl rfl rfl rfl ?_; intro g)
        | (refine WP.al tysOk rfl rfl rfl rfl rfl rfl ?_; intro g)
        | (refine WP.bs tysOk rfl rfl rfl rfl rfl rfl rfl rfl rfl rfl rfl rfl ?_; intro g)
        | refine WP.yes rfl rfl rfl ?_
        | refine WP.no rfl rfl rfl rfl rfl ?_
        | refine WP.noU rfl rfl rfl rfl ?_
        | (refine WP.gs rfl rfl rfl rfl (fun hh => ?_) (fun hh => ?_) <;> (try simp only [decide_eq_true_eq, decide_eq_false_iff_not, Bool.not_true, Bool.not_false] at hh) <;> (try (exfalso; omega)))
        | refine WP.condT rfl rfl ?_
        | refine WP.condF rfl rfl ?_
        | (refine WP.cond_d rfl rfl (fun hh => ?_) (fun hh => ?_) <;> try (exfalso; omega))
        | refine WP.cond rfl rfl (fun hh => ?_) (fun hh => ?_)
        | refine WP.bld tysOk rfl (by first | exact True.intro | exact rfl | exact ⟨⟨rfl, rfl⟩, rfl⟩) rfl rfl rfl rfl rfl rfl rfl ?_
        | (refine WP.lal tysOk rfl ⟨rfl, rfl⟩ rfl rfl rfl rfl rfl rfl rfl ?_; intro g)
        | refine WP.lend rfl ⟨rfl, rfl⟩ ?_
        | refine WP.qend rfl ?_
        | refine WP.mn rfl (by first | exact True.intro | exact rfl | exact ⟨⟨rfl, rfl⟩, rfl⟩) rfl rfl rfl rfl rfl rfl ?_
        | refine WP.mx rfl (by first | exact True.intro | exact rfl | exact ⟨⟨rfl, rfl⟩, rfl⟩) rfl rfl rfl rfl rfl rfl ?_)
      refine WP.reblk (cs' := [.int .i64 (el c (4 * k) % many), .int .i64 (el c (4 * k) / 16 % many), .int .i64 (el c (4 * k + 1) % 3), .int .i64 0, .int .i64 (el c (4 * k + 2) % 21 - 8)]) .head rfl ?_
      refine WP.weaken (fr' := [(0, .slice (some ⟨b, off, none⟩) c.length cc), (1, .int .i64 many), (5, .slice B (arcsTo c many k).length bc), (6, .int .i64 (4 * k : Nat)), (7, .pointer (some ⟨g, 0, none⟩))]) (H' := [.blk g 31 [.int .i64 (el c (4 * k) % many), .int .i64 (el c (4 * k) / 16 % many), .int .i64 (el c (4 * k + 1) % 3), .int .i64 0, .int .i64 (el c (4 * k + 2) % 21 - 8)], .own (.slice B (arcsTo c many k).length bc) 31 5 (arcsTo c many k).length (arcsCells (arcsTo c many k)), .fz (PH.of w)]) ?_ ?_ ?_
      · repeat (first | exact True.intro | refine And.intro rfl ?_)
      · repeat (first | exact Pick.nil | (apply Pick.cons; (· repeat' (first | exact Rem.head | apply Rem.tail)
          )))
      refine WP.drawL 12 [] rfl (by kernel_rfl) (by kernel_rfl) rfl ?_
      repeat' (first
        | (refine WP.st tysOk false rfl (by first | exact True.intro | exact rfl | exact ⟨⟨rfl, rfl⟩, rfl⟩) rfl rfl rfl rfl ?_ ?_; · (first | exact True.intro | exact ⟨by omega, by omega⟩ | exact ⟨by omega, by omega, by omega, by omega⟩ | omega))
        | (refine WP.ld tysOk rfl (by first | exact True.intro | exact rfl | exact ⟨⟨rfl, rfl⟩, rfl⟩) rfl rfl rfl rfl rfl rfl rfl ?_; apply ex2; (· first | (apply CellAt.blk; (· repeat' (first | exact Rem.head | apply Rem.tail)); (· rfl)) | (refine CellAt.fz ?_ (by assumption); repeat' (first | exact List.Mem.head _ | apply List.Mem.tail))
            ))
        | (refine WP.ldn tysOk rfl (by first | exact True.intro | exact rfl | exact ⟨⟨rfl, rfl⟩, rfl⟩) rfl rfl rfl rfl rfl rfl rfl ?_; apply ex2; (· first | (apply SegAt.blk'; (· repeat' (first | exact Rem.head | apply Rem.tail)); (· rfl)) | (refine ⟨SegAt.fz ?_ (by assumption), rfl⟩; repeat' (first | exact List.Mem.head _ | apply List.Mem.tail))
            ))
        | (refine WP.sto tysOk rfl rfl rfl rfl rfl rfl rfl rfl rfl ?_; apply ex3; (· repeat' (first | exact Rem.head | apply Rem.tail)
            ); (· first | exact Nat.le_of_ble_eq_true rfl | (simp [kints_length, arcsCells_length]; omega)
            ))
        | refine WP.ix1 tysOk rfl (by first | exact True.intro | exact rfl | exact ⟨⟨rfl, rfl⟩, rfl⟩) rfl rfl rfl rfl rfl rfl rfl rfl (by first | omega | (simp only []; omega)) ?_
        | refine WP.ix tysOk rfl (by first | exact True.intro | exact rfl | exact ⟨⟨rfl, rfl⟩, rfl⟩) rfl rfl rfl rfl rfl rfl rfl rfl (by first | omega | (simp only []; omega)) ?_
        | (refine WP.box rfl rfl rfl rfl rfl rfl ?_; intro g)
        | (refine WP.al tysOk rfl rfl rfl rfl rfl rfl ?_; intro g)
        | (refine WP.bs tysOk rfl rfl rfl rfl rfl rfl rfl rfl rfl rfl rfl rfl ?_; intro g)
        | refine WP.yes rfl rfl rfl ?_
        | refine WP.no rfl rfl rfl rfl rfl ?_
        | refine WP.noU rfl rfl rfl rfl ?_
        | (refine WP.gs rfl rfl rfl rfl (fun hh => ?_) (fun hh => ?_) <;> (try simp only [decide_eq_true_eq, decide_eq_false_iff_not, Bool.not_true, Bool.not_false] at hh) <;> (try (exfalso; omega)))
        | refine WP.condT rfl rfl ?_
        | refine WP.condF rfl rfl ?_
        | (refine WP.cond_d rfl rfl (fun hh => ?_) (fun hh => ?_) <;> try (exfalso; omega))
        | refine WP.cond rfl rfl (fun hh => ?_) (fun hh => ?_)
        | refine WP.bld tysOk rfl (by first | exact True.intro | exact rfl | exact ⟨⟨rfl, rfl⟩, rfl⟩) rfl rfl rfl rfl rfl rfl rfl ?_
        | (refine WP.lal tysOk rfl ⟨rfl, rfl⟩ rfl rfl rfl rfl rfl rfl rfl ?_; intro g)
        | refine WP.lend rfl ⟨rfl, rfl⟩ ?_
        | refine WP.qend rfl ?_
        | refine WP.mn rfl (by first | exact True.intro | exact rfl | exact ⟨⟨rfl, rfl⟩, rfl⟩) rfl rfl rfl rfl rfl rfl ?_
        | refine WP.mx rfl (by first | exact True.intro | exact rfl | exact ⟨⟨rfl, rfl⟩, rfl⟩) rfl rfl rfl rfl rfl rfl ?_)
      all_goals
        refine WP.reblk (cs' := (arcOf c many (4 * k)).cells) .head (by simp [cellsOf, Arc.cells, arcOf, INF, Value.cells, *]) ?_
        have hlen := arcsTo_length c many k
        refine WP.app tysOk rfl rfl rfl rfl rfl rfl rfl rfl rfl rfl rfl ?_
        apply exo
        · repeat' (first | exact Rem.head | apply Rem.tail)
        apply ex2
        · first | (apply SegAt.blk'; (· repeat' (first | exact Rem.head | apply Rem.tail)); (· rfl)) | (refine ⟨SegAt.fz ?_ (by assumption), rfl⟩; repeat' (first | exact List.Mem.head _ | apply List.Mem.tail))
        refine ⟨rfl, by omega, by omega, ?_⟩
        intro v'
        refine WP.reown (n' := (arcsTo c many (k + 1)).length) (cs' := arcsCells (arcsTo c many (k + 1))) .head (by rw [arcsTo_length, arcsTo_length]) (by rw [arcsTo_succ]; exact arcs_snoc _ (arcOf c many (4 * k))) ?_
        refine WP.shape .head ?_
        rintro B' bc' rfl
        repeat' (first
          | (refine WP.st tysOk false rfl (by first | exact True.intro | exact rfl | exact ⟨⟨rfl, rfl⟩, rfl⟩) rfl rfl rfl rfl ?_ ?_; · (first | exact True.intro | exact ⟨by omega, by omega⟩ | exact ⟨by omega, by omega, by omega, by omega⟩ | omega))
          | (refine WP.ld tysOk rfl (by first | exact True.intro | exact rfl | exact ⟨⟨rfl, rfl⟩, rfl⟩) rfl rfl rfl rfl rfl rfl rfl ?_; apply ex2; (· first | (apply CellAt.blk; (· repeat' (first | exact Rem.head | apply Rem.tail)); (· rfl)) | (refine CellAt.fz ?_ (by assumption); repeat' (first | exact List.Mem.head _ | apply List.Mem.tail))
              ))
          | (refine WP.ldn tysOk rfl (by first | exact True.intro | exact rfl | exact ⟨⟨rfl, rfl⟩, rfl⟩) rfl rfl rfl rfl rfl rfl rfl ?_; apply ex2; (· first | (apply SegAt.blk'; (· repeat' (first | exact Rem.head | apply Rem.tail)); (· rfl)) | (refine ⟨SegAt.fz ?_ (by assumption), rfl⟩; repeat' (first | exact List.Mem.head _ | apply List.Mem.tail))
              ))
          | (refine WP.sto tysOk rfl rfl rfl rfl rfl rfl rfl rfl rfl ?_; apply ex3; (· repeat' (first | exact Rem.head | apply Rem.tail)
              ); (· first | exact Nat.le_of_ble_eq_true rfl | (simp [kints_length, arcsCells_length]; omega)
              ))
          | refine WP.ix1 tysOk rfl (by first | exact True.intro | exact rfl | exact ⟨⟨rfl, rfl⟩, rfl⟩) rfl rfl rfl rfl rfl rfl rfl rfl (by first | omega | (simp only []; omega)) ?_
          | refine WP.ix tysOk rfl (by first | exact True.intro | exact rfl | exact ⟨⟨rfl, rfl⟩, rfl⟩) rfl rfl rfl rfl rfl rfl rfl rfl (by first | omega | (simp only []; omega)) ?_
          | (refine WP.box rfl rfl rfl rfl rfl rfl ?_; intro g)
          | (refine WP.al tysOk rfl rfl rfl rfl rfl rfl ?_; intro g)
          | (refine WP.bs tysOk rfl rfl rfl rfl rfl rfl rfl rfl rfl rfl rfl rfl ?_; intro g)
          | refine WP.yes rfl rfl rfl ?_
          | refine WP.no rfl rfl rfl rfl rfl ?_
          | refine WP.noU rfl rfl rfl rfl ?_
          | (refine WP.gs rfl rfl rfl rfl (fun hh => ?_) (fun hh => ?_) <;> (try simp only [decide_eq_true_eq, decide_eq_false_iff_not, Bool.not_true, Bool.not_false] at hh) <;> (try (exfalso; omega)))
          | refine WP.condT rfl rfl ?_
          | refine WP.condF rfl rfl ?_
          | (refine WP.cond_d rfl rfl (fun hh => ?_) (fun hh => ?_) <;> try (exfalso; omega))
          | refine WP.cond rfl rfl (fun hh => ?_) (fun hh => ?_)
          | refine WP.bld tysOk rfl (by first | exact True.intro | exact rfl | exact ⟨⟨rfl, rfl⟩, rfl⟩) rfl rfl rfl rfl rfl rfl rfl ?_
          | (refine WP.lal tysOk rfl ⟨rfl, rfl⟩ rfl rfl rfl rfl rfl rfl rfl ?_; intro g)
          | refine WP.lend rfl ⟨rfl, rfl⟩ ?_
          | refine WP.qend rfl ?_
          | refine WP.mn rfl (by first | exact True.intro | exact rfl | exact ⟨⟨rfl, rfl⟩, rfl⟩) rfl rfl rfl rfl rfl rfl ?_
          | refine WP.mx rfl (by first | exact True.intro | exact rfl | exact ⟨⟨rfl, rfl⟩, rfl⟩) rfl rfl rfl rfl rfl rfl ?_)
        refine WP.retell (s := 6) (.int .i64 (4 * (k + 1) : Nat)) rfl (by rw [show ((4 * (k + 1) : Nat) : Int) = ((4 * k : Nat) : Int) + 4 by omega]) ?_
        refine WP.stop rfl (B', bc', k + 1) ⟨by simp only [cntOf]; omega, by simp only [cntOf]; omega⟩ ?_ ?_
        · repeat (first | exact True.intro | refine And.intro rfl ?_)
        · repeat (first | exact Pick.nil | (apply Pick.cons; (· repeat' (first | exact Rem.head | apply Rem.tail)
            )))
    all_goals
      have hk2 : k = cntOf c := by simp only [cntOf]; omega
      subst hk2
      refine WP.ret1 rfl rfl rfl (fun w1 hw1 => ⟨(B, bc), rfl, True.intro, Ret.of_KH hw1 (by repeat (first | exact Pick.nil | (apply Pick.cons; (· repeat' (first | exact Rem.head | apply Rem.tail)
                                                                                               )))
        )⟩)
end Go.Proofs.Ytcmcbiojkanlnaa
