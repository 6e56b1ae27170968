/- Adj: rows, walked. -/
import Derived.Test.YtbnjeanldechnaaGreatDoorA10
namespace Go.Proofs.YtbnjeanldechnaaGreatDoor
open Go.RowKit Go.Qe
set_option maxRecDepth 20000 in
set_option maxHeartbeats 2000000 in
theorem rows_c {w : World} {vi : Value} {i : Inst} {fid : FuncId} {by_ : Arc → Int} (hi : InstZ (PH.of w) vi i) (hcall : callable Tryz.prog fid = true)
    (hby : ∀ (w : World) (a : Arc), Calls Tryz.prog fid #[a.val] w fun e w' => e = .returned (.int .i64 (by_ a)) ∧ Below w.heap.size w w')
    (hrg : ∀ a : Arc, wholeB i.supply.length a = true → 0 ≤ by_ a ∧ by_ a < i.supply.length)
    (hs : i.supply.length ≤ 17592186044415) (ha : i.arcs.length ≤ 17592186044416) :
    Calls Tryz.prog 74 #[vi, .func (.func fid) #[] #[]] w fun e w' => ∃ x : Value × Value × List Int × List Int, e = .returned (.tuple #[x.1, x.2.1]) ∧
      (∃ zs, Put i by_ i.arcs.length zs x.2.2.1 ∧ Sums i by_ i.supply.length x.2.2.2) ∧ Ret w w' [.own x.1 3 1 x.2.2.1.length (ints x.2.2.1), .own x.2.1 3 1 x.2.2.2.length (ints x.2.2.2)] := by
  have hi' := hi
  obtain ⟨s, l, rfl, h1, h2⟩ := hi
  obtain ⟨A, c, rfl, hc, hm, hcell⟩ := h1.open_
  obtain ⟨A', c', rfl, hc', hm', hcell'⟩ := h2.open_
  clear h1 h2 hcell
  have hfit : ∀ k : Nat, k < i.arcs.length → fitB i k = wholeB i.supply.length (arcAt i.arcs k) := fun k hk => by simp [fitB]; omega
  have hsl := startAt_bkt_le i by_ i.supply.length i.arcs.length
  refine enter_ Tryz.func74 rfl Tryz.ntmps74 rfl ?_
  repeat' (first | (refine WP.st tysOk false rfl (by first | exact True.intro | exact rfl | exact ⟨⟨rfl, rfl⟩, rfl⟩) rfl rfl rfl rfl ?_ ?_; · (first | exact True.intro | exact ⟨by omega, by omega⟩ | exact ⟨by omega, by omega, by omega, by omega⟩ | omega)) | (refine WP.ld tysOk rfl (by first | exact True.intro | exact rfl | exact ⟨⟨rfl, rfl⟩, rfl⟩) rfl rfl rfl rfl rfl rfl rfl ?_; apply ex2; (· first | (apply CellAt.blk; (· repeat' (first | exact Rem.head | apply Rem.tail)); (· rfl)) | (refine CellAt.fz ?_ (by assumption); repeat' (first | exact List.Mem.head _ | apply List.Mem.tail)) )) | (refine WP.box rfl rfl rfl rfl rfl rfl ?_; intro g))
  refine WP.retell (s := 15) (.int .i64 ((i.supply.length + 1 : Nat) : Int)) rfl (by simp) ?_
  refine WP.mk1 tysOk rfl rfl rfl rfl rfl rfl rfl rfl rfl rfl (by omega) (by omega) ?_
  intro gat
  refine WP.reblk (cs' := ints (List.replicate (i.supply.length + 1) 0)) .head (kints_replicate .i64 (i.supply.length + 1) 0) ?_
  repeat' (first | (refine WP.st tysOk false rfl (by first | exact True.intro | exact rfl | exact ⟨⟨rfl, rfl⟩, rfl⟩) rfl rfl rfl rfl ?_ ?_; · (first | exact True.intro | exact ⟨by omega, by omega⟩ | exact ⟨by omega, by omega, by omega, by omega⟩ | omega)) | (refine WP.ld tysOk rfl (by first | exact True.intro | exact rfl | exact ⟨⟨rfl, rfl⟩, rfl⟩) rfl rfl rfl rfl rfl rfl rfl ?_; apply ex2; (· first | (apply CellAt.blk; (· repeat' (first | exact Rem.head | apply Rem.tail)); (· rfl)) | (refine CellAt.fz ?_ (by assumption); repeat' (first | exact List.Mem.head _ | apply List.Mem.tail)) )))
  -- phase 1
  refine WP.loop (α := Nat × List Int) (fun x => x.1 ≤ i.arcs.length ∧ Cnt i by_ x.1 x.2)
    (fun x => [(1, .func (.func fid) #[] #[]), (2, .pointer (some ⟨g, 0, none⟩)), (5, .slice (some ⟨gat, 0, none⟩) (i.supply.length + 1) (i.supply.length + 1)), (18, .slice A' i.arcs.length c'), (19, .int .i64 i.arcs.length), (20, .int .i64 x.1)])
    (fun x => [.blk gat 3 (ints x.2), .blk g 25 [.slice A i.supply.length c, .slice A' i.arcs.length c'], .fz (PH.of w)])
    (fun x => i.arcs.length - x.1) rfl (0, List.replicate (i.supply.length + 1) 0) ⟨Nat.zero_le _, Cnt.start _ _⟩ ?_ ?_ ?_
  · repeat (first | exact True.intro | refine And.intro rfl ?_)
  · repeat (first | exact Pick.nil | (apply Pick.cons; (· repeat' (first | exact Rem.head | apply Rem.tail)
      )))
  · intro ⟨k, xs⟩ ⟨hk, hcnt⟩
    dsimp only at hk hcnt ⊢
    have hlen := hcnt.len
    repeat' (first | (refine WP.st tysOk false rfl (by first | exact True.intro | exact rfl | exact ⟨⟨rfl, rfl⟩, rfl⟩) rfl rfl rfl rfl ?_ ?_; · (first | exact True.intro | exact ⟨by omega, by omega⟩ | exact ⟨by omega, by omega, by omega, by omega⟩ | omega)) | (refine WP.ld tysOk rfl (by first | exact True.intro | exact rfl | exact ⟨⟨rfl, rfl⟩, rfl⟩) rfl rfl rfl rfl rfl rfl rfl ?_; apply ex2; (· first | (apply CellAt.blk; (· repeat' (first | exact Rem.head | apply Rem.tail)); (· rfl)) | (refine CellAt.fz ?_ (by assumption); repeat' (first | exact List.Mem.head _ | apply List.Mem.tail)) )) | (refine WP.cond_d rfl rfl (fun hh => ?_) (fun hh => ?_) <;> try (exfalso; omega)))
    · obtain ⟨b, off, rfl, hcs⟩ := hcell' (by omega)
      obtain ⟨_, _, _, _, _, g5⟩ := hcs k (by omega)
      have hfk := hfit k (by omega)
      have hrk := hrg (arcAt i.arcs k)
      repeat' (first | (refine WP.ldn tysOk rfl (by first | exact True.intro | exact rfl | exact ⟨⟨rfl, rfl⟩, rfl⟩) rfl rfl rfl rfl rfl rfl rfl ?_; apply ex2; (· first | (apply SegAt.blk'; (· repeat' (first | exact Rem.head | apply Rem.tail)); (· rfl)) | (refine ⟨SegAt.fz ?_ (by assumption), rfl⟩; repeat' (first | exact List.Mem.head _ | apply List.Mem.tail)) )) | (refine WP.sto tysOk rfl rfl rfl rfl rfl rfl rfl rfl rfl ?_; apply ex3; (· repeat' (first | exact Rem.head | apply Rem.tail) ); (· first | exact Nat.le_of_ble_eq_true rfl | (simp [kints_length, arcsCells_length]; omega) )) | refine WP.ix tysOk rfl (by first | exact True.intro | exact rfl | exact ⟨⟨rfl, rfl⟩, rfl⟩) rfl rfl rfl rfl rfl rfl rfl rfl (by first | omega | (simp only []; omega)) ?_ | (refine WP.al tysOk rfl rfl rfl rfl rfl rfl ?_; intro g))
      rename_i g7
      refine WP.reblk (cs' := (arcAt i.arcs k).cells) .head rfl ?_
      skip
      refine WP.callV rfl rfl rfl rfl rfl rfl rfl (by kernel_rfl) (fun w1 hw1 => whole_c (a := arcAt i.arcs k) (hi'.le (hw1.le (by simp)))) (by first | exact True.intro | exact rfl | exact ⟨⟨rfl, rfl⟩, rfl⟩) ?_
      repeat' (first | (refine WP.st tysOk false rfl (by first | exact True.intro | exact rfl | exact ⟨⟨rfl, rfl⟩, rfl⟩) rfl rfl rfl rfl ?_ ?_; · (first | exact True.intro | exact ⟨by omega, by omega⟩ | exact ⟨by omega, by omega, by omega, by omega⟩ | omega)) | (refine WP.ldn tysOk rfl (by first | exact True.intro | exact rfl | exact ⟨⟨rfl, rfl⟩, rfl⟩) rfl rfl rfl rfl rfl rfl rfl ?_; apply ex2; (· first | (apply SegAt.blk'; (· repeat' (first | exact Rem.head | apply Rem.tail)); (· rfl)) | (refine ⟨SegAt.fz ?_ (by assumption), rfl⟩; repeat' (first | exact List.Mem.head _ | apply List.Mem.tail)) )) | (refine WP.cond_d rfl rfl (fun hh => ?_) (fun hh => ?_) <;> try (exfalso; omega)))
      · obtain ⟨hr1, hr2⟩ := hrk (decide_eq_true hh)
        obtain ⟨m, hm0⟩ := Int.eq_ofNat_of_zero_le hr1
        have hmN : m < i.supply.length := by omega
        have hcb := fun w => hby w (arcAt i.arcs k)
        rw [hm0] at hcb
        refine WP.callV rfl rfl rfl rfl rfl rfl rfl hcall (fun w1 hw1 => hcb w1) True.intro ?_
        repeat' (first | (refine WP.st tysOk false rfl (by first | exact True.intro | exact rfl | exact ⟨⟨rfl, rfl⟩, rfl⟩) rfl rfl rfl rfl ?_ ?_; · (first | exact True.intro | exact ⟨by omega, by omega⟩ | exact ⟨by omega, by omega, by omega, by omega⟩ | omega)) | refine WP.ix1 tysOk rfl (by first | exact True.intro | exact rfl | exact ⟨⟨rfl, rfl⟩, rfl⟩) rfl rfl rfl rfl rfl rfl rfl rfl (by first | omega | (simp only []; omega)) ?_)
        refine WP.ld tysOk rfl True.intro rfl rfl rfl rfl rfl rfl rfl ?_
        apply ex2
        · exact CellAt.blk (.tail .head) (kints_get0 (j := 0 + (m + 1)) (by omega))
        rw [Nat.zero_add]
        have hcv := hcnt.cnt m hmN
        have hle := bkt_le i by_ m hk
        have hle2 : (bkt i by_ k m).length ≤ k := by
          have := bkt_pre i by_ m (Nat.zero_le k)
          have h9 := startAt_bkt_le i by_ (m + 1) k
          simp only [startAt] at h9
          omega
        refine WP.retell (s := 33) (.int .i64 ((bkt i by_ k m).length : Int)) rfl (by rw [hcv]) ?_
        repeat' (first | (refine WP.st tysOk false rfl (by first | exact True.intro | exact rfl | exact ⟨⟨rfl, rfl⟩, rfl⟩) rfl rfl rfl rfl ?_ ?_; · (first | exact True.intro | exact ⟨by omega, by omega⟩ | exact ⟨by omega, by omega, by omega, by omega⟩ | omega)) | (refine WP.sto tysOk rfl rfl rfl rfl rfl rfl rfl rfl rfl ?_; apply ex3; (· repeat' (first | exact Rem.head | apply Rem.tail) ); (· first | exact Nat.le_of_ble_eq_true rfl | (simp [kints_length, arcsCells_length]; omega) )) | refine WP.ix1 tysOk rfl (by first | exact True.intro | exact rfl | exact ⟨⟨rfl, rfl⟩, rfl⟩) rfl rfl rfl rfl rfl rfl rfl rfl (by first | omega | (simp only []; omega)) ?_)
        refine WP.reblk (cs' := ints (xs.set (m + 1) (el xs (m + 1) + 1))) .head (by rw [hcv]; exact (kints_set0 (j := 0 + (m + 1)) (by omega)).trans (by rw [Nat.zero_add])) ?_
        refine WP.stop rfl (k + 1, xs.set (m + 1) (el xs (m + 1) + 1)) ⟨⟨by dsimp only; omega, hcnt.yes (by rw [hfk]; exact decide_eq_true hh) hm0 hmN⟩, by dsimp only; omega⟩ ?_ ?_
        · repeat (first | exact True.intro | refine And.intro rfl ?_)
        · repeat (first | exact Pick.nil | (apply Pick.cons; (· repeat' (first | exact Rem.head | apply Rem.tail)
            )))
      · skip
        refine WP.stop rfl (k + 1, xs) ⟨⟨by dsimp only; omega, hcnt.no (by rw [hfk]; exact decide_eq_false hh)⟩, by dsimp only; omega⟩ ?_ ?_
        · repeat (first | exact True.intro | refine And.intro rfl ?_)
        · repeat (first | exact Pick.nil | (apply Pick.cons; (· repeat' (first | exact Rem.head | apply Rem.tail)
            )))
    · have : k = i.arcs.length := by omega
      subst this
      -- phase 2
      refine WP.loop (α := Nat × List Int) (fun x => x.1 ≤ i.supply.length ∧ Sums i by_ x.1 x.2)
        (fun x => [(1, .func (.func fid) #[] #[]), (2, .pointer (some ⟨g, 0, none⟩)), (5, .slice (some ⟨gat, 0, none⟩) (i.supply.length + 1) (i.supply.length + 1)), (39, .int .i64 i.supply.length), (40, .int .i64 x.1)])
        (fun x => [.blk gat 3 (ints x.2), .blk g 25 [.slice A i.supply.length c, .slice A' i.arcs.length c'], .fz (PH.of w)])
        (fun x => i.supply.length - x.1) rfl (0, xs) ⟨Nat.zero_le _, hcnt.sums⟩ ?_ ?_ ?_
      · repeat (first | exact True.intro | refine And.intro rfl ?_)
      · repeat (first | exact Pick.nil | (apply Pick.cons; (· repeat' (first | exact Rem.head | apply Rem.tail)
          )))
      · intro ⟨n, xs⟩ ⟨hn, hsum⟩
        dsimp only at hn hsum ⊢
        have hlen := hsum.len
        clear hlen hcnt hh hk
        have hlen := hsum.len
        repeat' (first | (refine WP.st tysOk false rfl (by first | exact True.intro | exact rfl | exact ⟨⟨rfl, rfl⟩, rfl⟩) rfl rfl rfl rfl ?_ ?_; · (first | exact True.intro | exact ⟨by omega, by omega⟩ | exact ⟨by omega, by omega, by omega, by omega⟩ | omega)) | (refine WP.ld tysOk rfl (by first | exact True.intro | exact rfl | exact ⟨⟨rfl, rfl⟩, rfl⟩) rfl rfl rfl rfl rfl rfl rfl ?_; apply ex2; (· first | (apply CellAt.blk; (· repeat' (first | exact Rem.head | apply Rem.tail)); (· rfl)) | (refine CellAt.fz ?_ (by assumption); repeat' (first | exact List.Mem.head _ | apply List.Mem.tail)) )) | refine WP.ix1 tysOk rfl (by first | exact True.intro | exact rfl | exact ⟨⟨rfl, rfl⟩, rfl⟩) rfl rfl rfl rfl rfl rfl rfl rfl (by first | omega | (simp only []; omega)) ?_ | (refine WP.cond_d rfl rfl (fun hh => ?_) (fun hh => ?_) <;> try (exfalso; omega)))
        · have e1 := hsum.cnt n (Nat.le_refl _) (by omega)
          have e2 := hsum.sum n (Nat.le_refl _)
          have e3 : startAt (bkt i by_ i.arcs.length) n + (bkt i by_ i.arcs.length n).length ≤ i.arcs.length :=
            Nat.le_trans (startAt_mono _ (show n + 1 ≤ i.supply.length by omega)) hsl
          refine WP.drawL 10 [] rfl (by kernel_rfl) (by kernel_rfl) rfl ?_
          repeat' (first | (refine WP.st tysOk false rfl (by first | exact True.intro | exact rfl | exact ⟨⟨rfl, rfl⟩, rfl⟩) rfl rfl rfl rfl ?_ ?_; · (first | exact True.intro | exact ⟨by omega, by omega⟩ | exact ⟨by omega, by omega, by omega, by omega⟩ | omega)) | refine WP.ix1 tysOk rfl (by first | exact True.intro | exact rfl | exact ⟨⟨rfl, rfl⟩, rfl⟩) rfl rfl rfl rfl rfl rfl rfl rfl (by first | omega | (simp only []; omega)) ?_)
          refine WP.ld tysOk rfl (by first | exact True.intro | exact rfl | exact ⟨⟨rfl, rfl⟩, rfl⟩) rfl rfl rfl rfl rfl rfl rfl ?_
          refine ex2 (.int .i64 (el _ (n + 1))) (CellAt.blk .head (kints_get1 (by first | omega | (simp only [List.length_set]; omega) | (simp; omega)) (by first | omega | (simp only []; omega) | (simp; done) | (simp; omega)))) ?_
          repeat' (first | (refine WP.st tysOk false rfl (by first | exact True.intro | exact rfl | exact ⟨⟨rfl, rfl⟩, rfl⟩) rfl rfl rfl rfl ?_ ?_; · (first | exact True.intro | exact ⟨by omega, by omega⟩ | exact ⟨by omega, by omega, by omega, by omega⟩ | omega)) | refine WP.ix1 tysOk rfl (by first | exact True.intro | exact rfl | exact ⟨⟨rfl, rfl⟩, rfl⟩) rfl rfl rfl rfl rfl rfl rfl rfl (by first | omega | (simp only []; omega)) ?_)
          refine WP.ld tysOk rfl (by first | exact True.intro | exact rfl | exact ⟨⟨rfl, rfl⟩, rfl⟩) rfl rfl rfl rfl rfl rfl rfl ?_
          refine ex2 (.int .i64 (el _ (n))) (CellAt.blk .head (kints_get1 (by first | omega | (simp only [List.length_set]; omega) | (simp; omega)) (by first | omega | (simp only []; omega) | (simp; done) | (simp; omega)))) ?_
          rw [e1, e2]
          repeat' (first | (refine WP.st tysOk false rfl (by first | exact True.intro | exact rfl | exact ⟨⟨rfl, rfl⟩, rfl⟩) rfl rfl rfl rfl ?_ ?_; · (first | exact True.intro | exact ⟨by omega, by omega⟩ | exact ⟨by omega, by omega, by omega, by omega⟩ | omega)) | (refine WP.sto tysOk rfl rfl rfl rfl rfl rfl rfl rfl rfl ?_; apply ex3; (· repeat' (first | exact Rem.head | apply Rem.tail) ); (· first | exact Nat.le_of_ble_eq_true rfl | (simp [kints_length, arcsCells_length]; omega) )) | refine WP.ix1 tysOk rfl (by first | exact True.intro | exact rfl | exact ⟨⟨rfl, rfl⟩, rfl⟩) rfl rfl rfl rfl rfl rfl rfl rfl (by first | omega | (simp only []; omega)) ?_ | refine WP.lend rfl ⟨rfl, rfl⟩ ?_)
          first | refine WP.lend rfl ⟨rfl, rfl⟩ ?_ | skip
          skip
          refine WP.reblk (cs' := ints (xs.set (n + 1) (el xs (n + 1) + el xs n))) .head (by rw [e1, e2]; exact kints_set1 (by omega) (by first | omega | (simp only []; omega))) ?_
          skip
          refine WP.stop rfl (n + 1, xs.set (n + 1) (el xs (n + 1) + el xs n)) ⟨⟨by dsimp only; omega, hsum.next (by omega)⟩, by dsimp only; omega⟩ ?_ ?_
          · repeat (first | exact True.intro | refine And.intro rfl ?_)
          · repeat (first | exact Pick.nil | (apply Pick.cons; (· repeat' (first | exact Rem.head | apply Rem.tail)
              )))
        · have : n = i.supply.length := by omega
          subst this
          clear hh hn
          refine WP.ld tysOk rfl (by first | exact True.intro | exact rfl | exact ⟨⟨rfl, rfl⟩, rfl⟩) rfl rfl rfl rfl rfl rfl rfl ?_
          refine ex2 (.int .i64 (el _ (i.supply.length))) (CellAt.blk .head (kints_get1 (by first | omega | (simp only [List.length_set]; omega) | (simp; omega)) (by first | omega | (simp only []; omega) | (simp; done) | (simp; omega)))) ?_
          rw [hsum.sum _ (Nat.le_refl _)]
          have hstart := Put.start hsum
          generalize hT : startAt (bkt i by_ i.arcs.length) i.supply.length = T at *
          refine WP.mk1 tysOk rfl rfl rfl rfl rfl rfl rfl rfl rfl rfl (by omega) (by omega) ?_
          intro gr
          refine WP.reblk (cs' := ints (List.replicate T 0)) .head (kints_replicate .i64 T 0) ?_
          repeat' (first | (refine WP.st tysOk false rfl (by first | exact True.intro | exact rfl | exact ⟨⟨rfl, rfl⟩, rfl⟩) rfl rfl rfl rfl ?_ ?_; · (first | exact True.intro | exact ⟨by omega, by omega⟩ | exact ⟨by omega, by omega, by omega, by omega⟩ | omega)))
          refine WP.callR (fun v : Value => v) (fun v => [.own v 3 1 xs.length (ints xs)]) (fun _ => True) rfl rfl rfl rfl rfl rfl rfl (by kernel_rfl)
            (fun w1 hw1 => clone_int (v := .slice (some ⟨gat, 0, none⟩) (i.supply.length + 1) (i.supply.length + 1)) (by rw [← hlen]; exact hw1.kblk0 (.tail .head) (by omega) (by omega)) (by simp [kints_length]) (fun j hj => kints_at (by omega)) (oneCells_kints _ _) (by omega)) ?_
          intro vn _
          refine WP.open_ .head (fun _ h _ => by omega) ?_
          rintro gn cap sl rfl hcap1 hcap2 hcap3 _
          repeat' (first | (refine WP.st tysOk false rfl (by first | exact True.intro | exact rfl | exact ⟨⟨rfl, rfl⟩, rfl⟩) rfl rfl rfl rfl ?_ ?_; · (first | exact True.intro | exact ⟨by omega, by omega⟩ | exact ⟨by omega, by omega, by omega, by omega⟩ | omega)) | (refine WP.ld tysOk rfl (by first | exact True.intro | exact rfl | exact ⟨⟨rfl, rfl⟩, rfl⟩) rfl rfl rfl rfl rfl rfl rfl ?_; apply ex2; (· first | (apply CellAt.blk; (· repeat' (first | exact Rem.head | apply Rem.tail)); (· rfl)) | (refine CellAt.fz ?_ (by assumption); repeat' (first | exact List.Mem.head _ | apply List.Mem.tail)) )))
          refine WP.loop (α := Nat × List Int × List Int) (fun x => x.1 ≤ i.arcs.length ∧ Put i by_ x.1 x.2.1 x.2.2)
            (fun x => [(1, .func (.func fid) #[] #[]), (2, .pointer (some ⟨g, 0, none⟩)), (4, .slice (some ⟨gr, 0, none⟩) T T), (5, .slice (some ⟨gat, 0, none⟩) (i.supply.length + 1) (i.supply.length + 1)), (9, .slice (some ⟨gn, 0, none⟩) xs.length cap), (65, .slice A' i.arcs.length c'), (66, .int .i64 i.arcs.length), (67, .int .i64 x.1)])
            (fun x => [.blk gn 3 (ints x.2.1 ++ sl), .blk gr 3 (ints x.2.2), .blk gat 3 (ints xs), .blk g 25 [.slice A i.supply.length c, .slice A' i.arcs.length c'], .fz (PH.of w)])
            (fun x => i.arcs.length - x.1) rfl (0, xs, List.replicate T 0) ⟨Nat.zero_le _, hstart⟩ ?_ ?_ ?_
          · repeat (first | exact True.intro | refine And.intro rfl ?_)
          · repeat (first | exact Pick.nil | (apply Pick.cons; (· repeat' (first | exact Rem.head | apply Rem.tail)
              )))
          · intro ⟨k, zs, ys⟩ ⟨hk, hput⟩
            dsimp only at hk hput ⊢
            have hzl := hput.len
            have hyl := hput.row
            rw [hT] at hyl
            repeat' (first | (refine WP.st tysOk false rfl (by first | exact True.intro | exact rfl | exact ⟨⟨rfl, rfl⟩, rfl⟩) rfl rfl rfl rfl ?_ ?_; · (first | exact True.intro | exact ⟨by omega, by omega⟩ | exact ⟨by omega, by omega, by omega, by omega⟩ | omega)) | (refine WP.cond_d rfl rfl (fun hh => ?_) (fun hh => ?_) <;> try (exfalso; omega)))
            · obtain ⟨b, off, rfl, hcs⟩ := hcell' (by omega)
              obtain ⟨_, _, _, _, _, g5⟩ := hcs k (by omega)
              have hfk := hfit k (by omega)
              have hrk := hrg (arcAt i.arcs k)
              repeat' (first | (refine WP.st tysOk false rfl (by first | exact True.intro | exact rfl | exact ⟨⟨rfl, rfl⟩, rfl⟩) rfl rfl rfl rfl ?_ ?_; · (first | exact True.intro | exact ⟨by omega, by omega⟩ | exact ⟨by omega, by omega, by omega, by omega⟩ | omega)) | (refine WP.ldn tysOk rfl (by first | exact True.intro | exact rfl | exact ⟨⟨rfl, rfl⟩, rfl⟩) rfl rfl rfl rfl rfl rfl rfl ?_; apply ex2; (· first | (apply SegAt.blk'; (· repeat' (first | exact Rem.head | apply Rem.tail)); (· rfl)) | (refine ⟨SegAt.fz ?_ (by assumption), rfl⟩; repeat' (first | exact List.Mem.head _ | apply List.Mem.tail)) )) | (refine WP.sto tysOk rfl rfl rfl rfl rfl rfl rfl rfl rfl ?_; apply ex3; (· repeat' (first | exact Rem.head | apply Rem.tail) ); (· first | exact Nat.le_of_ble_eq_true rfl | (simp [kints_length, arcsCells_length]; omega) )) | refine WP.ix tysOk rfl (by first | exact True.intro | exact rfl | exact ⟨⟨rfl, rfl⟩, rfl⟩) rfl rfl rfl rfl rfl rfl rfl rfl (by first | omega | (simp only []; omega)) ?_ | (refine WP.al tysOk rfl rfl rfl rfl rfl rfl ?_; intro g))
              rename_i g7
              refine WP.reblk (cs' := (arcAt i.arcs k).cells) .head rfl ?_
              skip
              refine WP.callV rfl rfl rfl rfl rfl rfl rfl (by kernel_rfl) (fun w1 hw1 => whole_c (a := arcAt i.arcs k) (hi'.le (hw1.le (by simp)))) (by first | exact True.intro | exact rfl | exact ⟨⟨rfl, rfl⟩, rfl⟩) ?_
              repeat' (first | (refine WP.st tysOk false rfl (by first | exact True.intro | exact rfl | exact ⟨⟨rfl, rfl⟩, rfl⟩) rfl rfl rfl rfl ?_ ?_; · (first | exact True.intro | exact ⟨by omega, by omega⟩ | exact ⟨by omega, by omega, by omega, by omega⟩ | omega)) | (refine WP.ldn tysOk rfl (by first | exact True.intro | exact rfl | exact ⟨⟨rfl, rfl⟩, rfl⟩) rfl rfl rfl rfl rfl rfl rfl ?_; apply ex2; (· first | (apply SegAt.blk'; (· repeat' (first | exact Rem.head | apply Rem.tail)); (· rfl)) | (refine ⟨SegAt.fz ?_ (by assumption), rfl⟩; repeat' (first | exact List.Mem.head _ | apply List.Mem.tail)) )) | (refine WP.cond_d rfl rfl (fun hh => ?_) (fun hh => ?_) <;> try (exfalso; omega)))
              · have hw0 : wholeB i.supply.length (arcAt i.arcs k) = true := decide_eq_true hh
                obtain ⟨hr1, hr2⟩ := hrk hw0
                obtain ⟨m, hm0⟩ := Int.eq_ofNat_of_zero_le hr1
                have hmN : m < i.supply.length := by omega
                have hcb := fun w => hby w (arcAt i.arcs k)
                rw [hm0] at hcb
                have hpl := placeOf_lt (by rw [hfk]; exact hw0) hm0 hmN (by omega)
                rw [hT] at hpl
                have hnx : el zs m = (placeOf i by_ k m : Nat) := hput.next m hmN
                have hyes := hput.yes (by rw [hfk]; exact hw0) hm0 hmN (by omega)
                refine WP.callV rfl rfl rfl rfl rfl rfl rfl hcall (fun w1 hw1 => hcb w1) True.intro ?_
                repeat' (first | refine WP.ix1 tysOk rfl (by first | exact True.intro | exact rfl | exact ⟨⟨rfl, rfl⟩, rfl⟩) rfl rfl rfl rfl rfl rfl rfl rfl (by first | omega | (simp only []; omega)) ?_)
                refine WP.ld tysOk rfl (by first | exact True.intro | exact rfl | exact ⟨⟨rfl, rfl⟩, rfl⟩) rfl rfl rfl rfl rfl rfl rfl ?_
                refine ex2 (.int .i64 (el _ (m))) (CellAt.blk (.tail .head) (kints_get2 (by first | omega | (simp only [List.length_set]; omega) | (simp; omega)) (by first | omega | (simp only []; omega) | (simp; done) | (simp; omega)))) ?_
                rw [hnx]
                repeat' (first | (refine WP.st tysOk false rfl (by first | exact True.intro | exact rfl | exact ⟨⟨rfl, rfl⟩, rfl⟩) rfl rfl rfl rfl ?_ ?_; · (first | exact True.intro | exact ⟨by omega, by omega⟩ | exact ⟨by omega, by omega, by omega, by omega⟩ | omega)) | (refine WP.ldn tysOk rfl (by first | exact True.intro | exact rfl | exact ⟨⟨rfl, rfl⟩, rfl⟩) rfl rfl rfl rfl rfl rfl rfl ?_; apply ex2; (· first | (apply SegAt.blk'; (· repeat' (first | exact Rem.head | apply Rem.tail)); (· rfl)) | (refine ⟨SegAt.fz ?_ (by assumption), rfl⟩; repeat' (first | exact List.Mem.head _ | apply List.Mem.tail)) )) | (refine WP.sto tysOk rfl rfl rfl rfl rfl rfl rfl rfl rfl ?_; apply ex3; (· repeat' (first | exact Rem.head | apply Rem.tail) ); (· first | exact Nat.le_of_ble_eq_true rfl | (simp [kints_length, arcsCells_length]; omega) )) | refine WP.ix1 tysOk rfl (by first | exact True.intro | exact rfl | exact ⟨⟨rfl, rfl⟩, rfl⟩) rfl rfl rfl rfl rfl rfl rfl rfl (by first | omega | (simp only []; omega)) ?_)
                refine WP.reblk (cs' := ints (ys.set (placeOf i by_ k m) k)) .head (kints_set1 (by omega) (by omega)) ?_
                refine WP.callV rfl rfl rfl rfl rfl rfl rfl hcall (fun w1 hw1 => hcb w1) True.intro ?_
                repeat' (first | refine WP.ix1 tysOk rfl (by first | exact True.intro | exact rfl | exact ⟨⟨rfl, rfl⟩, rfl⟩) rfl rfl rfl rfl rfl rfl rfl rfl (by first | omega | (simp only []; omega)) ?_)
                refine WP.ld tysOk rfl (by first | exact True.intro | exact rfl | exact ⟨⟨rfl, rfl⟩, rfl⟩) rfl rfl rfl rfl rfl rfl rfl ?_
                refine ex2 (.int .i64 (el _ (m))) (CellAt.blk (.tail (.tail .head)) (kints_get2 (by first | omega | (simp only [List.length_set]; omega) | (simp; omega)) (by first | omega | (simp only []; omega) | (simp; done) | (simp; omega)))) ?_
                rw [hnx]
                repeat' (first | (refine WP.st tysOk false rfl (by first | exact True.intro | exact rfl | exact ⟨⟨rfl, rfl⟩, rfl⟩) rfl rfl rfl rfl ?_ ?_; · (first | exact True.intro | exact ⟨by omega, by omega⟩ | exact ⟨by omega, by omega, by omega, by omega⟩ | omega)) | (refine WP.sto tysOk rfl rfl rfl rfl rfl rfl rfl rfl rfl ?_; apply ex3; (· repeat' (first | exact Rem.head | apply Rem.tail) ); (· first | exact Nat.le_of_ble_eq_true rfl | (simp [kints_length, arcsCells_length]; omega) )) | refine WP.ix1 tysOk rfl (by first | exact True.intro | exact rfl | exact ⟨⟨rfl, rfl⟩, rfl⟩) rfl rfl rfl rfl rfl rfl rfl rfl (by first | omega | (simp only []; omega)) ?_)
                refine WP.reblk (cs' := ints (zs.set m (placeOf i by_ k m + 1)) ++ sl) .head (kints_set2 (by omega) (by omega)) ?_
                skip
                refine WP.stop rfl (k + 1, zs.set m (placeOf i by_ k m + 1), ys.set (placeOf i by_ k m) k) ⟨⟨by dsimp only; omega, hyes⟩, by dsimp only; omega⟩ ?_ ?_
                · repeat (first | exact True.intro | refine And.intro rfl ?_)
                · repeat (first | exact Pick.nil | (apply Pick.cons; (· repeat' (first | exact Rem.head | apply Rem.tail)
                    )))
              · skip
                refine WP.stop rfl (k + 1, zs, ys) ⟨⟨by dsimp only; omega, hput.no (by rw [hfk]; exact decide_eq_false hh)⟩, by dsimp only; omega⟩ ?_ ?_
                · repeat (first | exact True.intro | refine And.intro rfl ?_)
                · repeat (first | exact Pick.nil | (apply Pick.cons; (· repeat' (first | exact Rem.head | apply Rem.tail)
                    )))
            · have : k = i.arcs.length := by omega
              subst this
              skip
              refine WP.shut0 (n := T) (z := 1) (.tail .head) (by omega) (by rw [kints_length]; omega) ?_
              refine WP.shut0 (n := i.supply.length + 1) (z := 1) (.tail (.tail .head)) (by omega) (by rw [kints_length]; omega) ?_
              refine WP.ret2 rfl rfl rfl rfl (fun w hw => ⟨(.slice (some ⟨gr, 0, none⟩) T T, .slice (some ⟨gat, 0, none⟩) (i.supply.length + 1) (i.supply.length + 1), ys, xs), rfl, ⟨zs, hput, hsum⟩, ?_⟩)
              dsimp only
              rw [hyl, hlen]
              refine Ret.of_KH hw ?_
              repeat (first | exact Pick.nil | (apply Pick.cons; (· repeat' (first | exact Rem.head | apply Rem.tail)
                )))
end Go.Proofs.YtbnjeanldechnaaGreatDoor
