/- The walks: the code computes that. -/
import Derived.Test.YtpnohbdfgmjdbaaGW2
import Derived.Test.YtpnohbdfgmjdbaaTys
import Derived.Test.YtpnohbdfgmjdbaaEngG
import Derived.KernelRfl
namespace Go.Proofs.Ytpnohbdfgmjdbaa
open Go.RowKit Go.Qe
abbrev law18_step_S (r : Step × Spot × Bool) : Value → Heap → Prop := fun v L => ∃ (A1 : Option Addr) (n1 c1 : Nat) (A2 : Option Addr) (n2 c2 : Nat) (A3 : Option Addr) (n3 c3 : Nat) (A4 : Option Addr) (n4 c4 : Nat), v = .tuple #[.agg #[.slice A1 n1 c1, .slice A2 n2 c2, iv r.1.rcd.pass, .slice A3 n3 c3, .slice A4 n4 c4, iv r.1.off.hi, .int .u64 (r.1.off.lo), .bool (r.1.did)], .agg #[iv r.2.1.node, iv r.2.1.a, iv r.2.1.b, iv r.2.1.new.src, iv r.2.1.new.dst, iv r.2.1.new.low, iv r.2.1.new.cap, iv r.2.1.new.cost], .bool (r.2.2)] ∧ OwF A1 n1 r.1.inst.supply ∧ OwF A2 n2 r.1.inst.arcs ∧ OwF A3 n3 r.1.rcd.was.supply ∧ OwF A4 n4 r.1.rcd.was.arcs ∧ L = [Ow (fI .i64) 2 A1 n1 c1 r.1.inst.supply, Ow fA 23 A2 n2 c2 r.1.inst.arcs, Ow (fI .i64) 2 A3 n3 c3 r.1.rcd.was.supply, Ow fA 23 A4 n4 c4 r.1.rcd.was.arcs]
set_option maxRecDepth 20000 in
set_option maxHeartbeats 8000000 in
theorem law18_step_w {w : World} {v0 : Value} {d1 : Inst} {i1 : Bool} {r : Step × Spot × Bool} (h : law18_step d1 i1 = some r) (p1 : InsZ (PH.of w) v0 d1) :
    Calls Try.prog 18 #[v0, .bool (i1)] w fun e w' => ∃ v L, e = .returned v ∧ law18_step_S r v L ∧ Ret w w' L := by
  obtain ⟨A1, c1, A2, c2, rfl, hs1, hs2⟩ := p1
  unfold law18_step at h
  refine enter_ Try.func18 rfl Try.ntmps18 rfl ?_
  refine WP.box rfl rfl rfl rfl rfl rfl ?_
  intro g1
  refine WP.al tysOk rfl rfl rfl rfl rfl rfl ?_
  intro g2
  refine WP.al tysOk rfl rfl rfl rfl rfl rfl ?_
  intro g3
  refine WP.st tysOk true rfl True.intro rfl rfl rfl rfl True.intro ?_
  refine WP.al tysOk rfl rfl rfl rfl rfl rfl ?_
  intro g4
  iterate 2 (refine WP.st tysOk true rfl True.intro rfl rfl rfl rfl True.intro ?_)
  obtain ⟨k1, hk1, h⟩ := lt_some h
  refine WP.join (α := Int × Int × Int × Int × Bool × (List Int) × (List Arc) × (List Int) × (List Arc) × (Option Addr) × Nat × Nat × (Option Addr) × Nat × Nat × (Option Addr) × Nat × Nat × (Option Addr) × Nat × Nat) (fun x => k1 (x.1, x.2.1, x.2.2.1, x.2.2.2.1, x.2.2.2.2.1, x.2.2.2.2.2.1, x.2.2.2.2.2.2.1, x.2.2.2.2.2.2.2.1, x.2.2.2.2.2.2.2.2.1) = some r ∧ OwF x.2.2.2.2.2.2.2.2.2.1 x.2.2.2.2.2.2.2.2.2.2.1 x.2.2.2.2.2.1 ∧ OwF x.2.2.2.2.2.2.2.2.2.2.2.2.1 x.2.2.2.2.2.2.2.2.2.2.2.2.2.1 x.2.2.2.2.2.2.1 ∧ OwF x.2.2.2.2.2.2.2.2.2.2.2.2.2.2.2.1 x.2.2.2.2.2.2.2.2.2.2.2.2.2.2.2.2.1 x.2.2.2.2.2.2.2.1 ∧ OwF x.2.2.2.2.2.2.2.2.2.2.2.2.2.2.2.2.2.2.1 x.2.2.2.2.2.2.2.2.2.2.2.2.2.2.2.2.2.2.2.1 x.2.2.2.2.2.2.2.2.1) (fun x => [(1, .bool (i1)), (2, .pointer (some ⟨g1, 0, none⟩)), (4, .pointer (some ⟨g2, 0, none⟩)), (5, .pointer (some ⟨g3, 0, none⟩)), (7, .pointer (some ⟨g4, 0, none⟩)), (8, .int .u16 (x.1))]) (fun x => [Ow (fI .i64) 2 x.2.2.2.2.2.2.2.2.2.1 x.2.2.2.2.2.2.2.2.2.2.1 x.2.2.2.2.2.2.2.2.2.2.2.1 x.2.2.2.2.2.1, Ow fA 23 x.2.2.2.2.2.2.2.2.2.2.2.2.1 x.2.2.2.2.2.2.2.2.2.2.2.2.2.1 x.2.2.2.2.2.2.2.2.2.2.2.2.2.2.1 x.2.2.2.2.2.2.1, Ow (fI .i64) 2 x.2.2.2.2.2.2.2.2.2.2.2.2.2.2.2.1 x.2.2.2.2.2.2.2.2.2.2.2.2.2.2.2.2.1 x.2.2.2.2.2.2.2.2.2.2.2.2.2.2.2.2.2.1 x.2.2.2.2.2.2.2.1, Ow fA 23 x.2.2.2.2.2.2.2.2.2.2.2.2.2.2.2.2.2.2.1 x.2.2.2.2.2.2.2.2.2.2.2.2.2.2.2.2.2.2.2.1 x.2.2.2.2.2.2.2.2.2.2.2.2.2.2.2.2.2.2.2.2 x.2.2.2.2.2.2.2.2.1, .blk g4 45 [.slice x.2.2.2.2.2.2.2.2.2.1 x.2.2.2.2.2.2.2.2.2.2.1 x.2.2.2.2.2.2.2.2.2.2.2.1, .slice x.2.2.2.2.2.2.2.2.2.2.2.2.1 x.2.2.2.2.2.2.2.2.2.2.2.2.2.1 x.2.2.2.2.2.2.2.2.2.2.2.2.2.2.1, iv x.2.1, .slice x.2.2.2.2.2.2.2.2.2.2.2.2.2.2.2.1 x.2.2.2.2.2.2.2.2.2.2.2.2.2.2.2.2.1 x.2.2.2.2.2.2.2.2.2.2.2.2.2.2.2.2.2.1, .slice x.2.2.2.2.2.2.2.2.2.2.2.2.2.2.2.2.2.2.1 x.2.2.2.2.2.2.2.2.2.2.2.2.2.2.2.2.2.2.2.1 x.2.2.2.2.2.2.2.2.2.2.2.2.2.2.2.2.2.2.2.2, iv x.2.2.1, .int .u64 (x.2.2.2.1), .bool (x.2.2.2.2.1)], .blk g3 31 [iv 0, iv 0, iv 0, iv 0, iv 0, iv 0, iv 0, iv 0], .blk g2 45 [.slice none 0 0, .slice none 0 0, iv 0, .slice none 0 0, .slice none 0 0, iv 0, .int .u64 (0), .bool (false)], .blk g1 27 [.slice A1 d1.supply.length c1, .slice A2 d1.arcs.length c2], .fz (PH.of w)]) rfl ?_ ?_
  · refine WP.cond rfl rfl (fun hh59 => ?_) (fun hh59 => ?_)
    · rw [if_pos hh59] at h
      refine WP.ldm tysOk rfl True.intro rfl rfl rfl rfl rfl rfl rfl (SegAt.blk' (.tail (.tail (.tail .head))) rfl) ?_
      obtain ⟨r15, hg15, h⟩ := bind_some h
      refine WP.callS (two_Series_S r15) rfl rfl rfl rfl rfl rfl rfl (by kernel_rfl) (fun w1 hw1 => (two_Series_w hg15 (InsZ.mk_ ((hs1.le' ((Held.mem (List.Mem.tail _ (List.Mem.tail _ (List.Mem.tail _ (List.Mem.tail _ (List.Mem.head _)))))) _ _ hw1)).of) ((hs2.le' ((Held.mem (List.Mem.tail _ (List.Mem.tail _ (List.Mem.tail _ (List.Mem.tail _ (List.Mem.head _)))))) _ _ hw1)).of)) :)) ?_
      rintro _ _ ⟨A15, n10, c15, A16, n11, c16, A17, n12, c17, A18, n13, c18, rfl, hf13, hf14, hf15, hf16, rfl⟩
      iterate 3 (refine WP.st tysOk true rfl True.intro rfl rfl rfl rfl True.intro ?_)
      refine WP.sto' tysOk [.slice A15 n10 c15, .slice A16 n11 c16, iv r15.1.rcd.pass, .slice A17 n12 c17, .slice A18 n13 c18, iv r15.1.off.hi, .int .u64 (r15.1.off.lo), .bool (r15.1.did)] rfl rfl rfl rfl rfl rfl rfl rfl rfl (.tail (.tail (.tail (.tail .head)))) rfl rfl ?_
      refine WP.st tysOk true rfl True.intro rfl rfl rfl rfl True.intro ?_
      refine WP.stop rfl (r15.2, r15.1.rcd.pass, r15.1.off.hi, r15.1.off.lo, r15.1.did, r15.1.inst.supply, r15.1.inst.arcs, r15.1.rcd.was.supply, r15.1.rcd.was.arcs, A15, n10, c15, A16, n11, c16, A17, n12, c17, A18, n13, c18) ⟨h, hf13, hf14, hf15, hf16⟩ ?_ ?_
      · repeat (first | exact True.intro | refine And.intro rfl ?_)
      exact (.cons (.tail .head) (.cons (.tail .head) (.cons (.tail .head) (.cons (.tail .head) (.cons .head (.cons .head (.cons .head (.cons .head (.cons .head .nil)))))))))
    rw [if_neg (bneg hh59)] at h
    refine WP.ldm tysOk rfl True.intro rfl rfl rfl rfl rfl rfl rfl (SegAt.blk' (.tail (.tail (.tail .head))) rfl) ?_
    obtain ⟨r16, hg16, h⟩ := bind_some h
    refine WP.callS (two_Fork_S r16) rfl rfl rfl rfl rfl rfl rfl (by kernel_rfl) (fun w1 hw1 => (two_Fork_w hg16 (InsZ.mk_ ((hs1.le' ((Held.mem (List.Mem.tail _ (List.Mem.tail _ (List.Mem.tail _ (List.Mem.tail _ (List.Mem.head _)))))) _ _ hw1)).of) ((hs2.le' ((Held.mem (List.Mem.tail _ (List.Mem.tail _ (List.Mem.tail _ (List.Mem.tail _ (List.Mem.head _)))))) _ _ hw1)).of)) :)) ?_
    rintro _ _ ⟨A19, n14, c19, A20, n15, c20, A21, n16, c21, A22, n17, c22, rfl, hf17, hf18, hf19, hf20, rfl⟩
    iterate 3 (refine WP.st tysOk true rfl True.intro rfl rfl rfl rfl True.intro ?_)
    refine WP.sto' tysOk [.slice A19 n14 c19, .slice A20 n15 c20, iv r16.1.rcd.pass, .slice A21 n16 c21, .slice A22 n17 c22, iv r16.1.off.hi, .int .u64 (r16.1.off.lo), .bool (r16.1.did)] rfl rfl rfl rfl rfl rfl rfl rfl rfl (.tail (.tail (.tail (.tail .head)))) rfl rfl ?_
    refine WP.st tysOk true rfl True.intro rfl rfl rfl rfl True.intro ?_
    refine WP.stop rfl (r16.2, r16.1.rcd.pass, r16.1.off.hi, r16.1.off.lo, r16.1.did, r16.1.inst.supply, r16.1.inst.arcs, r16.1.rcd.was.supply, r16.1.rcd.was.arcs, A19, n14, c19, A20, n15, c20, A21, n16, c21, A22, n17, c22) ⟨h, hf17, hf18, hf19, hf20⟩ ?_ ?_
    · repeat (first | exact True.intro | refine And.intro rfl ?_)
    exact (.cons (.tail .head) (.cons (.tail .head) (.cons (.tail .head) (.cons (.tail .head) (.cons .head (.cons .head (.cons .head (.cons .head (.cons .head .nil)))))))))
  rintro ⟨s1, s2, s3, s4, s5, xs1, xs2, xs3, xs4, A11, m1, c11, A12, m2, c12, A13, m3, c13, A14, m4, c14⟩ ⟨h, hf9, hf10, hf11, hf12⟩
  dsimp only at h hf9 hf10 hf11 hf12 ⊢
  subst hk1
  try dsimp only at h
  refine WP.st tysOk true rfl True.intro rfl rfl rfl rfl True.intro ?_
  refine WP.loop (α := Nat × Int) (fun x => lp (law18_step_b1 d1 i1 s1 s2 s3 s4 s5 xs1 xs2 xs3 xs4) x.1 x.2 = some r) (fun x => [(1, .bool (i1)), (2, .pointer (some ⟨g1, 0, none⟩)), (4, .pointer (some ⟨g2, 0, none⟩)), (5, .pointer (some ⟨g3, 0, none⟩)), (7, .pointer (some ⟨g4, 0, none⟩)), (8, .int .u16 (s1)), (9, iv x.2)]) (fun x => [Ow (fI .i64) 2 A11 m1 c11 xs1, Ow fA 23 A12 m2 c12 xs2, Ow (fI .i64) 2 A13 m3 c13 xs3, Ow fA 23 A14 m4 c14 xs4, .blk g4 45 [.slice A11 m1 c11, .slice A12 m2 c12, iv s2, .slice A13 m3 c13, .slice A14 m4 c14, iv s3, .int .u64 (s4), .bool (s5)], .blk g3 31 [iv 0, iv 0, iv 0, iv 0, iv 0, iv 0, iv 0, iv 0], .blk g2 45 [.slice none 0 0, .slice none 0 0, iv 0, .slice none 0 0, .slice none 0 0, iv 0, .int .u64 (0), .bool (false)], .blk g1 27 [.slice A1 d1.supply.length c1, .slice A2 d1.arcs.length c2], .fz (PH.of w)]) (fun x => x.1) rfl (big, 0) h ?_ ?_ ?_
  · repeat (first | exact True.intro | refine And.intro rfl ?_)
  · exact (.cons .head (.cons .head (.cons .head (.cons .head (.cons .head (.cons .head (.cons .head (.cons .head (.cons .head .nil)))))))))
  rintro ⟨n9, s29⟩ h
  dsimp only at h ⊢
  rcases n9 with _ | n9
  · exact (lp_no h).elim
  replace h := lp_succ h
  unfold law18_step_b1 at h
  try dsimp only at h
  obtain ⟨k9, hk8, h⟩ := lt_some h
  refine WP.joinO (α := Bool) (fun x => k9 x = some r) (fun x => [(1, .bool (i1)), (2, .pointer (some ⟨g1, 0, none⟩)), (4, .pointer (some ⟨g2, 0, none⟩)), (5, .pointer (some ⟨g3, 0, none⟩)), (7, .pointer (some ⟨g4, 0, none⟩)), (8, .int .u16 (s1)), (9, iv s29), (35, .bool (x))]) (fun x => [Ow (fI .i64) 2 A11 m1 c11 xs1, Ow fA 23 A12 m2 c12 xs2, Ow (fI .i64) 2 A13 m3 c13 xs3, Ow fA 23 A14 m4 c14 xs4, .blk g4 45 [.slice A11 m1 c11, .slice A12 m2 c12, iv s2, .slice A13 m3 c13, .slice A14 m4 c14, iv s3, .int .u64 (s4), .bool (s5)], .blk g3 31 [iv 0, iv 0, iv 0, iv 0, iv 0, iv 0, iv 0, iv 0], .blk g2 45 [.slice none 0 0, .slice none 0 0, iv 0, .slice none 0 0, .slice none 0 0, iv 0, .int .u64 (0), .bool (false)], .blk g1 27 [.slice A1 d1.supply.length c1, .slice A2 d1.arcs.length c2], .fz (PH.of w)]) rfl ?_ ?_
  · iterate 2 (refine WP.st tysOk true rfl True.intro rfl rfl rfl rfl True.intro ?_)
    refine WP.ld1 tysOk rfl True.intro rfl rfl rfl rfl rfl rfl rfl (CellAt.blk (.tail (.tail (.tail (.tail (.tail (.tail (.tail .head))))))) rfl) ?_
    iterate 3 (refine WP.st tysOk true rfl True.intro rfl rfl rfl rfl True.intro ?_)
    by_cases hh57 : s29 < (d1.supply.length : Int)
    · rw [if_pos hh57] at h
      refine WP.yes rfl rfl (decide_eq_true hh57) ?_
      refine WP.st tysOk true rfl True.intro rfl rfl rfl rfl True.intro ?_
      refine WP.yes rfl rfl rfl ?_
      iterate 3 (refine WP.st tysOk true rfl True.intro rfl rfl rfl rfl True.intro ?_)
      by_cases hh58 : s1 = 0
      · rw [if_pos hh58] at h
        refine WP.yes rfl rfl (decide_eq_true hh58) ?_
        refine WP.st tysOk true rfl True.intro rfl rfl rfl rfl True.intro ?_
        refine WP.yes rfl rfl rfl ?_
        refine WP.ld1 tysOk rfl True.intro rfl rfl rfl rfl rfl rfl rfl (CellAt.blk (.tail (.tail (.tail (.tail .head)))) rfl) ?_
        refine WP.st tysOk true rfl True.intro rfl rfl rfl rfl True.intro ?_
        refine WP.stop rfl s5 h ?_ ?_
        · repeat (first | exact True.intro | refine And.intro rfl ?_)
        exact (.cons .head (.cons .head (.cons .head (.cons .head (.cons .head (.cons .head (.cons .head (.cons .head (.cons .head .nil)))))))))
      rw [if_neg hh58] at h
      refine WP.no rfl rfl (decide_eq_false hh58) rfl rfl ?_
      refine WP.no rfl rfl rfl rfl rfl ?_
      refine WP.st tysOk true rfl True.intro rfl rfl rfl rfl True.intro ?_
      refine WP.stop rfl false h ?_ ?_
      · repeat (first | exact True.intro | refine And.intro rfl ?_)
      exact (.cons .head (.cons .head (.cons .head (.cons .head (.cons .head (.cons .head (.cons .head (.cons .head (.cons .head .nil)))))))))
    rw [if_neg hh57] at h
    refine WP.no rfl rfl (decide_eq_false hh57) rfl rfl ?_
    refine WP.no rfl rfl rfl rfl rfl ?_
    iterate 2 (refine WP.st tysOk true rfl True.intro rfl rfl rfl rfl True.intro ?_)
    iterate 2 (refine WP.no rfl rfl rfl rfl rfl ?_)
    refine WP.st tysOk true rfl True.intro rfl rfl rfl rfl True.intro ?_
    refine WP.stop rfl false h ?_ ?_
    · repeat (first | exact True.intro | refine And.intro rfl ?_)
    exact (.cons .head (.cons .head (.cons .head (.cons .head (.cons .head (.cons .head (.cons .head (.cons .head (.cons .head .nil)))))))))
  rintro s30 h
  skip
  subst hk8
  try dsimp only at h
  refine WP.cond rfl rfl (fun hh44 => ?_) (fun hh44 => ?_)
  · rw [if_pos hh44] at h
    refine WP.al tysOk rfl rfl rfl rfl rfl rfl ?_
    intro g7
    iterate 2 (refine WP.st tysOk true rfl True.intro rfl rfl rfl rfl True.intro ?_)
    obtain ⟨k10, hk9, h⟩ := lt_some h
    refine WP.join (α := Bool × Int × Int × Int × Int × Int × Int × Int × Int) (fun x => k10 (x.1, x.2.1, x.2.2.1, x.2.2.2.1, x.2.2.2.2.1, x.2.2.2.2.2.1, x.2.2.2.2.2.2.1, x.2.2.2.2.2.2.2.1, x.2.2.2.2.2.2.2.2) = some r) (fun x => [(1, .bool (i1)), (2, .pointer (some ⟨g1, 0, none⟩)), (4, .pointer (some ⟨g2, 0, none⟩)), (5, .pointer (some ⟨g3, 0, none⟩)), (7, .pointer (some ⟨g4, 0, none⟩)), (8, .int .u16 (s1)), (9, iv s29), (10, .pointer (some ⟨g7, 0, none⟩)), (11, .bool (x.1))]) (fun x => [.blk g7 31 [iv x.2.1, iv x.2.2.1, iv x.2.2.2.1, iv x.2.2.2.2.1, iv x.2.2.2.2.2.1, iv x.2.2.2.2.2.2.1, iv x.2.2.2.2.2.2.2.1, iv x.2.2.2.2.2.2.2.2], Ow (fI .i64) 2 A11 m1 c11 xs1, Ow fA 23 A12 m2 c12 xs2, Ow (fI .i64) 2 A13 m3 c13 xs3, Ow fA 23 A14 m4 c14 xs4, .blk g4 45 [.slice A11 m1 c11, .slice A12 m2 c12, iv s2, .slice A13 m3 c13, .slice A14 m4 c14, iv s3, .int .u64 (s4), .bool (s5)], .blk g3 31 [iv 0, iv 0, iv 0, iv 0, iv 0, iv 0, iv 0, iv 0], .blk g2 45 [.slice none 0 0, .slice none 0 0, iv 0, .slice none 0 0, .slice none 0 0, iv 0, .int .u64 (0), .bool (false)], .blk g1 27 [.slice A1 d1.supply.length c1, .slice A2 d1.arcs.length c2], .fz (PH.of w)]) rfl ?_ ?_
    · refine WP.cond rfl rfl (fun hh55 => ?_) (fun hh55 => ?_)
      · rw [if_pos hh55] at h
        refine WP.ldm tysOk rfl True.intro rfl rfl rfl rfl rfl rfl rfl (SegAt.blk' (.tail (.tail (.tail (.tail (.tail (.tail (.tail (.tail .head)))))))) rfl) ?_
        refine WP.st tysOk true rfl True.intro rfl rfl rfl rfl True.intro ?_
        obtain ⟨r13, hg13, h⟩ := bind_some h
        refine WP.callV rfl rfl rfl rfl rfl rfl rfl (by kernel_rfl) (fun w1 hw1 => (two_Chain_w hg13 (InsZ.mk_ ((hs1.le' ((Held.mem (List.Mem.tail _ (List.Mem.tail _ (List.Mem.tail _ (List.Mem.tail _ (List.Mem.tail _ (List.Mem.tail _ (List.Mem.tail _ (List.Mem.tail _ (List.Mem.tail _ (List.Mem.head _))))))))))) _ _ hw1)).of) ((hs2.le' ((Held.mem (List.Mem.tail _ (List.Mem.tail _ (List.Mem.tail _ (List.Mem.tail _ (List.Mem.tail _ (List.Mem.tail _ (List.Mem.tail _ (List.Mem.tail _ (List.Mem.tail _ (List.Mem.head _))))))))))) _ _ hw1)).of)) :)) True.intro ?_
        iterate 3 (refine WP.st tysOk true rfl True.intro rfl rfl rfl rfl True.intro ?_)
        refine WP.sto' tysOk [iv r13.1.node, iv r13.1.a, iv r13.1.b, iv r13.1.new.src, iv r13.1.new.dst, iv r13.1.new.low, iv r13.1.new.cap, iv r13.1.new.cost] rfl rfl rfl rfl rfl rfl rfl rfl rfl .head rfl rfl ?_
        refine WP.st tysOk true rfl True.intro rfl rfl rfl rfl True.intro ?_
        refine WP.stop rfl (r13.2, r13.1.node, r13.1.a, r13.1.b, r13.1.new.src, r13.1.new.dst, r13.1.new.low, r13.1.new.cap, r13.1.new.cost) h ?_ ?_
        · repeat (first | exact True.intro | refine And.intro rfl ?_)
        exact (.cons .head (.cons .head (.cons .head (.cons .head (.cons .head (.cons .head (.cons .head (.cons .head (.cons .head (.cons .head .nil))))))))))
      rw [if_neg (bneg hh55)] at h
      refine WP.ldm tysOk rfl True.intro rfl rfl rfl rfl rfl rfl rfl (SegAt.blk' (.tail (.tail (.tail (.tail (.tail (.tail (.tail (.tail .head)))))))) rfl) ?_
      refine WP.st tysOk true rfl True.intro rfl rfl rfl rfl True.intro ?_
      obtain ⟨r14, hg14, h⟩ := bind_some h
      refine WP.callV rfl rfl rfl rfl rfl rfl rfl (by kernel_rfl) (fun w1 hw1 => (two_Split_w hg14 (InsZ.mk_ ((hs1.le' ((Held.mem (List.Mem.tail _ (List.Mem.tail _ (List.Mem.tail _ (List.Mem.tail _ (List.Mem.tail _ (List.Mem.tail _ (List.Mem.tail _ (List.Mem.tail _ (List.Mem.tail _ (List.Mem.head _))))))))))) _ _ hw1)).of) ((hs2.le' ((Held.mem (List.Mem.tail _ (List.Mem.tail _ (List.Mem.tail _ (List.Mem.tail _ (List.Mem.tail _ (List.Mem.tail _ (List.Mem.tail _ (List.Mem.tail _ (List.Mem.tail _ (List.Mem.head _))))))))))) _ _ hw1)).of)) :)) True.intro ?_
      iterate 3 (refine WP.st tysOk true rfl True.intro rfl rfl rfl rfl True.intro ?_)
      refine WP.sto' tysOk [iv r14.1.node, iv r14.1.a, iv r14.1.b, iv r14.1.new.src, iv r14.1.new.dst, iv r14.1.new.low, iv r14.1.new.cap, iv r14.1.new.cost] rfl rfl rfl rfl rfl rfl rfl rfl rfl .head rfl rfl ?_
      refine WP.st tysOk true rfl True.intro rfl rfl rfl rfl True.intro ?_
      refine WP.stop rfl (r14.2, r14.1.node, r14.1.a, r14.1.b, r14.1.new.src, r14.1.new.dst, r14.1.new.low, r14.1.new.cap, r14.1.new.cost) h ?_ ?_
      · repeat (first | exact True.intro | refine And.intro rfl ?_)
      exact (.cons .head (.cons .head (.cons .head (.cons .head (.cons .head (.cons .head (.cons .head (.cons .head (.cons .head (.cons .head .nil))))))))))
    rintro ⟨s31, s32, s33, s34, s35, s36, s37, s38, s39⟩ h
    dsimp only at h ⊢
    subst hk9
    try dsimp only at h
    obtain ⟨k11, hk10, h⟩ := lt_some h
    refine WP.joinO (α := Bool) (fun x => k11 x = some r) (fun x => [(1, .bool (i1)), (2, .pointer (some ⟨g1, 0, none⟩)), (4, .pointer (some ⟨g2, 0, none⟩)), (5, .pointer (some ⟨g3, 0, none⟩)), (7, .pointer (some ⟨g4, 0, none⟩)), (8, .int .u16 (s1)), (9, iv s29), (10, .pointer (some ⟨g7, 0, none⟩)), (77, .bool (x))]) (fun x => [.blk g7 31 [iv s32, iv s33, iv s34, iv s35, iv s36, iv s37, iv s38, iv s39], Ow (fI .i64) 2 A11 m1 c11 xs1, Ow fA 23 A12 m2 c12 xs2, Ow (fI .i64) 2 A13 m3 c13 xs3, Ow fA 23 A14 m4 c14 xs4, .blk g4 45 [.slice A11 m1 c11, .slice A12 m2 c12, iv s2, .slice A13 m3 c13, .slice A14 m4 c14, iv s3, .int .u64 (s4), .bool (s5)], .blk g3 31 [iv 0, iv 0, iv 0, iv 0, iv 0, iv 0, iv 0, iv 0], .blk g2 45 [.slice none 0 0, .slice none 0 0, iv 0, .slice none 0 0, .slice none 0 0, iv 0, .int .u64 (0), .bool (false)], .blk g1 27 [.slice A1 d1.supply.length c1, .slice A2 d1.arcs.length c2], .fz (PH.of w)]) rfl ?_ ?_
    · iterate 2 (refine WP.st tysOk true rfl True.intro rfl rfl rfl rfl True.intro ?_)
      by_cases hh51 : s31 = true
      · rw [if_pos hh51] at h
        refine WP.yes rfl rfl hh51 ?_
        refine WP.st tysOk true rfl True.intro rfl rfl rfl rfl True.intro ?_
        refine WP.yes rfl rfl rfl ?_
        refine WP.ld1 tysOk rfl True.intro rfl rfl rfl rfl rfl rfl rfl (CellAt.blk .head rfl) ?_
        refine WP.yes rfl rfl rfl ?_
        iterate 3 (refine WP.st tysOk true rfl True.intro rfl rfl rfl rfl True.intro ?_)
        by_cases hh52 : 0 ≤ s33
        · rw [if_pos hh52] at h
          refine WP.yes rfl rfl (decide_eq_true hh52) ?_
          refine WP.st tysOk true rfl True.intro rfl rfl rfl rfl True.intro ?_
          refine WP.yes rfl rfl rfl ?_
          refine WP.ld1 tysOk rfl True.intro rfl rfl rfl rfl rfl rfl rfl (CellAt.blk .head rfl) ?_
          refine WP.yes rfl rfl rfl ?_
          refine WP.st tysOk true rfl True.intro rfl rfl rfl rfl True.intro ?_
          refine WP.yes rfl rfl rfl ?_
          refine WP.ld1 tysOk rfl True.intro rfl rfl rfl rfl rfl rfl rfl (CellAt.blk (.tail (.tail (.tail (.tail (.tail (.tail (.tail (.tail .head)))))))) rfl) ?_
          refine WP.yes rfl rfl rfl ?_
          refine WP.st tysOk true rfl True.intro rfl rfl rfl rfl True.intro ?_
          refine WP.yes rfl rfl rfl ?_
          iterate 3 (refine WP.st tysOk true rfl True.intro rfl rfl rfl rfl True.intro ?_)
          by_cases hh53 : s33 < (d1.arcs.length : Int)
          · rw [if_pos hh53] at h
            refine WP.yes rfl rfl (decide_eq_true hh53) ?_
            refine WP.st tysOk true rfl True.intro rfl rfl rfl rfl True.intro ?_
            refine WP.yes rfl rfl rfl ?_
            refine WP.ld1 tysOk rfl True.intro rfl rfl rfl rfl rfl rfl rfl (CellAt.blk .head rfl) ?_
            refine WP.yes rfl rfl rfl ?_
            iterate 3 (refine WP.st tysOk true rfl True.intro rfl rfl rfl rfl True.intro ?_)
            by_cases hh54 : 0 ≤ s34
            · rw [if_pos hh54] at h
              refine WP.yes rfl rfl (decide_eq_true hh54) ?_
              refine WP.st tysOk true rfl True.intro rfl rfl rfl rfl True.intro ?_
              refine WP.yes rfl rfl rfl ?_
              refine WP.ld1 tysOk rfl True.intro rfl rfl rfl rfl rfl rfl rfl (CellAt.blk .head rfl) ?_
              refine WP.yes rfl rfl rfl ?_
              refine WP.st tysOk true rfl True.intro rfl rfl rfl rfl True.intro ?_
              refine WP.yes rfl rfl rfl ?_
              refine WP.ld1 tysOk rfl True.intro rfl rfl rfl rfl rfl rfl rfl (CellAt.blk (.tail (.tail (.tail (.tail (.tail (.tail (.tail (.tail .head)))))))) rfl) ?_
              refine WP.yes rfl rfl rfl ?_
              refine WP.st tysOk true rfl True.intro rfl rfl rfl rfl True.intro ?_
              refine WP.yes rfl rfl rfl ?_
              iterate 2 (refine WP.st tysOk true rfl True.intro rfl rfl rfl rfl True.intro ?_)
              refine WP.stop rfl (decide (s34 < (d1.arcs.length : Int))) h ?_ ?_
              · repeat (first | exact True.intro | refine And.intro rfl ?_)
              exact (.cons .head (.cons .head (.cons .head (.cons .head (.cons .head (.cons .head (.cons .head (.cons .head (.cons .head (.cons .head .nil))))))))))
            rw [if_neg hh54] at h
            refine WP.no rfl rfl (decide_eq_false hh54) rfl rfl ?_
            iterate 5 (refine WP.no rfl rfl rfl rfl rfl ?_)
            refine WP.st tysOk true rfl True.intro rfl rfl rfl rfl True.intro ?_
            refine WP.stop rfl false h ?_ ?_
            · repeat (first | exact True.intro | refine And.intro rfl ?_)
            exact (.cons .head (.cons .head (.cons .head (.cons .head (.cons .head (.cons .head (.cons .head (.cons .head (.cons .head (.cons .head .nil))))))))))
          rw [if_neg hh53] at h
          refine WP.no rfl rfl (decide_eq_false hh53) rfl rfl ?_
          iterate 2 (refine WP.no rfl rfl rfl rfl rfl ?_)
          iterate 2 (refine WP.st tysOk true rfl True.intro rfl rfl rfl rfl True.intro ?_)
          iterate 6 (refine WP.no rfl rfl rfl rfl rfl ?_)
          refine WP.st tysOk true rfl True.intro rfl rfl rfl rfl True.intro ?_
          refine WP.stop rfl false h ?_ ?_
          · repeat (first | exact True.intro | refine And.intro rfl ?_)
          exact (.cons .head (.cons .head (.cons .head (.cons .head (.cons .head (.cons .head (.cons .head (.cons .head (.cons .head (.cons .head .nil))))))))))
        rw [if_neg hh52] at h
        refine WP.no rfl rfl (decide_eq_false hh52) rfl rfl ?_
        iterate 5 (refine WP.no rfl rfl rfl rfl rfl ?_)
        iterate 2 ((iterate 2 (refine WP.st tysOk true rfl True.intro rfl rfl rfl rfl True.intro ?_)); refine WP.no rfl rfl rfl rfl rfl ?_; refine WP.no rfl rfl rfl rfl rfl ?_; refine WP.no rfl rfl rfl rfl rfl ?_)
        iterate 3 (refine WP.no rfl rfl rfl rfl rfl ?_)
        refine WP.st tysOk true rfl True.intro rfl rfl rfl rfl True.intro ?_
        refine WP.stop rfl false h ?_ ?_
        · repeat (first | exact True.intro | refine And.intro rfl ?_)
        exact (.cons .head (.cons .head (.cons .head (.cons .head (.cons .head (.cons .head (.cons .head (.cons .head (.cons .head (.cons .head .nil))))))))))
      rw [if_neg hh51] at h
      refine WP.no rfl rfl (bfalse hh51) rfl rfl ?_
      iterate 2 (refine WP.no rfl rfl rfl rfl rfl ?_)
      iterate 2 (refine WP.st tysOk true rfl True.intro rfl rfl rfl rfl True.intro ?_)
      iterate 6 (refine WP.no rfl rfl rfl rfl rfl ?_)
      iterate 2 ((iterate 2 (refine WP.st tysOk true rfl True.intro rfl rfl rfl rfl True.intro ?_)); refine WP.no rfl rfl rfl rfl rfl ?_; refine WP.no rfl rfl rfl rfl rfl ?_; refine WP.no rfl rfl rfl rfl rfl ?_)
      iterate 3 (refine WP.no rfl rfl rfl rfl rfl ?_)
      refine WP.st tysOk true rfl True.intro rfl rfl rfl rfl True.intro ?_
      refine WP.stop rfl false h ?_ ?_
      · repeat (first | exact True.intro | refine And.intro rfl ?_)
      exact (.cons .head (.cons .head (.cons .head (.cons .head (.cons .head (.cons .head (.cons .head (.cons .head (.cons .head (.cons .head .nil))))))))))
    rintro s40 h
    skip
    subst hk10
    try dsimp only at h
    refine WP.cond rfl rfl (fun hh50 => ?_) (fun hh50 => ?_)
    · rw [if_pos hh50] at h
      refine WP.join (α := Unit) (fun _ => True) (fun _ => [(4, .pointer (some ⟨g2, 0, none⟩)), (5, .pointer (some ⟨g3, 0, none⟩)), (6, .bool (true))]) (fun _ => [.blk g3 31 [iv s32, iv s33, iv s34, iv s35, iv s36, iv s37, iv s38, iv s39], .blk g2 45 [.slice A11 m1 c11, .slice A12 m2 c12, iv s2, .slice A13 m3 c13, .slice A14 m4 c14, iv s3, .int .u64 (s4), .bool (s5)], .blk g7 31 [iv s32, iv s33, iv s34, iv s35, iv s36, iv s37, iv s38, iv s39], Ow (fI .i64) 2 A11 m1 c11 xs1, Ow fA 23 A12 m2 c12 xs2, Ow (fI .i64) 2 A13 m3 c13 xs3, Ow fA 23 A14 m4 c14 xs4, .blk g4 45 [.slice A11 m1 c11, .slice A12 m2 c12, iv s2, .slice A13 m3 c13, .slice A14 m4 c14, iv s3, .int .u64 (s4), .bool (s5)], .blk g1 27 [.slice A1 d1.supply.length c1, .slice A2 d1.arcs.length c2], .fz (PH.of w)]) rfl ?_ ?_
      · refine WP.drawA rfl (by kernel_rfl) ?_
        refine WP.any2 0 1 rfl (by kernel_rfl) rfl rfl ?_ ?_
        · refine WP.ldm tysOk rfl True.intro rfl rfl rfl rfl rfl rfl rfl (SegAt.blk' (.tail (.tail (.tail (.tail (.tail .head))))) rfl) ?_
          refine WP.any2 1 2 rfl (by kernel_rfl) rfl rfl ?_ ?_
          · refine WP.ldm tysOk rfl True.intro rfl rfl rfl rfl rfl rfl rfl (SegAt.blk' .head rfl) ?_
            refine WP.any1 2 rfl (by kernel_rfl) rfl ?_
            refine WP.sto' tysOk [.slice A11 m1 c11, .slice A12 m2 c12, iv s2, .slice A13 m3 c13, .slice A14 m4 c14, iv s3, .int .u64 (s4), .bool (s5)] rfl rfl rfl rfl rfl rfl rfl rfl rfl (.tail (.tail (.tail (.tail (.tail (.tail (.tail .head))))))) rfl rfl ?_
            refine WP.any1 3 rfl (by kernel_rfl) rfl ?_
            refine WP.sto' tysOk [iv s32, iv s33, iv s34, iv s35, iv s36, iv s37, iv s38, iv s39] rfl rfl rfl rfl rfl rfl rfl rfl rfl (.tail (.tail (.tail (.tail (.tail (.tail (.tail .head))))))) rfl rfl ?_
            refine WP.anyP 4 tysOk putInv_body rfl rfl rfl (by kernel_rfl) (by kernel_rfl) rfl rfl rfl rfl rfl True.intro ?_
            refine WP.any0 rfl (by kernel_rfl) ?_
            refine WP.stop rfl () True.intro ?_ ?_
            · repeat (first | exact True.intro | refine And.intro rfl ?_)
            exact (.cons .head (.cons .head (.cons .head (.cons .head (.cons .head (.cons .head (.cons .head (.cons .head (.cons .head (.cons .head .nil))))))))))
          refine WP.sto' tysOk [.slice A11 m1 c11, .slice A12 m2 c12, iv s2, .slice A13 m3 c13, .slice A14 m4 c14, iv s3, .int .u64 (s4), .bool (s5)] rfl rfl rfl rfl rfl rfl rfl rfl rfl (.tail (.tail (.tail (.tail (.tail (.tail (.tail .head))))))) rfl rfl ?_
          refine WP.any1 1 rfl (by kernel_rfl) rfl ?_
          refine WP.ldm tysOk rfl True.intro rfl rfl rfl rfl rfl rfl rfl (SegAt.blk' (.tail .head) rfl) ?_
          refine WP.any1 3 rfl (by kernel_rfl) rfl ?_
          refine WP.sto' tysOk [iv s32, iv s33, iv s34, iv s35, iv s36, iv s37, iv s38, iv s39] rfl rfl rfl rfl rfl rfl rfl rfl rfl (.tail (.tail (.tail (.tail (.tail (.tail (.tail .head))))))) rfl rfl ?_
          refine WP.anyP 4 tysOk putInv_body rfl rfl rfl (by kernel_rfl) (by kernel_rfl) rfl rfl rfl rfl rfl True.intro ?_
          refine WP.any0 rfl (by kernel_rfl) ?_
          refine WP.stop rfl () True.intro ?_ ?_
          · repeat (first | exact True.intro | refine And.intro rfl ?_)
          exact (.cons .head (.cons .head (.cons .head (.cons .head (.cons .head (.cons .head (.cons .head (.cons .head (.cons .head (.cons .head .nil))))))))))
        refine WP.ldm tysOk rfl True.intro rfl rfl rfl rfl rfl rfl rfl (SegAt.blk' .head rfl) ?_
        refine WP.any1 0 rfl (by kernel_rfl) rfl ?_
        refine WP.ldm tysOk rfl True.intro rfl rfl rfl rfl rfl rfl rfl (SegAt.blk' (.tail (.tail (.tail (.tail (.tail .head))))) rfl) ?_
        refine WP.any1 2 rfl (by kernel_rfl) rfl ?_
        refine WP.sto' tysOk [.slice A11 m1 c11, .slice A12 m2 c12, iv s2, .slice A13 m3 c13, .slice A14 m4 c14, iv s3, .int .u64 (s4), .bool (s5)] rfl rfl rfl rfl rfl rfl rfl rfl rfl (.tail (.tail (.tail (.tail (.tail (.tail (.tail .head))))))) rfl rfl ?_
        refine WP.any1 3 rfl (by kernel_rfl) rfl ?_
        refine WP.sto' tysOk [iv s32, iv s33, iv s34, iv s35, iv s36, iv s37, iv s38, iv s39] rfl rfl rfl rfl rfl rfl rfl rfl rfl (.tail (.tail (.tail (.tail (.tail (.tail (.tail .head))))))) rfl rfl ?_
        refine WP.anyP 4 tysOk putInv_body rfl rfl rfl (by kernel_rfl) (by kernel_rfl) rfl rfl rfl rfl rfl True.intro ?_
        refine WP.any0 rfl (by kernel_rfl) ?_
        refine WP.stop rfl () True.intro ?_ ?_
        · repeat (first | exact True.intro | refine And.intro rfl ?_)
        exact (.cons .head (.cons .head (.cons .head (.cons .head (.cons .head (.cons .head (.cons .head (.cons .head (.cons .head (.cons .head .nil))))))))))
      intro _ _
      cases h
      refine WP.retR tysOk rfl rfl ⟨_, _, _, _, rfl, ⟨_, rfl, .inr ⟨rfl, _, rfl, rfl, (SegAt.blk' (z := 8) (.tail .head) rfl).1⟩⟩, ⟨_, _, _, _, rfl, ⟨_, rfl, .inr ⟨rfl, _, rfl, rfl, (SegAt.blk' (z := 8) .head rfl).1⟩⟩, ⟨_, _, rfl, rfl, rfl⟩, rfl⟩, rfl⟩ (fun w1 hw1 => ⟨_, _, rfl, ⟨A11, m1, c11, A12, m2, c12, A13, m3, c13, A14, m4, c14, rfl, hf9, hf10, hf11, hf12, rfl⟩, Ret.of_KH hw1 (.cons (.tail (.tail (.tail .head))) (.cons (.tail (.tail (.tail .head))) (.cons (.tail (.tail (.tail .head))) (.cons (.tail (.tail (.tail .head))) (.cons (.tail (.tail (.tail (.tail (.tail .head))))) .nil)))))⟩)
    rw [if_neg (bneg hh50)] at h
    iterate 3 (refine WP.st tysOk true rfl True.intro rfl rfl rfl rfl True.intro ?_)
    refine WP.stop rfl (n9, w64 (s29 + 1)) ⟨h, Nat.lt_succ_self _⟩ ?_ ?_
    · repeat (first | exact True.intro | refine And.intro rfl ?_)
    exact (.cons (.tail .head) (.cons (.tail .head) (.cons (.tail .head) (.cons (.tail .head) (.cons (.tail .head) (.cons (.tail .head) (.cons (.tail .head) (.cons (.tail .head) (.cons (.tail .head) .nil)))))))))
  rw [if_neg (bneg hh44)] at h
  by_cases hh56 : ¬ s1 = 0
  · rw [if_pos hh56] at h
    refine WP.join (α := Unit) (fun _ => True) (fun _ => [(4, .pointer (some ⟨g2, 0, none⟩)), (5, .pointer (some ⟨g3, 0, none⟩)), (6, .bool (true))]) (fun _ => [.blk g3 31 [iv 0, iv 0, iv 0, iv 0, iv 0, iv 0, iv 0, iv 0], .blk g2 45 [.slice A11 m1 c11, .slice A12 m2 c12, iv s2, .slice A13 m3 c13, .slice A14 m4 c14, iv s3, .int .u64 (s4), .bool (s5)], Ow (fI .i64) 2 A11 m1 c11 xs1, Ow fA 23 A12 m2 c12 xs2, Ow (fI .i64) 2 A13 m3 c13 xs3, Ow fA 23 A14 m4 c14 xs4, .blk g4 45 [.slice A11 m1 c11, .slice A12 m2 c12, iv s2, .slice A13 m3 c13, .slice A14 m4 c14, iv s3, .int .u64 (s4), .bool (s5)], .blk g1 27 [.slice A1 d1.supply.length c1, .slice A2 d1.arcs.length c2], .fz (PH.of w)]) rfl ?_ ?_
    · refine WP.drawA rfl (by kernel_rfl) ?_
      refine WP.anyP 2 tysOk putInv_body rfl rfl rfl (by kernel_rfl) (by kernel_rfl) rfl rfl rfl rfl rfl True.intro ?_
      refine WP.anyP 3 tysOk putInv_body rfl rfl rfl (by kernel_rfl) (by kernel_rfl) rfl rfl rfl rfl rfl True.intro ?_
      refine WP.anyP 4 tysOk putInv_body rfl rfl rfl (by kernel_rfl) (by kernel_rfl) rfl rfl rfl rfl rfl True.intro ?_
      refine WP.anyN 5 putInv_body rfl rfl rfl (by kernel_rfl) (by kernel_rfl) rfl (decide_eq_true hh56) rfl rfl rfl ?_
      refine WP.anyN 6 putInv_body rfl rfl rfl (by kernel_rfl) (by kernel_rfl) rfl rfl rfl rfl rfl ?_
      refine WP.anyN 7 putInv_body rfl rfl rfl (by kernel_rfl) (by kernel_rfl) rfl rfl rfl rfl rfl ?_
      refine WP.anyP 8 tysOk putInv_body rfl rfl rfl (by kernel_rfl) (by kernel_rfl) rfl rfl rfl rfl rfl True.intro ?_
      refine WP.any2 0 1 rfl (by kernel_rfl) rfl rfl ?_ ?_
      · refine WP.ldm tysOk rfl True.intro rfl rfl rfl rfl rfl rfl rfl (SegAt.blk' (.tail (.tail (.tail (.tail .head)))) rfl) ?_
        refine WP.any2 1 9 rfl (by kernel_rfl) rfl rfl ?_ ?_
        · refine WP.bld (cs := [iv 0, iv 0, iv 0, iv 0, iv 0, iv 0, iv 0, iv 0]) tysOk rfl True.intro rfl rfl rfl rfl rfl rfl rfl ?_
          refine WP.any1 9 rfl (by kernel_rfl) rfl ?_
          refine WP.sto' tysOk [.slice A11 m1 c11, .slice A12 m2 c12, iv s2, .slice A13 m3 c13, .slice A14 m4 c14, iv s3, .int .u64 (s4), .bool (s5)] rfl rfl rfl rfl rfl rfl rfl rfl rfl (.tail (.tail (.tail (.tail (.tail (.tail .head)))))) rfl rfl ?_
          refine WP.any1 10 rfl (by kernel_rfl) rfl ?_
          refine WP.sto' tysOk [iv 0, iv 0, iv 0, iv 0, iv 0, iv 0, iv 0, iv 0] rfl rfl rfl rfl rfl rfl rfl rfl rfl (.tail (.tail (.tail (.tail (.tail (.tail .head)))))) rfl rfl ?_
          refine WP.anyP 11 tysOk putInv_body rfl rfl rfl (by kernel_rfl) (by kernel_rfl) rfl rfl rfl rfl rfl True.intro ?_
          refine WP.any0 rfl (by kernel_rfl) ?_
          refine WP.stop rfl () True.intro ?_ ?_
          · repeat (first | exact True.intro | refine And.intro rfl ?_)
          exact (.cons .head (.cons .head (.cons .head (.cons .head (.cons .head (.cons .head (.cons .head (.cons .head (.cons .head .nil)))))))))
        refine WP.sto' tysOk [.slice A11 m1 c11, .slice A12 m2 c12, iv s2, .slice A13 m3 c13, .slice A14 m4 c14, iv s3, .int .u64 (s4), .bool (s5)] rfl rfl rfl rfl rfl rfl rfl rfl rfl (.tail (.tail (.tail (.tail (.tail (.tail .head)))))) rfl rfl ?_
        refine WP.any1 1 rfl (by kernel_rfl) rfl ?_
        refine WP.bld (cs := [iv 0, iv 0, iv 0, iv 0, iv 0, iv 0, iv 0, iv 0]) tysOk rfl True.intro rfl rfl rfl rfl rfl rfl rfl ?_
        refine WP.any1 10 rfl (by kernel_rfl) rfl ?_
        refine WP.sto' tysOk [iv 0, iv 0, iv 0, iv 0, iv 0, iv 0, iv 0, iv 0] rfl rfl rfl rfl rfl rfl rfl rfl rfl (.tail (.tail (.tail (.tail (.tail (.tail .head)))))) rfl rfl ?_
        refine WP.anyP 11 tysOk putInv_body rfl rfl rfl (by kernel_rfl) (by kernel_rfl) rfl rfl rfl rfl rfl True.intro ?_
        refine WP.any0 rfl (by kernel_rfl) ?_
        refine WP.stop rfl () True.intro ?_ ?_
        · repeat (first | exact True.intro | refine And.intro rfl ?_)
        exact (.cons .head (.cons .head (.cons .head (.cons .head (.cons .head (.cons .head (.cons .head (.cons .head (.cons .head .nil)))))))))
      refine WP.bld (cs := [iv 0, iv 0, iv 0, iv 0, iv 0, iv 0, iv 0, iv 0]) tysOk rfl True.intro rfl rfl rfl rfl rfl rfl rfl ?_
      refine WP.any1 0 rfl (by kernel_rfl) rfl ?_
      refine WP.ldm tysOk rfl True.intro rfl rfl rfl rfl rfl rfl rfl (SegAt.blk' (.tail (.tail (.tail (.tail .head)))) rfl) ?_
      refine WP.any1 9 rfl (by kernel_rfl) rfl ?_
      refine WP.sto' tysOk [.slice A11 m1 c11, .slice A12 m2 c12, iv s2, .slice A13 m3 c13, .slice A14 m4 c14, iv s3, .int .u64 (s4), .bool (s5)] rfl rfl rfl rfl rfl rfl rfl rfl rfl (.tail (.tail (.tail (.tail (.tail (.tail .head)))))) rfl rfl ?_
      refine WP.any1 10 rfl (by kernel_rfl) rfl ?_
      refine WP.sto' tysOk [iv 0, iv 0, iv 0, iv 0, iv 0, iv 0, iv 0, iv 0] rfl rfl rfl rfl rfl rfl rfl rfl rfl (.tail (.tail (.tail (.tail (.tail (.tail .head)))))) rfl rfl ?_
      refine WP.anyP 11 tysOk putInv_body rfl rfl rfl (by kernel_rfl) (by kernel_rfl) rfl rfl rfl rfl rfl True.intro ?_
      refine WP.any0 rfl (by kernel_rfl) ?_
      refine WP.stop rfl () True.intro ?_ ?_
      · repeat (first | exact True.intro | refine And.intro rfl ?_)
      exact (.cons .head (.cons .head (.cons .head (.cons .head (.cons .head (.cons .head (.cons .head (.cons .head (.cons .head .nil)))))))))
    intro _ _
    cases h
    refine WP.retR tysOk rfl rfl ⟨_, _, _, _, rfl, ⟨_, rfl, .inr ⟨rfl, _, rfl, rfl, (SegAt.blk' (z := 8) (.tail .head) rfl).1⟩⟩, ⟨_, _, _, _, rfl, ⟨_, rfl, .inr ⟨rfl, _, rfl, rfl, (SegAt.blk' (z := 8) .head rfl).1⟩⟩, ⟨_, _, rfl, rfl, rfl⟩, rfl⟩, rfl⟩ (fun w1 hw1 => ⟨_, _, rfl, ⟨A11, m1, c11, A12, m2, c12, A13, m3, c13, A14, m4, c14, rfl, hf9, hf10, hf11, hf12, rfl⟩, Ret.of_KH hw1 (.cons (.tail (.tail .head)) (.cons (.tail (.tail .head)) (.cons (.tail (.tail .head)) (.cons (.tail (.tail .head)) (.cons (.tail (.tail (.tail (.tail .head)))) .nil)))))⟩)
  rw [if_neg hh56] at h
  refine WP.join (α := Unit) (fun _ => True) (fun _ => [(4, .pointer (some ⟨g2, 0, none⟩)), (5, .pointer (some ⟨g3, 0, none⟩)), (6, .bool (!s5))]) (fun _ => [.blk g3 31 [iv 0, iv 0, iv 0, iv 0, iv 0, iv 0, iv 0, iv 0], .blk g2 45 [.slice A11 m1 c11, .slice A12 m2 c12, iv s2, .slice A13 m3 c13, .slice A14 m4 c14, iv s3, .int .u64 (s4), .bool (s5)], Ow (fI .i64) 2 A11 m1 c11 xs1, Ow fA 23 A12 m2 c12 xs2, Ow (fI .i64) 2 A13 m3 c13 xs3, Ow fA 23 A14 m4 c14 xs4, .blk g4 45 [.slice A11 m1 c11, .slice A12 m2 c12, iv s2, .slice A13 m3 c13, .slice A14 m4 c14, iv s3, .int .u64 (s4), .bool (s5)], .blk g1 27 [.slice A1 d1.supply.length c1, .slice A2 d1.arcs.length c2], .fz (PH.of w)]) rfl ?_ ?_
  · refine WP.drawA rfl (by kernel_rfl) ?_
    refine WP.cutA #[true, true, true, true, true, true, true, true, true, false, false, false] 3 [(4, .pointer (some ⟨g2, 0, none⟩)), (5, .pointer (some ⟨g3, 0, none⟩)), (80, .agg #[.slice A11 m1 c11, .slice A12 m2 c12, iv s2, .slice A13 m3 c13, .slice A14 m4 c14, iv s3, .int .u64 (s4), .bool (s5)]), (81, .agg #[iv 0, iv 0, iv 0, iv 0, iv 0, iv 0, iv 0, iv 0]), (88, .bool (!s5))] [Ow (fI .i64) 2 A11 m1 c11 xs1, Ow fA 23 A12 m2 c12 xs2, Ow (fI .i64) 2 A13 m3 c13 xs3, Ow fA 23 A14 m4 c14 xs4, .blk g4 45 [.slice A11 m1 c11, .slice A12 m2 c12, iv s2, .slice A13 m3 c13, .slice A14 m4 c14, iv s3, .int .u64 (s4), .bool (s5)], .blk g3 31 [iv 0, iv 0, iv 0, iv 0, iv 0, iv 0, iv 0, iv 0], .blk g2 45 [.slice none 0 0, .slice none 0 0, iv 0, .slice none 0 0, .slice none 0 0, iv 0, .int .u64 (0), .bool (false)], .blk g1 27 [.slice A1 d1.supply.length c1, .slice A2 d1.arcs.length c2], .fz (PH.of w)] rfl ?_ ?_
    · refine WP.any1 9 rfl (by kernel_rfl) rfl ?_
      refine WP.sto' tysOk [.slice A11 m1 c11, .slice A12 m2 c12, iv s2, .slice A13 m3 c13, .slice A14 m4 c14, iv s3, .int .u64 (s4), .bool (s5)] rfl rfl rfl rfl rfl rfl rfl rfl rfl (.tail (.tail (.tail (.tail (.tail (.tail .head)))))) rfl rfl ?_
      refine WP.any1 10 rfl (by kernel_rfl) rfl ?_
      refine WP.sto' tysOk [iv 0, iv 0, iv 0, iv 0, iv 0, iv 0, iv 0, iv 0] rfl rfl rfl rfl rfl rfl rfl rfl rfl (.tail (.tail (.tail (.tail (.tail (.tail .head)))))) rfl rfl ?_
      refine WP.anyP 11 tysOk putInv_body rfl rfl rfl (by kernel_rfl) (by kernel_rfl) rfl rfl rfl rfl rfl True.intro ?_
      refine WP.any0 rfl (by kernel_rfl) ?_
      refine WP.stop rfl () True.intro ?_ ?_
      · repeat (first | exact True.intro | refine And.intro rfl ?_)
      exact (.cons .head (.cons .head (.cons .head (.cons .head (.cons .head (.cons .head (.cons .head (.cons .head (.cons .head .nil)))))))))
    intro mm1
    refine WP.cutA #[true, false, true, true, true, true, true, true, true, false, false, false] 4 [(4, .pointer (some ⟨g2, 0, none⟩)), (5, .pointer (some ⟨g3, 0, none⟩)), (80, .agg #[.slice A11 m1 c11, .slice A12 m2 c12, iv s2, .slice A13 m3 c13, .slice A14 m4 c14, iv s3, .int .u64 (s4), .bool (s5)]), (88, .bool (!s5))] [Ow (fI .i64) 2 A11 m1 c11 xs1, Ow fA 23 A12 m2 c12 xs2, Ow (fI .i64) 2 A13 m3 c13 xs3, Ow fA 23 A14 m4 c14 xs4, .blk g4 45 [.slice A11 m1 c11, .slice A12 m2 c12, iv s2, .slice A13 m3 c13, .slice A14 m4 c14, iv s3, .int .u64 (s4), .bool (s5)], .blk g3 31 [iv 0, iv 0, iv 0, iv 0, iv 0, iv 0, iv 0, iv 0], .blk g2 45 [.slice none 0 0, .slice none 0 0, iv 0, .slice none 0 0, .slice none 0 0, iv 0, .int .u64 (0), .bool (false)], .blk g1 27 [.slice A1 d1.supply.length c1, .slice A2 d1.arcs.length c2], .fz (PH.of w)] rfl ?_ ?_
    · refine WP.any2 1 9 rfl (by kernel_rfl) rfl rfl ?_ ?_
      · refine WP.bld (cs := [iv 0, iv 0, iv 0, iv 0, iv 0, iv 0, iv 0, iv 0]) tysOk rfl True.intro rfl rfl rfl rfl rfl rfl rfl ?_
        refine WP.useA mm1 rfl (by kernel_rfl) ?_ ?_
        · repeat (first | exact True.intro | refine And.intro rfl ?_)
        exact (.cons .head (.cons .head (.cons .head (.cons .head (.cons .head (.cons .head (.cons .head (.cons .head (.cons .head .nil)))))))))
      refine WP.sto' tysOk [.slice A11 m1 c11, .slice A12 m2 c12, iv s2, .slice A13 m3 c13, .slice A14 m4 c14, iv s3, .int .u64 (s4), .bool (s5)] rfl rfl rfl rfl rfl rfl rfl rfl rfl (.tail (.tail (.tail (.tail (.tail (.tail .head)))))) rfl rfl ?_
      refine WP.any1 1 rfl (by kernel_rfl) rfl ?_
      refine WP.bld (cs := [iv 0, iv 0, iv 0, iv 0, iv 0, iv 0, iv 0, iv 0]) tysOk rfl True.intro rfl rfl rfl rfl rfl rfl rfl ?_
      refine WP.any1 10 rfl (by kernel_rfl) rfl ?_
      refine WP.sto' tysOk [iv 0, iv 0, iv 0, iv 0, iv 0, iv 0, iv 0, iv 0] rfl rfl rfl rfl rfl rfl rfl rfl rfl (.tail (.tail (.tail (.tail (.tail (.tail .head)))))) rfl rfl ?_
      refine WP.anyP 11 tysOk putInv_body rfl rfl rfl (by kernel_rfl) (by kernel_rfl) rfl rfl rfl rfl rfl True.intro ?_
      refine WP.any0 rfl (by kernel_rfl) ?_
      refine WP.stop rfl () True.intro ?_ ?_
      · repeat (first | exact True.intro | refine And.intro rfl ?_)
      exact (.cons .head (.cons .head (.cons .head (.cons .head (.cons .head (.cons .head (.cons .head (.cons .head (.cons .head .nil)))))))))
    intro mm2
    refine WP.cutA #[true, true, true, true, true, true, false, false, false, true, false, false] 5 [(4, .pointer (some ⟨g2, 0, none⟩)), (5, .pointer (some ⟨g3, 0, none⟩)), (81, .agg #[iv 0, iv 0, iv 0, iv 0, iv 0, iv 0, iv 0, iv 0]), (84, .bool (false)), (85, .pointer (some ⟨g4, 7, none⟩))] [.blk g2 45 [.slice A11 m1 c11, .slice A12 m2 c12, iv s2, .slice A13 m3 c13, .slice A14 m4 c14, iv s3, .int .u64 (s4), .bool (s5)], Ow (fI .i64) 2 A11 m1 c11 xs1, Ow fA 23 A12 m2 c12 xs2, Ow (fI .i64) 2 A13 m3 c13 xs3, Ow fA 23 A14 m4 c14 xs4, .blk g4 45 [.slice A11 m1 c11, .slice A12 m2 c12, iv s2, .slice A13 m3 c13, .slice A14 m4 c14, iv s3, .int .u64 (s4), .bool (s5)], .blk g3 31 [iv 0, iv 0, iv 0, iv 0, iv 0, iv 0, iv 0, iv 0], .blk g1 27 [.slice A1 d1.supply.length c1, .slice A2 d1.arcs.length c2], .fz (PH.of w)] rfl ?_ ?_
    · refine WP.any2 6 10 rfl (by kernel_rfl) rfl rfl ?_ ?_
      · refine WP.yes rfl rfl rfl ?_
        refine WP.ld1 tysOk rfl True.intro rfl rfl rfl rfl rfl rfl rfl (CellAt.blk (.tail (.tail (.tail (.tail (.tail .head))))) rfl) ?_
        refine WP.anyY 7 tysOk putInv_body rfl rfl rfl (by kernel_rfl) (by kernel_rfl) rfl rfl rfl rfl rfl rfl True.intro ?_
        refine WP.anyP 8 tysOk putInv_body rfl rfl rfl (by kernel_rfl) (by kernel_rfl) rfl rfl rfl rfl rfl True.intro ?_
        refine WP.any1 10 rfl (by kernel_rfl) rfl ?_
        refine WP.sto' tysOk [iv 0, iv 0, iv 0, iv 0, iv 0, iv 0, iv 0, iv 0] rfl rfl rfl rfl rfl rfl rfl rfl rfl (.tail (.tail (.tail (.tail (.tail (.tail .head)))))) rfl rfl ?_
        refine WP.anyP 11 tysOk putInv_body rfl rfl rfl (by kernel_rfl) (by kernel_rfl) rfl rfl rfl rfl rfl True.intro ?_
        refine WP.any0 rfl (by kernel_rfl) ?_
        refine WP.stop rfl () True.intro ?_ ?_
        · repeat (first | exact True.intro | refine And.intro rfl ?_)
        exact (.cons .head (.cons .head (.cons .head (.cons .head (.cons .head (.cons .head (.cons .head (.cons .head (.cons .head .nil)))))))))
      refine WP.sto' tysOk [iv 0, iv 0, iv 0, iv 0, iv 0, iv 0, iv 0, iv 0] rfl rfl rfl rfl rfl rfl rfl rfl rfl (.tail (.tail (.tail (.tail (.tail (.tail .head)))))) rfl rfl ?_
      refine WP.any1 6 rfl (by kernel_rfl) rfl ?_
      refine WP.yes rfl rfl rfl ?_
      refine WP.ld1 tysOk rfl True.intro rfl rfl rfl rfl rfl rfl rfl (CellAt.blk (.tail (.tail (.tail (.tail (.tail (.tail .head)))))) rfl) ?_
      refine WP.anyY 7 tysOk putInv_body rfl rfl rfl (by kernel_rfl) (by kernel_rfl) rfl rfl rfl rfl rfl rfl True.intro ?_
      refine WP.anyP 8 tysOk putInv_body rfl rfl rfl (by kernel_rfl) (by kernel_rfl) rfl rfl rfl rfl rfl True.intro ?_
      refine WP.anyP 11 tysOk putInv_body rfl rfl rfl (by kernel_rfl) (by kernel_rfl) rfl rfl rfl rfl rfl True.intro ?_
      refine WP.any0 rfl (by kernel_rfl) ?_
      refine WP.stop rfl () True.intro ?_ ?_
      · repeat (first | exact True.intro | refine And.intro rfl ?_)
      exact (.cons .head (.cons .head (.cons .head (.cons .head (.cons .head (.cons .head (.cons .head (.cons .head (.cons .head .nil)))))))))
    intro mm3
    refine WP.anyP 2 tysOk putInv_body rfl rfl rfl (by kernel_rfl) (by kernel_rfl) rfl rfl rfl rfl rfl True.intro ?_
    refine WP.anyP 3 tysOk putInv_body rfl rfl rfl (by kernel_rfl) (by kernel_rfl) rfl rfl rfl rfl rfl True.intro ?_
    refine WP.anyP 4 tysOk putInv_body rfl rfl rfl (by kernel_rfl) (by kernel_rfl) rfl rfl rfl rfl rfl True.intro ?_
    refine WP.anyY 5 tysOk putInv_body rfl rfl rfl (by kernel_rfl) (by kernel_rfl) rfl (decide_eq_false hh56) rfl rfl rfl rfl True.intro ?_
    refine WP.any3 0 1 6 rfl (by kernel_rfl) rfl rfl rfl ?_ ?_ ?_
    · refine WP.ldm tysOk rfl True.intro rfl rfl rfl rfl rfl rfl rfl (SegAt.blk' (.tail (.tail (.tail (.tail .head)))) rfl) ?_
      refine WP.cutA #[true, true, true, true, true, true, true, true, true, false, false, false] 3 [(4, .pointer (some ⟨g2, 0, none⟩)), (5, .pointer (some ⟨g3, 0, none⟩)), (80, .agg #[.slice A11 m1 c11, .slice A12 m2 c12, iv s2, .slice A13 m3 c13, .slice A14 m4 c14, iv s3, .int .u64 (s4), .bool (s5)]), (81, .agg #[iv 0, iv 0, iv 0, iv 0, iv 0, iv 0, iv 0, iv 0]), (88, .bool (!s5))] [Ow (fI .i64) 2 A11 m1 c11 xs1, Ow fA 23 A12 m2 c12 xs2, Ow (fI .i64) 2 A13 m3 c13 xs3, Ow fA 23 A14 m4 c14 xs4, .blk g4 45 [.slice A11 m1 c11, .slice A12 m2 c12, iv s2, .slice A13 m3 c13, .slice A14 m4 c14, iv s3, .int .u64 (s4), .bool (s5)], .blk g3 31 [iv 0, iv 0, iv 0, iv 0, iv 0, iv 0, iv 0, iv 0], .blk g2 45 [.slice none 0 0, .slice none 0 0, iv 0, .slice none 0 0, .slice none 0 0, iv 0, .int .u64 (0), .bool (false)], .blk g1 27 [.slice A1 d1.supply.length c1, .slice A2 d1.arcs.length c2], .fz (PH.of w)] rfl ?_ ?_
      · refine WP.any1 9 rfl (by kernel_rfl) rfl ?_
        refine WP.sto' tysOk [.slice A11 m1 c11, .slice A12 m2 c12, iv s2, .slice A13 m3 c13, .slice A14 m4 c14, iv s3, .int .u64 (s4), .bool (s5)] rfl rfl rfl rfl rfl rfl rfl rfl rfl (.tail (.tail (.tail (.tail (.tail (.tail .head)))))) rfl rfl ?_
        refine WP.any1 10 rfl (by kernel_rfl) rfl ?_
        refine WP.sto' tysOk [iv 0, iv 0, iv 0, iv 0, iv 0, iv 0, iv 0, iv 0] rfl rfl rfl rfl rfl rfl rfl rfl rfl (.tail (.tail (.tail (.tail (.tail (.tail .head)))))) rfl rfl ?_
        refine WP.anyP 11 tysOk putInv_body rfl rfl rfl (by kernel_rfl) (by kernel_rfl) rfl rfl rfl rfl rfl True.intro ?_
        refine WP.any0 rfl (by kernel_rfl) ?_
        refine WP.stop rfl () True.intro ?_ ?_
        · repeat (first | exact True.intro | refine And.intro rfl ?_)
        exact (.cons .head (.cons .head (.cons .head (.cons .head (.cons .head (.cons .head (.cons .head (.cons .head (.cons .head .nil)))))))))
      intro mm1
      refine WP.cutA #[true, false, true, true, true, true, true, true, true, false, false, false] 4 [(4, .pointer (some ⟨g2, 0, none⟩)), (5, .pointer (some ⟨g3, 0, none⟩)), (80, .agg #[.slice A11 m1 c11, .slice A12 m2 c12, iv s2, .slice A13 m3 c13, .slice A14 m4 c14, iv s3, .int .u64 (s4), .bool (s5)]), (88, .bool (!s5))] [Ow (fI .i64) 2 A11 m1 c11 xs1, Ow fA 23 A12 m2 c12 xs2, Ow (fI .i64) 2 A13 m3 c13 xs3, Ow fA 23 A14 m4 c14 xs4, .blk g4 45 [.slice A11 m1 c11, .slice A12 m2 c12, iv s2, .slice A13 m3 c13, .slice A14 m4 c14, iv s3, .int .u64 (s4), .bool (s5)], .blk g3 31 [iv 0, iv 0, iv 0, iv 0, iv 0, iv 0, iv 0, iv 0], .blk g2 45 [.slice none 0 0, .slice none 0 0, iv 0, .slice none 0 0, .slice none 0 0, iv 0, .int .u64 (0), .bool (false)], .blk g1 27 [.slice A1 d1.supply.length c1, .slice A2 d1.arcs.length c2], .fz (PH.of w)] rfl ?_ ?_
      · refine WP.any2 1 9 rfl (by kernel_rfl) rfl rfl ?_ ?_
        · refine WP.bld (cs := [iv 0, iv 0, iv 0, iv 0, iv 0, iv 0, iv 0, iv 0]) tysOk rfl True.intro rfl rfl rfl rfl rfl rfl rfl ?_
          refine WP.useA mm1 rfl (by kernel_rfl) ?_ ?_
          · repeat (first | exact True.intro | refine And.intro rfl ?_)
          exact (.cons .head (.cons .head (.cons .head (.cons .head (.cons .head (.cons .head (.cons .head (.cons .head (.cons .head .nil)))))))))
        refine WP.sto' tysOk [.slice A11 m1 c11, .slice A12 m2 c12, iv s2, .slice A13 m3 c13, .slice A14 m4 c14, iv s3, .int .u64 (s4), .bool (s5)] rfl rfl rfl rfl rfl rfl rfl rfl rfl (.tail (.tail (.tail (.tail (.tail (.tail .head)))))) rfl rfl ?_
        refine WP.any1 1 rfl (by kernel_rfl) rfl ?_
        refine WP.bld (cs := [iv 0, iv 0, iv 0, iv 0, iv 0, iv 0, iv 0, iv 0]) tysOk rfl True.intro rfl rfl rfl rfl rfl rfl rfl ?_
        refine WP.any1 10 rfl (by kernel_rfl) rfl ?_
        refine WP.sto' tysOk [iv 0, iv 0, iv 0, iv 0, iv 0, iv 0, iv 0, iv 0] rfl rfl rfl rfl rfl rfl rfl rfl rfl (.tail (.tail (.tail (.tail (.tail (.tail .head)))))) rfl rfl ?_
        refine WP.anyP 11 tysOk putInv_body rfl rfl rfl (by kernel_rfl) (by kernel_rfl) rfl rfl rfl rfl rfl True.intro ?_
        refine WP.any0 rfl (by kernel_rfl) ?_
        refine WP.stop rfl () True.intro ?_ ?_
        · repeat (first | exact True.intro | refine And.intro rfl ?_)
        exact (.cons .head (.cons .head (.cons .head (.cons .head (.cons .head (.cons .head (.cons .head (.cons .head (.cons .head .nil)))))))))
      intro mm2
      refine WP.cutA #[true, true, true, true, true, true, false, false, false, true, false, false] 5 [(4, .pointer (some ⟨g2, 0, none⟩)), (5, .pointer (some ⟨g3, 0, none⟩)), (81, .agg #[iv 0, iv 0, iv 0, iv 0, iv 0, iv 0, iv 0, iv 0]), (84, .bool (false)), (85, .pointer (some ⟨g4, 7, none⟩))] [.blk g2 45 [.slice A11 m1 c11, .slice A12 m2 c12, iv s2, .slice A13 m3 c13, .slice A14 m4 c14, iv s3, .int .u64 (s4), .bool (s5)], Ow (fI .i64) 2 A11 m1 c11 xs1, Ow fA 23 A12 m2 c12 xs2, Ow (fI .i64) 2 A13 m3 c13 xs3, Ow fA 23 A14 m4 c14 xs4, .blk g4 45 [.slice A11 m1 c11, .slice A12 m2 c12, iv s2, .slice A13 m3 c13, .slice A14 m4 c14, iv s3, .int .u64 (s4), .bool (s5)], .blk g3 31 [iv 0, iv 0, iv 0, iv 0, iv 0, iv 0, iv 0, iv 0], .blk g1 27 [.slice A1 d1.supply.length c1, .slice A2 d1.arcs.length c2], .fz (PH.of w)] rfl ?_ ?_
      · refine WP.any2 6 10 rfl (by kernel_rfl) rfl rfl ?_ ?_
        · refine WP.yes rfl rfl rfl ?_
          refine WP.ld1 tysOk rfl True.intro rfl rfl rfl rfl rfl rfl rfl (CellAt.blk (.tail (.tail (.tail (.tail (.tail .head))))) rfl) ?_
          refine WP.anyY 7 tysOk putInv_body rfl rfl rfl (by kernel_rfl) (by kernel_rfl) rfl rfl rfl rfl rfl rfl True.intro ?_
          refine WP.anyP 8 tysOk putInv_body rfl rfl rfl (by kernel_rfl) (by kernel_rfl) rfl rfl rfl rfl rfl True.intro ?_
          refine WP.any1 10 rfl (by kernel_rfl) rfl ?_
          refine WP.sto' tysOk [iv 0, iv 0, iv 0, iv 0, iv 0, iv 0, iv 0, iv 0] rfl rfl rfl rfl rfl rfl rfl rfl rfl (.tail (.tail (.tail (.tail (.tail (.tail .head)))))) rfl rfl ?_
          refine WP.anyP 11 tysOk putInv_body rfl rfl rfl (by kernel_rfl) (by kernel_rfl) rfl rfl rfl rfl rfl True.intro ?_
          refine WP.any0 rfl (by kernel_rfl) ?_
          refine WP.stop rfl () True.intro ?_ ?_
          · repeat (first | exact True.intro | refine And.intro rfl ?_)
          exact (.cons .head (.cons .head (.cons .head (.cons .head (.cons .head (.cons .head (.cons .head (.cons .head (.cons .head .nil)))))))))
        refine WP.sto' tysOk [iv 0, iv 0, iv 0, iv 0, iv 0, iv 0, iv 0, iv 0] rfl rfl rfl rfl rfl rfl rfl rfl rfl (.tail (.tail (.tail (.tail (.tail (.tail .head)))))) rfl rfl ?_
        refine WP.any1 6 rfl (by kernel_rfl) rfl ?_
        refine WP.yes rfl rfl rfl ?_
        refine WP.ld1 tysOk rfl True.intro rfl rfl rfl rfl rfl rfl rfl (CellAt.blk (.tail (.tail (.tail (.tail (.tail (.tail .head)))))) rfl) ?_
        refine WP.anyY 7 tysOk putInv_body rfl rfl rfl (by kernel_rfl) (by kernel_rfl) rfl rfl rfl rfl rfl rfl True.intro ?_
        refine WP.anyP 8 tysOk putInv_body rfl rfl rfl (by kernel_rfl) (by kernel_rfl) rfl rfl rfl rfl rfl True.intro ?_
        refine WP.anyP 11 tysOk putInv_body rfl rfl rfl (by kernel_rfl) (by kernel_rfl) rfl rfl rfl rfl rfl True.intro ?_
        refine WP.any0 rfl (by kernel_rfl) ?_
        refine WP.stop rfl () True.intro ?_ ?_
        · repeat (first | exact True.intro | refine And.intro rfl ?_)
        exact (.cons .head (.cons .head (.cons .head (.cons .head (.cons .head (.cons .head (.cons .head (.cons .head (.cons .head .nil)))))))))
      intro mm3
      refine WP.any3 1 6 9 rfl (by kernel_rfl) rfl rfl rfl ?_ ?_ ?_
      · refine WP.bld (cs := [iv 0, iv 0, iv 0, iv 0, iv 0, iv 0, iv 0, iv 0]) tysOk rfl True.intro rfl rfl rfl rfl rfl rfl rfl ?_
        refine WP.cutA #[true, true, true, true, true, true, true, true, true, false, false, false] 3 [(4, .pointer (some ⟨g2, 0, none⟩)), (5, .pointer (some ⟨g3, 0, none⟩)), (80, .agg #[.slice A11 m1 c11, .slice A12 m2 c12, iv s2, .slice A13 m3 c13, .slice A14 m4 c14, iv s3, .int .u64 (s4), .bool (s5)]), (81, .agg #[iv 0, iv 0, iv 0, iv 0, iv 0, iv 0, iv 0, iv 0]), (88, .bool (!s5))] [Ow (fI .i64) 2 A11 m1 c11 xs1, Ow fA 23 A12 m2 c12 xs2, Ow (fI .i64) 2 A13 m3 c13 xs3, Ow fA 23 A14 m4 c14 xs4, .blk g4 45 [.slice A11 m1 c11, .slice A12 m2 c12, iv s2, .slice A13 m3 c13, .slice A14 m4 c14, iv s3, .int .u64 (s4), .bool (s5)], .blk g3 31 [iv 0, iv 0, iv 0, iv 0, iv 0, iv 0, iv 0, iv 0], .blk g2 45 [.slice none 0 0, .slice none 0 0, iv 0, .slice none 0 0, .slice none 0 0, iv 0, .int .u64 (0), .bool (false)], .blk g1 27 [.slice A1 d1.supply.length c1, .slice A2 d1.arcs.length c2], .fz (PH.of w)] rfl ?_ ?_
        · refine WP.any1 9 rfl (by kernel_rfl) rfl ?_
          refine WP.sto' tysOk [.slice A11 m1 c11, .slice A12 m2 c12, iv s2, .slice A13 m3 c13, .slice A14 m4 c14, iv s3, .int .u64 (s4), .bool (s5)] rfl rfl rfl rfl rfl rfl rfl rfl rfl (.tail (.tail (.tail (.tail (.tail (.tail .head)))))) rfl rfl ?_
          refine WP.any1 10 rfl (by kernel_rfl) rfl ?_
          refine WP.sto' tysOk [iv 0, iv 0, iv 0, iv 0, iv 0, iv 0, iv 0, iv 0] rfl rfl rfl rfl rfl rfl rfl rfl rfl (.tail (.tail (.tail (.tail (.tail (.tail .head)))))) rfl rfl ?_
          refine WP.anyP 11 tysOk putInv_body rfl rfl rfl (by kernel_rfl) (by kernel_rfl) rfl rfl rfl rfl rfl True.intro ?_
          refine WP.any0 rfl (by kernel_rfl) ?_
          refine WP.stop rfl () True.intro ?_ ?_
          · repeat (first | exact True.intro | refine And.intro rfl ?_)
          exact (.cons .head (.cons .head (.cons .head (.cons .head (.cons .head (.cons .head (.cons .head (.cons .head (.cons .head .nil)))))))))
        intro mm1
        refine WP.cutA #[true, false, true, true, true, true, true, true, true, false, false, false] 4 [(4, .pointer (some ⟨g2, 0, none⟩)), (5, .pointer (some ⟨g3, 0, none⟩)), (80, .agg #[.slice A11 m1 c11, .slice A12 m2 c12, iv s2, .slice A13 m3 c13, .slice A14 m4 c14, iv s3, .int .u64 (s4), .bool (s5)]), (88, .bool (!s5))] [Ow (fI .i64) 2 A11 m1 c11 xs1, Ow fA 23 A12 m2 c12 xs2, Ow (fI .i64) 2 A13 m3 c13 xs3, Ow fA 23 A14 m4 c14 xs4, .blk g4 45 [.slice A11 m1 c11, .slice A12 m2 c12, iv s2, .slice A13 m3 c13, .slice A14 m4 c14, iv s3, .int .u64 (s4), .bool (s5)], .blk g3 31 [iv 0, iv 0, iv 0, iv 0, iv 0, iv 0, iv 0, iv 0], .blk g2 45 [.slice none 0 0, .slice none 0 0, iv 0, .slice none 0 0, .slice none 0 0, iv 0, .int .u64 (0), .bool (false)], .blk g1 27 [.slice A1 d1.supply.length c1, .slice A2 d1.arcs.length c2], .fz (PH.of w)] rfl ?_ ?_
        · refine WP.any2 1 9 rfl (by kernel_rfl) rfl rfl ?_ ?_
          · refine WP.bld (cs := [iv 0, iv 0, iv 0, iv 0, iv 0, iv 0, iv 0, iv 0]) tysOk rfl True.intro rfl rfl rfl rfl rfl rfl rfl ?_
            refine WP.useA mm1 rfl (by kernel_rfl) ?_ ?_
            · repeat (first | exact True.intro | refine And.intro rfl ?_)
            exact (.cons .head (.cons .head (.cons .head (.cons .head (.cons .head (.cons .head (.cons .head (.cons .head (.cons .head .nil)))))))))
          refine WP.sto' tysOk [.slice A11 m1 c11, .slice A12 m2 c12, iv s2, .slice A13 m3 c13, .slice A14 m4 c14, iv s3, .int .u64 (s4), .bool (s5)] rfl rfl rfl rfl rfl rfl rfl rfl rfl (.tail (.tail (.tail (.tail (.tail (.tail .head)))))) rfl rfl ?_
          refine WP.any1 1 rfl (by kernel_rfl) rfl ?_
          refine WP.bld (cs := [iv 0, iv 0, iv 0, iv 0, iv 0, iv 0, iv 0, iv 0]) tysOk rfl True.intro rfl rfl rfl rfl rfl rfl rfl ?_
          refine WP.any1 10 rfl (by kernel_rfl) rfl ?_
          refine WP.sto' tysOk [iv 0, iv 0, iv 0, iv 0, iv 0, iv 0, iv 0, iv 0] rfl rfl rfl rfl rfl rfl rfl rfl rfl (.tail (.tail (.tail (.tail (.tail (.tail .head)))))) rfl rfl ?_
          refine WP.anyP 11 tysOk putInv_body rfl rfl rfl (by kernel_rfl) (by kernel_rfl) rfl rfl rfl rfl rfl True.intro ?_
          refine WP.any0 rfl (by kernel_rfl) ?_
          refine WP.stop rfl () True.intro ?_ ?_
          · repeat (first | exact True.intro | refine And.intro rfl ?_)
          exact (.cons .head (.cons .head (.cons .head (.cons .head (.cons .head (.cons .head (.cons .head (.cons .head (.cons .head .nil)))))))))
        intro mm2
        refine WP.cutA #[true, true, true, true, true, true, false, false, false, true, false, false] 5 [(4, .pointer (some ⟨g2, 0, none⟩)), (5, .pointer (some ⟨g3, 0, none⟩)), (81, .agg #[iv 0, iv 0, iv 0, iv 0, iv 0, iv 0, iv 0, iv 0]), (84, .bool (false)), (85, .pointer (some ⟨g4, 7, none⟩))] [.blk g2 45 [.slice A11 m1 c11, .slice A12 m2 c12, iv s2, .slice A13 m3 c13, .slice A14 m4 c14, iv s3, .int .u64 (s4), .bool (s5)], Ow (fI .i64) 2 A11 m1 c11 xs1, Ow fA 23 A12 m2 c12 xs2, Ow (fI .i64) 2 A13 m3 c13 xs3, Ow fA 23 A14 m4 c14 xs4, .blk g4 45 [.slice A11 m1 c11, .slice A12 m2 c12, iv s2, .slice A13 m3 c13, .slice A14 m4 c14, iv s3, .int .u64 (s4), .bool (s5)], .blk g3 31 [iv 0, iv 0, iv 0, iv 0, iv 0, iv 0, iv 0, iv 0], .blk g1 27 [.slice A1 d1.supply.length c1, .slice A2 d1.arcs.length c2], .fz (PH.of w)] rfl ?_ ?_
        · refine WP.any2 6 10 rfl (by kernel_rfl) rfl rfl ?_ ?_
          · refine WP.yes rfl rfl rfl ?_
            refine WP.ld1 tysOk rfl True.intro rfl rfl rfl rfl rfl rfl rfl (CellAt.blk (.tail (.tail (.tail (.tail (.tail .head))))) rfl) ?_
            refine WP.anyY 7 tysOk putInv_body rfl rfl rfl (by kernel_rfl) (by kernel_rfl) rfl rfl rfl rfl rfl rfl True.intro ?_
            refine WP.anyP 8 tysOk putInv_body rfl rfl rfl (by kernel_rfl) (by kernel_rfl) rfl rfl rfl rfl rfl True.intro ?_
            refine WP.any1 10 rfl (by kernel_rfl) rfl ?_
            refine WP.sto' tysOk [iv 0, iv 0, iv 0, iv 0, iv 0, iv 0, iv 0, iv 0] rfl rfl rfl rfl rfl rfl rfl rfl rfl (.tail (.tail (.tail (.tail (.tail (.tail .head)))))) rfl rfl ?_
            refine WP.anyP 11 tysOk putInv_body rfl rfl rfl (by kernel_rfl) (by kernel_rfl) rfl rfl rfl rfl rfl True.intro ?_
            refine WP.any0 rfl (by kernel_rfl) ?_
            refine WP.stop rfl () True.intro ?_ ?_
            · repeat (first | exact True.intro | refine And.intro rfl ?_)
            exact (.cons .head (.cons .head (.cons .head (.cons .head (.cons .head (.cons .head (.cons .head (.cons .head (.cons .head .nil)))))))))
          refine WP.sto' tysOk [iv 0, iv 0, iv 0, iv 0, iv 0, iv 0, iv 0, iv 0] rfl rfl rfl rfl rfl rfl rfl rfl rfl (.tail (.tail (.tail (.tail (.tail (.tail .head)))))) rfl rfl ?_
          refine WP.any1 6 rfl (by kernel_rfl) rfl ?_
          refine WP.yes rfl rfl rfl ?_
          refine WP.ld1 tysOk rfl True.intro rfl rfl rfl rfl rfl rfl rfl (CellAt.blk (.tail (.tail (.tail (.tail (.tail (.tail .head)))))) rfl) ?_
          refine WP.anyY 7 tysOk putInv_body rfl rfl rfl (by kernel_rfl) (by kernel_rfl) rfl rfl rfl rfl rfl rfl True.intro ?_
          refine WP.anyP 8 tysOk putInv_body rfl rfl rfl (by kernel_rfl) (by kernel_rfl) rfl rfl rfl rfl rfl True.intro ?_
          refine WP.anyP 11 tysOk putInv_body rfl rfl rfl (by kernel_rfl) (by kernel_rfl) rfl rfl rfl rfl rfl True.intro ?_
          refine WP.any0 rfl (by kernel_rfl) ?_
          refine WP.stop rfl () True.intro ?_ ?_
          · repeat (first | exact True.intro | refine And.intro rfl ?_)
          exact (.cons .head (.cons .head (.cons .head (.cons .head (.cons .head (.cons .head (.cons .head (.cons .head (.cons .head .nil)))))))))
        intro mm3
        refine WP.any2 6 9 rfl (by kernel_rfl) rfl rfl ?_ ?_
        · refine WP.yes rfl rfl rfl ?_
          refine WP.ld1 tysOk rfl True.intro rfl rfl rfl rfl rfl rfl rfl (CellAt.blk (.tail (.tail (.tail (.tail .head)))) rfl) ?_
          refine WP.cutA #[true, true, true, true, true, true, true, true, true, false, false, false] 3 [(4, .pointer (some ⟨g2, 0, none⟩)), (5, .pointer (some ⟨g3, 0, none⟩)), (80, .agg #[.slice A11 m1 c11, .slice A12 m2 c12, iv s2, .slice A13 m3 c13, .slice A14 m4 c14, iv s3, .int .u64 (s4), .bool (s5)]), (81, .agg #[iv 0, iv 0, iv 0, iv 0, iv 0, iv 0, iv 0, iv 0]), (88, .bool (!s5))] [Ow (fI .i64) 2 A11 m1 c11 xs1, Ow fA 23 A12 m2 c12 xs2, Ow (fI .i64) 2 A13 m3 c13 xs3, Ow fA 23 A14 m4 c14 xs4, .blk g4 45 [.slice A11 m1 c11, .slice A12 m2 c12, iv s2, .slice A13 m3 c13, .slice A14 m4 c14, iv s3, .int .u64 (s4), .bool (s5)], .blk g3 31 [iv 0, iv 0, iv 0, iv 0, iv 0, iv 0, iv 0, iv 0], .blk g2 45 [.slice none 0 0, .slice none 0 0, iv 0, .slice none 0 0, .slice none 0 0, iv 0, .int .u64 (0), .bool (false)], .blk g1 27 [.slice A1 d1.supply.length c1, .slice A2 d1.arcs.length c2], .fz (PH.of w)] rfl ?_ ?_
          · refine WP.any1 9 rfl (by kernel_rfl) rfl ?_
            refine WP.sto' tysOk [.slice A11 m1 c11, .slice A12 m2 c12, iv s2, .slice A13 m3 c13, .slice A14 m4 c14, iv s3, .int .u64 (s4), .bool (s5)] rfl rfl rfl rfl rfl rfl rfl rfl rfl (.tail (.tail (.tail (.tail (.tail (.tail .head)))))) rfl rfl ?_
            refine WP.any1 10 rfl (by kernel_rfl) rfl ?_
            refine WP.sto' tysOk [iv 0, iv 0, iv 0, iv 0, iv 0, iv 0, iv 0, iv 0] rfl rfl rfl rfl rfl rfl rfl rfl rfl (.tail (.tail (.tail (.tail (.tail (.tail .head)))))) rfl rfl ?_
            refine WP.anyP 11 tysOk putInv_body rfl rfl rfl (by kernel_rfl) (by kernel_rfl) rfl rfl rfl rfl rfl True.intro ?_
            refine WP.any0 rfl (by kernel_rfl) ?_
            refine WP.stop rfl () True.intro ?_ ?_
            · repeat (first | exact True.intro | refine And.intro rfl ?_)
            exact (.cons .head (.cons .head (.cons .head (.cons .head (.cons .head (.cons .head (.cons .head (.cons .head (.cons .head .nil)))))))))
          intro mm1
          refine WP.cutA #[true, false, true, true, true, true, true, true, true, false, false, false] 4 [(4, .pointer (some ⟨g2, 0, none⟩)), (5, .pointer (some ⟨g3, 0, none⟩)), (80, .agg #[.slice A11 m1 c11, .slice A12 m2 c12, iv s2, .slice A13 m3 c13, .slice A14 m4 c14, iv s3, .int .u64 (s4), .bool (s5)]), (88, .bool (!s5))] [Ow (fI .i64) 2 A11 m1 c11 xs1, Ow fA 23 A12 m2 c12 xs2, Ow (fI .i64) 2 A13 m3 c13 xs3, Ow fA 23 A14 m4 c14 xs4, .blk g4 45 [.slice A11 m1 c11, .slice A12 m2 c12, iv s2, .slice A13 m3 c13, .slice A14 m4 c14, iv s3, .int .u64 (s4), .bool (s5)], .blk g3 31 [iv 0, iv 0, iv 0, iv 0, iv 0, iv 0, iv 0, iv 0], .blk g2 45 [.slice none 0 0, .slice none 0 0, iv 0, .slice none 0 0, .slice none 0 0, iv 0, .int .u64 (0), .bool (false)], .blk g1 27 [.slice A1 d1.supply.length c1, .slice A2 d1.arcs.length c2], .fz (PH.of w)] rfl ?_ ?_
          · refine WP.any2 1 9 rfl (by kernel_rfl) rfl rfl ?_ ?_
            · refine WP.bld (cs := [iv 0, iv 0, iv 0, iv 0, iv 0, iv 0, iv 0, iv 0]) tysOk rfl True.intro rfl rfl rfl rfl rfl rfl rfl ?_
              refine WP.useA mm1 rfl (by kernel_rfl) ?_ ?_
              · repeat (first | exact True.intro | refine And.intro rfl ?_)
              exact (.cons .head (.cons .head (.cons .head (.cons .head (.cons .head (.cons .head (.cons .head (.cons .head (.cons .head .nil)))))))))
            refine WP.sto' tysOk [.slice A11 m1 c11, .slice A12 m2 c12, iv s2, .slice A13 m3 c13, .slice A14 m4 c14, iv s3, .int .u64 (s4), .bool (s5)] rfl rfl rfl rfl rfl rfl rfl rfl rfl (.tail (.tail (.tail (.tail (.tail (.tail .head)))))) rfl rfl ?_
            refine WP.any1 1 rfl (by kernel_rfl) rfl ?_
            refine WP.bld (cs := [iv 0, iv 0, iv 0, iv 0, iv 0, iv 0, iv 0, iv 0]) tysOk rfl True.intro rfl rfl rfl rfl rfl rfl rfl ?_
            refine WP.any1 10 rfl (by kernel_rfl) rfl ?_
            refine WP.sto' tysOk [iv 0, iv 0, iv 0, iv 0, iv 0, iv 0, iv 0, iv 0] rfl rfl rfl rfl rfl rfl rfl rfl rfl (.tail (.tail (.tail (.tail (.tail (.tail .head)))))) rfl rfl ?_
            refine WP.anyP 11 tysOk putInv_body rfl rfl rfl (by kernel_rfl) (by kernel_rfl) rfl rfl rfl rfl rfl True.intro ?_
            refine WP.any0 rfl (by kernel_rfl) ?_
            refine WP.stop rfl () True.intro ?_ ?_
            · repeat (first | exact True.intro | refine And.intro rfl ?_)
            exact (.cons .head (.cons .head (.cons .head (.cons .head (.cons .head (.cons .head (.cons .head (.cons .head (.cons .head .nil)))))))))
          intro mm2
          refine WP.cutA #[true, true, true, true, true, true, false, false, false, true, false, false] 5 [(4, .pointer (some ⟨g2, 0, none⟩)), (5, .pointer (some ⟨g3, 0, none⟩)), (81, .agg #[iv 0, iv 0, iv 0, iv 0, iv 0, iv 0, iv 0, iv 0]), (84, .bool (false)), (85, .pointer (some ⟨g4, 7, none⟩))] [.blk g2 45 [.slice A11 m1 c11, .slice A12 m2 c12, iv s2, .slice A13 m3 c13, .slice A14 m4 c14, iv s3, .int .u64 (s4), .bool (s5)], Ow (fI .i64) 2 A11 m1 c11 xs1, Ow fA 23 A12 m2 c12 xs2, Ow (fI .i64) 2 A13 m3 c13 xs3, Ow fA 23 A14 m4 c14 xs4, .blk g4 45 [.slice A11 m1 c11, .slice A12 m2 c12, iv s2, .slice A13 m3 c13, .slice A14 m4 c14, iv s3, .int .u64 (s4), .bool (s5)], .blk g3 31 [iv 0, iv 0, iv 0, iv 0, iv 0, iv 0, iv 0, iv 0], .blk g1 27 [.slice A1 d1.supply.length c1, .slice A2 d1.arcs.length c2], .fz (PH.of w)] rfl ?_ ?_
          · refine WP.any2 6 10 rfl (by kernel_rfl) rfl rfl ?_ ?_
            · refine WP.yes rfl rfl rfl ?_
              refine WP.ld1 tysOk rfl True.intro rfl rfl rfl rfl rfl rfl rfl (CellAt.blk (.tail (.tail (.tail (.tail (.tail .head))))) rfl) ?_
              refine WP.anyY 7 tysOk putInv_body rfl rfl rfl (by kernel_rfl) (by kernel_rfl) rfl rfl rfl rfl rfl rfl True.intro ?_
              refine WP.anyP 8 tysOk putInv_body rfl rfl rfl (by kernel_rfl) (by kernel_rfl) rfl rfl rfl rfl rfl True.intro ?_
              refine WP.any1 10 rfl (by kernel_rfl) rfl ?_
              refine WP.sto' tysOk [iv 0, iv 0, iv 0, iv 0, iv 0, iv 0, iv 0, iv 0] rfl rfl rfl rfl rfl rfl rfl rfl rfl (.tail (.tail (.tail (.tail (.tail (.tail .head)))))) rfl rfl ?_
              refine WP.anyP 11 tysOk putInv_body rfl rfl rfl (by kernel_rfl) (by kernel_rfl) rfl rfl rfl rfl rfl True.intro ?_
              refine WP.any0 rfl (by kernel_rfl) ?_
              refine WP.stop rfl () True.intro ?_ ?_
              · repeat (first | exact True.intro | refine And.intro rfl ?_)
              exact (.cons .head (.cons .head (.cons .head (.cons .head (.cons .head (.cons .head (.cons .head (.cons .head (.cons .head .nil)))))))))
            refine WP.sto' tysOk [iv 0, iv 0, iv 0, iv 0, iv 0, iv 0, iv 0, iv 0] rfl rfl rfl rfl rfl rfl rfl rfl rfl (.tail (.tail (.tail (.tail (.tail (.tail .head)))))) rfl rfl ?_
            refine WP.any1 6 rfl (by kernel_rfl) rfl ?_
            refine WP.yes rfl rfl rfl ?_
            refine WP.ld1 tysOk rfl True.intro rfl rfl rfl rfl rfl rfl rfl (CellAt.blk (.tail (.tail (.tail (.tail (.tail (.tail .head)))))) rfl) ?_
            refine WP.anyY 7 tysOk putInv_body rfl rfl rfl (by kernel_rfl) (by kernel_rfl) rfl rfl rfl rfl rfl rfl True.intro ?_
            refine WP.anyP 8 tysOk putInv_body rfl rfl rfl (by kernel_rfl) (by kernel_rfl) rfl rfl rfl rfl rfl True.intro ?_
            refine WP.anyP 11 tysOk putInv_body rfl rfl rfl (by kernel_rfl) (by kernel_rfl) rfl rfl rfl rfl rfl True.intro ?_
            refine WP.any0 rfl (by kernel_rfl) ?_
            refine WP.stop rfl () True.intro ?_ ?_
            · repeat (first | exact True.intro | refine And.intro rfl ?_)
            exact (.cons .head (.cons .head (.cons .head (.cons .head (.cons .head (.cons .head (.cons .head (.cons .head (.cons .head .nil)))))))))
          intro mm3
          refine WP.anyY 7 tysOk putInv_body rfl rfl rfl (by kernel_rfl) (by kernel_rfl) rfl rfl rfl rfl rfl rfl True.intro ?_
          refine WP.anyP 8 tysOk putInv_body rfl rfl rfl (by kernel_rfl) (by kernel_rfl) rfl rfl rfl rfl rfl True.intro ?_
          refine WP.useA mm1 rfl (by kernel_rfl) ?_ ?_
          · repeat (first | exact True.intro | refine And.intro rfl ?_)
          exact (.cons .head (.cons .head (.cons .head (.cons .head (.cons .head (.cons .head (.cons .head (.cons .head (.cons .head .nil)))))))))
        refine WP.sto' tysOk [.slice A11 m1 c11, .slice A12 m2 c12, iv s2, .slice A13 m3 c13, .slice A14 m4 c14, iv s3, .int .u64 (s4), .bool (s5)] rfl rfl rfl rfl rfl rfl rfl rfl rfl (.tail (.tail (.tail (.tail (.tail (.tail .head)))))) rfl rfl ?_
        refine WP.cutA #[true, true, true, true, true, true, true, true, true, false, false, false] 3 [(4, .pointer (some ⟨g2, 0, none⟩)), (5, .pointer (some ⟨g3, 0, none⟩)), (80, .agg #[.slice A11 m1 c11, .slice A12 m2 c12, iv s2, .slice A13 m3 c13, .slice A14 m4 c14, iv s3, .int .u64 (s4), .bool (s5)]), (81, .agg #[iv 0, iv 0, iv 0, iv 0, iv 0, iv 0, iv 0, iv 0]), (88, .bool (!s5))] [Ow (fI .i64) 2 A11 m1 c11 xs1, Ow fA 23 A12 m2 c12 xs2, Ow (fI .i64) 2 A13 m3 c13 xs3, Ow fA 23 A14 m4 c14 xs4, .blk g4 45 [.slice A11 m1 c11, .slice A12 m2 c12, iv s2, .slice A13 m3 c13, .slice A14 m4 c14, iv s3, .int .u64 (s4), .bool (s5)], .blk g3 31 [iv 0, iv 0, iv 0, iv 0, iv 0, iv 0, iv 0, iv 0], .blk g2 45 [.slice none 0 0, .slice none 0 0, iv 0, .slice none 0 0, .slice none 0 0, iv 0, .int .u64 (0), .bool (false)], .blk g1 27 [.slice A1 d1.supply.length c1, .slice A2 d1.arcs.length c2], .fz (PH.of w)] rfl ?_ ?_
        · refine WP.any1 9 rfl (by kernel_rfl) rfl ?_
          refine WP.sto' tysOk [.slice A11 m1 c11, .slice A12 m2 c12, iv s2, .slice A13 m3 c13, .slice A14 m4 c14, iv s3, .int .u64 (s4), .bool (s5)] rfl rfl rfl rfl rfl rfl rfl rfl rfl (.tail (.tail (.tail (.tail (.tail (.tail .head)))))) rfl rfl ?_
          refine WP.any1 10 rfl (by kernel_rfl) rfl ?_
          refine WP.sto' tysOk [iv 0, iv 0, iv 0, iv 0, iv 0, iv 0, iv 0, iv 0] rfl rfl rfl rfl rfl rfl rfl rfl rfl (.tail (.tail (.tail (.tail (.tail (.tail .head)))))) rfl rfl ?_
          refine WP.anyP 11 tysOk putInv_body rfl rfl rfl (by kernel_rfl) (by kernel_rfl) rfl rfl rfl rfl rfl True.intro ?_
          refine WP.any0 rfl (by kernel_rfl) ?_
          refine WP.stop rfl () True.intro ?_ ?_
          · repeat (first | exact True.intro | refine And.intro rfl ?_)
          exact (.cons .head (.cons .head (.cons .head (.cons .head (.cons .head (.cons .head (.cons .head (.cons .head (.cons .head .nil)))))))))
        intro mm1
        refine WP.cutA #[true, false, true, true, true, true, true, true, true, false, false, false] 4 [(4, .pointer (some ⟨g2, 0, none⟩)), (5, .pointer (some ⟨g3, 0, none⟩)), (80, .agg #[.slice A11 m1 c11, .slice A12 m2 c12, iv s2, .slice A13 m3 c13, .slice A14 m4 c14, iv s3, .int .u64 (s4), .bool (s5)]), (88, .bool (!s5))] [Ow (fI .i64) 2 A11 m1 c11 xs1, Ow fA 23 A12 m2 c12 xs2, Ow (fI .i64) 2 A13 m3 c13 xs3, Ow fA 23 A14 m4 c14 xs4, .blk g4 45 [.slice A11 m1 c11, .slice A12 m2 c12, iv s2, .slice A13 m3 c13, .slice A14 m4 c14, iv s3, .int .u64 (s4), .bool (s5)], .blk g3 31 [iv 0, iv 0, iv 0, iv 0, iv 0, iv 0, iv 0, iv 0], .blk g2 45 [.slice none 0 0, .slice none 0 0, iv 0, .slice none 0 0, .slice none 0 0, iv 0, .int .u64 (0), .bool (false)], .blk g1 27 [.slice A1 d1.supply.length c1, .slice A2 d1.arcs.length c2], .fz (PH.of w)] rfl ?_ ?_
        · refine WP.any2 1 9 rfl (by kernel_rfl) rfl rfl ?_ ?_
          · refine WP.bld (cs := [iv 0, iv 0, iv 0, iv 0, iv 0, iv 0, iv 0, iv 0]) tysOk rfl True.intro rfl rfl rfl rfl rfl rfl rfl ?_
            refine WP.useA mm1 rfl (by kernel_rfl) ?_ ?_
            · repeat (first | exact True.intro | refine And.intro rfl ?_)
            exact (.cons .head (.cons .head (.cons .head (.cons .head (.cons .head (.cons .head (.cons .head (.cons .head (.cons .head .nil)))))))))
          refine WP.sto' tysOk [.slice A11 m1 c11, .slice A12 m2 c12, iv s2, .slice A13 m3 c13, .slice A14 m4 c14, iv s3, .int .u64 (s4), .bool (s5)] rfl rfl rfl rfl rfl rfl rfl rfl rfl (.tail (.tail (.tail (.tail (.tail (.tail .head)))))) rfl rfl ?_
          refine WP.any1 1 rfl (by kernel_rfl) rfl ?_
          refine WP.bld (cs := [iv 0, iv 0, iv 0, iv 0, iv 0, iv 0, iv 0, iv 0]) tysOk rfl True.intro rfl rfl rfl rfl rfl rfl rfl ?_
          refine WP.any1 10 rfl (by kernel_rfl) rfl ?_
          refine WP.sto' tysOk [iv 0, iv 0, iv 0, iv 0, iv 0, iv 0, iv 0, iv 0] rfl rfl rfl rfl rfl rfl rfl rfl rfl (.tail (.tail (.tail (.tail (.tail (.tail .head)))))) rfl rfl ?_
          refine WP.anyP 11 tysOk putInv_body rfl rfl rfl (by kernel_rfl) (by kernel_rfl) rfl rfl rfl rfl rfl True.intro ?_
          refine WP.any0 rfl (by kernel_rfl) ?_
          refine WP.stop rfl () True.intro ?_ ?_
          · repeat (first | exact True.intro | refine And.intro rfl ?_)
          exact (.cons .head (.cons .head (.cons .head (.cons .head (.cons .head (.cons .head (.cons .head (.cons .head (.cons .head .nil)))))))))
        intro mm2
        refine WP.cutA #[true, true, true, true, true, true, false, false, false, true, false, false] 5 [(4, .pointer (some ⟨g2, 0, none⟩)), (5, .pointer (some ⟨g3, 0, none⟩)), (81, .agg #[iv 0, iv 0, iv 0, iv 0, iv 0, iv 0, iv 0, iv 0]), (84, .bool (false)), (85, .pointer (some ⟨g4, 7, none⟩))] [.blk g2 45 [.slice A11 m1 c11, .slice A12 m2 c12, iv s2, .slice A13 m3 c13, .slice A14 m4 c14, iv s3, .int .u64 (s4), .bool (s5)], Ow (fI .i64) 2 A11 m1 c11 xs1, Ow fA 23 A12 m2 c12 xs2, Ow (fI .i64) 2 A13 m3 c13 xs3, Ow fA 23 A14 m4 c14 xs4, .blk g4 45 [.slice A11 m1 c11, .slice A12 m2 c12, iv s2, .slice A13 m3 c13, .slice A14 m4 c14, iv s3, .int .u64 (s4), .bool (s5)], .blk g3 31 [iv 0, iv 0, iv 0, iv 0, iv 0, iv 0, iv 0, iv 0], .blk g1 27 [.slice A1 d1.supply.length c1, .slice A2 d1.arcs.length c2], .fz (PH.of w)] rfl ?_ ?_
        · refine WP.any2 6 10 rfl (by kernel_rfl) rfl rfl ?_ ?_
          · refine WP.yes rfl rfl rfl ?_
            refine WP.ld1 tysOk rfl True.intro rfl rfl rfl rfl rfl rfl rfl (CellAt.blk (.tail (.tail (.tail (.tail (.tail .head))))) rfl) ?_
            refine WP.anyY 7 tysOk putInv_body rfl rfl rfl (by kernel_rfl) (by kernel_rfl) rfl rfl rfl rfl rfl rfl True.intro ?_
            refine WP.anyP 8 tysOk putInv_body rfl rfl rfl (by kernel_rfl) (by kernel_rfl) rfl rfl rfl rfl rfl True.intro ?_
            refine WP.any1 10 rfl (by kernel_rfl) rfl ?_
            refine WP.sto' tysOk [iv 0, iv 0, iv 0, iv 0, iv 0, iv 0, iv 0, iv 0] rfl rfl rfl rfl rfl rfl rfl rfl rfl (.tail (.tail (.tail (.tail (.tail (.tail .head)))))) rfl rfl ?_
            refine WP.anyP 11 tysOk putInv_body rfl rfl rfl (by kernel_rfl) (by kernel_rfl) rfl rfl rfl rfl rfl True.intro ?_
            refine WP.any0 rfl (by kernel_rfl) ?_
            refine WP.stop rfl () True.intro ?_ ?_
            · repeat (first | exact True.intro | refine And.intro rfl ?_)
            exact (.cons .head (.cons .head (.cons .head (.cons .head (.cons .head (.cons .head (.cons .head (.cons .head (.cons .head .nil)))))))))
          refine WP.sto' tysOk [iv 0, iv 0, iv 0, iv 0, iv 0, iv 0, iv 0, iv 0] rfl rfl rfl rfl rfl rfl rfl rfl rfl (.tail (.tail (.tail (.tail (.tail (.tail .head)))))) rfl rfl ?_
          refine WP.any1 6 rfl (by kernel_rfl) rfl ?_
          refine WP.yes rfl rfl rfl ?_
          refine WP.ld1 tysOk rfl True.intro rfl rfl rfl rfl rfl rfl rfl (CellAt.blk (.tail (.tail (.tail (.tail (.tail (.tail .head)))))) rfl) ?_
          refine WP.anyY 7 tysOk putInv_body rfl rfl rfl (by kernel_rfl) (by kernel_rfl) rfl rfl rfl rfl rfl rfl True.intro ?_
          refine WP.anyP 8 tysOk putInv_body rfl rfl rfl (by kernel_rfl) (by kernel_rfl) rfl rfl rfl rfl rfl True.intro ?_
          refine WP.anyP 11 tysOk putInv_body rfl rfl rfl (by kernel_rfl) (by kernel_rfl) rfl rfl rfl rfl rfl True.intro ?_
          refine WP.any0 rfl (by kernel_rfl) ?_
          refine WP.stop rfl () True.intro ?_ ?_
          · repeat (first | exact True.intro | refine And.intro rfl ?_)
          exact (.cons .head (.cons .head (.cons .head (.cons .head (.cons .head (.cons .head (.cons .head (.cons .head (.cons .head .nil)))))))))
        intro mm3
        refine WP.useA mm3 rfl (by kernel_rfl) ?_ ?_
        · repeat (first | exact True.intro | refine And.intro rfl ?_)
        exact (.cons .head (.cons .head (.cons .head (.cons .head (.cons .head (.cons .head (.cons .head (.cons .head (.cons .head .nil)))))))))
      · refine WP.yes rfl rfl rfl ?_
        refine WP.ld1 tysOk rfl True.intro rfl rfl rfl rfl rfl rfl rfl (CellAt.blk (.tail (.tail (.tail (.tail .head)))) rfl) ?_
        refine WP.cutA #[true, true, true, true, true, true, true, true, true, false, false, false] 3 [(4, .pointer (some ⟨g2, 0, none⟩)), (5, .pointer (some ⟨g3, 0, none⟩)), (80, .agg #[.slice A11 m1 c11, .slice A12 m2 c12, iv s2, .slice A13 m3 c13, .slice A14 m4 c14, iv s3, .int .u64 (s4), .bool (s5)]), (81, .agg #[iv 0, iv 0, iv 0, iv 0, iv 0, iv 0, iv 0, iv 0]), (88, .bool (!s5))] [Ow (fI .i64) 2 A11 m1 c11 xs1, Ow fA 23 A12 m2 c12 xs2, Ow (fI .i64) 2 A13 m3 c13 xs3, Ow fA 23 A14 m4 c14 xs4, .blk g4 45 [.slice A11 m1 c11, .slice A12 m2 c12, iv s2, .slice A13 m3 c13, .slice A14 m4 c14, iv s3, .int .u64 (s4), .bool (s5)], .blk g3 31 [iv 0, iv 0, iv 0, iv 0, iv 0, iv 0, iv 0, iv 0], .blk g2 45 [.slice none 0 0, .slice none 0 0, iv 0, .slice none 0 0, .slice none 0 0, iv 0, .int .u64 (0), .bool (false)], .blk g1 27 [.slice A1 d1.supply.length c1, .slice A2 d1.arcs.length c2], .fz (PH.of w)] rfl ?_ ?_
        · refine WP.any1 9 rfl (by kernel_rfl) rfl ?_
          refine WP.sto' tysOk [.slice A11 m1 c11, .slice A12 m2 c12, iv s2, .slice A13 m3 c13, .slice A14 m4 c14, iv s3, .int .u64 (s4), .bool (s5)] rfl rfl rfl rfl rfl rfl rfl rfl rfl (.tail (.tail (.tail (.tail (.tail (.tail .head)))))) rfl rfl ?_
          refine WP.any1 10 rfl (by kernel_rfl) rfl ?_
          refine WP.sto' tysOk [iv 0, iv 0, iv 0, iv 0, iv 0, iv 0, iv 0, iv 0] rfl rfl rfl rfl rfl rfl rfl rfl rfl (.tail (.tail (.tail (.tail (.tail (.tail .head)))))) rfl rfl ?_
          refine WP.anyP 11 tysOk putInv_body rfl rfl rfl (by kernel_rfl) (by kernel_rfl) rfl rfl rfl rfl rfl True.intro ?_
          refine WP.any0 rfl (by kernel_rfl) ?_
          refine WP.stop rfl () True.intro ?_ ?_
          · repeat (first | exact True.intro | refine And.intro rfl ?_)
          exact (.cons .head (.cons .head (.cons .head (.cons .head (.cons .head (.cons .head (.cons .head (.cons .head (.cons .head .nil)))))))))
        intro mm1
        refine WP.cutA #[true, false, true, true, true, true, true, true, true, false, false, false] 4 [(4, .pointer (some ⟨g2, 0, none⟩)), (5, .pointer (some ⟨g3, 0, none⟩)), (80, .agg #[.slice A11 m1 c11, .slice A12 m2 c12, iv s2, .slice A13 m3 c13, .slice A14 m4 c14, iv s3, .int .u64 (s4), .bool (s5)]), (88, .bool (!s5))] [Ow (fI .i64) 2 A11 m1 c11 xs1, Ow fA 23 A12 m2 c12 xs2, Ow (fI .i64) 2 A13 m3 c13 xs3, Ow fA 23 A14 m4 c14 xs4, .blk g4 45 [.slice A11 m1 c11, .slice A12 m2 c12, iv s2, .slice A13 m3 c13, .slice A14 m4 c14, iv s3, .int .u64 (s4), .bool (s5)], .blk g3 31 [iv 0, iv 0, iv 0, iv 0, iv 0, iv 0, iv 0, iv 0], .blk g2 45 [.slice none 0 0, .slice none 0 0, iv 0, .slice none 0 0, .slice none 0 0, iv 0, .int .u64 (0), .bool (false)], .blk g1 27 [.slice A1 d1.supply.length c1, .slice A2 d1.arcs.length c2], .fz (PH.of w)] rfl ?_ ?_
        · refine WP.any2 1 9 rfl (by kernel_rfl) rfl rfl ?_ ?_
          · refine WP.bld (cs := [iv 0, iv 0, iv 0, iv 0, iv 0, iv 0, iv 0, iv 0]) tysOk rfl True.intro rfl rfl rfl rfl rfl rfl rfl ?_
            refine WP.useA mm1 rfl (by kernel_rfl) ?_ ?_
            · repeat (first | exact True.intro | refine And.intro rfl ?_)
            exact (.cons .head (.cons .head (.cons .head (.cons .head (.cons .head (.cons .head (.cons .head (.cons .head (.cons .head .nil)))))))))
          refine WP.sto' tysOk [.slice A11 m1 c11, .slice A12 m2 c12, iv s2, .slice A13 m3 c13, .slice A14 m4 c14, iv s3, .int .u64 (s4), .bool (s5)] rfl rfl rfl rfl rfl rfl rfl rfl rfl (.tail (.tail (.tail (.tail (.tail (.tail .head)))))) rfl rfl ?_
          refine WP.any1 1 rfl (by kernel_rfl) rfl ?_
          refine WP.bld (cs := [iv 0, iv 0, iv 0, iv 0, iv 0, iv 0, iv 0, iv 0]) tysOk rfl True.intro rfl rfl rfl rfl rfl rfl rfl ?_
          refine WP.any1 10 rfl (by kernel_rfl) rfl ?_
          refine WP.sto' tysOk [iv 0, iv 0, iv 0, iv 0, iv 0, iv 0, iv 0, iv 0] rfl rfl rfl rfl rfl rfl rfl rfl rfl (.tail (.tail (.tail (.tail (.tail (.tail .head)))))) rfl rfl ?_
          refine WP.anyP 11 tysOk putInv_body rfl rfl rfl (by kernel_rfl) (by kernel_rfl) rfl rfl rfl rfl rfl True.intro ?_
          refine WP.any0 rfl (by kernel_rfl) ?_
          refine WP.stop rfl () True.intro ?_ ?_
          · repeat (first | exact True.intro | refine And.intro rfl ?_)
          exact (.cons .head (.cons .head (.cons .head (.cons .head (.cons .head (.cons .head (.cons .head (.cons .head (.cons .head .nil)))))))))
        intro mm2
        refine WP.cutA #[true, true, true, true, true, true, false, false, false, true, false, false] 5 [(4, .pointer (some ⟨g2, 0, none⟩)), (5, .pointer (some ⟨g3, 0, none⟩)), (81, .agg #[iv 0, iv 0, iv 0, iv 0, iv 0, iv 0, iv 0, iv 0]), (84, .bool (false)), (85, .pointer (some ⟨g4, 7, none⟩))] [.blk g2 45 [.slice A11 m1 c11, .slice A12 m2 c12, iv s2, .slice A13 m3 c13, .slice A14 m4 c14, iv s3, .int .u64 (s4), .bool (s5)], Ow (fI .i64) 2 A11 m1 c11 xs1, Ow fA 23 A12 m2 c12 xs2, Ow (fI .i64) 2 A13 m3 c13 xs3, Ow fA 23 A14 m4 c14 xs4, .blk g4 45 [.slice A11 m1 c11, .slice A12 m2 c12, iv s2, .slice A13 m3 c13, .slice A14 m4 c14, iv s3, .int .u64 (s4), .bool (s5)], .blk g3 31 [iv 0, iv 0, iv 0, iv 0, iv 0, iv 0, iv 0, iv 0], .blk g1 27 [.slice A1 d1.supply.length c1, .slice A2 d1.arcs.length c2], .fz (PH.of w)] rfl ?_ ?_
        · refine WP.any2 6 10 rfl (by kernel_rfl) rfl rfl ?_ ?_
          · refine WP.yes rfl rfl rfl ?_
            refine WP.ld1 tysOk rfl True.intro rfl rfl rfl rfl rfl rfl rfl (CellAt.blk (.tail (.tail (.tail (.tail (.tail .head))))) rfl) ?_
            refine WP.anyY 7 tysOk putInv_body rfl rfl rfl (by kernel_rfl) (by kernel_rfl) rfl rfl rfl rfl rfl rfl True.intro ?_
            refine WP.anyP 8 tysOk putInv_body rfl rfl rfl (by kernel_rfl) (by kernel_rfl) rfl rfl rfl rfl rfl True.intro ?_
            refine WP.any1 10 rfl (by kernel_rfl) rfl ?_
            refine WP.sto' tysOk [iv 0, iv 0, iv 0, iv 0, iv 0, iv 0, iv 0, iv 0] rfl rfl rfl rfl rfl rfl rfl rfl rfl (.tail (.tail (.tail (.tail (.tail (.tail .head)))))) rfl rfl ?_
            refine WP.anyP 11 tysOk putInv_body rfl rfl rfl (by kernel_rfl) (by kernel_rfl) rfl rfl rfl rfl rfl True.intro ?_
            refine WP.any0 rfl (by kernel_rfl) ?_
            refine WP.stop rfl () True.intro ?_ ?_
            · repeat (first | exact True.intro | refine And.intro rfl ?_)
            exact (.cons .head (.cons .head (.cons .head (.cons .head (.cons .head (.cons .head (.cons .head (.cons .head (.cons .head .nil)))))))))
          refine WP.sto' tysOk [iv 0, iv 0, iv 0, iv 0, iv 0, iv 0, iv 0, iv 0] rfl rfl rfl rfl rfl rfl rfl rfl rfl (.tail (.tail (.tail (.tail (.tail (.tail .head)))))) rfl rfl ?_
          refine WP.any1 6 rfl (by kernel_rfl) rfl ?_
          refine WP.yes rfl rfl rfl ?_
          refine WP.ld1 tysOk rfl True.intro rfl rfl rfl rfl rfl rfl rfl (CellAt.blk (.tail (.tail (.tail (.tail (.tail (.tail .head)))))) rfl) ?_
          refine WP.anyY 7 tysOk putInv_body rfl rfl rfl (by kernel_rfl) (by kernel_rfl) rfl rfl rfl rfl rfl rfl True.intro ?_
          refine WP.anyP 8 tysOk putInv_body rfl rfl rfl (by kernel_rfl) (by kernel_rfl) rfl rfl rfl rfl rfl True.intro ?_
          refine WP.anyP 11 tysOk putInv_body rfl rfl rfl (by kernel_rfl) (by kernel_rfl) rfl rfl rfl rfl rfl True.intro ?_
          refine WP.any0 rfl (by kernel_rfl) ?_
          refine WP.stop rfl () True.intro ?_ ?_
          · repeat (first | exact True.intro | refine And.intro rfl ?_)
          exact (.cons .head (.cons .head (.cons .head (.cons .head (.cons .head (.cons .head (.cons .head (.cons .head (.cons .head .nil)))))))))
        intro mm3
        refine WP.anyY 7 tysOk putInv_body rfl rfl rfl (by kernel_rfl) (by kernel_rfl) rfl rfl rfl rfl rfl rfl True.intro ?_
        refine WP.anyP 8 tysOk putInv_body rfl rfl rfl (by kernel_rfl) (by kernel_rfl) rfl rfl rfl rfl rfl True.intro ?_
        refine WP.useA mm2 rfl (by kernel_rfl) ?_ ?_
        · repeat (first | exact True.intro | refine And.intro rfl ?_)
        exact (.cons .head (.cons .head (.cons .head (.cons .head (.cons .head (.cons .head (.cons .head (.cons .head (.cons .head .nil)))))))))
      refine WP.sto' tysOk [.slice A11 m1 c11, .slice A12 m2 c12, iv s2, .slice A13 m3 c13, .slice A14 m4 c14, iv s3, .int .u64 (s4), .bool (s5)] rfl rfl rfl rfl rfl rfl rfl rfl rfl (.tail (.tail (.tail (.tail (.tail (.tail .head)))))) rfl rfl ?_
      refine WP.cutA #[true, true, true, true, true, true, true, true, true, false, false, false] 3 [(4, .pointer (some ⟨g2, 0, none⟩)), (5, .pointer (some ⟨g3, 0, none⟩)), (80, .agg #[.slice A11 m1 c11, .slice A12 m2 c12, iv s2, .slice A13 m3 c13, .slice A14 m4 c14, iv s3, .int .u64 (s4), .bool (s5)]), (81, .agg #[iv 0, iv 0, iv 0, iv 0, iv 0, iv 0, iv 0, iv 0]), (88, .bool (!s5))] [Ow (fI .i64) 2 A11 m1 c11 xs1, Ow fA 23 A12 m2 c12 xs2, Ow (fI .i64) 2 A13 m3 c13 xs3, Ow fA 23 A14 m4 c14 xs4, .blk g4 45 [.slice A11 m1 c11, .slice A12 m2 c12, iv s2, .slice A13 m3 c13, .slice A14 m4 c14, iv s3, .int .u64 (s4), .bool (s5)], .blk g3 31 [iv 0, iv 0, iv 0, iv 0, iv 0, iv 0, iv 0, iv 0], .blk g2 45 [.slice none 0 0, .slice none 0 0, iv 0, .slice none 0 0, .slice none 0 0, iv 0, .int .u64 (0), .bool (false)], .blk g1 27 [.slice A1 d1.supply.length c1, .slice A2 d1.arcs.length c2], .fz (PH.of w)] rfl ?_ ?_
      · refine WP.any1 9 rfl (by kernel_rfl) rfl ?_
        refine WP.sto' tysOk [.slice A11 m1 c11, .slice A12 m2 c12, iv s2, .slice A13 m3 c13, .slice A14 m4 c14, iv s3, .int .u64 (s4), .bool (s5)] rfl rfl rfl rfl rfl rfl rfl rfl rfl (.tail (.tail (.tail (.tail (.tail (.tail .head)))))) rfl rfl ?_
        refine WP.any1 10 rfl (by kernel_rfl) rfl ?_
        refine WP.sto' tysOk [iv 0, iv 0, iv 0, iv 0, iv 0, iv 0, iv 0, iv 0] rfl rfl rfl rfl rfl rfl rfl rfl rfl (.tail (.tail (.tail (.tail (.tail (.tail .head)))))) rfl rfl ?_
        refine WP.anyP 11 tysOk putInv_body rfl rfl rfl (by kernel_rfl) (by kernel_rfl) rfl rfl rfl rfl rfl True.intro ?_
        refine WP.any0 rfl (by kernel_rfl) ?_
        refine WP.stop rfl () True.intro ?_ ?_
        · repeat (first | exact True.intro | refine And.intro rfl ?_)
        exact (.cons .head (.cons .head (.cons .head (.cons .head (.cons .head (.cons .head (.cons .head (.cons .head (.cons .head .nil)))))))))
      intro mm1
      refine WP.cutA #[true, false, true, true, true, true, true, true, true, false, false, false] 4 [(4, .pointer (some ⟨g2, 0, none⟩)), (5, .pointer (some ⟨g3, 0, none⟩)), (80, .agg #[.slice A11 m1 c11, .slice A12 m2 c12, iv s2, .slice A13 m3 c13, .slice A14 m4 c14, iv s3, .int .u64 (s4), .bool (s5)]), (88, .bool (!s5))] [Ow (fI .i64) 2 A11 m1 c11 xs1, Ow fA 23 A12 m2 c12 xs2, Ow (fI .i64) 2 A13 m3 c13 xs3, Ow fA 23 A14 m4 c14 xs4, .blk g4 45 [.slice A11 m1 c11, .slice A12 m2 c12, iv s2, .slice A13 m3 c13, .slice A14 m4 c14, iv s3, .int .u64 (s4), .bool (s5)], .blk g3 31 [iv 0, iv 0, iv 0, iv 0, iv 0, iv 0, iv 0, iv 0], .blk g2 45 [.slice none 0 0, .slice none 0 0, iv 0, .slice none 0 0, .slice none 0 0, iv 0, .int .u64 (0), .bool (false)], .blk g1 27 [.slice A1 d1.supply.length c1, .slice A2 d1.arcs.length c2], .fz (PH.of w)] rfl ?_ ?_
      · refine WP.any2 1 9 rfl (by kernel_rfl) rfl rfl ?_ ?_
        · refine WP.bld (cs := [iv 0, iv 0, iv 0, iv 0, iv 0, iv 0, iv 0, iv 0]) tysOk rfl True.intro rfl rfl rfl rfl rfl rfl rfl ?_
          refine WP.useA mm1 rfl (by kernel_rfl) ?_ ?_
          · repeat (first | exact True.intro | refine And.intro rfl ?_)
          exact (.cons .head (.cons .head (.cons .head (.cons .head (.cons .head (.cons .head (.cons .head (.cons .head (.cons .head .nil)))))))))
        refine WP.sto' tysOk [.slice A11 m1 c11, .slice A12 m2 c12, iv s2, .slice A13 m3 c13, .slice A14 m4 c14, iv s3, .int .u64 (s4), .bool (s5)] rfl rfl rfl rfl rfl rfl rfl rfl rfl (.tail (.tail (.tail (.tail (.tail (.tail .head)))))) rfl rfl ?_
        refine WP.any1 1 rfl (by kernel_rfl) rfl ?_
        refine WP.bld (cs := [iv 0, iv 0, iv 0, iv 0, iv 0, iv 0, iv 0, iv 0]) tysOk rfl True.intro rfl rfl rfl rfl rfl rfl rfl ?_
        refine WP.any1 10 rfl (by kernel_rfl) rfl ?_
        refine WP.sto' tysOk [iv 0, iv 0, iv 0, iv 0, iv 0, iv 0, iv 0, iv 0] rfl rfl rfl rfl rfl rfl rfl rfl rfl (.tail (.tail (.tail (.tail (.tail (.tail .head)))))) rfl rfl ?_
        refine WP.anyP 11 tysOk putInv_body rfl rfl rfl (by kernel_rfl) (by kernel_rfl) rfl rfl rfl rfl rfl True.intro ?_
        refine WP.any0 rfl (by kernel_rfl) ?_
        refine WP.stop rfl () True.intro ?_ ?_
        · repeat (first | exact True.intro | refine And.intro rfl ?_)
        exact (.cons .head (.cons .head (.cons .head (.cons .head (.cons .head (.cons .head (.cons .head (.cons .head (.cons .head .nil)))))))))
      intro mm2
      refine WP.cutA #[true, true, true, true, true, true, false, false, false, true, false, false] 5 [(4, .pointer (some ⟨g2, 0, none⟩)), (5, .pointer (some ⟨g3, 0, none⟩)), (81, .agg #[iv 0, iv 0, iv 0, iv 0, iv 0, iv 0, iv 0, iv 0]), (84, .bool (false)), (85, .pointer (some ⟨g4, 7, none⟩))] [.blk g2 45 [.slice A11 m1 c11, .slice A12 m2 c12, iv s2, .slice A13 m3 c13, .slice A14 m4 c14, iv s3, .int .u64 (s4), .bool (s5)], Ow (fI .i64) 2 A11 m1 c11 xs1, Ow fA 23 A12 m2 c12 xs2, Ow (fI .i64) 2 A13 m3 c13 xs3, Ow fA 23 A14 m4 c14 xs4, .blk g4 45 [.slice A11 m1 c11, .slice A12 m2 c12, iv s2, .slice A13 m3 c13, .slice A14 m4 c14, iv s3, .int .u64 (s4), .bool (s5)], .blk g3 31 [iv 0, iv 0, iv 0, iv 0, iv 0, iv 0, iv 0, iv 0], .blk g1 27 [.slice A1 d1.supply.length c1, .slice A2 d1.arcs.length c2], .fz (PH.of w)] rfl ?_ ?_
      · refine WP.any2 6 10 rfl (by kernel_rfl) rfl rfl ?_ ?_
        · refine WP.yes rfl rfl rfl ?_
          refine WP.ld1 tysOk rfl True.intro rfl rfl rfl rfl rfl rfl rfl (CellAt.blk (.tail (.tail (.tail (.tail (.tail .head))))) rfl) ?_
          refine WP.anyY 7 tysOk putInv_body rfl rfl rfl (by kernel_rfl) (by kernel_rfl) rfl rfl rfl rfl rfl rfl True.intro ?_
          refine WP.anyP 8 tysOk putInv_body rfl rfl rfl (by kernel_rfl) (by kernel_rfl) rfl rfl rfl rfl rfl True.intro ?_
          refine WP.any1 10 rfl (by kernel_rfl) rfl ?_
          refine WP.sto' tysOk [iv 0, iv 0, iv 0, iv 0, iv 0, iv 0, iv 0, iv 0] rfl rfl rfl rfl rfl rfl rfl rfl rfl (.tail (.tail (.tail (.tail (.tail (.tail .head)))))) rfl rfl ?_
          refine WP.anyP 11 tysOk putInv_body rfl rfl rfl (by kernel_rfl) (by kernel_rfl) rfl rfl rfl rfl rfl True.intro ?_
          refine WP.any0 rfl (by kernel_rfl) ?_
          refine WP.stop rfl () True.intro ?_ ?_
          · repeat (first | exact True.intro | refine And.intro rfl ?_)
          exact (.cons .head (.cons .head (.cons .head (.cons .head (.cons .head (.cons .head (.cons .head (.cons .head (.cons .head .nil)))))))))
        refine WP.sto' tysOk [iv 0, iv 0, iv 0, iv 0, iv 0, iv 0, iv 0, iv 0] rfl rfl rfl rfl rfl rfl rfl rfl rfl (.tail (.tail (.tail (.tail (.tail (.tail .head)))))) rfl rfl ?_
        refine WP.any1 6 rfl (by kernel_rfl) rfl ?_
        refine WP.yes rfl rfl rfl ?_
        refine WP.ld1 tysOk rfl True.intro rfl rfl rfl rfl rfl rfl rfl (CellAt.blk (.tail (.tail (.tail (.tail (.tail (.tail .head)))))) rfl) ?_
        refine WP.anyY 7 tysOk putInv_body rfl rfl rfl (by kernel_rfl) (by kernel_rfl) rfl rfl rfl rfl rfl rfl True.intro ?_
        refine WP.anyP 8 tysOk putInv_body rfl rfl rfl (by kernel_rfl) (by kernel_rfl) rfl rfl rfl rfl rfl True.intro ?_
        refine WP.anyP 11 tysOk putInv_body rfl rfl rfl (by kernel_rfl) (by kernel_rfl) rfl rfl rfl rfl rfl True.intro ?_
        refine WP.any0 rfl (by kernel_rfl) ?_
        refine WP.stop rfl () True.intro ?_ ?_
        · repeat (first | exact True.intro | refine And.intro rfl ?_)
        exact (.cons .head (.cons .head (.cons .head (.cons .head (.cons .head (.cons .head (.cons .head (.cons .head (.cons .head .nil)))))))))
      intro mm3
      refine WP.any2 1 6 rfl (by kernel_rfl) rfl rfl ?_ ?_
      · refine WP.bld (cs := [iv 0, iv 0, iv 0, iv 0, iv 0, iv 0, iv 0, iv 0]) tysOk rfl True.intro rfl rfl rfl rfl rfl rfl rfl ?_
        refine WP.cutA #[true, true, true, true, true, true, true, true, true, false, false, false] 3 [(4, .pointer (some ⟨g2, 0, none⟩)), (5, .pointer (some ⟨g3, 0, none⟩)), (80, .agg #[.slice A11 m1 c11, .slice A12 m2 c12, iv s2, .slice A13 m3 c13, .slice A14 m4 c14, iv s3, .int .u64 (s4), .bool (s5)]), (81, .agg #[iv 0, iv 0, iv 0, iv 0, iv 0, iv 0, iv 0, iv 0]), (88, .bool (!s5))] [Ow (fI .i64) 2 A11 m1 c11 xs1, Ow fA 23 A12 m2 c12 xs2, Ow (fI .i64) 2 A13 m3 c13 xs3, Ow fA 23 A14 m4 c14 xs4, .blk g4 45 [.slice A11 m1 c11, .slice A12 m2 c12, iv s2, .slice A13 m3 c13, .slice A14 m4 c14, iv s3, .int .u64 (s4), .bool (s5)], .blk g3 31 [iv 0, iv 0, iv 0, iv 0, iv 0, iv 0, iv 0, iv 0], .blk g2 45 [.slice none 0 0, .slice none 0 0, iv 0, .slice none 0 0, .slice none 0 0, iv 0, .int .u64 (0), .bool (false)], .blk g1 27 [.slice A1 d1.supply.length c1, .slice A2 d1.arcs.length c2], .fz (PH.of w)] rfl ?_ ?_
        · refine WP.any1 9 rfl (by kernel_rfl) rfl ?_
          refine WP.sto' tysOk [.slice A11 m1 c11, .slice A12 m2 c12, iv s2, .slice A13 m3 c13, .slice A14 m4 c14, iv s3, .int .u64 (s4), .bool (s5)] rfl rfl rfl rfl rfl rfl rfl rfl rfl (.tail (.tail (.tail (.tail (.tail (.tail .head)))))) rfl rfl ?_
          refine WP.any1 10 rfl (by kernel_rfl) rfl ?_
          refine WP.sto' tysOk [iv 0, iv 0, iv 0, iv 0, iv 0, iv 0, iv 0, iv 0] rfl rfl rfl rfl rfl rfl rfl rfl rfl (.tail (.tail (.tail (.tail (.tail (.tail .head)))))) rfl rfl ?_
          refine WP.anyP 11 tysOk putInv_body rfl rfl rfl (by kernel_rfl) (by kernel_rfl) rfl rfl rfl rfl rfl True.intro ?_
          refine WP.any0 rfl (by kernel_rfl) ?_
          refine WP.stop rfl () True.intro ?_ ?_
          · repeat (first | exact True.intro | refine And.intro rfl ?_)
          exact (.cons .head (.cons .head (.cons .head (.cons .head (.cons .head (.cons .head (.cons .head (.cons .head (.cons .head .nil)))))))))
        intro mm1
        refine WP.cutA #[true, false, true, true, true, true, true, true, true, false, false, false] 4 [(4, .pointer (some ⟨g2, 0, none⟩)), (5, .pointer (some ⟨g3, 0, none⟩)), (80, .agg #[.slice A11 m1 c11, .slice A12 m2 c12, iv s2, .slice A13 m3 c13, .slice A14 m4 c14, iv s3, .int .u64 (s4), .bool (s5)]), (88, .bool (!s5))] [Ow (fI .i64) 2 A11 m1 c11 xs1, Ow fA 23 A12 m2 c12 xs2, Ow (fI .i64) 2 A13 m3 c13 xs3, Ow fA 23 A14 m4 c14 xs4, .blk g4 45 [.slice A11 m1 c11, .slice A12 m2 c12, iv s2, .slice A13 m3 c13, .slice A14 m4 c14, iv s3, .int .u64 (s4), .bool (s5)], .blk g3 31 [iv 0, iv 0, iv 0, iv 0, iv 0, iv 0, iv 0, iv 0], .blk g2 45 [.slice none 0 0, .slice none 0 0, iv 0, .slice none 0 0, .slice none 0 0, iv 0, .int .u64 (0), .bool (false)], .blk g1 27 [.slice A1 d1.supply.length c1, .slice A2 d1.arcs.length c2], .fz (PH.of w)] rfl ?_ ?_
        · refine WP.any2 1 9 rfl (by kernel_rfl) rfl rfl ?_ ?_
          · refine WP.bld (cs := [iv 0, iv 0, iv 0, iv 0, iv 0, iv 0, iv 0, iv 0]) tysOk rfl True.intro rfl rfl rfl rfl rfl rfl rfl ?_
            refine WP.useA mm1 rfl (by kernel_rfl) ?_ ?_
            · repeat (first | exact True.intro | refine And.intro rfl ?_)
            exact (.cons .head (.cons .head (.cons .head (.cons .head (.cons .head (.cons .head (.cons .head (.cons .head (.cons .head .nil)))))))))
          refine WP.sto' tysOk [.slice A11 m1 c11, .slice A12 m2 c12, iv s2, .slice A13 m3 c13, .slice A14 m4 c14, iv s3, .int .u64 (s4), .bool (s5)] rfl rfl rfl rfl rfl rfl rfl rfl rfl (.tail (.tail (.tail (.tail (.tail (.tail .head)))))) rfl rfl ?_
          refine WP.any1 1 rfl (by kernel_rfl) rfl ?_
          refine WP.bld (cs := [iv 0, iv 0, iv 0, iv 0, iv 0, iv 0, iv 0, iv 0]) tysOk rfl True.intro rfl rfl rfl rfl rfl rfl rfl ?_
          refine WP.any1 10 rfl (by kernel_rfl) rfl ?_
          refine WP.sto' tysOk [iv 0, iv 0, iv 0, iv 0, iv 0, iv 0, iv 0, iv 0] rfl rfl rfl rfl rfl rfl rfl rfl rfl (.tail (.tail (.tail (.tail (.tail (.tail .head)))))) rfl rfl ?_
          refine WP.anyP 11 tysOk putInv_body rfl rfl rfl (by kernel_rfl) (by kernel_rfl) rfl rfl rfl rfl rfl True.intro ?_
          refine WP.any0 rfl (by kernel_rfl) ?_
          refine WP.stop rfl () True.intro ?_ ?_
          · repeat (first | exact True.intro | refine And.intro rfl ?_)
          exact (.cons .head (.cons .head (.cons .head (.cons .head (.cons .head (.cons .head (.cons .head (.cons .head (.cons .head .nil)))))))))
        intro mm2
        refine WP.cutA #[true, true, true, true, true, true, false, false, false, true, false, false] 5 [(4, .pointer (some ⟨g2, 0, none⟩)), (5, .pointer (some ⟨g3, 0, none⟩)), (81, .agg #[iv 0, iv 0, iv 0, iv 0, iv 0, iv 0, iv 0, iv 0]), (84, .bool (false)), (85, .pointer (some ⟨g4, 7, none⟩))] [.blk g2 45 [.slice A11 m1 c11, .slice A12 m2 c12, iv s2, .slice A13 m3 c13, .slice A14 m4 c14, iv s3, .int .u64 (s4), .bool (s5)], Ow (fI .i64) 2 A11 m1 c11 xs1, Ow fA 23 A12 m2 c12 xs2, Ow (fI .i64) 2 A13 m3 c13 xs3, Ow fA 23 A14 m4 c14 xs4, .blk g4 45 [.slice A11 m1 c11, .slice A12 m2 c12, iv s2, .slice A13 m3 c13, .slice A14 m4 c14, iv s3, .int .u64 (s4), .bool (s5)], .blk g3 31 [iv 0, iv 0, iv 0, iv 0, iv 0, iv 0, iv 0, iv 0], .blk g1 27 [.slice A1 d1.supply.length c1, .slice A2 d1.arcs.length c2], .fz (PH.of w)] rfl ?_ ?_
        · refine WP.any2 6 10 rfl (by kernel_rfl) rfl rfl ?_ ?_
          · refine WP.yes rfl rfl rfl ?_
            refine WP.ld1 tysOk rfl True.intro rfl rfl rfl rfl rfl rfl rfl (CellAt.blk (.tail (.tail (.tail (.tail (.tail .head))))) rfl) ?_
            refine WP.anyY 7 tysOk putInv_body rfl rfl rfl (by kernel_rfl) (by kernel_rfl) rfl rfl rfl rfl rfl rfl True.intro ?_
            refine WP.anyP 8 tysOk putInv_body rfl rfl rfl (by kernel_rfl) (by kernel_rfl) rfl rfl rfl rfl rfl True.intro ?_
            refine WP.any1 10 rfl (by kernel_rfl) rfl ?_
            refine WP.sto' tysOk [iv 0, iv 0, iv 0, iv 0, iv 0, iv 0, iv 0, iv 0] rfl rfl rfl rfl rfl rfl rfl rfl rfl (.tail (.tail (.tail (.tail (.tail (.tail .head)))))) rfl rfl ?_
            refine WP.anyP 11 tysOk putInv_body rfl rfl rfl (by kernel_rfl) (by kernel_rfl) rfl rfl rfl rfl rfl True.intro ?_
            refine WP.any0 rfl (by kernel_rfl) ?_
            refine WP.stop rfl () True.intro ?_ ?_
            · repeat (first | exact True.intro | refine And.intro rfl ?_)
            exact (.cons .head (.cons .head (.cons .head (.cons .head (.cons .head (.cons .head (.cons .head (.cons .head (.cons .head .nil)))))))))
          refine WP.sto' tysOk [iv 0, iv 0, iv 0, iv 0, iv 0, iv 0, iv 0, iv 0] rfl rfl rfl rfl rfl rfl rfl rfl rfl (.tail (.tail (.tail (.tail (.tail (.tail .head)))))) rfl rfl ?_
          refine WP.any1 6 rfl (by kernel_rfl) rfl ?_
          refine WP.yes rfl rfl rfl ?_
          refine WP.ld1 tysOk rfl True.intro rfl rfl rfl rfl rfl rfl rfl (CellAt.blk (.tail (.tail (.tail (.tail (.tail (.tail .head)))))) rfl) ?_
          refine WP.anyY 7 tysOk putInv_body rfl rfl rfl (by kernel_rfl) (by kernel_rfl) rfl rfl rfl rfl rfl rfl True.intro ?_
          refine WP.anyP 8 tysOk putInv_body rfl rfl rfl (by kernel_rfl) (by kernel_rfl) rfl rfl rfl rfl rfl True.intro ?_
          refine WP.anyP 11 tysOk putInv_body rfl rfl rfl (by kernel_rfl) (by kernel_rfl) rfl rfl rfl rfl rfl True.intro ?_
          refine WP.any0 rfl (by kernel_rfl) ?_
          refine WP.stop rfl () True.intro ?_ ?_
          · repeat (first | exact True.intro | refine And.intro rfl ?_)
          exact (.cons .head (.cons .head (.cons .head (.cons .head (.cons .head (.cons .head (.cons .head (.cons .head (.cons .head .nil)))))))))
        intro mm3
        refine WP.useA mm3 rfl (by kernel_rfl) ?_ ?_
        · repeat (first | exact True.intro | refine And.intro rfl ?_)
        exact (.cons .head (.cons .head (.cons .head (.cons .head (.cons .head (.cons .head (.cons .head (.cons .head (.cons .head .nil)))))))))
      refine WP.yes rfl rfl rfl ?_
      refine WP.ld1 tysOk rfl True.intro rfl rfl rfl rfl rfl rfl rfl (CellAt.blk (.tail (.tail (.tail (.tail (.tail .head))))) rfl) ?_
      refine WP.cutA #[true, true, true, true, true, true, true, true, true, false, false, false] 3 [(4, .pointer (some ⟨g2, 0, none⟩)), (5, .pointer (some ⟨g3, 0, none⟩)), (80, .agg #[.slice A11 m1 c11, .slice A12 m2 c12, iv s2, .slice A13 m3 c13, .slice A14 m4 c14, iv s3, .int .u64 (s4), .bool (s5)]), (81, .agg #[iv 0, iv 0, iv 0, iv 0, iv 0, iv 0, iv 0, iv 0]), (88, .bool (!s5))] [Ow (fI .i64) 2 A11 m1 c11 xs1, Ow fA 23 A12 m2 c12 xs2, Ow (fI .i64) 2 A13 m3 c13 xs3, Ow fA 23 A14 m4 c14 xs4, .blk g4 45 [.slice A11 m1 c11, .slice A12 m2 c12, iv s2, .slice A13 m3 c13, .slice A14 m4 c14, iv s3, .int .u64 (s4), .bool (s5)], .blk g3 31 [iv 0, iv 0, iv 0, iv 0, iv 0, iv 0, iv 0, iv 0], .blk g2 45 [.slice none 0 0, .slice none 0 0, iv 0, .slice none 0 0, .slice none 0 0, iv 0, .int .u64 (0), .bool (false)], .blk g1 27 [.slice A1 d1.supply.length c1, .slice A2 d1.arcs.length c2], .fz (PH.of w)] rfl ?_ ?_
      · refine WP.any1 9 rfl (by kernel_rfl) rfl ?_
        refine WP.sto' tysOk [.slice A11 m1 c11, .slice A12 m2 c12, iv s2, .slice A13 m3 c13, .slice A14 m4 c14, iv s3, .int .u64 (s4), .bool (s5)] rfl rfl rfl rfl rfl rfl rfl rfl rfl (.tail (.tail (.tail (.tail (.tail (.tail .head)))))) rfl rfl ?_
        refine WP.any1 10 rfl (by kernel_rfl) rfl ?_
        refine WP.sto' tysOk [iv 0, iv 0, iv 0, iv 0, iv 0, iv 0, iv 0, iv 0] rfl rfl rfl rfl rfl rfl rfl rfl rfl (.tail (.tail (.tail (.tail (.tail (.tail .head)))))) rfl rfl ?_
        refine WP.anyP 11 tysOk putInv_body rfl rfl rfl (by kernel_rfl) (by kernel_rfl) rfl rfl rfl rfl rfl True.intro ?_
        refine WP.any0 rfl (by kernel_rfl) ?_
        refine WP.stop rfl () True.intro ?_ ?_
        · repeat (first | exact True.intro | refine And.intro rfl ?_)
        exact (.cons .head (.cons .head (.cons .head (.cons .head (.cons .head (.cons .head (.cons .head (.cons .head (.cons .head .nil)))))))))
      intro mm1
      refine WP.cutA #[true, false, true, true, true, true, true, true, true, false, false, false] 4 [(4, .pointer (some ⟨g2, 0, none⟩)), (5, .pointer (some ⟨g3, 0, none⟩)), (80, .agg #[.slice A11 m1 c11, .slice A12 m2 c12, iv s2, .slice A13 m3 c13, .slice A14 m4 c14, iv s3, .int .u64 (s4), .bool (s5)]), (88, .bool (!s5))] [Ow (fI .i64) 2 A11 m1 c11 xs1, Ow fA 23 A12 m2 c12 xs2, Ow (fI .i64) 2 A13 m3 c13 xs3, Ow fA 23 A14 m4 c14 xs4, .blk g4 45 [.slice A11 m1 c11, .slice A12 m2 c12, iv s2, .slice A13 m3 c13, .slice A14 m4 c14, iv s3, .int .u64 (s4), .bool (s5)], .blk g3 31 [iv 0, iv 0, iv 0, iv 0, iv 0, iv 0, iv 0, iv 0], .blk g2 45 [.slice none 0 0, .slice none 0 0, iv 0, .slice none 0 0, .slice none 0 0, iv 0, .int .u64 (0), .bool (false)], .blk g1 27 [.slice A1 d1.supply.length c1, .slice A2 d1.arcs.length c2], .fz (PH.of w)] rfl ?_ ?_
      · refine WP.any2 1 9 rfl (by kernel_rfl) rfl rfl ?_ ?_
        · refine WP.bld (cs := [iv 0, iv 0, iv 0, iv 0, iv 0, iv 0, iv 0, iv 0]) tysOk rfl True.intro rfl rfl rfl rfl rfl rfl rfl ?_
          refine WP.useA mm1 rfl (by kernel_rfl) ?_ ?_
          · repeat (first | exact True.intro | refine And.intro rfl ?_)
          exact (.cons .head (.cons .head (.cons .head (.cons .head (.cons .head (.cons .head (.cons .head (.cons .head (.cons .head .nil)))))))))
        refine WP.sto' tysOk [.slice A11 m1 c11, .slice A12 m2 c12, iv s2, .slice A13 m3 c13, .slice A14 m4 c14, iv s3, .int .u64 (s4), .bool (s5)] rfl rfl rfl rfl rfl rfl rfl rfl rfl (.tail (.tail (.tail (.tail (.tail (.tail .head)))))) rfl rfl ?_
        refine WP.any1 1 rfl (by kernel_rfl) rfl ?_
        refine WP.bld (cs := [iv 0, iv 0, iv 0, iv 0, iv 0, iv 0, iv 0, iv 0]) tysOk rfl True.intro rfl rfl rfl rfl rfl rfl rfl ?_
        refine WP.any1 10 rfl (by kernel_rfl) rfl ?_
        refine WP.sto' tysOk [iv 0, iv 0, iv 0, iv 0, iv 0, iv 0, iv 0, iv 0] rfl rfl rfl rfl rfl rfl rfl rfl rfl (.tail (.tail (.tail (.tail (.tail (.tail .head)))))) rfl rfl ?_
        refine WP.anyP 11 tysOk putInv_body rfl rfl rfl (by kernel_rfl) (by kernel_rfl) rfl rfl rfl rfl rfl True.intro ?_
        refine WP.any0 rfl (by kernel_rfl) ?_
        refine WP.stop rfl () True.intro ?_ ?_
        · repeat (first | exact True.intro | refine And.intro rfl ?_)
        exact (.cons .head (.cons .head (.cons .head (.cons .head (.cons .head (.cons .head (.cons .head (.cons .head (.cons .head .nil)))))))))
      intro mm2
      refine WP.cutA #[true, true, true, true, true, true, false, false, false, true, false, false] 5 [(4, .pointer (some ⟨g2, 0, none⟩)), (5, .pointer (some ⟨g3, 0, none⟩)), (81, .agg #[iv 0, iv 0, iv 0, iv 0, iv 0, iv 0, iv 0, iv 0]), (84, .bool (false)), (85, .pointer (some ⟨g4, 7, none⟩))] [.blk g2 45 [.slice A11 m1 c11, .slice A12 m2 c12, iv s2, .slice A13 m3 c13, .slice A14 m4 c14, iv s3, .int .u64 (s4), .bool (s5)], Ow (fI .i64) 2 A11 m1 c11 xs1, Ow fA 23 A12 m2 c12 xs2, Ow (fI .i64) 2 A13 m3 c13 xs3, Ow fA 23 A14 m4 c14 xs4, .blk g4 45 [.slice A11 m1 c11, .slice A12 m2 c12, iv s2, .slice A13 m3 c13, .slice A14 m4 c14, iv s3, .int .u64 (s4), .bool (s5)], .blk g3 31 [iv 0, iv 0, iv 0, iv 0, iv 0, iv 0, iv 0, iv 0], .blk g1 27 [.slice A1 d1.supply.length c1, .slice A2 d1.arcs.length c2], .fz (PH.of w)] rfl ?_ ?_
      · refine WP.any2 6 10 rfl (by kernel_rfl) rfl rfl ?_ ?_
        · refine WP.yes rfl rfl rfl ?_
          refine WP.ld1 tysOk rfl True.intro rfl rfl rfl rfl rfl rfl rfl (CellAt.blk (.tail (.tail (.tail (.tail (.tail .head))))) rfl) ?_
          refine WP.anyY 7 tysOk putInv_body rfl rfl rfl (by kernel_rfl) (by kernel_rfl) rfl rfl rfl rfl rfl rfl True.intro ?_
          refine WP.anyP 8 tysOk putInv_body rfl rfl rfl (by kernel_rfl) (by kernel_rfl) rfl rfl rfl rfl rfl True.intro ?_
          refine WP.any1 10 rfl (by kernel_rfl) rfl ?_
          refine WP.sto' tysOk [iv 0, iv 0, iv 0, iv 0, iv 0, iv 0, iv 0, iv 0] rfl rfl rfl rfl rfl rfl rfl rfl rfl (.tail (.tail (.tail (.tail (.tail (.tail .head)))))) rfl rfl ?_
          refine WP.anyP 11 tysOk putInv_body rfl rfl rfl (by kernel_rfl) (by kernel_rfl) rfl rfl rfl rfl rfl True.intro ?_
          refine WP.any0 rfl (by kernel_rfl) ?_
          refine WP.stop rfl () True.intro ?_ ?_
          · repeat (first | exact True.intro | refine And.intro rfl ?_)
          exact (.cons .head (.cons .head (.cons .head (.cons .head (.cons .head (.cons .head (.cons .head (.cons .head (.cons .head .nil)))))))))
        refine WP.sto' tysOk [iv 0, iv 0, iv 0, iv 0, iv 0, iv 0, iv 0, iv 0] rfl rfl rfl rfl rfl rfl rfl rfl rfl (.tail (.tail (.tail (.tail (.tail (.tail .head)))))) rfl rfl ?_
        refine WP.any1 6 rfl (by kernel_rfl) rfl ?_
        refine WP.yes rfl rfl rfl ?_
        refine WP.ld1 tysOk rfl True.intro rfl rfl rfl rfl rfl rfl rfl (CellAt.blk (.tail (.tail (.tail (.tail (.tail (.tail .head)))))) rfl) ?_
        refine WP.anyY 7 tysOk putInv_body rfl rfl rfl (by kernel_rfl) (by kernel_rfl) rfl rfl rfl rfl rfl rfl True.intro ?_
        refine WP.anyP 8 tysOk putInv_body rfl rfl rfl (by kernel_rfl) (by kernel_rfl) rfl rfl rfl rfl rfl True.intro ?_
        refine WP.anyP 11 tysOk putInv_body rfl rfl rfl (by kernel_rfl) (by kernel_rfl) rfl rfl rfl rfl rfl True.intro ?_
        refine WP.any0 rfl (by kernel_rfl) ?_
        refine WP.stop rfl () True.intro ?_ ?_
        · repeat (first | exact True.intro | refine And.intro rfl ?_)
        exact (.cons .head (.cons .head (.cons .head (.cons .head (.cons .head (.cons .head (.cons .head (.cons .head (.cons .head .nil)))))))))
      intro mm3
      refine WP.anyY 7 tysOk putInv_body rfl rfl rfl (by kernel_rfl) (by kernel_rfl) rfl rfl rfl rfl rfl rfl True.intro ?_
      refine WP.anyP 8 tysOk putInv_body rfl rfl rfl (by kernel_rfl) (by kernel_rfl) rfl rfl rfl rfl rfl True.intro ?_
      refine WP.any1 1 rfl (by kernel_rfl) rfl ?_
      refine WP.bld (cs := [iv 0, iv 0, iv 0, iv 0, iv 0, iv 0, iv 0, iv 0]) tysOk rfl True.intro rfl rfl rfl rfl rfl rfl rfl ?_
      refine WP.cutA #[true, true, true, true, true, true, true, true, true, false, false, false] 3 [(4, .pointer (some ⟨g2, 0, none⟩)), (5, .pointer (some ⟨g3, 0, none⟩)), (80, .agg #[.slice A11 m1 c11, .slice A12 m2 c12, iv s2, .slice A13 m3 c13, .slice A14 m4 c14, iv s3, .int .u64 (s4), .bool (s5)]), (81, .agg #[iv 0, iv 0, iv 0, iv 0, iv 0, iv 0, iv 0, iv 0]), (88, .bool (!s5))] [Ow (fI .i64) 2 A11 m1 c11 xs1, Ow fA 23 A12 m2 c12 xs2, Ow (fI .i64) 2 A13 m3 c13 xs3, Ow fA 23 A14 m4 c14 xs4, .blk g4 45 [.slice A11 m1 c11, .slice A12 m2 c12, iv s2, .slice A13 m3 c13, .slice A14 m4 c14, iv s3, .int .u64 (s4), .bool (s5)], .blk g3 31 [iv 0, iv 0, iv 0, iv 0, iv 0, iv 0, iv 0, iv 0], .blk g2 45 [.slice none 0 0, .slice none 0 0, iv 0, .slice none 0 0, .slice none 0 0, iv 0, .int .u64 (0), .bool (false)], .blk g1 27 [.slice A1 d1.supply.length c1, .slice A2 d1.arcs.length c2], .fz (PH.of w)] rfl ?_ ?_
      · refine WP.any1 9 rfl (by kernel_rfl) rfl ?_
        refine WP.sto' tysOk [.slice A11 m1 c11, .slice A12 m2 c12, iv s2, .slice A13 m3 c13, .slice A14 m4 c14, iv s3, .int .u64 (s4), .bool (s5)] rfl rfl rfl rfl rfl rfl rfl rfl rfl (.tail (.tail (.tail (.tail (.tail (.tail .head)))))) rfl rfl ?_
        refine WP.any1 10 rfl (by kernel_rfl) rfl ?_
        refine WP.sto' tysOk [iv 0, iv 0, iv 0, iv 0, iv 0, iv 0, iv 0, iv 0] rfl rfl rfl rfl rfl rfl rfl rfl rfl (.tail (.tail (.tail (.tail (.tail (.tail .head)))))) rfl rfl ?_
        refine WP.anyP 11 tysOk putInv_body rfl rfl rfl (by kernel_rfl) (by kernel_rfl) rfl rfl rfl rfl rfl True.intro ?_
        refine WP.any0 rfl (by kernel_rfl) ?_
        refine WP.stop rfl () True.intro ?_ ?_
        · repeat (first | exact True.intro | refine And.intro rfl ?_)
        exact (.cons .head (.cons .head (.cons .head (.cons .head (.cons .head (.cons .head (.cons .head (.cons .head (.cons .head .nil)))))))))
      intro mm1
      refine WP.cutA #[true, false, true, true, true, true, true, true, true, false, false, false] 4 [(4, .pointer (some ⟨g2, 0, none⟩)), (5, .pointer (some ⟨g3, 0, none⟩)), (80, .agg #[.slice A11 m1 c11, .slice A12 m2 c12, iv s2, .slice A13 m3 c13, .slice A14 m4 c14, iv s3, .int .u64 (s4), .bool (s5)]), (88, .bool (!s5))] [Ow (fI .i64) 2 A11 m1 c11 xs1, Ow fA 23 A12 m2 c12 xs2, Ow (fI .i64) 2 A13 m3 c13 xs3, Ow fA 23 A14 m4 c14 xs4, .blk g4 45 [.slice A11 m1 c11, .slice A12 m2 c12, iv s2, .slice A13 m3 c13, .slice A14 m4 c14, iv s3, .int .u64 (s4), .bool (s5)], .blk g3 31 [iv 0, iv 0, iv 0, iv 0, iv 0, iv 0, iv 0, iv 0], .blk g2 45 [.slice none 0 0, .slice none 0 0, iv 0, .slice none 0 0, .slice none 0 0, iv 0, .int .u64 (0), .bool (false)], .blk g1 27 [.slice A1 d1.supply.length c1, .slice A2 d1.arcs.length c2], .fz (PH.of w)] rfl ?_ ?_
      · refine WP.any2 1 9 rfl (by kernel_rfl) rfl rfl ?_ ?_
        · refine WP.bld (cs := [iv 0, iv 0, iv 0, iv 0, iv 0, iv 0, iv 0, iv 0]) tysOk rfl True.intro rfl rfl rfl rfl rfl rfl rfl ?_
          refine WP.useA mm1 rfl (by kernel_rfl) ?_ ?_
          · repeat (first | exact True.intro | refine And.intro rfl ?_)
          exact (.cons .head (.cons .head (.cons .head (.cons .head (.cons .head (.cons .head (.cons .head (.cons .head (.cons .head .nil)))))))))
        refine WP.sto' tysOk [.slice A11 m1 c11, .slice A12 m2 c12, iv s2, .slice A13 m3 c13, .slice A14 m4 c14, iv s3, .int .u64 (s4), .bool (s5)] rfl rfl rfl rfl rfl rfl rfl rfl rfl (.tail (.tail (.tail (.tail (.tail (.tail .head)))))) rfl rfl ?_
        refine WP.any1 1 rfl (by kernel_rfl) rfl ?_
        refine WP.bld (cs := [iv 0, iv 0, iv 0, iv 0, iv 0, iv 0, iv 0, iv 0]) tysOk rfl True.intro rfl rfl rfl rfl rfl rfl rfl ?_
        refine WP.any1 10 rfl (by kernel_rfl) rfl ?_
        refine WP.sto' tysOk [iv 0, iv 0, iv 0, iv 0, iv 0, iv 0, iv 0, iv 0] rfl rfl rfl rfl rfl rfl rfl rfl rfl (.tail (.tail (.tail (.tail (.tail (.tail .head)))))) rfl rfl ?_
        refine WP.anyP 11 tysOk putInv_body rfl rfl rfl (by kernel_rfl) (by kernel_rfl) rfl rfl rfl rfl rfl True.intro ?_
        refine WP.any0 rfl (by kernel_rfl) ?_
        refine WP.stop rfl () True.intro ?_ ?_
        · repeat (first | exact True.intro | refine And.intro rfl ?_)
        exact (.cons .head (.cons .head (.cons .head (.cons .head (.cons .head (.cons .head (.cons .head (.cons .head (.cons .head .nil)))))))))
      intro mm2
      refine WP.cutA #[true, true, true, true, true, true, false, false, false, true, false, false] 5 [(4, .pointer (some ⟨g2, 0, none⟩)), (5, .pointer (some ⟨g3, 0, none⟩)), (81, .agg #[iv 0, iv 0, iv 0, iv 0, iv 0, iv 0, iv 0, iv 0]), (84, .bool (false)), (85, .pointer (some ⟨g4, 7, none⟩))] [.blk g2 45 [.slice A11 m1 c11, .slice A12 m2 c12, iv s2, .slice A13 m3 c13, .slice A14 m4 c14, iv s3, .int .u64 (s4), .bool (s5)], Ow (fI .i64) 2 A11 m1 c11 xs1, Ow fA 23 A12 m2 c12 xs2, Ow (fI .i64) 2 A13 m3 c13 xs3, Ow fA 23 A14 m4 c14 xs4, .blk g4 45 [.slice A11 m1 c11, .slice A12 m2 c12, iv s2, .slice A13 m3 c13, .slice A14 m4 c14, iv s3, .int .u64 (s4), .bool (s5)], .blk g3 31 [iv 0, iv 0, iv 0, iv 0, iv 0, iv 0, iv 0, iv 0], .blk g1 27 [.slice A1 d1.supply.length c1, .slice A2 d1.arcs.length c2], .fz (PH.of w)] rfl ?_ ?_
      · refine WP.any2 6 10 rfl (by kernel_rfl) rfl rfl ?_ ?_
        · refine WP.yes rfl rfl rfl ?_
          refine WP.ld1 tysOk rfl True.intro rfl rfl rfl rfl rfl rfl rfl (CellAt.blk (.tail (.tail (.tail (.tail (.tail .head))))) rfl) ?_
          refine WP.anyY 7 tysOk putInv_body rfl rfl rfl (by kernel_rfl) (by kernel_rfl) rfl rfl rfl rfl rfl rfl True.intro ?_
          refine WP.anyP 8 tysOk putInv_body rfl rfl rfl (by kernel_rfl) (by kernel_rfl) rfl rfl rfl rfl rfl True.intro ?_
          refine WP.any1 10 rfl (by kernel_rfl) rfl ?_
          refine WP.sto' tysOk [iv 0, iv 0, iv 0, iv 0, iv 0, iv 0, iv 0, iv 0] rfl rfl rfl rfl rfl rfl rfl rfl rfl (.tail (.tail (.tail (.tail (.tail (.tail .head)))))) rfl rfl ?_
          refine WP.anyP 11 tysOk putInv_body rfl rfl rfl (by kernel_rfl) (by kernel_rfl) rfl rfl rfl rfl rfl True.intro ?_
          refine WP.any0 rfl (by kernel_rfl) ?_
          refine WP.stop rfl () True.intro ?_ ?_
          · repeat (first | exact True.intro | refine And.intro rfl ?_)
          exact (.cons .head (.cons .head (.cons .head (.cons .head (.cons .head (.cons .head (.cons .head (.cons .head (.cons .head .nil)))))))))
        refine WP.sto' tysOk [iv 0, iv 0, iv 0, iv 0, iv 0, iv 0, iv 0, iv 0] rfl rfl rfl rfl rfl rfl rfl rfl rfl (.tail (.tail (.tail (.tail (.tail (.tail .head)))))) rfl rfl ?_
        refine WP.any1 6 rfl (by kernel_rfl) rfl ?_
        refine WP.yes rfl rfl rfl ?_
        refine WP.ld1 tysOk rfl True.intro rfl rfl rfl rfl rfl rfl rfl (CellAt.blk (.tail (.tail (.tail (.tail (.tail (.tail .head)))))) rfl) ?_
        refine WP.anyY 7 tysOk putInv_body rfl rfl rfl (by kernel_rfl) (by kernel_rfl) rfl rfl rfl rfl rfl rfl True.intro ?_
        refine WP.anyP 8 tysOk putInv_body rfl rfl rfl (by kernel_rfl) (by kernel_rfl) rfl rfl rfl rfl rfl True.intro ?_
        refine WP.anyP 11 tysOk putInv_body rfl rfl rfl (by kernel_rfl) (by kernel_rfl) rfl rfl rfl rfl rfl True.intro ?_
        refine WP.any0 rfl (by kernel_rfl) ?_
        refine WP.stop rfl () True.intro ?_ ?_
        · repeat (first | exact True.intro | refine And.intro rfl ?_)
        exact (.cons .head (.cons .head (.cons .head (.cons .head (.cons .head (.cons .head (.cons .head (.cons .head (.cons .head .nil)))))))))
      intro mm3
      refine WP.any1 10 rfl (by kernel_rfl) rfl ?_
      refine WP.sto' tysOk [iv 0, iv 0, iv 0, iv 0, iv 0, iv 0, iv 0, iv 0] rfl rfl rfl rfl rfl rfl rfl rfl rfl (.tail (.tail (.tail (.tail (.tail (.tail .head)))))) rfl rfl ?_
      refine WP.cutA #[true, true, true, true, true, true, true, true, true, false, false, false] 3 [(4, .pointer (some ⟨g2, 0, none⟩)), (5, .pointer (some ⟨g3, 0, none⟩)), (80, .agg #[.slice A11 m1 c11, .slice A12 m2 c12, iv s2, .slice A13 m3 c13, .slice A14 m4 c14, iv s3, .int .u64 (s4), .bool (s5)]), (81, .agg #[iv 0, iv 0, iv 0, iv 0, iv 0, iv 0, iv 0, iv 0]), (88, .bool (!s5))] [Ow (fI .i64) 2 A11 m1 c11 xs1, Ow fA 23 A12 m2 c12 xs2, Ow (fI .i64) 2 A13 m3 c13 xs3, Ow fA 23 A14 m4 c14 xs4, .blk g4 45 [.slice A11 m1 c11, .slice A12 m2 c12, iv s2, .slice A13 m3 c13, .slice A14 m4 c14, iv s3, .int .u64 (s4), .bool (s5)], .blk g3 31 [iv 0, iv 0, iv 0, iv 0, iv 0, iv 0, iv 0, iv 0], .blk g2 45 [.slice none 0 0, .slice none 0 0, iv 0, .slice none 0 0, .slice none 0 0, iv 0, .int .u64 (0), .bool (false)], .blk g1 27 [.slice A1 d1.supply.length c1, .slice A2 d1.arcs.length c2], .fz (PH.of w)] rfl ?_ ?_
      · refine WP.any1 9 rfl (by kernel_rfl) rfl ?_
        refine WP.sto' tysOk [.slice A11 m1 c11, .slice A12 m2 c12, iv s2, .slice A13 m3 c13, .slice A14 m4 c14, iv s3, .int .u64 (s4), .bool (s5)] rfl rfl rfl rfl rfl rfl rfl rfl rfl (.tail (.tail (.tail (.tail (.tail (.tail .head)))))) rfl rfl ?_
        refine WP.any1 10 rfl (by kernel_rfl) rfl ?_
        refine WP.sto' tysOk [iv 0, iv 0, iv 0, iv 0, iv 0, iv 0, iv 0, iv 0] rfl rfl rfl rfl rfl rfl rfl rfl rfl (.tail (.tail (.tail (.tail (.tail (.tail .head)))))) rfl rfl ?_
        refine WP.anyP 11 tysOk putInv_body rfl rfl rfl (by kernel_rfl) (by kernel_rfl) rfl rfl rfl rfl rfl True.intro ?_
        refine WP.any0 rfl (by kernel_rfl) ?_
        refine WP.stop rfl () True.intro ?_ ?_
        · repeat (first | exact True.intro | refine And.intro rfl ?_)
        exact (.cons .head (.cons .head (.cons .head (.cons .head (.cons .head (.cons .head (.cons .head (.cons .head (.cons .head .nil)))))))))
      intro mm1
      refine WP.cutA #[true, false, true, true, true, true, true, true, true, false, false, false] 4 [(4, .pointer (some ⟨g2, 0, none⟩)), (5, .pointer (some ⟨g3, 0, none⟩)), (80, .agg #[.slice A11 m1 c11, .slice A12 m2 c12, iv s2, .slice A13 m3 c13, .slice A14 m4 c14, iv s3, .int .u64 (s4), .bool (s5)]), (88, .bool (!s5))] [Ow (fI .i64) 2 A11 m1 c11 xs1, Ow fA 23 A12 m2 c12 xs2, Ow (fI .i64) 2 A13 m3 c13 xs3, Ow fA 23 A14 m4 c14 xs4, .blk g4 45 [.slice A11 m1 c11, .slice A12 m2 c12, iv s2, .slice A13 m3 c13, .slice A14 m4 c14, iv s3, .int .u64 (s4), .bool (s5)], .blk g3 31 [iv 0, iv 0, iv 0, iv 0, iv 0, iv 0, iv 0, iv 0], .blk g2 45 [.slice none 0 0, .slice none 0 0, iv 0, .slice none 0 0, .slice none 0 0, iv 0, .int .u64 (0), .bool (false)], .blk g1 27 [.slice A1 d1.supply.length c1, .slice A2 d1.arcs.length c2], .fz (PH.of w)] rfl ?_ ?_
      · refine WP.any2 1 9 rfl (by kernel_rfl) rfl rfl ?_ ?_
        · refine WP.bld (cs := [iv 0, iv 0, iv 0, iv 0, iv 0, iv 0, iv 0, iv 0]) tysOk rfl True.intro rfl rfl rfl rfl rfl rfl rfl ?_
          refine WP.useA mm1 rfl (by kernel_rfl) ?_ ?_
          · repeat (first | exact True.intro | refine And.intro rfl ?_)
          exact (.cons .head (.cons .head (.cons .head (.cons .head (.cons .head (.cons .head (.cons .head (.cons .head (.cons .head .nil)))))))))
        refine WP.sto' tysOk [.slice A11 m1 c11, .slice A12 m2 c12, iv s2, .slice A13 m3 c13, .slice A14 m4 c14, iv s3, .int .u64 (s4), .bool (s5)] rfl rfl rfl rfl rfl rfl rfl rfl rfl (.tail (.tail (.tail (.tail (.tail (.tail .head)))))) rfl rfl ?_
        refine WP.any1 1 rfl (by kernel_rfl) rfl ?_
        refine WP.bld (cs := [iv 0, iv 0, iv 0, iv 0, iv 0, iv 0, iv 0, iv 0]) tysOk rfl True.intro rfl rfl rfl rfl rfl rfl rfl ?_
        refine WP.any1 10 rfl (by kernel_rfl) rfl ?_
        refine WP.sto' tysOk [iv 0, iv 0, iv 0, iv 0, iv 0, iv 0, iv 0, iv 0] rfl rfl rfl rfl rfl rfl rfl rfl rfl (.tail (.tail (.tail (.tail (.tail (.tail .head)))))) rfl rfl ?_
        refine WP.anyP 11 tysOk putInv_body rfl rfl rfl (by kernel_rfl) (by kernel_rfl) rfl rfl rfl rfl rfl True.intro ?_
        refine WP.any0 rfl (by kernel_rfl) ?_
        refine WP.stop rfl () True.intro ?_ ?_
        · repeat (first | exact True.intro | refine And.intro rfl ?_)
        exact (.cons .head (.cons .head (.cons .head (.cons .head (.cons .head (.cons .head (.cons .head (.cons .head (.cons .head .nil)))))))))
      intro mm2
      refine WP.cutA #[true, true, true, true, true, true, false, false, false, true, false, false] 5 [(4, .pointer (some ⟨g2, 0, none⟩)), (5, .pointer (some ⟨g3, 0, none⟩)), (81, .agg #[iv 0, iv 0, iv 0, iv 0, iv 0, iv 0, iv 0, iv 0]), (84, .bool (false)), (85, .pointer (some ⟨g4, 7, none⟩))] [.blk g2 45 [.slice A11 m1 c11, .slice A12 m2 c12, iv s2, .slice A13 m3 c13, .slice A14 m4 c14, iv s3, .int .u64 (s4), .bool (s5)], Ow (fI .i64) 2 A11 m1 c11 xs1, Ow fA 23 A12 m2 c12 xs2, Ow (fI .i64) 2 A13 m3 c13 xs3, Ow fA 23 A14 m4 c14 xs4, .blk g4 45 [.slice A11 m1 c11, .slice A12 m2 c12, iv s2, .slice A13 m3 c13, .slice A14 m4 c14, iv s3, .int .u64 (s4), .bool (s5)], .blk g3 31 [iv 0, iv 0, iv 0, iv 0, iv 0, iv 0, iv 0, iv 0], .blk g1 27 [.slice A1 d1.supply.length c1, .slice A2 d1.arcs.length c2], .fz (PH.of w)] rfl ?_ ?_
      · refine WP.any2 6 10 rfl (by kernel_rfl) rfl rfl ?_ ?_
        · refine WP.yes rfl rfl rfl ?_
          refine WP.ld1 tysOk rfl True.intro rfl rfl rfl rfl rfl rfl rfl (CellAt.blk (.tail (.tail (.tail (.tail (.tail .head))))) rfl) ?_
          refine WP.anyY 7 tysOk putInv_body rfl rfl rfl (by kernel_rfl) (by kernel_rfl) rfl rfl rfl rfl rfl rfl True.intro ?_
          refine WP.anyP 8 tysOk putInv_body rfl rfl rfl (by kernel_rfl) (by kernel_rfl) rfl rfl rfl rfl rfl True.intro ?_
          refine WP.any1 10 rfl (by kernel_rfl) rfl ?_
          refine WP.sto' tysOk [iv 0, iv 0, iv 0, iv 0, iv 0, iv 0, iv 0, iv 0] rfl rfl rfl rfl rfl rfl rfl rfl rfl (.tail (.tail (.tail (.tail (.tail (.tail .head)))))) rfl rfl ?_
          refine WP.anyP 11 tysOk putInv_body rfl rfl rfl (by kernel_rfl) (by kernel_rfl) rfl rfl rfl rfl rfl True.intro ?_
          refine WP.any0 rfl (by kernel_rfl) ?_
          refine WP.stop rfl () True.intro ?_ ?_
          · repeat (first | exact True.intro | refine And.intro rfl ?_)
          exact (.cons .head (.cons .head (.cons .head (.cons .head (.cons .head (.cons .head (.cons .head (.cons .head (.cons .head .nil)))))))))
        refine WP.sto' tysOk [iv 0, iv 0, iv 0, iv 0, iv 0, iv 0, iv 0, iv 0] rfl rfl rfl rfl rfl rfl rfl rfl rfl (.tail (.tail (.tail (.tail (.tail (.tail .head)))))) rfl rfl ?_
        refine WP.any1 6 rfl (by kernel_rfl) rfl ?_
        refine WP.yes rfl rfl rfl ?_
        refine WP.ld1 tysOk rfl True.intro rfl rfl rfl rfl rfl rfl rfl (CellAt.blk (.tail (.tail (.tail (.tail (.tail (.tail .head)))))) rfl) ?_
        refine WP.anyY 7 tysOk putInv_body rfl rfl rfl (by kernel_rfl) (by kernel_rfl) rfl rfl rfl rfl rfl rfl True.intro ?_
        refine WP.anyP 8 tysOk putInv_body rfl rfl rfl (by kernel_rfl) (by kernel_rfl) rfl rfl rfl rfl rfl True.intro ?_
        refine WP.anyP 11 tysOk putInv_body rfl rfl rfl (by kernel_rfl) (by kernel_rfl) rfl rfl rfl rfl rfl True.intro ?_
        refine WP.any0 rfl (by kernel_rfl) ?_
        refine WP.stop rfl () True.intro ?_ ?_
        · repeat (first | exact True.intro | refine And.intro rfl ?_)
        exact (.cons .head (.cons .head (.cons .head (.cons .head (.cons .head (.cons .head (.cons .head (.cons .head (.cons .head .nil)))))))))
      intro mm3
      refine WP.anyP 11 tysOk putInv_body rfl rfl rfl (by kernel_rfl) (by kernel_rfl) rfl rfl rfl rfl rfl True.intro ?_
      refine WP.any0 rfl (by kernel_rfl) ?_
      refine WP.stop rfl () True.intro ?_ ?_
      · repeat (first | exact True.intro | refine And.intro rfl ?_)
      exact (.cons .head (.cons .head (.cons .head (.cons .head (.cons .head (.cons .head (.cons .head (.cons .head (.cons .head .nil)))))))))
    · refine WP.bld (cs := [iv 0, iv 0, iv 0, iv 0, iv 0, iv 0, iv 0, iv 0]) tysOk rfl True.intro rfl rfl rfl rfl rfl rfl rfl ?_
      refine WP.cutA #[true, true, true, true, true, true, true, true, true, false, false, false] 3 [(4, .pointer (some ⟨g2, 0, none⟩)), (5, .pointer (some ⟨g3, 0, none⟩)), (80, .agg #[.slice A11 m1 c11, .slice A12 m2 c12, iv s2, .slice A13 m3 c13, .slice A14 m4 c14, iv s3, .int .u64 (s4), .bool (s5)]), (81, .agg #[iv 0, iv 0, iv 0, iv 0, iv 0, iv 0, iv 0, iv 0]), (88, .bool (!s5))] [Ow (fI .i64) 2 A11 m1 c11 xs1, Ow fA 23 A12 m2 c12 xs2, Ow (fI .i64) 2 A13 m3 c13 xs3, Ow fA 23 A14 m4 c14 xs4, .blk g4 45 [.slice A11 m1 c11, .slice A12 m2 c12, iv s2, .slice A13 m3 c13, .slice A14 m4 c14, iv s3, .int .u64 (s4), .bool (s5)], .blk g3 31 [iv 0, iv 0, iv 0, iv 0, iv 0, iv 0, iv 0, iv 0], .blk g2 45 [.slice none 0 0, .slice none 0 0, iv 0, .slice none 0 0, .slice none 0 0, iv 0, .int .u64 (0), .bool (false)], .blk g1 27 [.slice A1 d1.supply.length c1, .slice A2 d1.arcs.length c2], .fz (PH.of w)] rfl ?_ ?_
      · refine WP.any1 9 rfl (by kernel_rfl) rfl ?_
        refine WP.sto' tysOk [.slice A11 m1 c11, .slice A12 m2 c12, iv s2, .slice A13 m3 c13, .slice A14 m4 c14, iv s3, .int .u64 (s4), .bool (s5)] rfl rfl rfl rfl rfl rfl rfl rfl rfl (.tail (.tail (.tail (.tail (.tail (.tail .head)))))) rfl rfl ?_
        refine WP.any1 10 rfl (by kernel_rfl) rfl ?_
        refine WP.sto' tysOk [iv 0, iv 0, iv 0, iv 0, iv 0, iv 0, iv 0, iv 0] rfl rfl rfl rfl rfl rfl rfl rfl rfl (.tail (.tail (.tail (.tail (.tail (.tail .head)))))) rfl rfl ?_
        refine WP.anyP 11 tysOk putInv_body rfl rfl rfl (by kernel_rfl) (by kernel_rfl) rfl rfl rfl rfl rfl True.intro ?_
        refine WP.any0 rfl (by kernel_rfl) ?_
        refine WP.stop rfl () True.intro ?_ ?_
        · repeat (first | exact True.intro | refine And.intro rfl ?_)
        exact (.cons .head (.cons .head (.cons .head (.cons .head (.cons .head (.cons .head (.cons .head (.cons .head (.cons .head .nil)))))))))
      intro mm1
      refine WP.cutA #[true, false, true, true, true, true, true, true, true, false, false, false] 4 [(4, .pointer (some ⟨g2, 0, none⟩)), (5, .pointer (some ⟨g3, 0, none⟩)), (80, .agg #[.slice A11 m1 c11, .slice A12 m2 c12, iv s2, .slice A13 m3 c13, .slice A14 m4 c14, iv s3, .int .u64 (s4), .bool (s5)]), (88, .bool (!s5))] [Ow (fI .i64) 2 A11 m1 c11 xs1, Ow fA 23 A12 m2 c12 xs2, Ow (fI .i64) 2 A13 m3 c13 xs3, Ow fA 23 A14 m4 c14 xs4, .blk g4 45 [.slice A11 m1 c11, .slice A12 m2 c12, iv s2, .slice A13 m3 c13, .slice A14 m4 c14, iv s3, .int .u64 (s4), .bool (s5)], .blk g3 31 [iv 0, iv 0, iv 0, iv 0, iv 0, iv 0, iv 0, iv 0], .blk g2 45 [.slice none 0 0, .slice none 0 0, iv 0, .slice none 0 0, .slice none 0 0, iv 0, .int .u64 (0), .bool (false)], .blk g1 27 [.slice A1 d1.supply.length c1, .slice A2 d1.arcs.length c2], .fz (PH.of w)] rfl ?_ ?_
      · refine WP.any2 1 9 rfl (by kernel_rfl) rfl rfl ?_ ?_
        · refine WP.bld (cs := [iv 0, iv 0, iv 0, iv 0, iv 0, iv 0, iv 0, iv 0]) tysOk rfl True.intro rfl rfl rfl rfl rfl rfl rfl ?_
          refine WP.useA mm1 rfl (by kernel_rfl) ?_ ?_
          · repeat (first | exact True.intro | refine And.intro rfl ?_)
          exact (.cons .head (.cons .head (.cons .head (.cons .head (.cons .head (.cons .head (.cons .head (.cons .head (.cons .head .nil)))))))))
        refine WP.sto' tysOk [.slice A11 m1 c11, .slice A12 m2 c12, iv s2, .slice A13 m3 c13, .slice A14 m4 c14, iv s3, .int .u64 (s4), .bool (s5)] rfl rfl rfl rfl rfl rfl rfl rfl rfl (.tail (.tail (.tail (.tail (.tail (.tail .head)))))) rfl rfl ?_
        refine WP.any1 1 rfl (by kernel_rfl) rfl ?_
        refine WP.bld (cs := [iv 0, iv 0, iv 0, iv 0, iv 0, iv 0, iv 0, iv 0]) tysOk rfl True.intro rfl rfl rfl rfl rfl rfl rfl ?_
        refine WP.any1 10 rfl (by kernel_rfl) rfl ?_
        refine WP.sto' tysOk [iv 0, iv 0, iv 0, iv 0, iv 0, iv 0, iv 0, iv 0] rfl rfl rfl rfl rfl rfl rfl rfl rfl (.tail (.tail (.tail (.tail (.tail (.tail .head)))))) rfl rfl ?_
        refine WP.anyP 11 tysOk putInv_body rfl rfl rfl (by kernel_rfl) (by kernel_rfl) rfl rfl rfl rfl rfl True.intro ?_
        refine WP.any0 rfl (by kernel_rfl) ?_
        refine WP.stop rfl () True.intro ?_ ?_
        · repeat (first | exact True.intro | refine And.intro rfl ?_)
        exact (.cons .head (.cons .head (.cons .head (.cons .head (.cons .head (.cons .head (.cons .head (.cons .head (.cons .head .nil)))))))))
      intro mm2
      refine WP.cutA #[true, true, true, true, true, true, false, false, false, true, false, false] 5 [(4, .pointer (some ⟨g2, 0, none⟩)), (5, .pointer (some ⟨g3, 0, none⟩)), (81, .agg #[iv 0, iv 0, iv 0, iv 0, iv 0, iv 0, iv 0, iv 0]), (84, .bool (false)), (85, .pointer (some ⟨g4, 7, none⟩))] [.blk g2 45 [.slice A11 m1 c11, .slice A12 m2 c12, iv s2, .slice A13 m3 c13, .slice A14 m4 c14, iv s3, .int .u64 (s4), .bool (s5)], Ow (fI .i64) 2 A11 m1 c11 xs1, Ow fA 23 A12 m2 c12 xs2, Ow (fI .i64) 2 A13 m3 c13 xs3, Ow fA 23 A14 m4 c14 xs4, .blk g4 45 [.slice A11 m1 c11, .slice A12 m2 c12, iv s2, .slice A13 m3 c13, .slice A14 m4 c14, iv s3, .int .u64 (s4), .bool (s5)], .blk g3 31 [iv 0, iv 0, iv 0, iv 0, iv 0, iv 0, iv 0, iv 0], .blk g1 27 [.slice A1 d1.supply.length c1, .slice A2 d1.arcs.length c2], .fz (PH.of w)] rfl ?_ ?_
      · refine WP.any2 6 10 rfl (by kernel_rfl) rfl rfl ?_ ?_
        · refine WP.yes rfl rfl rfl ?_
          refine WP.ld1 tysOk rfl True.intro rfl rfl rfl rfl rfl rfl rfl (CellAt.blk (.tail (.tail (.tail (.tail (.tail .head))))) rfl) ?_
          refine WP.anyY 7 tysOk putInv_body rfl rfl rfl (by kernel_rfl) (by kernel_rfl) rfl rfl rfl rfl rfl rfl True.intro ?_
          refine WP.anyP 8 tysOk putInv_body rfl rfl rfl (by kernel_rfl) (by kernel_rfl) rfl rfl rfl rfl rfl True.intro ?_
          refine WP.any1 10 rfl (by kernel_rfl) rfl ?_
          refine WP.sto' tysOk [iv 0, iv 0, iv 0, iv 0, iv 0, iv 0, iv 0, iv 0] rfl rfl rfl rfl rfl rfl rfl rfl rfl (.tail (.tail (.tail (.tail (.tail (.tail .head)))))) rfl rfl ?_
          refine WP.anyP 11 tysOk putInv_body rfl rfl rfl (by kernel_rfl) (by kernel_rfl) rfl rfl rfl rfl rfl True.intro ?_
          refine WP.any0 rfl (by kernel_rfl) ?_
          refine WP.stop rfl () True.intro ?_ ?_
          · repeat (first | exact True.intro | refine And.intro rfl ?_)
          exact (.cons .head (.cons .head (.cons .head (.cons .head (.cons .head (.cons .head (.cons .head (.cons .head (.cons .head .nil)))))))))
        refine WP.sto' tysOk [iv 0, iv 0, iv 0, iv 0, iv 0, iv 0, iv 0, iv 0] rfl rfl rfl rfl rfl rfl rfl rfl rfl (.tail (.tail (.tail (.tail (.tail (.tail .head)))))) rfl rfl ?_
        refine WP.any1 6 rfl (by kernel_rfl) rfl ?_
        refine WP.yes rfl rfl rfl ?_
        refine WP.ld1 tysOk rfl True.intro rfl rfl rfl rfl rfl rfl rfl (CellAt.blk (.tail (.tail (.tail (.tail (.tail (.tail .head)))))) rfl) ?_
        refine WP.anyY 7 tysOk putInv_body rfl rfl rfl (by kernel_rfl) (by kernel_rfl) rfl rfl rfl rfl rfl rfl True.intro ?_
        refine WP.anyP 8 tysOk putInv_body rfl rfl rfl (by kernel_rfl) (by kernel_rfl) rfl rfl rfl rfl rfl True.intro ?_
        refine WP.anyP 11 tysOk putInv_body rfl rfl rfl (by kernel_rfl) (by kernel_rfl) rfl rfl rfl rfl rfl True.intro ?_
        refine WP.any0 rfl (by kernel_rfl) ?_
        refine WP.stop rfl () True.intro ?_ ?_
        · repeat (first | exact True.intro | refine And.intro rfl ?_)
        exact (.cons .head (.cons .head (.cons .head (.cons .head (.cons .head (.cons .head (.cons .head (.cons .head (.cons .head .nil)))))))))
      intro mm3
      refine WP.any2 0 6 rfl (by kernel_rfl) rfl rfl ?_ ?_
      · refine WP.ldm tysOk rfl True.intro rfl rfl rfl rfl rfl rfl rfl (SegAt.blk' (.tail (.tail (.tail (.tail .head)))) rfl) ?_
        refine WP.cutA #[true, true, true, true, true, true, true, true, true, false, false, false] 3 [(4, .pointer (some ⟨g2, 0, none⟩)), (5, .pointer (some ⟨g3, 0, none⟩)), (80, .agg #[.slice A11 m1 c11, .slice A12 m2 c12, iv s2, .slice A13 m3 c13, .slice A14 m4 c14, iv s3, .int .u64 (s4), .bool (s5)]), (81, .agg #[iv 0, iv 0, iv 0, iv 0, iv 0, iv 0, iv 0, iv 0]), (88, .bool (!s5))] [Ow (fI .i64) 2 A11 m1 c11 xs1, Ow fA 23 A12 m2 c12 xs2, Ow (fI .i64) 2 A13 m3 c13 xs3, Ow fA 23 A14 m4 c14 xs4, .blk g4 45 [.slice A11 m1 c11, .slice A12 m2 c12, iv s2, .slice A13 m3 c13, .slice A14 m4 c14, iv s3, .int .u64 (s4), .bool (s5)], .blk g3 31 [iv 0, iv 0, iv 0, iv 0, iv 0, iv 0, iv 0, iv 0], .blk g2 45 [.slice none 0 0, .slice none 0 0, iv 0, .slice none 0 0, .slice none 0 0, iv 0, .int .u64 (0), .bool (false)], .blk g1 27 [.slice A1 d1.supply.length c1, .slice A2 d1.arcs.length c2], .fz (PH.of w)] rfl ?_ ?_
        · refine WP.any1 9 rfl (by kernel_rfl) rfl ?_
          refine WP.sto' tysOk [.slice A11 m1 c11, .slice A12 m2 c12, iv s2, .slice A13 m3 c13, .slice A14 m4 c14, iv s3, .int .u64 (s4), .bool (s5)] rfl rfl rfl rfl rfl rfl rfl rfl rfl (.tail (.tail (.tail (.tail (.tail (.tail .head)))))) rfl rfl ?_
          refine WP.any1 10 rfl (by kernel_rfl) rfl ?_
          refine WP.sto' tysOk [iv 0, iv 0, iv 0, iv 0, iv 0, iv 0, iv 0, iv 0] rfl rfl rfl rfl rfl rfl rfl rfl rfl (.tail (.tail (.tail (.tail (.tail (.tail .head)))))) rfl rfl ?_
          refine WP.anyP 11 tysOk putInv_body rfl rfl rfl (by kernel_rfl) (by kernel_rfl) rfl rfl rfl rfl rfl True.intro ?_
          refine WP.any0 rfl (by kernel_rfl) ?_
          refine WP.stop rfl () True.intro ?_ ?_
          · repeat (first | exact True.intro | refine And.intro rfl ?_)
          exact (.cons .head (.cons .head (.cons .head (.cons .head (.cons .head (.cons .head (.cons .head (.cons .head (.cons .head .nil)))))))))
        intro mm1
        refine WP.cutA #[true, false, true, true, true, true, true, true, true, false, false, false] 4 [(4, .pointer (some ⟨g2, 0, none⟩)), (5, .pointer (some ⟨g3, 0, none⟩)), (80, .agg #[.slice A11 m1 c11, .slice A12 m2 c12, iv s2, .slice A13 m3 c13, .slice A14 m4 c14, iv s3, .int .u64 (s4), .bool (s5)]), (88, .bool (!s5))] [Ow (fI .i64) 2 A11 m1 c11 xs1, Ow fA 23 A12 m2 c12 xs2, Ow (fI .i64) 2 A13 m3 c13 xs3, Ow fA 23 A14 m4 c14 xs4, .blk g4 45 [.slice A11 m1 c11, .slice A12 m2 c12, iv s2, .slice A13 m3 c13, .slice A14 m4 c14, iv s3, .int .u64 (s4), .bool (s5)], .blk g3 31 [iv 0, iv 0, iv 0, iv 0, iv 0, iv 0, iv 0, iv 0], .blk g2 45 [.slice none 0 0, .slice none 0 0, iv 0, .slice none 0 0, .slice none 0 0, iv 0, .int .u64 (0), .bool (false)], .blk g1 27 [.slice A1 d1.supply.length c1, .slice A2 d1.arcs.length c2], .fz (PH.of w)] rfl ?_ ?_
        · refine WP.any2 1 9 rfl (by kernel_rfl) rfl rfl ?_ ?_
          · refine WP.bld (cs := [iv 0, iv 0, iv 0, iv 0, iv 0, iv 0, iv 0, iv 0]) tysOk rfl True.intro rfl rfl rfl rfl rfl rfl rfl ?_
            refine WP.useA mm1 rfl (by kernel_rfl) ?_ ?_
            · repeat (first | exact True.intro | refine And.intro rfl ?_)
            exact (.cons .head (.cons .head (.cons .head (.cons .head (.cons .head (.cons .head (.cons .head (.cons .head (.cons .head .nil)))))))))
          refine WP.sto' tysOk [.slice A11 m1 c11, .slice A12 m2 c12, iv s2, .slice A13 m3 c13, .slice A14 m4 c14, iv s3, .int .u64 (s4), .bool (s5)] rfl rfl rfl rfl rfl rfl rfl rfl rfl (.tail (.tail (.tail (.tail (.tail (.tail .head)))))) rfl rfl ?_
          refine WP.any1 1 rfl (by kernel_rfl) rfl ?_
          refine WP.bld (cs := [iv 0, iv 0, iv 0, iv 0, iv 0, iv 0, iv 0, iv 0]) tysOk rfl True.intro rfl rfl rfl rfl rfl rfl rfl ?_
          refine WP.any1 10 rfl (by kernel_rfl) rfl ?_
          refine WP.sto' tysOk [iv 0, iv 0, iv 0, iv 0, iv 0, iv 0, iv 0, iv 0] rfl rfl rfl rfl rfl rfl rfl rfl rfl (.tail (.tail (.tail (.tail (.tail (.tail .head)))))) rfl rfl ?_
          refine WP.anyP 11 tysOk putInv_body rfl rfl rfl (by kernel_rfl) (by kernel_rfl) rfl rfl rfl rfl rfl True.intro ?_
          refine WP.any0 rfl (by kernel_rfl) ?_
          refine WP.stop rfl () True.intro ?_ ?_
          · repeat (first | exact True.intro | refine And.intro rfl ?_)
          exact (.cons .head (.cons .head (.cons .head (.cons .head (.cons .head (.cons .head (.cons .head (.cons .head (.cons .head .nil)))))))))
        intro mm2
        refine WP.cutA #[true, true, true, true, true, true, false, false, false, true, false, false] 5 [(4, .pointer (some ⟨g2, 0, none⟩)), (5, .pointer (some ⟨g3, 0, none⟩)), (81, .agg #[iv 0, iv 0, iv 0, iv 0, iv 0, iv 0, iv 0, iv 0]), (84, .bool (false)), (85, .pointer (some ⟨g4, 7, none⟩))] [.blk g2 45 [.slice A11 m1 c11, .slice A12 m2 c12, iv s2, .slice A13 m3 c13, .slice A14 m4 c14, iv s3, .int .u64 (s4), .bool (s5)], Ow (fI .i64) 2 A11 m1 c11 xs1, Ow fA 23 A12 m2 c12 xs2, Ow (fI .i64) 2 A13 m3 c13 xs3, Ow fA 23 A14 m4 c14 xs4, .blk g4 45 [.slice A11 m1 c11, .slice A12 m2 c12, iv s2, .slice A13 m3 c13, .slice A14 m4 c14, iv s3, .int .u64 (s4), .bool (s5)], .blk g3 31 [iv 0, iv 0, iv 0, iv 0, iv 0, iv 0, iv 0, iv 0], .blk g1 27 [.slice A1 d1.supply.length c1, .slice A2 d1.arcs.length c2], .fz (PH.of w)] rfl ?_ ?_
        · refine WP.any2 6 10 rfl (by kernel_rfl) rfl rfl ?_ ?_
          · refine WP.yes rfl rfl rfl ?_
            refine WP.ld1 tysOk rfl True.intro rfl rfl rfl rfl rfl rfl rfl (CellAt.blk (.tail (.tail (.tail (.tail (.tail .head))))) rfl) ?_
            refine WP.anyY 7 tysOk putInv_body rfl rfl rfl (by kernel_rfl) (by kernel_rfl) rfl rfl rfl rfl rfl rfl True.intro ?_
            refine WP.anyP 8 tysOk putInv_body rfl rfl rfl (by kernel_rfl) (by kernel_rfl) rfl rfl rfl rfl rfl True.intro ?_
            refine WP.any1 10 rfl (by kernel_rfl) rfl ?_
            refine WP.sto' tysOk [iv 0, iv 0, iv 0, iv 0, iv 0, iv 0, iv 0, iv 0] rfl rfl rfl rfl rfl rfl rfl rfl rfl (.tail (.tail (.tail (.tail (.tail (.tail .head)))))) rfl rfl ?_
            refine WP.anyP 11 tysOk putInv_body rfl rfl rfl (by kernel_rfl) (by kernel_rfl) rfl rfl rfl rfl rfl True.intro ?_
            refine WP.any0 rfl (by kernel_rfl) ?_
            refine WP.stop rfl () True.intro ?_ ?_
            · repeat (first | exact True.intro | refine And.intro rfl ?_)
            exact (.cons .head (.cons .head (.cons .head (.cons .head (.cons .head (.cons .head (.cons .head (.cons .head (.cons .head .nil)))))))))
          refine WP.sto' tysOk [iv 0, iv 0, iv 0, iv 0, iv 0, iv 0, iv 0, iv 0] rfl rfl rfl rfl rfl rfl rfl rfl rfl (.tail (.tail (.tail (.tail (.tail (.tail .head)))))) rfl rfl ?_
          refine WP.any1 6 rfl (by kernel_rfl) rfl ?_
          refine WP.yes rfl rfl rfl ?_
          refine WP.ld1 tysOk rfl True.intro rfl rfl rfl rfl rfl rfl rfl (CellAt.blk (.tail (.tail (.tail (.tail (.tail (.tail .head)))))) rfl) ?_
          refine WP.anyY 7 tysOk putInv_body rfl rfl rfl (by kernel_rfl) (by kernel_rfl) rfl rfl rfl rfl rfl rfl True.intro ?_
          refine WP.anyP 8 tysOk putInv_body rfl rfl rfl (by kernel_rfl) (by kernel_rfl) rfl rfl rfl rfl rfl True.intro ?_
          refine WP.anyP 11 tysOk putInv_body rfl rfl rfl (by kernel_rfl) (by kernel_rfl) rfl rfl rfl rfl rfl True.intro ?_
          refine WP.any0 rfl (by kernel_rfl) ?_
          refine WP.stop rfl () True.intro ?_ ?_
          · repeat (first | exact True.intro | refine And.intro rfl ?_)
          exact (.cons .head (.cons .head (.cons .head (.cons .head (.cons .head (.cons .head (.cons .head (.cons .head (.cons .head .nil)))))))))
        intro mm3
        refine WP.any2 6 9 rfl (by kernel_rfl) rfl rfl ?_ ?_
        · refine WP.yes rfl rfl rfl ?_
          refine WP.ld1 tysOk rfl True.intro rfl rfl rfl rfl rfl rfl rfl (CellAt.blk (.tail (.tail (.tail (.tail .head)))) rfl) ?_
          refine WP.cutA #[true, true, true, true, true, true, true, true, true, false, false, false] 3 [(4, .pointer (some ⟨g2, 0, none⟩)), (5, .pointer (some ⟨g3, 0, none⟩)), (80, .agg #[.slice A11 m1 c11, .slice A12 m2 c12, iv s2, .slice A13 m3 c13, .slice A14 m4 c14, iv s3, .int .u64 (s4), .bool (s5)]), (81, .agg #[iv 0, iv 0, iv 0, iv 0, iv 0, iv 0, iv 0, iv 0]), (88, .bool (!s5))] [Ow (fI .i64) 2 A11 m1 c11 xs1, Ow fA 23 A12 m2 c12 xs2, Ow (fI .i64) 2 A13 m3 c13 xs3, Ow fA 23 A14 m4 c14 xs4, .blk g4 45 [.slice A11 m1 c11, .slice A12 m2 c12, iv s2, .slice A13 m3 c13, .slice A14 m4 c14, iv s3, .int .u64 (s4), .bool (s5)], .blk g3 31 [iv 0, iv 0, iv 0, iv 0, iv 0, iv 0, iv 0, iv 0], .blk g2 45 [.slice none 0 0, .slice none 0 0, iv 0, .slice none 0 0, .slice none 0 0, iv 0, .int .u64 (0), .bool (false)], .blk g1 27 [.slice A1 d1.supply.length c1, .slice A2 d1.arcs.length c2], .fz (PH.of w)] rfl ?_ ?_
          · refine WP.any1 9 rfl (by kernel_rfl) rfl ?_
            refine WP.sto' tysOk [.slice A11 m1 c11, .slice A12 m2 c12, iv s2, .slice A13 m3 c13, .slice A14 m4 c14, iv s3, .int .u64 (s4), .bool (s5)] rfl rfl rfl rfl rfl rfl rfl rfl rfl (.tail (.tail (.tail (.tail (.tail (.tail .head)))))) rfl rfl ?_
            refine WP.any1 10 rfl (by kernel_rfl) rfl ?_
            refine WP.sto' tysOk [iv 0, iv 0, iv 0, iv 0, iv 0, iv 0, iv 0, iv 0] rfl rfl rfl rfl rfl rfl rfl rfl rfl (.tail (.tail (.tail (.tail (.tail (.tail .head)))))) rfl rfl ?_
            refine WP.anyP 11 tysOk putInv_body rfl rfl rfl (by kernel_rfl) (by kernel_rfl) rfl rfl rfl rfl rfl True.intro ?_
            refine WP.any0 rfl (by kernel_rfl) ?_
            refine WP.stop rfl () True.intro ?_ ?_
            · repeat (first | exact True.intro | refine And.intro rfl ?_)
            exact (.cons .head (.cons .head (.cons .head (.cons .head (.cons .head (.cons .head (.cons .head (.cons .head (.cons .head .nil)))))))))
          intro mm1
          refine WP.cutA #[true, false, true, true, true, true, true, true, true, false, false, false] 4 [(4, .pointer (some ⟨g2, 0, none⟩)), (5, .pointer (some ⟨g3, 0, none⟩)), (80, .agg #[.slice A11 m1 c11, .slice A12 m2 c12, iv s2, .slice A13 m3 c13, .slice A14 m4 c14, iv s3, .int .u64 (s4), .bool (s5)]), (88, .bool (!s5))] [Ow (fI .i64) 2 A11 m1 c11 xs1, Ow fA 23 A12 m2 c12 xs2, Ow (fI .i64) 2 A13 m3 c13 xs3, Ow fA 23 A14 m4 c14 xs4, .blk g4 45 [.slice A11 m1 c11, .slice A12 m2 c12, iv s2, .slice A13 m3 c13, .slice A14 m4 c14, iv s3, .int .u64 (s4), .bool (s5)], .blk g3 31 [iv 0, iv 0, iv 0, iv 0, iv 0, iv 0, iv 0, iv 0], .blk g2 45 [.slice none 0 0, .slice none 0 0, iv 0, .slice none 0 0, .slice none 0 0, iv 0, .int .u64 (0), .bool (false)], .blk g1 27 [.slice A1 d1.supply.length c1, .slice A2 d1.arcs.length c2], .fz (PH.of w)] rfl ?_ ?_
          · refine WP.any2 1 9 rfl (by kernel_rfl) rfl rfl ?_ ?_
            · refine WP.bld (cs := [iv 0, iv 0, iv 0, iv 0, iv 0, iv 0, iv 0, iv 0]) tysOk rfl True.intro rfl rfl rfl rfl rfl rfl rfl ?_
              refine WP.useA mm1 rfl (by kernel_rfl) ?_ ?_
              · repeat (first | exact True.intro | refine And.intro rfl ?_)
              exact (.cons .head (.cons .head (.cons .head (.cons .head (.cons .head (.cons .head (.cons .head (.cons .head (.cons .head .nil)))))))))
            refine WP.sto' tysOk [.slice A11 m1 c11, .slice A12 m2 c12, iv s2, .slice A13 m3 c13, .slice A14 m4 c14, iv s3, .int .u64 (s4), .bool (s5)] rfl rfl rfl rfl rfl rfl rfl rfl rfl (.tail (.tail (.tail (.tail (.tail (.tail .head)))))) rfl rfl ?_
            refine WP.any1 1 rfl (by kernel_rfl) rfl ?_
            refine WP.bld (cs := [iv 0, iv 0, iv 0, iv 0, iv 0, iv 0, iv 0, iv 0]) tysOk rfl True.intro rfl rfl rfl rfl rfl rfl rfl ?_
            refine WP.any1 10 rfl (by kernel_rfl) rfl ?_
            refine WP.sto' tysOk [iv 0, iv 0, iv 0, iv 0, iv 0, iv 0, iv 0, iv 0] rfl rfl rfl rfl rfl rfl rfl rfl rfl (.tail (.tail (.tail (.tail (.tail (.tail .head)))))) rfl rfl ?_
            refine WP.anyP 11 tysOk putInv_body rfl rfl rfl (by kernel_rfl) (by kernel_rfl) rfl rfl rfl rfl rfl True.intro ?_
            refine WP.any0 rfl (by kernel_rfl) ?_
            refine WP.stop rfl () True.intro ?_ ?_
            · repeat (first | exact True.intro | refine And.intro rfl ?_)
            exact (.cons .head (.cons .head (.cons .head (.cons .head (.cons .head (.cons .head (.cons .head (.cons .head (.cons .head .nil)))))))))
          intro mm2
          refine WP.cutA #[true, true, true, true, true, true, false, false, false, true, false, false] 5 [(4, .pointer (some ⟨g2, 0, none⟩)), (5, .pointer (some ⟨g3, 0, none⟩)), (81, .agg #[iv 0, iv 0, iv 0, iv 0, iv 0, iv 0, iv 0, iv 0]), (84, .bool (false)), (85, .pointer (some ⟨g4, 7, none⟩))] [.blk g2 45 [.slice A11 m1 c11, .slice A12 m2 c12, iv s2, .slice A13 m3 c13, .slice A14 m4 c14, iv s3, .int .u64 (s4), .bool (s5)], Ow (fI .i64) 2 A11 m1 c11 xs1, Ow fA 23 A12 m2 c12 xs2, Ow (fI .i64) 2 A13 m3 c13 xs3, Ow fA 23 A14 m4 c14 xs4, .blk g4 45 [.slice A11 m1 c11, .slice A12 m2 c12, iv s2, .slice A13 m3 c13, .slice A14 m4 c14, iv s3, .int .u64 (s4), .bool (s5)], .blk g3 31 [iv 0, iv 0, iv 0, iv 0, iv 0, iv 0, iv 0, iv 0], .blk g1 27 [.slice A1 d1.supply.length c1, .slice A2 d1.arcs.length c2], .fz (PH.of w)] rfl ?_ ?_
          · refine WP.any2 6 10 rfl (by kernel_rfl) rfl rfl ?_ ?_
            · refine WP.yes rfl rfl rfl ?_
              refine WP.ld1 tysOk rfl True.intro rfl rfl rfl rfl rfl rfl rfl (CellAt.blk (.tail (.tail (.tail (.tail (.tail .head))))) rfl) ?_
              refine WP.anyY 7 tysOk putInv_body rfl rfl rfl (by kernel_rfl) (by kernel_rfl) rfl rfl rfl rfl rfl rfl True.intro ?_
              refine WP.anyP 8 tysOk putInv_body rfl rfl rfl (by kernel_rfl) (by kernel_rfl) rfl rfl rfl rfl rfl True.intro ?_
              refine WP.any1 10 rfl (by kernel_rfl) rfl ?_
              refine WP.sto' tysOk [iv 0, iv 0, iv 0, iv 0, iv 0, iv 0, iv 0, iv 0] rfl rfl rfl rfl rfl rfl rfl rfl rfl (.tail (.tail (.tail (.tail (.tail (.tail .head)))))) rfl rfl ?_
              refine WP.anyP 11 tysOk putInv_body rfl rfl rfl (by kernel_rfl) (by kernel_rfl) rfl rfl rfl rfl rfl True.intro ?_
              refine WP.any0 rfl (by kernel_rfl) ?_
              refine WP.stop rfl () True.intro ?_ ?_
              · repeat (first | exact True.intro | refine And.intro rfl ?_)
              exact (.cons .head (.cons .head (.cons .head (.cons .head (.cons .head (.cons .head (.cons .head (.cons .head (.cons .head .nil)))))))))
            refine WP.sto' tysOk [iv 0, iv 0, iv 0, iv 0, iv 0, iv 0, iv 0, iv 0] rfl rfl rfl rfl rfl rfl rfl rfl rfl (.tail (.tail (.tail (.tail (.tail (.tail .head)))))) rfl rfl ?_
            refine WP.any1 6 rfl (by kernel_rfl) rfl ?_
            refine WP.yes rfl rfl rfl ?_
            refine WP.ld1 tysOk rfl True.intro rfl rfl rfl rfl rfl rfl rfl (CellAt.blk (.tail (.tail (.tail (.tail (.tail (.tail .head)))))) rfl) ?_
            refine WP.anyY 7 tysOk putInv_body rfl rfl rfl (by kernel_rfl) (by kernel_rfl) rfl rfl rfl rfl rfl rfl True.intro ?_
            refine WP.anyP 8 tysOk putInv_body rfl rfl rfl (by kernel_rfl) (by kernel_rfl) rfl rfl rfl rfl rfl True.intro ?_
            refine WP.anyP 11 tysOk putInv_body rfl rfl rfl (by kernel_rfl) (by kernel_rfl) rfl rfl rfl rfl rfl True.intro ?_
            refine WP.any0 rfl (by kernel_rfl) ?_
            refine WP.stop rfl () True.intro ?_ ?_
            · repeat (first | exact True.intro | refine And.intro rfl ?_)
            exact (.cons .head (.cons .head (.cons .head (.cons .head (.cons .head (.cons .head (.cons .head (.cons .head (.cons .head .nil)))))))))
          intro mm3
          refine WP.anyY 7 tysOk putInv_body rfl rfl rfl (by kernel_rfl) (by kernel_rfl) rfl rfl rfl rfl rfl rfl True.intro ?_
          refine WP.anyP 8 tysOk putInv_body rfl rfl rfl (by kernel_rfl) (by kernel_rfl) rfl rfl rfl rfl rfl True.intro ?_
          refine WP.useA mm1 rfl (by kernel_rfl) ?_ ?_
          · repeat (first | exact True.intro | refine And.intro rfl ?_)
          exact (.cons .head (.cons .head (.cons .head (.cons .head (.cons .head (.cons .head (.cons .head (.cons .head (.cons .head .nil)))))))))
        refine WP.sto' tysOk [.slice A11 m1 c11, .slice A12 m2 c12, iv s2, .slice A13 m3 c13, .slice A14 m4 c14, iv s3, .int .u64 (s4), .bool (s5)] rfl rfl rfl rfl rfl rfl rfl rfl rfl (.tail (.tail (.tail (.tail (.tail (.tail .head)))))) rfl rfl ?_
        refine WP.cutA #[true, true, true, true, true, true, true, true, true, false, false, false] 3 [(4, .pointer (some ⟨g2, 0, none⟩)), (5, .pointer (some ⟨g3, 0, none⟩)), (80, .agg #[.slice A11 m1 c11, .slice A12 m2 c12, iv s2, .slice A13 m3 c13, .slice A14 m4 c14, iv s3, .int .u64 (s4), .bool (s5)]), (81, .agg #[iv 0, iv 0, iv 0, iv 0, iv 0, iv 0, iv 0, iv 0]), (88, .bool (!s5))] [Ow (fI .i64) 2 A11 m1 c11 xs1, Ow fA 23 A12 m2 c12 xs2, Ow (fI .i64) 2 A13 m3 c13 xs3, Ow fA 23 A14 m4 c14 xs4, .blk g4 45 [.slice A11 m1 c11, .slice A12 m2 c12, iv s2, .slice A13 m3 c13, .slice A14 m4 c14, iv s3, .int .u64 (s4), .bool (s5)], .blk g3 31 [iv 0, iv 0, iv 0, iv 0, iv 0, iv 0, iv 0, iv 0], .blk g2 45 [.slice none 0 0, .slice none 0 0, iv 0, .slice none 0 0, .slice none 0 0, iv 0, .int .u64 (0), .bool (false)], .blk g1 27 [.slice A1 d1.supply.length c1, .slice A2 d1.arcs.length c2], .fz (PH.of w)] rfl ?_ ?_
        · refine WP.any1 9 rfl (by kernel_rfl) rfl ?_
          refine WP.sto' tysOk [.slice A11 m1 c11, .slice A12 m2 c12, iv s2, .slice A13 m3 c13, .slice A14 m4 c14, iv s3, .int .u64 (s4), .bool (s5)] rfl rfl rfl rfl rfl rfl rfl rfl rfl (.tail (.tail (.tail (.tail (.tail (.tail .head)))))) rfl rfl ?_
          refine WP.any1 10 rfl (by kernel_rfl) rfl ?_
          refine WP.sto' tysOk [iv 0, iv 0, iv 0, iv 0, iv 0, iv 0, iv 0, iv 0] rfl rfl rfl rfl rfl rfl rfl rfl rfl (.tail (.tail (.tail (.tail (.tail (.tail .head)))))) rfl rfl ?_
          refine WP.anyP 11 tysOk putInv_body rfl rfl rfl (by kernel_rfl) (by kernel_rfl) rfl rfl rfl rfl rfl True.intro ?_
          refine WP.any0 rfl (by kernel_rfl) ?_
          refine WP.stop rfl () True.intro ?_ ?_
          · repeat (first | exact True.intro | refine And.intro rfl ?_)
          exact (.cons .head (.cons .head (.cons .head (.cons .head (.cons .head (.cons .head (.cons .head (.cons .head (.cons .head .nil)))))))))
        intro mm1
        refine WP.cutA #[true, false, true, true, true, true, true, true, true, false, false, false] 4 [(4, .pointer (some ⟨g2, 0, none⟩)), (5, .pointer (some ⟨g3, 0, none⟩)), (80, .agg #[.slice A11 m1 c11, .slice A12 m2 c12, iv s2, .slice A13 m3 c13, .slice A14 m4 c14, iv s3, .int .u64 (s4), .bool (s5)]), (88, .bool (!s5))] [Ow (fI .i64) 2 A11 m1 c11 xs1, Ow fA 23 A12 m2 c12 xs2, Ow (fI .i64) 2 A13 m3 c13 xs3, Ow fA 23 A14 m4 c14 xs4, .blk g4 45 [.slice A11 m1 c11, .slice A12 m2 c12, iv s2, .slice A13 m3 c13, .slice A14 m4 c14, iv s3, .int .u64 (s4), .bool (s5)], .blk g3 31 [iv 0, iv 0, iv 0, iv 0, iv 0, iv 0, iv 0, iv 0], .blk g2 45 [.slice none 0 0, .slice none 0 0, iv 0, .slice none 0 0, .slice none 0 0, iv 0, .int .u64 (0), .bool (false)], .blk g1 27 [.slice A1 d1.supply.length c1, .slice A2 d1.arcs.length c2], .fz (PH.of w)] rfl ?_ ?_
        · refine WP.any2 1 9 rfl (by kernel_rfl) rfl rfl ?_ ?_
          · refine WP.bld (cs := [iv 0, iv 0, iv 0, iv 0, iv 0, iv 0, iv 0, iv 0]) tysOk rfl True.intro rfl rfl rfl rfl rfl rfl rfl ?_
            refine WP.useA mm1 rfl (by kernel_rfl) ?_ ?_
            · repeat (first | exact True.intro | refine And.intro rfl ?_)
            exact (.cons .head (.cons .head (.cons .head (.cons .head (.cons .head (.cons .head (.cons .head (.cons .head (.cons .head .nil)))))))))
          refine WP.sto' tysOk [.slice A11 m1 c11, .slice A12 m2 c12, iv s2, .slice A13 m3 c13, .slice A14 m4 c14, iv s3, .int .u64 (s4), .bool (s5)] rfl rfl rfl rfl rfl rfl rfl rfl rfl (.tail (.tail (.tail (.tail (.tail (.tail .head)))))) rfl rfl ?_
          refine WP.any1 1 rfl (by kernel_rfl) rfl ?_
          refine WP.bld (cs := [iv 0, iv 0, iv 0, iv 0, iv 0, iv 0, iv 0, iv 0]) tysOk rfl True.intro rfl rfl rfl rfl rfl rfl rfl ?_
          refine WP.any1 10 rfl (by kernel_rfl) rfl ?_
          refine WP.sto' tysOk [iv 0, iv 0, iv 0, iv 0, iv 0, iv 0, iv 0, iv 0] rfl rfl rfl rfl rfl rfl rfl rfl rfl (.tail (.tail (.tail (.tail (.tail (.tail .head)))))) rfl rfl ?_
          refine WP.anyP 11 tysOk putInv_body rfl rfl rfl (by kernel_rfl) (by kernel_rfl) rfl rfl rfl rfl rfl True.intro ?_
          refine WP.any0 rfl (by kernel_rfl) ?_
          refine WP.stop rfl () True.intro ?_ ?_
          · repeat (first | exact True.intro | refine And.intro rfl ?_)
          exact (.cons .head (.cons .head (.cons .head (.cons .head (.cons .head (.cons .head (.cons .head (.cons .head (.cons .head .nil)))))))))
        intro mm2
        refine WP.cutA #[true, true, true, true, true, true, false, false, false, true, false, false] 5 [(4, .pointer (some ⟨g2, 0, none⟩)), (5, .pointer (some ⟨g3, 0, none⟩)), (81, .agg #[iv 0, iv 0, iv 0, iv 0, iv 0, iv 0, iv 0, iv 0]), (84, .bool (false)), (85, .pointer (some ⟨g4, 7, none⟩))] [.blk g2 45 [.slice A11 m1 c11, .slice A12 m2 c12, iv s2, .slice A13 m3 c13, .slice A14 m4 c14, iv s3, .int .u64 (s4), .bool (s5)], Ow (fI .i64) 2 A11 m1 c11 xs1, Ow fA 23 A12 m2 c12 xs2, Ow (fI .i64) 2 A13 m3 c13 xs3, Ow fA 23 A14 m4 c14 xs4, .blk g4 45 [.slice A11 m1 c11, .slice A12 m2 c12, iv s2, .slice A13 m3 c13, .slice A14 m4 c14, iv s3, .int .u64 (s4), .bool (s5)], .blk g3 31 [iv 0, iv 0, iv 0, iv 0, iv 0, iv 0, iv 0, iv 0], .blk g1 27 [.slice A1 d1.supply.length c1, .slice A2 d1.arcs.length c2], .fz (PH.of w)] rfl ?_ ?_
        · refine WP.any2 6 10 rfl (by kernel_rfl) rfl rfl ?_ ?_
          · refine WP.yes rfl rfl rfl ?_
            refine WP.ld1 tysOk rfl True.intro rfl rfl rfl rfl rfl rfl rfl (CellAt.blk (.tail (.tail (.tail (.tail (.tail .head))))) rfl) ?_
            refine WP.anyY 7 tysOk putInv_body rfl rfl rfl (by kernel_rfl) (by kernel_rfl) rfl rfl rfl rfl rfl rfl True.intro ?_
            refine WP.anyP 8 tysOk putInv_body rfl rfl rfl (by kernel_rfl) (by kernel_rfl) rfl rfl rfl rfl rfl True.intro ?_
            refine WP.any1 10 rfl (by kernel_rfl) rfl ?_
            refine WP.sto' tysOk [iv 0, iv 0, iv 0, iv 0, iv 0, iv 0, iv 0, iv 0] rfl rfl rfl rfl rfl rfl rfl rfl rfl (.tail (.tail (.tail (.tail (.tail (.tail .head)))))) rfl rfl ?_
            refine WP.anyP 11 tysOk putInv_body rfl rfl rfl (by kernel_rfl) (by kernel_rfl) rfl rfl rfl rfl rfl True.intro ?_
            refine WP.any0 rfl (by kernel_rfl) ?_
            refine WP.stop rfl () True.intro ?_ ?_
            · repeat (first | exact True.intro | refine And.intro rfl ?_)
            exact (.cons .head (.cons .head (.cons .head (.cons .head (.cons .head (.cons .head (.cons .head (.cons .head (.cons .head .nil)))))))))
          refine WP.sto' tysOk [iv 0, iv 0, iv 0, iv 0, iv 0, iv 0, iv 0, iv 0] rfl rfl rfl rfl rfl rfl rfl rfl rfl (.tail (.tail (.tail (.tail (.tail (.tail .head)))))) rfl rfl ?_
          refine WP.any1 6 rfl (by kernel_rfl) rfl ?_
          refine WP.yes rfl rfl rfl ?_
          refine WP.ld1 tysOk rfl True.intro rfl rfl rfl rfl rfl rfl rfl (CellAt.blk (.tail (.tail (.tail (.tail (.tail (.tail .head)))))) rfl) ?_
          refine WP.anyY 7 tysOk putInv_body rfl rfl rfl (by kernel_rfl) (by kernel_rfl) rfl rfl rfl rfl rfl rfl True.intro ?_
          refine WP.anyP 8 tysOk putInv_body rfl rfl rfl (by kernel_rfl) (by kernel_rfl) rfl rfl rfl rfl rfl True.intro ?_
          refine WP.anyP 11 tysOk putInv_body rfl rfl rfl (by kernel_rfl) (by kernel_rfl) rfl rfl rfl rfl rfl True.intro ?_
          refine WP.any0 rfl (by kernel_rfl) ?_
          refine WP.stop rfl () True.intro ?_ ?_
          · repeat (first | exact True.intro | refine And.intro rfl ?_)
          exact (.cons .head (.cons .head (.cons .head (.cons .head (.cons .head (.cons .head (.cons .head (.cons .head (.cons .head .nil)))))))))
        intro mm3
        refine WP.useA mm3 rfl (by kernel_rfl) ?_ ?_
        · repeat (first | exact True.intro | refine And.intro rfl ?_)
        exact (.cons .head (.cons .head (.cons .head (.cons .head (.cons .head (.cons .head (.cons .head (.cons .head (.cons .head .nil)))))))))
      refine WP.yes rfl rfl rfl ?_
      refine WP.ld1 tysOk rfl True.intro rfl rfl rfl rfl rfl rfl rfl (CellAt.blk (.tail (.tail (.tail (.tail .head)))) rfl) ?_
      refine WP.cutA #[true, true, true, true, true, true, true, true, true, false, false, false] 3 [(4, .pointer (some ⟨g2, 0, none⟩)), (5, .pointer (some ⟨g3, 0, none⟩)), (80, .agg #[.slice A11 m1 c11, .slice A12 m2 c12, iv s2, .slice A13 m3 c13, .slice A14 m4 c14, iv s3, .int .u64 (s4), .bool (s5)]), (81, .agg #[iv 0, iv 0, iv 0, iv 0, iv 0, iv 0, iv 0, iv 0]), (88, .bool (!s5))] [Ow (fI .i64) 2 A11 m1 c11 xs1, Ow fA 23 A12 m2 c12 xs2, Ow (fI .i64) 2 A13 m3 c13 xs3, Ow fA 23 A14 m4 c14 xs4, .blk g4 45 [.slice A11 m1 c11, .slice A12 m2 c12, iv s2, .slice A13 m3 c13, .slice A14 m4 c14, iv s3, .int .u64 (s4), .bool (s5)], .blk g3 31 [iv 0, iv 0, iv 0, iv 0, iv 0, iv 0, iv 0, iv 0], .blk g2 45 [.slice none 0 0, .slice none 0 0, iv 0, .slice none 0 0, .slice none 0 0, iv 0, .int .u64 (0), .bool (false)], .blk g1 27 [.slice A1 d1.supply.length c1, .slice A2 d1.arcs.length c2], .fz (PH.of w)] rfl ?_ ?_
      · refine WP.any1 9 rfl (by kernel_rfl) rfl ?_
        refine WP.sto' tysOk [.slice A11 m1 c11, .slice A12 m2 c12, iv s2, .slice A13 m3 c13, .slice A14 m4 c14, iv s3, .int .u64 (s4), .bool (s5)] rfl rfl rfl rfl rfl rfl rfl rfl rfl (.tail (.tail (.tail (.tail (.tail (.tail .head)))))) rfl rfl ?_
        refine WP.any1 10 rfl (by kernel_rfl) rfl ?_
        refine WP.sto' tysOk [iv 0, iv 0, iv 0, iv 0, iv 0, iv 0, iv 0, iv 0] rfl rfl rfl rfl rfl rfl rfl rfl rfl (.tail (.tail (.tail (.tail (.tail (.tail .head)))))) rfl rfl ?_
        refine WP.anyP 11 tysOk putInv_body rfl rfl rfl (by kernel_rfl) (by kernel_rfl) rfl rfl rfl rfl rfl True.intro ?_
        refine WP.any0 rfl (by kernel_rfl) ?_
        refine WP.stop rfl () True.intro ?_ ?_
        · repeat (first | exact True.intro | refine And.intro rfl ?_)
        exact (.cons .head (.cons .head (.cons .head (.cons .head (.cons .head (.cons .head (.cons .head (.cons .head (.cons .head .nil)))))))))
      intro mm1
      refine WP.cutA #[true, false, true, true, true, true, true, true, true, false, false, false] 4 [(4, .pointer (some ⟨g2, 0, none⟩)), (5, .pointer (some ⟨g3, 0, none⟩)), (80, .agg #[.slice A11 m1 c11, .slice A12 m2 c12, iv s2, .slice A13 m3 c13, .slice A14 m4 c14, iv s3, .int .u64 (s4), .bool (s5)]), (88, .bool (!s5))] [Ow (fI .i64) 2 A11 m1 c11 xs1, Ow fA 23 A12 m2 c12 xs2, Ow (fI .i64) 2 A13 m3 c13 xs3, Ow fA 23 A14 m4 c14 xs4, .blk g4 45 [.slice A11 m1 c11, .slice A12 m2 c12, iv s2, .slice A13 m3 c13, .slice A14 m4 c14, iv s3, .int .u64 (s4), .bool (s5)], .blk g3 31 [iv 0, iv 0, iv 0, iv 0, iv 0, iv 0, iv 0, iv 0], .blk g2 45 [.slice none 0 0, .slice none 0 0, iv 0, .slice none 0 0, .slice none 0 0, iv 0, .int .u64 (0), .bool (false)], .blk g1 27 [.slice A1 d1.supply.length c1, .slice A2 d1.arcs.length c2], .fz (PH.of w)] rfl ?_ ?_
      · refine WP.any2 1 9 rfl (by kernel_rfl) rfl rfl ?_ ?_
        · refine WP.bld (cs := [iv 0, iv 0, iv 0, iv 0, iv 0, iv 0, iv 0, iv 0]) tysOk rfl True.intro rfl rfl rfl rfl rfl rfl rfl ?_
          refine WP.useA mm1 rfl (by kernel_rfl) ?_ ?_
          · repeat (first | exact True.intro | refine And.intro rfl ?_)
          exact (.cons .head (.cons .head (.cons .head (.cons .head (.cons .head (.cons .head (.cons .head (.cons .head (.cons .head .nil)))))))))
        refine WP.sto' tysOk [.slice A11 m1 c11, .slice A12 m2 c12, iv s2, .slice A13 m3 c13, .slice A14 m4 c14, iv s3, .int .u64 (s4), .bool (s5)] rfl rfl rfl rfl rfl rfl rfl rfl rfl (.tail (.tail (.tail (.tail (.tail (.tail .head)))))) rfl rfl ?_
        refine WP.any1 1 rfl (by kernel_rfl) rfl ?_
        refine WP.bld (cs := [iv 0, iv 0, iv 0, iv 0, iv 0, iv 0, iv 0, iv 0]) tysOk rfl True.intro rfl rfl rfl rfl rfl rfl rfl ?_
        refine WP.any1 10 rfl (by kernel_rfl) rfl ?_
        refine WP.sto' tysOk [iv 0, iv 0, iv 0, iv 0, iv 0, iv 0, iv 0, iv 0] rfl rfl rfl rfl rfl rfl rfl rfl rfl (.tail (.tail (.tail (.tail (.tail (.tail .head)))))) rfl rfl ?_
        refine WP.anyP 11 tysOk putInv_body rfl rfl rfl (by kernel_rfl) (by kernel_rfl) rfl rfl rfl rfl rfl True.intro ?_
        refine WP.any0 rfl (by kernel_rfl) ?_
        refine WP.stop rfl () True.intro ?_ ?_
        · repeat (first | exact True.intro | refine And.intro rfl ?_)
        exact (.cons .head (.cons .head (.cons .head (.cons .head (.cons .head (.cons .head (.cons .head (.cons .head (.cons .head .nil)))))))))
      intro mm2
      refine WP.cutA #[true, true, true, true, true, true, false, false, false, true, false, false] 5 [(4, .pointer (some ⟨g2, 0, none⟩)), (5, .pointer (some ⟨g3, 0, none⟩)), (81, .agg #[iv 0, iv 0, iv 0, iv 0, iv 0, iv 0, iv 0, iv 0]), (84, .bool (false)), (85, .pointer (some ⟨g4, 7, none⟩))] [.blk g2 45 [.slice A11 m1 c11, .slice A12 m2 c12, iv s2, .slice A13 m3 c13, .slice A14 m4 c14, iv s3, .int .u64 (s4), .bool (s5)], Ow (fI .i64) 2 A11 m1 c11 xs1, Ow fA 23 A12 m2 c12 xs2, Ow (fI .i64) 2 A13 m3 c13 xs3, Ow fA 23 A14 m4 c14 xs4, .blk g4 45 [.slice A11 m1 c11, .slice A12 m2 c12, iv s2, .slice A13 m3 c13, .slice A14 m4 c14, iv s3, .int .u64 (s4), .bool (s5)], .blk g3 31 [iv 0, iv 0, iv 0, iv 0, iv 0, iv 0, iv 0, iv 0], .blk g1 27 [.slice A1 d1.supply.length c1, .slice A2 d1.arcs.length c2], .fz (PH.of w)] rfl ?_ ?_
      · refine WP.any2 6 10 rfl (by kernel_rfl) rfl rfl ?_ ?_
        · refine WP.yes rfl rfl rfl ?_
          refine WP.ld1 tysOk rfl True.intro rfl rfl rfl rfl rfl rfl rfl (CellAt.blk (.tail (.tail (.tail (.tail (.tail .head))))) rfl) ?_
          refine WP.anyY 7 tysOk putInv_body rfl rfl rfl (by kernel_rfl) (by kernel_rfl) rfl rfl rfl rfl rfl rfl True.intro ?_
          refine WP.anyP 8 tysOk putInv_body rfl rfl rfl (by kernel_rfl) (by kernel_rfl) rfl rfl rfl rfl rfl True.intro ?_
          refine WP.any1 10 rfl (by kernel_rfl) rfl ?_
          refine WP.sto' tysOk [iv 0, iv 0, iv 0, iv 0, iv 0, iv 0, iv 0, iv 0] rfl rfl rfl rfl rfl rfl rfl rfl rfl (.tail (.tail (.tail (.tail (.tail (.tail .head)))))) rfl rfl ?_
          refine WP.anyP 11 tysOk putInv_body rfl rfl rfl (by kernel_rfl) (by kernel_rfl) rfl rfl rfl rfl rfl True.intro ?_
          refine WP.any0 rfl (by kernel_rfl) ?_
          refine WP.stop rfl () True.intro ?_ ?_
          · repeat (first | exact True.intro | refine And.intro rfl ?_)
          exact (.cons .head (.cons .head (.cons .head (.cons .head (.cons .head (.cons .head (.cons .head (.cons .head (.cons .head .nil)))))))))
        refine WP.sto' tysOk [iv 0, iv 0, iv 0, iv 0, iv 0, iv 0, iv 0, iv 0] rfl rfl rfl rfl rfl rfl rfl rfl rfl (.tail (.tail (.tail (.tail (.tail (.tail .head)))))) rfl rfl ?_
        refine WP.any1 6 rfl (by kernel_rfl) rfl ?_
        refine WP.yes rfl rfl rfl ?_
        refine WP.ld1 tysOk rfl True.intro rfl rfl rfl rfl rfl rfl rfl (CellAt.blk (.tail (.tail (.tail (.tail (.tail (.tail .head)))))) rfl) ?_
        refine WP.anyY 7 tysOk putInv_body rfl rfl rfl (by kernel_rfl) (by kernel_rfl) rfl rfl rfl rfl rfl rfl True.intro ?_
        refine WP.anyP 8 tysOk putInv_body rfl rfl rfl (by kernel_rfl) (by kernel_rfl) rfl rfl rfl rfl rfl True.intro ?_
        refine WP.anyP 11 tysOk putInv_body rfl rfl rfl (by kernel_rfl) (by kernel_rfl) rfl rfl rfl rfl rfl True.intro ?_
        refine WP.any0 rfl (by kernel_rfl) ?_
        refine WP.stop rfl () True.intro ?_ ?_
        · repeat (first | exact True.intro | refine And.intro rfl ?_)
        exact (.cons .head (.cons .head (.cons .head (.cons .head (.cons .head (.cons .head (.cons .head (.cons .head (.cons .head .nil)))))))))
      intro mm3
      refine WP.anyY 7 tysOk putInv_body rfl rfl rfl (by kernel_rfl) (by kernel_rfl) rfl rfl rfl rfl rfl rfl True.intro ?_
      refine WP.anyP 8 tysOk putInv_body rfl rfl rfl (by kernel_rfl) (by kernel_rfl) rfl rfl rfl rfl rfl True.intro ?_
      refine WP.any1 0 rfl (by kernel_rfl) rfl ?_
      refine WP.ldm tysOk rfl True.intro rfl rfl rfl rfl rfl rfl rfl (SegAt.blk' (.tail (.tail (.tail (.tail .head)))) rfl) ?_
      refine WP.cutA #[true, true, true, true, true, true, true, true, true, false, false, false] 3 [(4, .pointer (some ⟨g2, 0, none⟩)), (5, .pointer (some ⟨g3, 0, none⟩)), (80, .agg #[.slice A11 m1 c11, .slice A12 m2 c12, iv s2, .slice A13 m3 c13, .slice A14 m4 c14, iv s3, .int .u64 (s4), .bool (s5)]), (81, .agg #[iv 0, iv 0, iv 0, iv 0, iv 0, iv 0, iv 0, iv 0]), (88, .bool (!s5))] [Ow (fI .i64) 2 A11 m1 c11 xs1, Ow fA 23 A12 m2 c12 xs2, Ow (fI .i64) 2 A13 m3 c13 xs3, Ow fA 23 A14 m4 c14 xs4, .blk g4 45 [.slice A11 m1 c11, .slice A12 m2 c12, iv s2, .slice A13 m3 c13, .slice A14 m4 c14, iv s3, .int .u64 (s4), .bool (s5)], .blk g3 31 [iv 0, iv 0, iv 0, iv 0, iv 0, iv 0, iv 0, iv 0], .blk g2 45 [.slice none 0 0, .slice none 0 0, iv 0, .slice none 0 0, .slice none 0 0, iv 0, .int .u64 (0), .bool (false)], .blk g1 27 [.slice A1 d1.supply.length c1, .slice A2 d1.arcs.length c2], .fz (PH.of w)] rfl ?_ ?_
      · refine WP.any1 9 rfl (by kernel_rfl) rfl ?_
        refine WP.sto' tysOk [.slice A11 m1 c11, .slice A12 m2 c12, iv s2, .slice A13 m3 c13, .slice A14 m4 c14, iv s3, .int .u64 (s4), .bool (s5)] rfl rfl rfl rfl rfl rfl rfl rfl rfl (.tail (.tail (.tail (.tail (.tail (.tail .head)))))) rfl rfl ?_
        refine WP.any1 10 rfl (by kernel_rfl) rfl ?_
        refine WP.sto' tysOk [iv 0, iv 0, iv 0, iv 0, iv 0, iv 0, iv 0, iv 0] rfl rfl rfl rfl rfl rfl rfl rfl rfl (.tail (.tail (.tail (.tail (.tail (.tail .head)))))) rfl rfl ?_
        refine WP.anyP 11 tysOk putInv_body rfl rfl rfl (by kernel_rfl) (by kernel_rfl) rfl rfl rfl rfl rfl True.intro ?_
        refine WP.any0 rfl (by kernel_rfl) ?_
        refine WP.stop rfl () True.intro ?_ ?_
        · repeat (first | exact True.intro | refine And.intro rfl ?_)
        exact (.cons .head (.cons .head (.cons .head (.cons .head (.cons .head (.cons .head (.cons .head (.cons .head (.cons .head .nil)))))))))
      intro mm1
      refine WP.cutA #[true, false, true, true, true, true, true, true, true, false, false, false] 4 [(4, .pointer (some ⟨g2, 0, none⟩)), (5, .pointer (some ⟨g3, 0, none⟩)), (80, .agg #[.slice A11 m1 c11, .slice A12 m2 c12, iv s2, .slice A13 m3 c13, .slice A14 m4 c14, iv s3, .int .u64 (s4), .bool (s5)]), (88, .bool (!s5))] [Ow (fI .i64) 2 A11 m1 c11 xs1, Ow fA 23 A12 m2 c12 xs2, Ow (fI .i64) 2 A13 m3 c13 xs3, Ow fA 23 A14 m4 c14 xs4, .blk g4 45 [.slice A11 m1 c11, .slice A12 m2 c12, iv s2, .slice A13 m3 c13, .slice A14 m4 c14, iv s3, .int .u64 (s4), .bool (s5)], .blk g3 31 [iv 0, iv 0, iv 0, iv 0, iv 0, iv 0, iv 0, iv 0], .blk g2 45 [.slice none 0 0, .slice none 0 0, iv 0, .slice none 0 0, .slice none 0 0, iv 0, .int .u64 (0), .bool (false)], .blk g1 27 [.slice A1 d1.supply.length c1, .slice A2 d1.arcs.length c2], .fz (PH.of w)] rfl ?_ ?_
      · refine WP.any2 1 9 rfl (by kernel_rfl) rfl rfl ?_ ?_
        · refine WP.bld (cs := [iv 0, iv 0, iv 0, iv 0, iv 0, iv 0, iv 0, iv 0]) tysOk rfl True.intro rfl rfl rfl rfl rfl rfl rfl ?_
          refine WP.useA mm1 rfl (by kernel_rfl) ?_ ?_
          · repeat (first | exact True.intro | refine And.intro rfl ?_)
          exact (.cons .head (.cons .head (.cons .head (.cons .head (.cons .head (.cons .head (.cons .head (.cons .head (.cons .head .nil)))))))))
        refine WP.sto' tysOk [.slice A11 m1 c11, .slice A12 m2 c12, iv s2, .slice A13 m3 c13, .slice A14 m4 c14, iv s3, .int .u64 (s4), .bool (s5)] rfl rfl rfl rfl rfl rfl rfl rfl rfl (.tail (.tail (.tail (.tail (.tail (.tail .head)))))) rfl rfl ?_
        refine WP.any1 1 rfl (by kernel_rfl) rfl ?_
        refine WP.bld (cs := [iv 0, iv 0, iv 0, iv 0, iv 0, iv 0, iv 0, iv 0]) tysOk rfl True.intro rfl rfl rfl rfl rfl rfl rfl ?_
        refine WP.any1 10 rfl (by kernel_rfl) rfl ?_
        refine WP.sto' tysOk [iv 0, iv 0, iv 0, iv 0, iv 0, iv 0, iv 0, iv 0] rfl rfl rfl rfl rfl rfl rfl rfl rfl (.tail (.tail (.tail (.tail (.tail (.tail .head)))))) rfl rfl ?_
        refine WP.anyP 11 tysOk putInv_body rfl rfl rfl (by kernel_rfl) (by kernel_rfl) rfl rfl rfl rfl rfl True.intro ?_
        refine WP.any0 rfl (by kernel_rfl) ?_
        refine WP.stop rfl () True.intro ?_ ?_
        · repeat (first | exact True.intro | refine And.intro rfl ?_)
        exact (.cons .head (.cons .head (.cons .head (.cons .head (.cons .head (.cons .head (.cons .head (.cons .head (.cons .head .nil)))))))))
      intro mm2
      refine WP.cutA #[true, true, true, true, true, true, false, false, false, true, false, false] 5 [(4, .pointer (some ⟨g2, 0, none⟩)), (5, .pointer (some ⟨g3, 0, none⟩)), (81, .agg #[iv 0, iv 0, iv 0, iv 0, iv 0, iv 0, iv 0, iv 0]), (84, .bool (false)), (85, .pointer (some ⟨g4, 7, none⟩))] [.blk g2 45 [.slice A11 m1 c11, .slice A12 m2 c12, iv s2, .slice A13 m3 c13, .slice A14 m4 c14, iv s3, .int .u64 (s4), .bool (s5)], Ow (fI .i64) 2 A11 m1 c11 xs1, Ow fA 23 A12 m2 c12 xs2, Ow (fI .i64) 2 A13 m3 c13 xs3, Ow fA 23 A14 m4 c14 xs4, .blk g4 45 [.slice A11 m1 c11, .slice A12 m2 c12, iv s2, .slice A13 m3 c13, .slice A14 m4 c14, iv s3, .int .u64 (s4), .bool (s5)], .blk g3 31 [iv 0, iv 0, iv 0, iv 0, iv 0, iv 0, iv 0, iv 0], .blk g1 27 [.slice A1 d1.supply.length c1, .slice A2 d1.arcs.length c2], .fz (PH.of w)] rfl ?_ ?_
      · refine WP.any2 6 10 rfl (by kernel_rfl) rfl rfl ?_ ?_
        · refine WP.yes rfl rfl rfl ?_
          refine WP.ld1 tysOk rfl True.intro rfl rfl rfl rfl rfl rfl rfl (CellAt.blk (.tail (.tail (.tail (.tail (.tail .head))))) rfl) ?_
          refine WP.anyY 7 tysOk putInv_body rfl rfl rfl (by kernel_rfl) (by kernel_rfl) rfl rfl rfl rfl rfl rfl True.intro ?_
          refine WP.anyP 8 tysOk putInv_body rfl rfl rfl (by kernel_rfl) (by kernel_rfl) rfl rfl rfl rfl rfl True.intro ?_
          refine WP.any1 10 rfl (by kernel_rfl) rfl ?_
          refine WP.sto' tysOk [iv 0, iv 0, iv 0, iv 0, iv 0, iv 0, iv 0, iv 0] rfl rfl rfl rfl rfl rfl rfl rfl rfl (.tail (.tail (.tail (.tail (.tail (.tail .head)))))) rfl rfl ?_
          refine WP.anyP 11 tysOk putInv_body rfl rfl rfl (by kernel_rfl) (by kernel_rfl) rfl rfl rfl rfl rfl True.intro ?_
          refine WP.any0 rfl (by kernel_rfl) ?_
          refine WP.stop rfl () True.intro ?_ ?_
          · repeat (first | exact True.intro | refine And.intro rfl ?_)
          exact (.cons .head (.cons .head (.cons .head (.cons .head (.cons .head (.cons .head (.cons .head (.cons .head (.cons .head .nil)))))))))
        refine WP.sto' tysOk [iv 0, iv 0, iv 0, iv 0, iv 0, iv 0, iv 0, iv 0] rfl rfl rfl rfl rfl rfl rfl rfl rfl (.tail (.tail (.tail (.tail (.tail (.tail .head)))))) rfl rfl ?_
        refine WP.any1 6 rfl (by kernel_rfl) rfl ?_
        refine WP.yes rfl rfl rfl ?_
        refine WP.ld1 tysOk rfl True.intro rfl rfl rfl rfl rfl rfl rfl (CellAt.blk (.tail (.tail (.tail (.tail (.tail (.tail .head)))))) rfl) ?_
        refine WP.anyY 7 tysOk putInv_body rfl rfl rfl (by kernel_rfl) (by kernel_rfl) rfl rfl rfl rfl rfl rfl True.intro ?_
        refine WP.anyP 8 tysOk putInv_body rfl rfl rfl (by kernel_rfl) (by kernel_rfl) rfl rfl rfl rfl rfl True.intro ?_
        refine WP.anyP 11 tysOk putInv_body rfl rfl rfl (by kernel_rfl) (by kernel_rfl) rfl rfl rfl rfl rfl True.intro ?_
        refine WP.any0 rfl (by kernel_rfl) ?_
        refine WP.stop rfl () True.intro ?_ ?_
        · repeat (first | exact True.intro | refine And.intro rfl ?_)
        exact (.cons .head (.cons .head (.cons .head (.cons .head (.cons .head (.cons .head (.cons .head (.cons .head (.cons .head .nil)))))))))
      intro mm3
      refine WP.useA mm1 rfl (by kernel_rfl) ?_ ?_
      · repeat (first | exact True.intro | refine And.intro rfl ?_)
      exact (.cons .head (.cons .head (.cons .head (.cons .head (.cons .head (.cons .head (.cons .head (.cons .head (.cons .head .nil)))))))))
    refine WP.yes rfl rfl rfl ?_
    refine WP.ld1 tysOk rfl True.intro rfl rfl rfl rfl rfl rfl rfl (CellAt.blk (.tail (.tail (.tail (.tail .head)))) rfl) ?_
    refine WP.cutA #[true, true, true, true, true, true, true, true, true, false, false, false] 3 [(4, .pointer (some ⟨g2, 0, none⟩)), (5, .pointer (some ⟨g3, 0, none⟩)), (80, .agg #[.slice A11 m1 c11, .slice A12 m2 c12, iv s2, .slice A13 m3 c13, .slice A14 m4 c14, iv s3, .int .u64 (s4), .bool (s5)]), (81, .agg #[iv 0, iv 0, iv 0, iv 0, iv 0, iv 0, iv 0, iv 0]), (88, .bool (!s5))] [Ow (fI .i64) 2 A11 m1 c11 xs1, Ow fA 23 A12 m2 c12 xs2, Ow (fI .i64) 2 A13 m3 c13 xs3, Ow fA 23 A14 m4 c14 xs4, .blk g4 45 [.slice A11 m1 c11, .slice A12 m2 c12, iv s2, .slice A13 m3 c13, .slice A14 m4 c14, iv s3, .int .u64 (s4), .bool (s5)], .blk g3 31 [iv 0, iv 0, iv 0, iv 0, iv 0, iv 0, iv 0, iv 0], .blk g2 45 [.slice none 0 0, .slice none 0 0, iv 0, .slice none 0 0, .slice none 0 0, iv 0, .int .u64 (0), .bool (false)], .blk g1 27 [.slice A1 d1.supply.length c1, .slice A2 d1.arcs.length c2], .fz (PH.of w)] rfl ?_ ?_
    · refine WP.any1 9 rfl (by kernel_rfl) rfl ?_
      refine WP.sto' tysOk [.slice A11 m1 c11, .slice A12 m2 c12, iv s2, .slice A13 m3 c13, .slice A14 m4 c14, iv s3, .int .u64 (s4), .bool (s5)] rfl rfl rfl rfl rfl rfl rfl rfl rfl (.tail (.tail (.tail (.tail (.tail (.tail .head)))))) rfl rfl ?_
      refine WP.any1 10 rfl (by kernel_rfl) rfl ?_
      refine WP.sto' tysOk [iv 0, iv 0, iv 0, iv 0, iv 0, iv 0, iv 0, iv 0] rfl rfl rfl rfl rfl rfl rfl rfl rfl (.tail (.tail (.tail (.tail (.tail (.tail .head)))))) rfl rfl ?_
      refine WP.anyP 11 tysOk putInv_body rfl rfl rfl (by kernel_rfl) (by kernel_rfl) rfl rfl rfl rfl rfl True.intro ?_
      refine WP.any0 rfl (by kernel_rfl) ?_
      refine WP.stop rfl () True.intro ?_ ?_
      · repeat (first | exact True.intro | refine And.intro rfl ?_)
      exact (.cons .head (.cons .head (.cons .head (.cons .head (.cons .head (.cons .head (.cons .head (.cons .head (.cons .head .nil)))))))))
    intro mm1
    refine WP.cutA #[true, false, true, true, true, true, true, true, true, false, false, false] 4 [(4, .pointer (some ⟨g2, 0, none⟩)), (5, .pointer (some ⟨g3, 0, none⟩)), (80, .agg #[.slice A11 m1 c11, .slice A12 m2 c12, iv s2, .slice A13 m3 c13, .slice A14 m4 c14, iv s3, .int .u64 (s4), .bool (s5)]), (88, .bool (!s5))] [Ow (fI .i64) 2 A11 m1 c11 xs1, Ow fA 23 A12 m2 c12 xs2, Ow (fI .i64) 2 A13 m3 c13 xs3, Ow fA 23 A14 m4 c14 xs4, .blk g4 45 [.slice A11 m1 c11, .slice A12 m2 c12, iv s2, .slice A13 m3 c13, .slice A14 m4 c14, iv s3, .int .u64 (s4), .bool (s5)], .blk g3 31 [iv 0, iv 0, iv 0, iv 0, iv 0, iv 0, iv 0, iv 0], .blk g2 45 [.slice none 0 0, .slice none 0 0, iv 0, .slice none 0 0, .slice none 0 0, iv 0, .int .u64 (0), .bool (false)], .blk g1 27 [.slice A1 d1.supply.length c1, .slice A2 d1.arcs.length c2], .fz (PH.of w)] rfl ?_ ?_
    · refine WP.any2 1 9 rfl (by kernel_rfl) rfl rfl ?_ ?_
      · refine WP.bld (cs := [iv 0, iv 0, iv 0, iv 0, iv 0, iv 0, iv 0, iv 0]) tysOk rfl True.intro rfl rfl rfl rfl rfl rfl rfl ?_
        refine WP.useA mm1 rfl (by kernel_rfl) ?_ ?_
        · repeat (first | exact True.intro | refine And.intro rfl ?_)
        exact (.cons .head (.cons .head (.cons .head (.cons .head (.cons .head (.cons .head (.cons .head (.cons .head (.cons .head .nil)))))))))
      refine WP.sto' tysOk [.slice A11 m1 c11, .slice A12 m2 c12, iv s2, .slice A13 m3 c13, .slice A14 m4 c14, iv s3, .int .u64 (s4), .bool (s5)] rfl rfl rfl rfl rfl rfl rfl rfl rfl (.tail (.tail (.tail (.tail (.tail (.tail .head)))))) rfl rfl ?_
      refine WP.any1 1 rfl (by kernel_rfl) rfl ?_
      refine WP.bld (cs := [iv 0, iv 0, iv 0, iv 0, iv 0, iv 0, iv 0, iv 0]) tysOk rfl True.intro rfl rfl rfl rfl rfl rfl rfl ?_
      refine WP.any1 10 rfl (by kernel_rfl) rfl ?_
      refine WP.sto' tysOk [iv 0, iv 0, iv 0, iv 0, iv 0, iv 0, iv 0, iv 0] rfl rfl rfl rfl rfl rfl rfl rfl rfl (.tail (.tail (.tail (.tail (.tail (.tail .head)))))) rfl rfl ?_
      refine WP.anyP 11 tysOk putInv_body rfl rfl rfl (by kernel_rfl) (by kernel_rfl) rfl rfl rfl rfl rfl True.intro ?_
      refine WP.any0 rfl (by kernel_rfl) ?_
      refine WP.stop rfl () True.intro ?_ ?_
      · repeat (first | exact True.intro | refine And.intro rfl ?_)
      exact (.cons .head (.cons .head (.cons .head (.cons .head (.cons .head (.cons .head (.cons .head (.cons .head (.cons .head .nil)))))))))
    intro mm2
    refine WP.cutA #[true, true, true, true, true, true, false, false, false, true, false, false] 5 [(4, .pointer (some ⟨g2, 0, none⟩)), (5, .pointer (some ⟨g3, 0, none⟩)), (81, .agg #[iv 0, iv 0, iv 0, iv 0, iv 0, iv 0, iv 0, iv 0]), (84, .bool (false)), (85, .pointer (some ⟨g4, 7, none⟩))] [.blk g2 45 [.slice A11 m1 c11, .slice A12 m2 c12, iv s2, .slice A13 m3 c13, .slice A14 m4 c14, iv s3, .int .u64 (s4), .bool (s5)], Ow (fI .i64) 2 A11 m1 c11 xs1, Ow fA 23 A12 m2 c12 xs2, Ow (fI .i64) 2 A13 m3 c13 xs3, Ow fA 23 A14 m4 c14 xs4, .blk g4 45 [.slice A11 m1 c11, .slice A12 m2 c12, iv s2, .slice A13 m3 c13, .slice A14 m4 c14, iv s3, .int .u64 (s4), .bool (s5)], .blk g3 31 [iv 0, iv 0, iv 0, iv 0, iv 0, iv 0, iv 0, iv 0], .blk g1 27 [.slice A1 d1.supply.length c1, .slice A2 d1.arcs.length c2], .fz (PH.of w)] rfl ?_ ?_
    · refine WP.any2 6 10 rfl (by kernel_rfl) rfl rfl ?_ ?_
      · refine WP.yes rfl rfl rfl ?_
        refine WP.ld1 tysOk rfl True.intro rfl rfl rfl rfl rfl rfl rfl (CellAt.blk (.tail (.tail (.tail (.tail (.tail .head))))) rfl) ?_
        refine WP.anyY 7 tysOk putInv_body rfl rfl rfl (by kernel_rfl) (by kernel_rfl) rfl rfl rfl rfl rfl rfl True.intro ?_
        refine WP.anyP 8 tysOk putInv_body rfl rfl rfl (by kernel_rfl) (by kernel_rfl) rfl rfl rfl rfl rfl True.intro ?_
        refine WP.any1 10 rfl (by kernel_rfl) rfl ?_
        refine WP.sto' tysOk [iv 0, iv 0, iv 0, iv 0, iv 0, iv 0, iv 0, iv 0] rfl rfl rfl rfl rfl rfl rfl rfl rfl (.tail (.tail (.tail (.tail (.tail (.tail .head)))))) rfl rfl ?_
        refine WP.anyP 11 tysOk putInv_body rfl rfl rfl (by kernel_rfl) (by kernel_rfl) rfl rfl rfl rfl rfl True.intro ?_
        refine WP.any0 rfl (by kernel_rfl) ?_
        refine WP.stop rfl () True.intro ?_ ?_
        · repeat (first | exact True.intro | refine And.intro rfl ?_)
        exact (.cons .head (.cons .head (.cons .head (.cons .head (.cons .head (.cons .head (.cons .head (.cons .head (.cons .head .nil)))))))))
      refine WP.sto' tysOk [iv 0, iv 0, iv 0, iv 0, iv 0, iv 0, iv 0, iv 0] rfl rfl rfl rfl rfl rfl rfl rfl rfl (.tail (.tail (.tail (.tail (.tail (.tail .head)))))) rfl rfl ?_
      refine WP.any1 6 rfl (by kernel_rfl) rfl ?_
      refine WP.yes rfl rfl rfl ?_
      refine WP.ld1 tysOk rfl True.intro rfl rfl rfl rfl rfl rfl rfl (CellAt.blk (.tail (.tail (.tail (.tail (.tail (.tail .head)))))) rfl) ?_
      refine WP.anyY 7 tysOk putInv_body rfl rfl rfl (by kernel_rfl) (by kernel_rfl) rfl rfl rfl rfl rfl rfl True.intro ?_
      refine WP.anyP 8 tysOk putInv_body rfl rfl rfl (by kernel_rfl) (by kernel_rfl) rfl rfl rfl rfl rfl True.intro ?_
      refine WP.anyP 11 tysOk putInv_body rfl rfl rfl (by kernel_rfl) (by kernel_rfl) rfl rfl rfl rfl rfl True.intro ?_
      refine WP.any0 rfl (by kernel_rfl) ?_
      refine WP.stop rfl () True.intro ?_ ?_
      · repeat (first | exact True.intro | refine And.intro rfl ?_)
      exact (.cons .head (.cons .head (.cons .head (.cons .head (.cons .head (.cons .head (.cons .head (.cons .head (.cons .head .nil)))))))))
    intro mm3
    refine WP.anyY 7 tysOk putInv_body rfl rfl rfl (by kernel_rfl) (by kernel_rfl) rfl rfl rfl rfl rfl rfl True.intro ?_
    refine WP.anyP 8 tysOk putInv_body rfl rfl rfl (by kernel_rfl) (by kernel_rfl) rfl rfl rfl rfl rfl True.intro ?_
    refine WP.any2 0 1 rfl (by kernel_rfl) rfl rfl ?_ ?_
    · refine WP.ldm tysOk rfl True.intro rfl rfl rfl rfl rfl rfl rfl (SegAt.blk' (.tail (.tail (.tail (.tail .head)))) rfl) ?_
      refine WP.cutA #[true, true, true, true, true, true, true, true, true, false, false, false] 3 [(4, .pointer (some ⟨g2, 0, none⟩)), (5, .pointer (some ⟨g3, 0, none⟩)), (80, .agg #[.slice A11 m1 c11, .slice A12 m2 c12, iv s2, .slice A13 m3 c13, .slice A14 m4 c14, iv s3, .int .u64 (s4), .bool (s5)]), (81, .agg #[iv 0, iv 0, iv 0, iv 0, iv 0, iv 0, iv 0, iv 0]), (88, .bool (!s5))] [Ow (fI .i64) 2 A11 m1 c11 xs1, Ow fA 23 A12 m2 c12 xs2, Ow (fI .i64) 2 A13 m3 c13 xs3, Ow fA 23 A14 m4 c14 xs4, .blk g4 45 [.slice A11 m1 c11, .slice A12 m2 c12, iv s2, .slice A13 m3 c13, .slice A14 m4 c14, iv s3, .int .u64 (s4), .bool (s5)], .blk g3 31 [iv 0, iv 0, iv 0, iv 0, iv 0, iv 0, iv 0, iv 0], .blk g2 45 [.slice none 0 0, .slice none 0 0, iv 0, .slice none 0 0, .slice none 0 0, iv 0, .int .u64 (0), .bool (false)], .blk g1 27 [.slice A1 d1.supply.length c1, .slice A2 d1.arcs.length c2], .fz (PH.of w)] rfl ?_ ?_
      · refine WP.any1 9 rfl (by kernel_rfl) rfl ?_
        refine WP.sto' tysOk [.slice A11 m1 c11, .slice A12 m2 c12, iv s2, .slice A13 m3 c13, .slice A14 m4 c14, iv s3, .int .u64 (s4), .bool (s5)] rfl rfl rfl rfl rfl rfl rfl rfl rfl (.tail (.tail (.tail (.tail (.tail (.tail .head)))))) rfl rfl ?_
        refine WP.any1 10 rfl (by kernel_rfl) rfl ?_
        refine WP.sto' tysOk [iv 0, iv 0, iv 0, iv 0, iv 0, iv 0, iv 0, iv 0] rfl rfl rfl rfl rfl rfl rfl rfl rfl (.tail (.tail (.tail (.tail (.tail (.tail .head)))))) rfl rfl ?_
        refine WP.anyP 11 tysOk putInv_body rfl rfl rfl (by kernel_rfl) (by kernel_rfl) rfl rfl rfl rfl rfl True.intro ?_
        refine WP.any0 rfl (by kernel_rfl) ?_
        refine WP.stop rfl () True.intro ?_ ?_
        · repeat (first | exact True.intro | refine And.intro rfl ?_)
        exact (.cons .head (.cons .head (.cons .head (.cons .head (.cons .head (.cons .head (.cons .head (.cons .head (.cons .head .nil)))))))))
      intro mm1
      refine WP.cutA #[true, false, true, true, true, true, true, true, true, false, false, false] 4 [(4, .pointer (some ⟨g2, 0, none⟩)), (5, .pointer (some ⟨g3, 0, none⟩)), (80, .agg #[.slice A11 m1 c11, .slice A12 m2 c12, iv s2, .slice A13 m3 c13, .slice A14 m4 c14, iv s3, .int .u64 (s4), .bool (s5)]), (88, .bool (!s5))] [Ow (fI .i64) 2 A11 m1 c11 xs1, Ow fA 23 A12 m2 c12 xs2, Ow (fI .i64) 2 A13 m3 c13 xs3, Ow fA 23 A14 m4 c14 xs4, .blk g4 45 [.slice A11 m1 c11, .slice A12 m2 c12, iv s2, .slice A13 m3 c13, .slice A14 m4 c14, iv s3, .int .u64 (s4), .bool (s5)], .blk g3 31 [iv 0, iv 0, iv 0, iv 0, iv 0, iv 0, iv 0, iv 0], .blk g2 45 [.slice none 0 0, .slice none 0 0, iv 0, .slice none 0 0, .slice none 0 0, iv 0, .int .u64 (0), .bool (false)], .blk g1 27 [.slice A1 d1.supply.length c1, .slice A2 d1.arcs.length c2], .fz (PH.of w)] rfl ?_ ?_
      · refine WP.any2 1 9 rfl (by kernel_rfl) rfl rfl ?_ ?_
        · refine WP.bld (cs := [iv 0, iv 0, iv 0, iv 0, iv 0, iv 0, iv 0, iv 0]) tysOk rfl True.intro rfl rfl rfl rfl rfl rfl rfl ?_
          refine WP.useA mm1 rfl (by kernel_rfl) ?_ ?_
          · repeat (first | exact True.intro | refine And.intro rfl ?_)
          exact (.cons .head (.cons .head (.cons .head (.cons .head (.cons .head (.cons .head (.cons .head (.cons .head (.cons .head .nil)))))))))
        refine WP.sto' tysOk [.slice A11 m1 c11, .slice A12 m2 c12, iv s2, .slice A13 m3 c13, .slice A14 m4 c14, iv s3, .int .u64 (s4), .bool (s5)] rfl rfl rfl rfl rfl rfl rfl rfl rfl (.tail (.tail (.tail (.tail (.tail (.tail .head)))))) rfl rfl ?_
        refine WP.any1 1 rfl (by kernel_rfl) rfl ?_
        refine WP.bld (cs := [iv 0, iv 0, iv 0, iv 0, iv 0, iv 0, iv 0, iv 0]) tysOk rfl True.intro rfl rfl rfl rfl rfl rfl rfl ?_
        refine WP.any1 10 rfl (by kernel_rfl) rfl ?_
        refine WP.sto' tysOk [iv 0, iv 0, iv 0, iv 0, iv 0, iv 0, iv 0, iv 0] rfl rfl rfl rfl rfl rfl rfl rfl rfl (.tail (.tail (.tail (.tail (.tail (.tail .head)))))) rfl rfl ?_
        refine WP.anyP 11 tysOk putInv_body rfl rfl rfl (by kernel_rfl) (by kernel_rfl) rfl rfl rfl rfl rfl True.intro ?_
        refine WP.any0 rfl (by kernel_rfl) ?_
        refine WP.stop rfl () True.intro ?_ ?_
        · repeat (first | exact True.intro | refine And.intro rfl ?_)
        exact (.cons .head (.cons .head (.cons .head (.cons .head (.cons .head (.cons .head (.cons .head (.cons .head (.cons .head .nil)))))))))
      intro mm2
      refine WP.cutA #[true, true, true, true, true, true, false, false, false, true, false, false] 5 [(4, .pointer (some ⟨g2, 0, none⟩)), (5, .pointer (some ⟨g3, 0, none⟩)), (81, .agg #[iv 0, iv 0, iv 0, iv 0, iv 0, iv 0, iv 0, iv 0]), (84, .bool (false)), (85, .pointer (some ⟨g4, 7, none⟩))] [.blk g2 45 [.slice A11 m1 c11, .slice A12 m2 c12, iv s2, .slice A13 m3 c13, .slice A14 m4 c14, iv s3, .int .u64 (s4), .bool (s5)], Ow (fI .i64) 2 A11 m1 c11 xs1, Ow fA 23 A12 m2 c12 xs2, Ow (fI .i64) 2 A13 m3 c13 xs3, Ow fA 23 A14 m4 c14 xs4, .blk g4 45 [.slice A11 m1 c11, .slice A12 m2 c12, iv s2, .slice A13 m3 c13, .slice A14 m4 c14, iv s3, .int .u64 (s4), .bool (s5)], .blk g3 31 [iv 0, iv 0, iv 0, iv 0, iv 0, iv 0, iv 0, iv 0], .blk g1 27 [.slice A1 d1.supply.length c1, .slice A2 d1.arcs.length c2], .fz (PH.of w)] rfl ?_ ?_
      · refine WP.any2 6 10 rfl (by kernel_rfl) rfl rfl ?_ ?_
        · refine WP.yes rfl rfl rfl ?_
          refine WP.ld1 tysOk rfl True.intro rfl rfl rfl rfl rfl rfl rfl (CellAt.blk (.tail (.tail (.tail (.tail (.tail .head))))) rfl) ?_
          refine WP.anyY 7 tysOk putInv_body rfl rfl rfl (by kernel_rfl) (by kernel_rfl) rfl rfl rfl rfl rfl rfl True.intro ?_
          refine WP.anyP 8 tysOk putInv_body rfl rfl rfl (by kernel_rfl) (by kernel_rfl) rfl rfl rfl rfl rfl True.intro ?_
          refine WP.any1 10 rfl (by kernel_rfl) rfl ?_
          refine WP.sto' tysOk [iv 0, iv 0, iv 0, iv 0, iv 0, iv 0, iv 0, iv 0] rfl rfl rfl rfl rfl rfl rfl rfl rfl (.tail (.tail (.tail (.tail (.tail (.tail .head)))))) rfl rfl ?_
          refine WP.anyP 11 tysOk putInv_body rfl rfl rfl (by kernel_rfl) (by kernel_rfl) rfl rfl rfl rfl rfl True.intro ?_
          refine WP.any0 rfl (by kernel_rfl) ?_
          refine WP.stop rfl () True.intro ?_ ?_
          · repeat (first | exact True.intro | refine And.intro rfl ?_)
          exact (.cons .head (.cons .head (.cons .head (.cons .head (.cons .head (.cons .head (.cons .head (.cons .head (.cons .head .nil)))))))))
        refine WP.sto' tysOk [iv 0, iv 0, iv 0, iv 0, iv 0, iv 0, iv 0, iv 0] rfl rfl rfl rfl rfl rfl rfl rfl rfl (.tail (.tail (.tail (.tail (.tail (.tail .head)))))) rfl rfl ?_
        refine WP.any1 6 rfl (by kernel_rfl) rfl ?_
        refine WP.yes rfl rfl rfl ?_
        refine WP.ld1 tysOk rfl True.intro rfl rfl rfl rfl rfl rfl rfl (CellAt.blk (.tail (.tail (.tail (.tail (.tail (.tail .head)))))) rfl) ?_
        refine WP.anyY 7 tysOk putInv_body rfl rfl rfl (by kernel_rfl) (by kernel_rfl) rfl rfl rfl rfl rfl rfl True.intro ?_
        refine WP.anyP 8 tysOk putInv_body rfl rfl rfl (by kernel_rfl) (by kernel_rfl) rfl rfl rfl rfl rfl True.intro ?_
        refine WP.anyP 11 tysOk putInv_body rfl rfl rfl (by kernel_rfl) (by kernel_rfl) rfl rfl rfl rfl rfl True.intro ?_
        refine WP.any0 rfl (by kernel_rfl) ?_
        refine WP.stop rfl () True.intro ?_ ?_
        · repeat (first | exact True.intro | refine And.intro rfl ?_)
        exact (.cons .head (.cons .head (.cons .head (.cons .head (.cons .head (.cons .head (.cons .head (.cons .head (.cons .head .nil)))))))))
      intro mm3
      refine WP.useA mm2 rfl (by kernel_rfl) ?_ ?_
      · repeat (first | exact True.intro | refine And.intro rfl ?_)
      exact (.cons .head (.cons .head (.cons .head (.cons .head (.cons .head (.cons .head (.cons .head (.cons .head (.cons .head .nil)))))))))
    refine WP.bld (cs := [iv 0, iv 0, iv 0, iv 0, iv 0, iv 0, iv 0, iv 0]) tysOk rfl True.intro rfl rfl rfl rfl rfl rfl rfl ?_
    refine WP.cutA #[true, true, true, true, true, true, true, true, true, false, false, false] 3 [(4, .pointer (some ⟨g2, 0, none⟩)), (5, .pointer (some ⟨g3, 0, none⟩)), (80, .agg #[.slice A11 m1 c11, .slice A12 m2 c12, iv s2, .slice A13 m3 c13, .slice A14 m4 c14, iv s3, .int .u64 (s4), .bool (s5)]), (81, .agg #[iv 0, iv 0, iv 0, iv 0, iv 0, iv 0, iv 0, iv 0]), (88, .bool (!s5))] [Ow (fI .i64) 2 A11 m1 c11 xs1, Ow fA 23 A12 m2 c12 xs2, Ow (fI .i64) 2 A13 m3 c13 xs3, Ow fA 23 A14 m4 c14 xs4, .blk g4 45 [.slice A11 m1 c11, .slice A12 m2 c12, iv s2, .slice A13 m3 c13, .slice A14 m4 c14, iv s3, .int .u64 (s4), .bool (s5)], .blk g3 31 [iv 0, iv 0, iv 0, iv 0, iv 0, iv 0, iv 0, iv 0], .blk g2 45 [.slice none 0 0, .slice none 0 0, iv 0, .slice none 0 0, .slice none 0 0, iv 0, .int .u64 (0), .bool (false)], .blk g1 27 [.slice A1 d1.supply.length c1, .slice A2 d1.arcs.length c2], .fz (PH.of w)] rfl ?_ ?_
    · refine WP.any1 9 rfl (by kernel_rfl) rfl ?_
      refine WP.sto' tysOk [.slice A11 m1 c11, .slice A12 m2 c12, iv s2, .slice A13 m3 c13, .slice A14 m4 c14, iv s3, .int .u64 (s4), .bool (s5)] rfl rfl rfl rfl rfl rfl rfl rfl rfl (.tail (.tail (.tail (.tail (.tail (.tail .head)))))) rfl rfl ?_
      refine WP.any1 10 rfl (by kernel_rfl) rfl ?_
      refine WP.sto' tysOk [iv 0, iv 0, iv 0, iv 0, iv 0, iv 0, iv 0, iv 0] rfl rfl rfl rfl rfl rfl rfl rfl rfl (.tail (.tail (.tail (.tail (.tail (.tail .head)))))) rfl rfl ?_
      refine WP.anyP 11 tysOk putInv_body rfl rfl rfl (by kernel_rfl) (by kernel_rfl) rfl rfl rfl rfl rfl True.intro ?_
      refine WP.any0 rfl (by kernel_rfl) ?_
      refine WP.stop rfl () True.intro ?_ ?_
      · repeat (first | exact True.intro | refine And.intro rfl ?_)
      exact (.cons .head (.cons .head (.cons .head (.cons .head (.cons .head (.cons .head (.cons .head (.cons .head (.cons .head .nil)))))))))
    intro mm1
    refine WP.cutA #[true, false, true, true, true, true, true, true, true, false, false, false] 4 [(4, .pointer (some ⟨g2, 0, none⟩)), (5, .pointer (some ⟨g3, 0, none⟩)), (80, .agg #[.slice A11 m1 c11, .slice A12 m2 c12, iv s2, .slice A13 m3 c13, .slice A14 m4 c14, iv s3, .int .u64 (s4), .bool (s5)]), (88, .bool (!s5))] [Ow (fI .i64) 2 A11 m1 c11 xs1, Ow fA 23 A12 m2 c12 xs2, Ow (fI .i64) 2 A13 m3 c13 xs3, Ow fA 23 A14 m4 c14 xs4, .blk g4 45 [.slice A11 m1 c11, .slice A12 m2 c12, iv s2, .slice A13 m3 c13, .slice A14 m4 c14, iv s3, .int .u64 (s4), .bool (s5)], .blk g3 31 [iv 0, iv 0, iv 0, iv 0, iv 0, iv 0, iv 0, iv 0], .blk g2 45 [.slice none 0 0, .slice none 0 0, iv 0, .slice none 0 0, .slice none 0 0, iv 0, .int .u64 (0), .bool (false)], .blk g1 27 [.slice A1 d1.supply.length c1, .slice A2 d1.arcs.length c2], .fz (PH.of w)] rfl ?_ ?_
    · refine WP.any2 1 9 rfl (by kernel_rfl) rfl rfl ?_ ?_
      · refine WP.bld (cs := [iv 0, iv 0, iv 0, iv 0, iv 0, iv 0, iv 0, iv 0]) tysOk rfl True.intro rfl rfl rfl rfl rfl rfl rfl ?_
        refine WP.useA mm1 rfl (by kernel_rfl) ?_ ?_
        · repeat (first | exact True.intro | refine And.intro rfl ?_)
        exact (.cons .head (.cons .head (.cons .head (.cons .head (.cons .head (.cons .head (.cons .head (.cons .head (.cons .head .nil)))))))))
      refine WP.sto' tysOk [.slice A11 m1 c11, .slice A12 m2 c12, iv s2, .slice A13 m3 c13, .slice A14 m4 c14, iv s3, .int .u64 (s4), .bool (s5)] rfl rfl rfl rfl rfl rfl rfl rfl rfl (.tail (.tail (.tail (.tail (.tail (.tail .head)))))) rfl rfl ?_
      refine WP.any1 1 rfl (by kernel_rfl) rfl ?_
      refine WP.bld (cs := [iv 0, iv 0, iv 0, iv 0, iv 0, iv 0, iv 0, iv 0]) tysOk rfl True.intro rfl rfl rfl rfl rfl rfl rfl ?_
      refine WP.any1 10 rfl (by kernel_rfl) rfl ?_
      refine WP.sto' tysOk [iv 0, iv 0, iv 0, iv 0, iv 0, iv 0, iv 0, iv 0] rfl rfl rfl rfl rfl rfl rfl rfl rfl (.tail (.tail (.tail (.tail (.tail (.tail .head)))))) rfl rfl ?_
      refine WP.anyP 11 tysOk putInv_body rfl rfl rfl (by kernel_rfl) (by kernel_rfl) rfl rfl rfl rfl rfl True.intro ?_
      refine WP.any0 rfl (by kernel_rfl) ?_
      refine WP.stop rfl () True.intro ?_ ?_
      · repeat (first | exact True.intro | refine And.intro rfl ?_)
      exact (.cons .head (.cons .head (.cons .head (.cons .head (.cons .head (.cons .head (.cons .head (.cons .head (.cons .head .nil)))))))))
    intro mm2
    refine WP.cutA #[true, true, true, true, true, true, false, false, false, true, false, false] 5 [(4, .pointer (some ⟨g2, 0, none⟩)), (5, .pointer (some ⟨g3, 0, none⟩)), (81, .agg #[iv 0, iv 0, iv 0, iv 0, iv 0, iv 0, iv 0, iv 0]), (84, .bool (false)), (85, .pointer (some ⟨g4, 7, none⟩))] [.blk g2 45 [.slice A11 m1 c11, .slice A12 m2 c12, iv s2, .slice A13 m3 c13, .slice A14 m4 c14, iv s3, .int .u64 (s4), .bool (s5)], Ow (fI .i64) 2 A11 m1 c11 xs1, Ow fA 23 A12 m2 c12 xs2, Ow (fI .i64) 2 A13 m3 c13 xs3, Ow fA 23 A14 m4 c14 xs4, .blk g4 45 [.slice A11 m1 c11, .slice A12 m2 c12, iv s2, .slice A13 m3 c13, .slice A14 m4 c14, iv s3, .int .u64 (s4), .bool (s5)], .blk g3 31 [iv 0, iv 0, iv 0, iv 0, iv 0, iv 0, iv 0, iv 0], .blk g1 27 [.slice A1 d1.supply.length c1, .slice A2 d1.arcs.length c2], .fz (PH.of w)] rfl ?_ ?_
    · refine WP.any2 6 10 rfl (by kernel_rfl) rfl rfl ?_ ?_
      · refine WP.yes rfl rfl rfl ?_
        refine WP.ld1 tysOk rfl True.intro rfl rfl rfl rfl rfl rfl rfl (CellAt.blk (.tail (.tail (.tail (.tail (.tail .head))))) rfl) ?_
        refine WP.anyY 7 tysOk putInv_body rfl rfl rfl (by kernel_rfl) (by kernel_rfl) rfl rfl rfl rfl rfl rfl True.intro ?_
        refine WP.anyP 8 tysOk putInv_body rfl rfl rfl (by kernel_rfl) (by kernel_rfl) rfl rfl rfl rfl rfl True.intro ?_
        refine WP.any1 10 rfl (by kernel_rfl) rfl ?_
        refine WP.sto' tysOk [iv 0, iv 0, iv 0, iv 0, iv 0, iv 0, iv 0, iv 0] rfl rfl rfl rfl rfl rfl rfl rfl rfl (.tail (.tail (.tail (.tail (.tail (.tail .head)))))) rfl rfl ?_
        refine WP.anyP 11 tysOk putInv_body rfl rfl rfl (by kernel_rfl) (by kernel_rfl) rfl rfl rfl rfl rfl True.intro ?_
        refine WP.any0 rfl (by kernel_rfl) ?_
        refine WP.stop rfl () True.intro ?_ ?_
        · repeat (first | exact True.intro | refine And.intro rfl ?_)
        exact (.cons .head (.cons .head (.cons .head (.cons .head (.cons .head (.cons .head (.cons .head (.cons .head (.cons .head .nil)))))))))
      refine WP.sto' tysOk [iv 0, iv 0, iv 0, iv 0, iv 0, iv 0, iv 0, iv 0] rfl rfl rfl rfl rfl rfl rfl rfl rfl (.tail (.tail (.tail (.tail (.tail (.tail .head)))))) rfl rfl ?_
      refine WP.any1 6 rfl (by kernel_rfl) rfl ?_
      refine WP.yes rfl rfl rfl ?_
      refine WP.ld1 tysOk rfl True.intro rfl rfl rfl rfl rfl rfl rfl (CellAt.blk (.tail (.tail (.tail (.tail (.tail (.tail .head)))))) rfl) ?_
      refine WP.anyY 7 tysOk putInv_body rfl rfl rfl (by kernel_rfl) (by kernel_rfl) rfl rfl rfl rfl rfl rfl True.intro ?_
      refine WP.anyP 8 tysOk putInv_body rfl rfl rfl (by kernel_rfl) (by kernel_rfl) rfl rfl rfl rfl rfl True.intro ?_
      refine WP.anyP 11 tysOk putInv_body rfl rfl rfl (by kernel_rfl) (by kernel_rfl) rfl rfl rfl rfl rfl True.intro ?_
      refine WP.any0 rfl (by kernel_rfl) ?_
      refine WP.stop rfl () True.intro ?_ ?_
      · repeat (first | exact True.intro | refine And.intro rfl ?_)
      exact (.cons .head (.cons .head (.cons .head (.cons .head (.cons .head (.cons .head (.cons .head (.cons .head (.cons .head .nil)))))))))
    intro mm3
    refine WP.any1 0 rfl (by kernel_rfl) rfl ?_
    refine WP.ldm tysOk rfl True.intro rfl rfl rfl rfl rfl rfl rfl (SegAt.blk' (.tail (.tail (.tail (.tail .head)))) rfl) ?_
    refine WP.cutA #[true, true, true, true, true, true, true, true, true, false, false, false] 3 [(4, .pointer (some ⟨g2, 0, none⟩)), (5, .pointer (some ⟨g3, 0, none⟩)), (80, .agg #[.slice A11 m1 c11, .slice A12 m2 c12, iv s2, .slice A13 m3 c13, .slice A14 m4 c14, iv s3, .int .u64 (s4), .bool (s5)]), (81, .agg #[iv 0, iv 0, iv 0, iv 0, iv 0, iv 0, iv 0, iv 0]), (88, .bool (!s5))] [Ow (fI .i64) 2 A11 m1 c11 xs1, Ow fA 23 A12 m2 c12 xs2, Ow (fI .i64) 2 A13 m3 c13 xs3, Ow fA 23 A14 m4 c14 xs4, .blk g4 45 [.slice A11 m1 c11, .slice A12 m2 c12, iv s2, .slice A13 m3 c13, .slice A14 m4 c14, iv s3, .int .u64 (s4), .bool (s5)], .blk g3 31 [iv 0, iv 0, iv 0, iv 0, iv 0, iv 0, iv 0, iv 0], .blk g2 45 [.slice none 0 0, .slice none 0 0, iv 0, .slice none 0 0, .slice none 0 0, iv 0, .int .u64 (0), .bool (false)], .blk g1 27 [.slice A1 d1.supply.length c1, .slice A2 d1.arcs.length c2], .fz (PH.of w)] rfl ?_ ?_
    · refine WP.any1 9 rfl (by kernel_rfl) rfl ?_
      refine WP.sto' tysOk [.slice A11 m1 c11, .slice A12 m2 c12, iv s2, .slice A13 m3 c13, .slice A14 m4 c14, iv s3, .int .u64 (s4), .bool (s5)] rfl rfl rfl rfl rfl rfl rfl rfl rfl (.tail (.tail (.tail (.tail (.tail (.tail .head)))))) rfl rfl ?_
      refine WP.any1 10 rfl (by kernel_rfl) rfl ?_
      refine WP.sto' tysOk [iv 0, iv 0, iv 0, iv 0, iv 0, iv 0, iv 0, iv 0] rfl rfl rfl rfl rfl rfl rfl rfl rfl (.tail (.tail (.tail (.tail (.tail (.tail .head)))))) rfl rfl ?_
      refine WP.anyP 11 tysOk putInv_body rfl rfl rfl (by kernel_rfl) (by kernel_rfl) rfl rfl rfl rfl rfl True.intro ?_
      refine WP.any0 rfl (by kernel_rfl) ?_
      refine WP.stop rfl () True.intro ?_ ?_
      · repeat (first | exact True.intro | refine And.intro rfl ?_)
      exact (.cons .head (.cons .head (.cons .head (.cons .head (.cons .head (.cons .head (.cons .head (.cons .head (.cons .head .nil)))))))))
    intro mm1
    refine WP.cutA #[true, false, true, true, true, true, true, true, true, false, false, false] 4 [(4, .pointer (some ⟨g2, 0, none⟩)), (5, .pointer (some ⟨g3, 0, none⟩)), (80, .agg #[.slice A11 m1 c11, .slice A12 m2 c12, iv s2, .slice A13 m3 c13, .slice A14 m4 c14, iv s3, .int .u64 (s4), .bool (s5)]), (88, .bool (!s5))] [Ow (fI .i64) 2 A11 m1 c11 xs1, Ow fA 23 A12 m2 c12 xs2, Ow (fI .i64) 2 A13 m3 c13 xs3, Ow fA 23 A14 m4 c14 xs4, .blk g4 45 [.slice A11 m1 c11, .slice A12 m2 c12, iv s2, .slice A13 m3 c13, .slice A14 m4 c14, iv s3, .int .u64 (s4), .bool (s5)], .blk g3 31 [iv 0, iv 0, iv 0, iv 0, iv 0, iv 0, iv 0, iv 0], .blk g2 45 [.slice none 0 0, .slice none 0 0, iv 0, .slice none 0 0, .slice none 0 0, iv 0, .int .u64 (0), .bool (false)], .blk g1 27 [.slice A1 d1.supply.length c1, .slice A2 d1.arcs.length c2], .fz (PH.of w)] rfl ?_ ?_
    · refine WP.any2 1 9 rfl (by kernel_rfl) rfl rfl ?_ ?_
      · refine WP.bld (cs := [iv 0, iv 0, iv 0, iv 0, iv 0, iv 0, iv 0, iv 0]) tysOk rfl True.intro rfl rfl rfl rfl rfl rfl rfl ?_
        refine WP.useA mm1 rfl (by kernel_rfl) ?_ ?_
        · repeat (first | exact True.intro | refine And.intro rfl ?_)
        exact (.cons .head (.cons .head (.cons .head (.cons .head (.cons .head (.cons .head (.cons .head (.cons .head (.cons .head .nil)))))))))
      refine WP.sto' tysOk [.slice A11 m1 c11, .slice A12 m2 c12, iv s2, .slice A13 m3 c13, .slice A14 m4 c14, iv s3, .int .u64 (s4), .bool (s5)] rfl rfl rfl rfl rfl rfl rfl rfl rfl (.tail (.tail (.tail (.tail (.tail (.tail .head)))))) rfl rfl ?_
      refine WP.any1 1 rfl (by kernel_rfl) rfl ?_
      refine WP.bld (cs := [iv 0, iv 0, iv 0, iv 0, iv 0, iv 0, iv 0, iv 0]) tysOk rfl True.intro rfl rfl rfl rfl rfl rfl rfl ?_
      refine WP.any1 10 rfl (by kernel_rfl) rfl ?_
      refine WP.sto' tysOk [iv 0, iv 0, iv 0, iv 0, iv 0, iv 0, iv 0, iv 0] rfl rfl rfl rfl rfl rfl rfl rfl rfl (.tail (.tail (.tail (.tail (.tail (.tail .head)))))) rfl rfl ?_
      refine WP.anyP 11 tysOk putInv_body rfl rfl rfl (by kernel_rfl) (by kernel_rfl) rfl rfl rfl rfl rfl True.intro ?_
      refine WP.any0 rfl (by kernel_rfl) ?_
      refine WP.stop rfl () True.intro ?_ ?_
      · repeat (first | exact True.intro | refine And.intro rfl ?_)
      exact (.cons .head (.cons .head (.cons .head (.cons .head (.cons .head (.cons .head (.cons .head (.cons .head (.cons .head .nil)))))))))
    intro mm2
    refine WP.cutA #[true, true, true, true, true, true, false, false, false, true, false, false] 5 [(4, .pointer (some ⟨g2, 0, none⟩)), (5, .pointer (some ⟨g3, 0, none⟩)), (81, .agg #[iv 0, iv 0, iv 0, iv 0, iv 0, iv 0, iv 0, iv 0]), (84, .bool (false)), (85, .pointer (some ⟨g4, 7, none⟩))] [.blk g2 45 [.slice A11 m1 c11, .slice A12 m2 c12, iv s2, .slice A13 m3 c13, .slice A14 m4 c14, iv s3, .int .u64 (s4), .bool (s5)], Ow (fI .i64) 2 A11 m1 c11 xs1, Ow fA 23 A12 m2 c12 xs2, Ow (fI .i64) 2 A13 m3 c13 xs3, Ow fA 23 A14 m4 c14 xs4, .blk g4 45 [.slice A11 m1 c11, .slice A12 m2 c12, iv s2, .slice A13 m3 c13, .slice A14 m4 c14, iv s3, .int .u64 (s4), .bool (s5)], .blk g3 31 [iv 0, iv 0, iv 0, iv 0, iv 0, iv 0, iv 0, iv 0], .blk g1 27 [.slice A1 d1.supply.length c1, .slice A2 d1.arcs.length c2], .fz (PH.of w)] rfl ?_ ?_
    · refine WP.any2 6 10 rfl (by kernel_rfl) rfl rfl ?_ ?_
      · refine WP.yes rfl rfl rfl ?_
        refine WP.ld1 tysOk rfl True.intro rfl rfl rfl rfl rfl rfl rfl (CellAt.blk (.tail (.tail (.tail (.tail (.tail .head))))) rfl) ?_
        refine WP.anyY 7 tysOk putInv_body rfl rfl rfl (by kernel_rfl) (by kernel_rfl) rfl rfl rfl rfl rfl rfl True.intro ?_
        refine WP.anyP 8 tysOk putInv_body rfl rfl rfl (by kernel_rfl) (by kernel_rfl) rfl rfl rfl rfl rfl True.intro ?_
        refine WP.any1 10 rfl (by kernel_rfl) rfl ?_
        refine WP.sto' tysOk [iv 0, iv 0, iv 0, iv 0, iv 0, iv 0, iv 0, iv 0] rfl rfl rfl rfl rfl rfl rfl rfl rfl (.tail (.tail (.tail (.tail (.tail (.tail .head)))))) rfl rfl ?_
        refine WP.anyP 11 tysOk putInv_body rfl rfl rfl (by kernel_rfl) (by kernel_rfl) rfl rfl rfl rfl rfl True.intro ?_
        refine WP.any0 rfl (by kernel_rfl) ?_
        refine WP.stop rfl () True.intro ?_ ?_
        · repeat (first | exact True.intro | refine And.intro rfl ?_)
        exact (.cons .head (.cons .head (.cons .head (.cons .head (.cons .head (.cons .head (.cons .head (.cons .head (.cons .head .nil)))))))))
      refine WP.sto' tysOk [iv 0, iv 0, iv 0, iv 0, iv 0, iv 0, iv 0, iv 0] rfl rfl rfl rfl rfl rfl rfl rfl rfl (.tail (.tail (.tail (.tail (.tail (.tail .head)))))) rfl rfl ?_
      refine WP.any1 6 rfl (by kernel_rfl) rfl ?_
      refine WP.yes rfl rfl rfl ?_
      refine WP.ld1 tysOk rfl True.intro rfl rfl rfl rfl rfl rfl rfl (CellAt.blk (.tail (.tail (.tail (.tail (.tail (.tail .head)))))) rfl) ?_
      refine WP.anyY 7 tysOk putInv_body rfl rfl rfl (by kernel_rfl) (by kernel_rfl) rfl rfl rfl rfl rfl rfl True.intro ?_
      refine WP.anyP 8 tysOk putInv_body rfl rfl rfl (by kernel_rfl) (by kernel_rfl) rfl rfl rfl rfl rfl True.intro ?_
      refine WP.anyP 11 tysOk putInv_body rfl rfl rfl (by kernel_rfl) (by kernel_rfl) rfl rfl rfl rfl rfl True.intro ?_
      refine WP.any0 rfl (by kernel_rfl) ?_
      refine WP.stop rfl () True.intro ?_ ?_
      · repeat (first | exact True.intro | refine And.intro rfl ?_)
      exact (.cons .head (.cons .head (.cons .head (.cons .head (.cons .head (.cons .head (.cons .head (.cons .head (.cons .head .nil)))))))))
    intro mm3
    refine WP.useA mm1 rfl (by kernel_rfl) ?_ ?_
    · repeat (first | exact True.intro | refine And.intro rfl ?_)
    exact (.cons .head (.cons .head (.cons .head (.cons .head (.cons .head (.cons .head (.cons .head (.cons .head (.cons .head .nil)))))))))
  intro _ _
  cases h
  refine WP.retR tysOk rfl rfl ⟨_, _, _, _, rfl, ⟨_, rfl, .inr ⟨rfl, _, rfl, rfl, (SegAt.blk' (z := 8) (.tail .head) rfl).1⟩⟩, ⟨_, _, _, _, rfl, ⟨_, rfl, .inr ⟨rfl, _, rfl, rfl, (SegAt.blk' (z := 8) .head rfl).1⟩⟩, ⟨_, _, rfl, rfl, rfl⟩, rfl⟩, rfl⟩ (fun w1 hw1 => ⟨_, _, rfl, ⟨A11, m1, c11, A12, m2, c12, A13, m3, c13, A14, m4, c14, rfl, hf9, hf10, hf11, hf12, rfl⟩, Ret.of_KH hw1 (.cons (.tail (.tail .head)) (.cons (.tail (.tail .head)) (.cons (.tail (.tail .head)) (.cons (.tail (.tail .head)) (.cons (.tail (.tail (.tail (.tail .head)))) .nil)))))⟩)
end Go.Proofs.Ytpnohbdfgmjdbaa
