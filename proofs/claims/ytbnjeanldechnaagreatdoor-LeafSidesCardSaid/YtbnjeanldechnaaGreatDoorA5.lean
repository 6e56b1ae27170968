/- Adj: what a graph is in memory; Nodes, piece, Out, In. -/
import Derived.Test.YtbnjeanldechnaaGreatDoorA4
namespace Go.Proofs.YtbnjeanldechnaaGreatDoor
open Go.RowKit Go.Qe
def outB (i : Inst) (m : Nat) : List Int := someL i m true false
def inB (i : Inst) (m : Nat) : List Int := someL i m false true
/-- where each node's places begin -/
def startAt (B : Nat → List Int) : Nat → Nat
  | 0 => 0
  | m + 1 => startAt B m + (B m).length
theorem startAt_mono (B : Nat → List Int) {m n : Nat} (h : m ≤ n) : startAt B m ≤ startAt B n := by
  induction n with
  | zero => have : m = 0 := by omega
            subst this; exact Nat.le_refl _
  | succ n ih =>
    rcases Nat.lt_or_ge m (n + 1) with h' | h'
    · exact Nat.le_trans (ih (by omega)) (Nat.le_add_right _ _)
    · have : m = n + 1 := by omega
      subst this; exact Nat.le_refl _
def RowZ (Z : PH) (row at_ : Value) (B : Nat → List Int) (N : Nat) : Prop :=
  ∃ ys zs, IntsZ Z row ys ∧ IntsZ Z at_ zs ∧ zs.length = N + 1 ∧ (∀ m, m ≤ N → el zs m = (startAt B m : Nat)) ∧ ys.length = startAt B N ∧ ∀ m j, m < N → j < (B m).length → el ys (startAt B m + j) = el (B m) j
theorem RowZ.le {Z Z' : PH} {row at_ : Value} {B : Nat → List Int} {N : Nat} (h : RowZ Z row at_ B N) (hz : Z.le Z') : RowZ Z' row at_ B N :=
  let ⟨ys, zs, h1, h2, h3⟩ := h; ⟨ys, zs, KintsZ.le h1 hz, KintsZ.le h2 hz, h3⟩
def GraphZ (Z : PH) (v : Value) (i : Inst) : Prop :=
  ∃ g s a o n f t, v = .pointer (some ⟨g, 0, none⟩) ∧ Zc Z g 0 = some s ∧ Zc Z g 1 = some a ∧ Zc Z g 2 = some o ∧ Zc Z g 3 = some n ∧ Zc Z g 4 = some f ∧ Zc Z g 5 = some t ∧
    IntsZ Z s i.supply ∧ ArcsZ Z a i.arcs ∧ RowZ Z o f (outB i) i.supply.length ∧ RowZ Z n t (inB i) i.supply.length
theorem GraphZ.le {Z Z' : PH} {v : Value} {i : Inst} (h : GraphZ Z v i) (hz : Z.le Z') : GraphZ Z' v i := by
  obtain ⟨g, s, a, o, n, f, t, h0, h1, h2, h3, h4, h5, h6, h7, h8, h9, h10⟩ := h
  exact ⟨g, s, a, o, n, f, t, h0, hz.cell h1, hz.cell h2, hz.cell h3, hz.cell h4, hz.cell h5, hz.cell h6, KintsZ.le h7 hz, h8.le hz, h9.le hz, h10.le hz⟩
set_option maxHeartbeats 1000000 in
theorem nodes_c {w : World} {vg : Value} {i : Inst} (hg : GraphZ (PH.of w) vg i) :
    Calls Tryz.prog 124 #[vg] w fun e w' => e = .returned (.int .i64 i.supply.length) ∧ Below w.heap.size w w' := by
  obtain ⟨g, s, a, o, n, f, t, rfl, h1, h2, h3, h4, h5, h6, h7, h8, h9, h10⟩ := hg
  obtain ⟨A, c, rfl, hc, hm, hcell⟩ := h7.open_
  clear h7 h8 h9 h10 hcell h2 h3 h4 h5 h6
  refine enter_ Tryz.func124 rfl Tryz.ntmps124 rfl ?_
  repeat' (first | (refine WP.st tysOk false rfl (by first | exact True.intro | exact rfl | exact ⟨⟨rfl, rfl⟩, rfl⟩) rfl rfl rfl rfl ?_ ?_; · (first | exact True.intro | exact ⟨by omega, by omega⟩ | exact ⟨by omega, by omega, by omega, by omega⟩ | omega)) | (refine WP.ld tysOk rfl (by first | exact True.intro | exact rfl | exact ⟨⟨rfl, rfl⟩, rfl⟩) rfl rfl rfl rfl rfl rfl rfl ?_; apply ex2; (· first | (apply CellAt.blk; (· repeat' (first | exact Rem.head | apply Rem.tail)); (· rfl)) | (refine CellAt.fz ?_ (by assumption); repeat' (first | exact List.Mem.head _ | apply List.Mem.tail)) )) | refine WP.condF rfl rfl ?_)
  refine WP.ret1 rfl rfl rfl (fun w hw => ⟨rfl, Ret.below_ hw (by repeat (first | exact Pick.nil | (apply Pick.cons; (· repeat' (first | exact Rem.head | apply Rem.tail)
                                                                    )))
    )⟩)
set_option maxHeartbeats 1000000 in
theorem piece_c {Z : PH} {vg vr va : Value} {i : Inst} {B : Nat → List Int} {n : Int} (hg : GraphZ Z vg i) (hr : RowZ Z vr va B i.supply.length) :
    ∃ v, IntsZ Z v (if 0 ≤ n ∧ n < i.supply.length then B n.toNat else []) ∧ ∀ w, Z.le (PH.of w) →
      Calls Tryz.prog 109 #[vg, vr, va, .int .i64 n] w fun e w' => e = .returned v ∧ Below w.heap.size w w' := by
  by_cases hn : 0 ≤ n ∧ n < i.supply.length
  · rw [if_pos hn]
    obtain ⟨m, rfl⟩ := Int.eq_ofNat_of_zero_le hn.1
    have hmN : m < i.supply.length := by omega
    rw [Int.toNat_natCast]
    obtain ⟨ys, zs, hys, hzs, h1, h2, h3, h4⟩ := hr
    obtain ⟨A, c, rfl, hc, hm, hcell⟩ := hys.open_
    obtain ⟨A', c', rfl, hc', hm', hcell'⟩ := hzs.open_
    obtain ⟨b', off', rfl, hcs⟩ := hcell' (by omega)
    have hle : startAt B m ≤ startAt B (m + 1) := startAt_mono B (by omega)
    have hle2 : startAt B (m + 1) ≤ startAt B i.supply.length := startAt_mono B (by omega)
    have hd : startAt B (m + 1) - startAt B m = (B m).length := by simp only [startAt]; omega
    have g1 : Zc Z b' (off' + m) = some (.int .i64 (Int.ofNat (startAt B m))) := by rw [hcs m (by omega), h2 m (by omega)]; rfl
    have g2 : Zc Z b' (off' + (m + 1)) = some (.int .i64 (Int.ofNat (startAt B (m + 1)))) := by rw [hcs (m + 1) (by omega), h2 (m + 1) (by omega)]; rfl
    refine ⟨.slice (if startAt B (m + 1) = startAt B m then A else A.map (·.add (startAt B m * 1))) (startAt B (m + 1) - startAt B m) (startAt B (m + 1) - startAt B m), ?_, fun w hw => ?_⟩
    · rw [hd]
      refine ⟨_, _, rfl, by omega, by omega, fun hpos => ?_⟩
      obtain ⟨b, off, rfl, hcb⟩ := hcell (by omega)
      refine ⟨b, off + startAt B m, ?_, fun j hj => ?_⟩
      · rw [if_neg (by omega)]
        simp only [Option.map_some, Nat.mul_one, add_addr]
        by_cases h0 : startAt B m = 0
        · rw [if_pos h0, h0]; simp
        · rw [if_neg h0]
      · rw [Nat.add_assoc, hcb _ (by omega), h4 m j hmN (by omega)]
    · have k1 := hw.cell g1
      have k2 := hw.cell g2
      have hg' := hg.le hw
      clear g1 g2 hcs hcell hcell' hys hzs h4 h2
      generalize startAt B (m + 1) = hi at *
      generalize startAt B m = lo at *
      refine enter_ Tryz.func109 rfl Tryz.ntmps109 rfl ?_
      repeat' (first | (refine WP.st tysOk false rfl (by first | exact True.intro | exact rfl | exact ⟨⟨rfl, rfl⟩, rfl⟩) rfl rfl rfl rfl ?_ ?_; · (first | exact True.intro | exact ⟨by omega, by omega⟩ | exact ⟨by omega, by omega, by omega, by omega⟩ | omega)) | refine WP.yes rfl rfl rfl ?_)
      refine WP.callV rfl rfl rfl rfl rfl rfl rfl (by kernel_rfl) (fun w1 hw1 => nodes_c (hg'.le (hw1.le (by simp)))) (by first | exact True.intro | exact rfl | exact ⟨⟨rfl, rfl⟩, rfl⟩) ?_
      repeat' (first | (refine WP.st tysOk false rfl (by first | exact True.intro | exact rfl | exact ⟨⟨rfl, rfl⟩, rfl⟩) rfl rfl rfl rfl ?_ ?_; · (first | exact True.intro | exact ⟨by omega, by omega⟩ | exact ⟨by omega, by omega, by omega, by omega⟩ | omega)) | refine WP.yes rfl rfl rfl ?_ | (refine WP.cond_d rfl rfl (fun hh => ?_) (fun hh => ?_) <;> try (exfalso; omega)))
      refine WP.draw rfl (by kernel_rfl) (by kernel_rfl) ?_
      repeat' (first | (refine WP.st tysOk false rfl (by first | exact True.intro | exact rfl | exact ⟨⟨rfl, rfl⟩, rfl⟩) rfl rfl rfl rfl ?_ ?_; · (first | exact True.intro | exact ⟨by omega, by omega⟩ | exact ⟨by omega, by omega, by omega, by omega⟩ | omega)) | (refine WP.ld tysOk rfl (by first | exact True.intro | exact rfl | exact ⟨⟨rfl, rfl⟩, rfl⟩) rfl rfl rfl rfl rfl rfl rfl ?_; apply ex2; (· first | (apply CellAt.blk; (· repeat' (first | exact Rem.head | apply Rem.tail)); (· rfl)) | (refine CellAt.fz ?_ (by assumption); repeat' (first | exact List.Mem.head _ | apply List.Mem.tail)) )) | refine WP.ix1 tysOk rfl (by first | exact True.intro | exact rfl | exact ⟨⟨rfl, rfl⟩, rfl⟩) rfl rfl rfl rfl rfl rfl rfl rfl (by first | omega | (simp only []; omega)) ?_)
      refine WP.rd rfl (by first | exact True.intro | exact rfl) rfl rfl rfl (slG tysOk rfl rfl rfl rfl (fun h => by cases h) (m := hi) (h := hi) (l := lo) (by exact ⟨_, rfl⟩) (by exact ⟨_, rfl⟩) (by exact ⟨_, rfl⟩) (by omega) (by omega) (by omega)) ?_
      repeat' (first | (refine WP.st tysOk false rfl (by first | exact True.intro | exact rfl | exact ⟨⟨rfl, rfl⟩, rfl⟩) rfl rfl rfl rfl ?_ ?_; · (first | exact True.intro | exact ⟨by omega, by omega⟩ | exact ⟨by omega, by omega, by omega, by omega⟩ | omega)) | refine WP.qend rfl ?_)
      first | refine WP.qend rfl ?_ | skip
      skip
      refine WP.ret1 rfl rfl rfl (fun w hw => ⟨rfl, Ret.below_ hw (by repeat (first | exact Pick.nil | (apply Pick.cons; (· repeat' (first | exact Rem.head | apply Rem.tail)
                                                                        )))
        )⟩)
  · rw [if_neg hn]
    refine ⟨.slice none 0 0, KintsZ.nil_, fun w hw => ?_⟩
    have hg' := hg.le hw
    refine enter_ Tryz.func109 rfl Tryz.ntmps109 rfl ?_
    repeat' (first | (refine WP.st tysOk false rfl (by first | exact True.intro | exact rfl | exact ⟨⟨rfl, rfl⟩, rfl⟩) rfl rfl rfl rfl ?_ ?_; · (first | exact True.intro | exact ⟨by omega, by omega⟩ | exact ⟨by omega, by omega, by omega, by omega⟩ | omega)) | refine WP.yes rfl rfl rfl ?_ | refine WP.no rfl rfl rfl rfl rfl ?_ | (refine WP.gs rfl rfl rfl rfl (fun hh => ?_) (fun hh => ?_) <;> (try simp only [decide_eq_true_eq, decide_eq_false_iff_not, Bool.not_true, Bool.not_false] at hh) <;> (try (exfalso; omega))) | refine WP.condT rfl rfl ?_)
    · refine WP.callV rfl rfl rfl rfl rfl rfl rfl (by kernel_rfl) (fun w1 hw1 => nodes_c (hg'.le (hw1.le (by simp)))) (by first | exact True.intro | exact rfl | exact ⟨⟨rfl, rfl⟩, rfl⟩) ?_
      repeat' (first | (refine WP.st tysOk false rfl (by first | exact True.intro | exact rfl | exact ⟨⟨rfl, rfl⟩, rfl⟩) rfl rfl rfl rfl ?_ ?_; · (first | exact True.intro | exact ⟨by omega, by omega⟩ | exact ⟨by omega, by omega, by omega, by omega⟩ | omega)) | refine WP.yes rfl rfl rfl ?_ | (refine WP.cond_d rfl rfl (fun hh => ?_) (fun hh => ?_) <;> try (exfalso; omega)))
      refine WP.ret1 rfl rfl rfl (fun w hw => ⟨rfl, Ret.below_ hw (by repeat (first | exact Pick.nil | (apply Pick.cons; (· repeat' (first | exact Rem.head | apply Rem.tail)
                                                                        )))
        )⟩)
    · refine WP.ret1 rfl rfl rfl (fun w hw => ⟨rfl, Ret.below_ hw (by repeat (first | exact Pick.nil | (apply Pick.cons; (· repeat' (first | exact Rem.head | apply Rem.tail)
                                                                        )))
        )⟩)
end Go.Proofs.YtbnjeanldechnaaGreatDoor
