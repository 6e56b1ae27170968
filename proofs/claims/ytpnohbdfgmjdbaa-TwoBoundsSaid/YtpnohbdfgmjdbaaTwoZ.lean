/- Two: TwoBounds, the walk and the law together. -/
import Derived.Test.YtpnohbdfgmjdbaaTTW4
import Derived.Test.YtpnohbdfgmjdbaaTwoP
import Derived.Test.YtpnohbdfgmjdbaaInp
import Derived.Test.YtpnohbdfgmjdbaaOpA
namespace Go.Proofs.Ytpnohbdfgmjdbaa
open Go.RowKit Go.Qe
theorem i64_rng {x : Int} (h : (Lit.int .i64 x).wf = true) : -9223372036854775808 ≤ x ∧ x ≤ 9223372036854775807 := by
  have e1 : IntKind.i64.min = -9223372036854775808 := rfl
  have e2 : IntKind.i64.max = 9223372036854775807 := rfl
  simp only [Lit.wf, e1, e2, Bool.and_eq_true, decide_eq_true_eq] at h
  exact h
theorem bounds_c {w : World} {k s t n : Int} {a b : Arc} (hk : 0 ≤ k ∧ k ≤ 255) (ha : (Lit.int .i64 a.low).wf = true ∧ (Lit.int .i64 a.cap).wf = true) (hb : (Lit.int .i64 b.low).wf = true ∧ (Lit.int .i64 b.cap).wf = true) :
    Calls Try.prog 3 #[.int .u8 k, .agg #[.int .i64 a.src, .int .i64 a.dst, .int .i64 a.low, .int .i64 a.cap, .int .i64 a.cost], .agg #[.int .i64 b.src, .int .i64 b.dst, .int .i64 b.low, .int .i64 b.cap, .int .i64 b.cost], .int .i64 s, .int .i64 t, .int .i32 n] w fun e w' => e = .returned (.bool true) ∧ Below w.heap.size w w' :=
  law18_TwoBounds_w (bounds_true hk.1 (i64_rng ha.1) (i64_rng ha.2) (i64_rng hb.1) (i64_rng hb.2))
end Go.Proofs.Ytpnohbdfgmjdbaa
