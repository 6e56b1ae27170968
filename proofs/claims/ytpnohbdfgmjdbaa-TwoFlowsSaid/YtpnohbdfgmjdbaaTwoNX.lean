/- Two: TwoNode, TwoFlows, the walk and the law together. -/
import Derived.Test.YtpnohbdfgmjdbaaGW4
import Derived.Test.YtpnohbdfgmjdbaaTwoN
import Derived.Test.YtpnohbdfgmjdbaaOpA
namespace Go.Proofs.Ytpnohbdfgmjdbaa
open Go.RowKit Go.Qe
theorem flows_c {w : World} {vx : Value} {d s t c : Int} {a b : Arc} {x : List Int} (hc : 0 ≤ c ∧ c ≤ 255) (hx : KintsZ .i64 (PH.of w) vx x) :
    Calls Try.prog 8 #[.int .u8 d, .agg #[.int .i64 a.src, .int .i64 a.dst, .int .i64 a.low, .int .i64 a.cap, .int .i64 a.cost], .agg #[.int .i64 b.src, .int .i64 b.dst, .int .i64 b.low, .int .i64 b.cap, .int .i64 b.cost], .int .i64 s, .int .i64 t, .int .u8 c, vx] w fun e w' => e = .returned (.bool true) ∧ Below w.heap.size w w' :=
  law18_TwoFlows_w (flows_true hc) (ints_F hx)
end Go.Proofs.Ytpnohbdfgmjdbaa
