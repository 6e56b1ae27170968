/- Two: TwoDoes, TwoShapes, the walks and the laws together. -/
import Derived.Test.YtpnohbdfgmjdbaaGreatGW5
import Derived.Test.YtpnohbdfgmjdbaaGreatTwoD
import Derived.Test.YtpnohbdfgmjdbaaGreatOpI
namespace Go.Proofs.YtpnohbdfgmjdbaaGreat
open Go.RowKit Go.Qe
theorem kints_len {k : IntKind} {Z : PH} {v : Value} {xs : List Int} (h : KintsZ k Z v xs) : xs.length ≤ 9223372036854775807 := by
  obtain ⟨A, c, _, hs⟩ := ints_F h
  have := hs.le; have := hs.cap; omega
theorem shapes_c {w : World} {d s t c : Int} {a b : Arc} :
    Calls Tryz.prog 4 #[.int .u8 d, .agg #[.int .i64 a.src, .int .i64 a.dst, .int .i64 a.low, .int .i64 a.cap, .int .i64 a.cost], .agg #[.int .i64 b.src, .int .i64 b.dst, .int .i64 b.low, .int .i64 b.cap, .int .i64 b.cost], .int .i64 s, .int .i64 t, .int .u8 c] w fun e w' => e = .returned (.bool true) ∧ Below w.heap.size w w' := law18_TwoShapes_w (shapes_true d a b s t c)
end Go.Proofs.YtpnohbdfgmjdbaaGreat
