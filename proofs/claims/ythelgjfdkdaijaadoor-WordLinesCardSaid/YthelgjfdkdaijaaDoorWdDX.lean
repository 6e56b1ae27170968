/- Word: the walks and the plain laws, joined. -/
import Derived.Test.YthelgjfdkdaijaaDoorGW2
import Derived.Test.YthelgjfdkdaijaaDoorWdD
namespace Go.Proofs.YthelgjfdkdaijaaDoor
open Go.RowKit Go.Qe
theorem lines_c {w : World} (s : ByteArray) (pg : GlobE (PH.of w)) : Calls Tryd.prog 3 #[.string s] w fun e w' => e = .returned (.bool true) ∧ Below w.heap.size w w' := law02_WordLines_w (lines_true s) pg
theorem parts_c {w : World} (s : ByteArray) (pg : GlobE (PH.of w)) : Calls Tryd.prog 6 #[.string s] w fun e w' => e = .returned (.bool true) ∧ Below w.heap.size w w' := law02_WordParts_w (parts_true s) pg
theorem digits_c {w : World} {n d : Int} (m : Bool) (hn : (Lit.int .i64 n).wf = true) (hd : (Lit.int .u8 d).wf = true) (pg : GlobE (PH.of w)) : Calls Tryd.prog 4 #[.int .i64 n, .int .u8 d, .bool m] w fun e w' => e = .returned (.bool true) ∧ Below w.heap.size w w' := by
  have h1 : IntKind.i64.min = -9223372036854775808 := rfl
  have h2 : IntKind.i64.max = 9223372036854775807 := rfl
  have h3 : IntKind.u8.min = 0 := rfl
  have h4 : IntKind.u8.max = 255 := rfl
  simp only [Lit.wf, Bool.and_eq_true, decide_eq_true_eq, h1, h2] at hn
  simp only [Lit.wf, Bool.and_eq_true, decide_eq_true_eq, h3, h4] at hd
  exact law02_WordDigits_w (digits_true n d m ⟨hn.1, hn.2⟩ ⟨hd.1, hd.2⟩) pg
end Go.Proofs.YthelgjfdkdaijaaDoor
