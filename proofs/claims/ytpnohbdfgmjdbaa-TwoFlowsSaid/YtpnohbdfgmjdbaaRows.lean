/-
  No cell of these rows narrows 'for every input' (looked for: loops, veiled, ifaces, maps, wideKeys, modest, calm, conditions, laid).
  DERIVED. THE GIVEN ROWS OF THIS SEAT. 6 by the template 'for every input the law returns true; each argument reads behind the call as it read before'; 0 by the template 'total and deterministic' (their statements: YtpnohbdfgmjdbaaTotals.lean).
  GIVEN WITH THE SEED: the statements are not yours to turn. If you find one false, say at which input.
  Laid BY PROGRAM, IN A SANDBOX (cutbox-rows.mjs): the forced cells as the released guide's own fill.sh prints them over the translation 17d018c7eef8cfe8… (all of the seat's roots in one cut). By AI agents, Wed Nov 11 2026. No macro, syntax, notation, axiom, sorry.
-/
import Derived.Test.YtpnohbdfgmjdbaaChecked
import GoSem.Claim
import GoSem.ClaimJoined
import GoSem.ClaimMapViews
import Derived.JoinedTies
import Derived.KernelRfl
namespace Go.Proofs.Ytpnohbdfgmjdbaa
/- THE CELL 'sum', in the pinned program and in every row, IS THE sha256 OF THE DUMP (.gsa) THAT YtpnohbdfgmjdbaaProg.lean LOADS. Nothing in Lean hashes anything: it is a label: what it is worth is what the hold of that sum in a sandbox is worth. -/
noncomputable def Try.pinned : Pinned := { name := "ytpnohbdfgmjdbaa", sum := "17d018c7eef8cfe8cad44a99639831f560e6b61866b2f3400b73d4521772e50f", checked := Try.checked }
namespace Rows
def none {H : Type} : Left H := { results := [], args := [] }

/-- 'quittancelaw18.TwoBounds': WHATEVER THE INPUT: true; the input reads as it did. -/
def twoBoundsSpec : ChangeSpec := { name := "twoBounds", fn := fun _ => fun
  | [d1, d2, d3, d4, d5, d6] => { results := [.lit (.bool true)], args := [d1, d2, d3, d4, d5, d6] }
  | _ => none }
def twoBoundsRow : OpenClaim := { program := "ytpnohbdfgmjdbaa", sum := "17d018c7eef8cfe8cad44a99639831f560e6b61866b2f3400b73d4521772e50f", func := "quittance/quittancelaw18.TwoBounds", spec := "twoBounds", unfollowed := true, recurses := true, apart := false }
def TwoBoundsSaid : Prop := twoBoundsRow.holds Try.pinned (OpenSpec.ofChange twoBoundsSpec)

/-- ITS FALSE NEIGHBOUR: 'it returns false'. Refute it at one input. -/
def twoBoundsWrong : ChangeSpec := { name := "twoBounds", fn := fun _ => fun
  | [d1, d2, d3, d4, d5, d6] => { results := [.lit (.bool false)], args := [d1, d2, d3, d4, d5, d6] }
  | _ => none }
def TwoBoundsWrongFalsely : Prop := twoBoundsRow.holds Try.pinned (OpenSpec.ofChange twoBoundsWrong)

/-- 'quittancelaw18.TwoChain': WHATEVER THE INPUT: true; the input reads as it did. -/
def twoChainSpec : ChangeSpec := { name := "twoChain", fn := fun _ => fun
  | [d1, d2, d3] => { results := [.lit (.bool true)], args := [d1, d2, d3] }
  | _ => none }
def twoChainRow : OpenClaim := { program := "ytpnohbdfgmjdbaa", sum := "17d018c7eef8cfe8cad44a99639831f560e6b61866b2f3400b73d4521772e50f", func := "quittance/quittancelaw18.TwoChain", spec := "twoChain", unfollowed := true, recurses := true, apart := false }
def TwoChainSaid : Prop := twoChainRow.holds Try.pinned (OpenSpec.ofChange twoChainSpec)

/-- ITS FALSE NEIGHBOUR: 'it returns false'. Refute it at one input. -/
def twoChainWrong : ChangeSpec := { name := "twoChain", fn := fun _ => fun
  | [d1, d2, d3] => { results := [.lit (.bool false)], args := [d1, d2, d3] }
  | _ => none }
def TwoChainWrongFalsely : Prop := twoChainRow.holds Try.pinned (OpenSpec.ofChange twoChainWrong)

/-- 'quittancelaw18.TwoNever': WHATEVER THE INPUT: true; the input reads as it did. -/
def twoNeverSpec : ChangeSpec := { name := "twoNever", fn := fun _ => fun
  | [d1, d2, d3] => { results := [.lit (.bool true)], args := [d1, d2, d3] }
  | _ => none }
def twoNeverRow : OpenClaim := { program := "ytpnohbdfgmjdbaa", sum := "17d018c7eef8cfe8cad44a99639831f560e6b61866b2f3400b73d4521772e50f", func := "quittance/quittancelaw18.TwoNever", spec := "twoNever", unfollowed := true, recurses := true, apart := false }
def TwoNeverSaid : Prop := twoNeverRow.holds Try.pinned (OpenSpec.ofChange twoNeverSpec)

/-- ITS FALSE NEIGHBOUR: 'it returns false'. Refute it at one input. -/
def twoNeverWrong : ChangeSpec := { name := "twoNever", fn := fun _ => fun
  | [d1, d2, d3] => { results := [.lit (.bool false)], args := [d1, d2, d3] }
  | _ => none }
def TwoNeverWrongFalsely : Prop := twoNeverRow.holds Try.pinned (OpenSpec.ofChange twoNeverWrong)

/-- 'quittancelaw18.TwoLess': WHATEVER THE INPUT: true; the input reads as it did. -/
def twoLessSpec : ChangeSpec := { name := "twoLess", fn := fun _ => fun
  | [d1, d2, d3] => { results := [.lit (.bool true)], args := [d1, d2, d3] }
  | _ => none }
def twoLessRow : OpenClaim := { program := "ytpnohbdfgmjdbaa", sum := "17d018c7eef8cfe8cad44a99639831f560e6b61866b2f3400b73d4521772e50f", func := "quittance/quittancelaw18.TwoLess", spec := "twoLess", unfollowed := true, recurses := true, apart := false }
def TwoLessSaid : Prop := twoLessRow.holds Try.pinned (OpenSpec.ofChange twoLessSpec)

/-- ITS FALSE NEIGHBOUR: 'it returns false'. Refute it at one input. -/
def twoLessWrong : ChangeSpec := { name := "twoLess", fn := fun _ => fun
  | [d1, d2, d3] => { results := [.lit (.bool false)], args := [d1, d2, d3] }
  | _ => none }
def TwoLessWrongFalsely : Prop := twoLessRow.holds Try.pinned (OpenSpec.ofChange twoLessWrong)

/-- 'quittancelaw18.TwoNode': WHATEVER THE INPUT: true; the input reads as it did. -/
def twoNodeSpec : ChangeSpec := { name := "twoNode", fn := fun _ => fun
  | [d1, d2, d3, d4, d5, d6, d7] => { results := [.lit (.bool true)], args := [d1, d2, d3, d4, d5, d6, d7] }
  | _ => none }
def twoNodeRow : OpenClaim := { program := "ytpnohbdfgmjdbaa", sum := "17d018c7eef8cfe8cad44a99639831f560e6b61866b2f3400b73d4521772e50f", func := "quittance/quittancelaw18.TwoNode", spec := "twoNode", inPlace := ["math/bits.Add64", "math/bits.Sub64"], unfollowed := true, recurses := true, apart := false }
def TwoNodeSaid : Prop := twoNodeRow.holds Try.pinned (OpenSpec.ofChange twoNodeSpec)

/-- ITS FALSE NEIGHBOUR: 'it returns false'. Refute it at one input. -/
def twoNodeWrong : ChangeSpec := { name := "twoNode", fn := fun _ => fun
  | [d1, d2, d3, d4, d5, d6, d7] => { results := [.lit (.bool false)], args := [d1, d2, d3, d4, d5, d6, d7] }
  | _ => none }
def TwoNodeWrongFalsely : Prop := twoNodeRow.holds Try.pinned (OpenSpec.ofChange twoNodeWrong)

/-- 'quittancelaw18.TwoFlows': WHATEVER THE INPUT: true; the input reads as it did. -/
def twoFlowsSpec : ChangeSpec := { name := "twoFlows", fn := fun _ => fun
  | [d1, d2, d3, d4, d5, d6, d7] => { results := [.lit (.bool true)], args := [d1, d2, d3, d4, d5, d6, d7] }
  | _ => none }
def twoFlowsRow : OpenClaim := { program := "ytpnohbdfgmjdbaa", sum := "17d018c7eef8cfe8cad44a99639831f560e6b61866b2f3400b73d4521772e50f", func := "quittance/quittancelaw18.TwoFlows", spec := "twoFlows", inPlace := ["math/bits.Add64", "math/bits.Sub64"], unfollowed := true, recurses := true, apart := false }
def TwoFlowsSaid : Prop := twoFlowsRow.holds Try.pinned (OpenSpec.ofChange twoFlowsSpec)

/-- ITS FALSE NEIGHBOUR: 'it returns false'. Refute it at one input. -/
def twoFlowsWrong : ChangeSpec := { name := "twoFlows", fn := fun _ => fun
  | [d1, d2, d3, d4, d5, d6, d7] => { results := [.lit (.bool false)], args := [d1, d2, d3, d4, d5, d6, d7] }
  | _ => none }
def TwoFlowsWrongFalsely : Prop := twoFlowsRow.holds Try.pinned (OpenSpec.ofChange twoFlowsWrong)

/- THE SECOND FORM. 'bulk': how many values and letters a reading holds, each counted each time it is reached (what is shared counts as often as it is met; a slice's spare places count too). A statement '..UptoSaid' is the law's where the arguments, and the package variables that the reading takes, are together of bulk at most 1048576: NARROWER than '..Said'. Prove '..Said' where nothing that the law and all that it calls make is longer than what came in: it says more and counts as full. Else prove '..UptoSaid'. A law counts once. -/
mutual
def uptoBulk {H : Type} : DataW H → Nat
  | .lit (.string bytes) => bytes.length + 1
  | .lit _ => 1
  | .nil => 1
  | .ptr d => uptoBulk d + 1
  | .slice elems spare => uptoBulkAll elems + uptoBulkAll spare + 1
  | .agg parts => uptoBulkAll parts + 1
  | .iface _ d => uptoBulk d + 1
  | .map entries => uptoBulkEntries entries + 1
  | .held _ => 1
def uptoBulkAll {H : Type} : List (DataW H) → Nat
  | [] => 0
  | d :: r => uptoBulk d + uptoBulkAll r
def uptoBulkEntries {H : Type} : List (Lit × DataW H) → Nat
  | [] => 0
  | x :: r => uptoBulkEntry x + uptoBulkEntries r
def uptoBulkEntry {H : Type} : Lit × DataW H → Nat
  | (.string bytes, d) => bytes.length + uptoBulk d + 1
  | (_, d) => uptoBulk d + 1
 end
def uptoSmall : (H : Type) → List (DataW H) → Bool := fun _ ds => decide (uptoBulkAll ds ≤ 1048576)
def OpenSpec.upto (s : _root_.Go.ChangeSpec) : _root_.Go.OpenSpec := { _root_.Go.OpenSpec.ofChange s with cond := some uptoSmall }

/-- 'quittancelaw18.TwoBounds', WHERE WHAT IT READS IS OF BULK AT MOST 1048576: true; the input reads as it did. -/
def twoBoundsUptoRow : OpenClaim := { program := "ytpnohbdfgmjdbaa", sum := "17d018c7eef8cfe8cad44a99639831f560e6b61866b2f3400b73d4521772e50f", func := "quittance/quittancelaw18.TwoBounds", spec := "twoBounds", unfollowed := true, recurses := true, apart := false, narrowed := true }
def TwoBoundsUptoSaid : Prop := twoBoundsUptoRow.holds Try.pinned (OpenSpec.upto twoBoundsSpec)

/-- 'quittancelaw18.TwoChain', WHERE WHAT IT READS IS OF BULK AT MOST 1048576: true; the input reads as it did. -/
def twoChainUptoRow : OpenClaim := { program := "ytpnohbdfgmjdbaa", sum := "17d018c7eef8cfe8cad44a99639831f560e6b61866b2f3400b73d4521772e50f", func := "quittance/quittancelaw18.TwoChain", spec := "twoChain", unfollowed := true, recurses := true, apart := false, narrowed := true }
def TwoChainUptoSaid : Prop := twoChainUptoRow.holds Try.pinned (OpenSpec.upto twoChainSpec)

/-- 'quittancelaw18.TwoNever', WHERE WHAT IT READS IS OF BULK AT MOST 1048576: true; the input reads as it did. -/
def twoNeverUptoRow : OpenClaim := { program := "ytpnohbdfgmjdbaa", sum := "17d018c7eef8cfe8cad44a99639831f560e6b61866b2f3400b73d4521772e50f", func := "quittance/quittancelaw18.TwoNever", spec := "twoNever", unfollowed := true, recurses := true, apart := false, narrowed := true }
def TwoNeverUptoSaid : Prop := twoNeverUptoRow.holds Try.pinned (OpenSpec.upto twoNeverSpec)

/-- 'quittancelaw18.TwoLess', WHERE WHAT IT READS IS OF BULK AT MOST 1048576: true; the input reads as it did. -/
def twoLessUptoRow : OpenClaim := { program := "ytpnohbdfgmjdbaa", sum := "17d018c7eef8cfe8cad44a99639831f560e6b61866b2f3400b73d4521772e50f", func := "quittance/quittancelaw18.TwoLess", spec := "twoLess", unfollowed := true, recurses := true, apart := false, narrowed := true }
def TwoLessUptoSaid : Prop := twoLessUptoRow.holds Try.pinned (OpenSpec.upto twoLessSpec)

/-- 'quittancelaw18.TwoNode', WHERE WHAT IT READS IS OF BULK AT MOST 1048576: true; the input reads as it did. -/
def twoNodeUptoRow : OpenClaim := { program := "ytpnohbdfgmjdbaa", sum := "17d018c7eef8cfe8cad44a99639831f560e6b61866b2f3400b73d4521772e50f", func := "quittance/quittancelaw18.TwoNode", spec := "twoNode", inPlace := ["math/bits.Add64", "math/bits.Sub64"], unfollowed := true, recurses := true, apart := false, narrowed := true }
def TwoNodeUptoSaid : Prop := twoNodeUptoRow.holds Try.pinned (OpenSpec.upto twoNodeSpec)

/-- 'quittancelaw18.TwoFlows', WHERE WHAT IT READS IS OF BULK AT MOST 1048576: true; the input reads as it did. -/
def twoFlowsUptoRow : OpenClaim := { program := "ytpnohbdfgmjdbaa", sum := "17d018c7eef8cfe8cad44a99639831f560e6b61866b2f3400b73d4521772e50f", func := "quittance/quittancelaw18.TwoFlows", spec := "twoFlows", inPlace := ["math/bits.Add64", "math/bits.Sub64"], unfollowed := true, recurses := true, apart := false, narrowed := true }
def TwoFlowsUptoSaid : Prop := twoFlowsUptoRow.holds Try.pinned (OpenSpec.upto twoFlowsSpec)

end Rows
end Go.Proofs.Ytpnohbdfgmjdbaa
