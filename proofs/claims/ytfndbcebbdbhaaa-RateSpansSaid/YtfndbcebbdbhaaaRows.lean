/-
  No cell of these rows narrows 'for every input' (looked for: loops, veiled, ifaces, maps, wideKeys, modest, calm, conditions, laid).
  DERIVED. THE GIVEN ROWS OF THIS SEAT. 4 by the template 'for every input the law returns true; each argument reads behind the call as it read before'; 0 by the template 'total and deterministic' (their statements: YtfndbcebbdbhaaaTotals.lean).
  GIVEN WITH THE SEED: the statements are not yours to turn. If you find one false, say at which input.
  Laid BY PROGRAM, IN A SANDBOX (cutbox-rows.mjs): the forced cells as the released guide's own fill.sh prints them over the translation e0cdce8b41f4d482… (all of the seat's roots in one cut). By AI agents, Wed Nov 11 2026. No macro, syntax, notation, axiom, sorry.
-/
import Derived.Test.YtfndbcebbdbhaaaChecked
import GoSem.Claim
import GoSem.ClaimJoined
import GoSem.ClaimMapViews
import Derived.JoinedTies
import Derived.KernelRfl
namespace Go.Proofs.Ytfndbcebbdbhaaa
/- THE CELL 'sum', in the pinned program and in every row, IS THE sha256 OF THE DUMP (.gsa) THAT YtfndbcebbdbhaaaProg.lean LOADS. Nothing in Lean hashes anything: it is a label: what it is worth is what the hold of that sum in a sandbox is worth. -/
noncomputable def Try.pinned : Pinned := { name := "ytfndbcebbdbhaaa", sum := "e0cdce8b41f4d4827ecc4ad2e63e8a5fb5645aede24ff44d55a09b360485bd43", checked := Try.checked }
namespace Rows
def none {H : Type} : Left H := { results := [], args := [] }

/-- 'checkrolllaw26.RateRight': WHATEVER THE INPUT: true; the input reads as it did. -/
def rateRightSpec : ChangeSpec := { name := "rateRight", fn := fun _ => fun
  | [d1, d2, d3, d4] => { results := [.lit (.bool true)], args := [d1, d2, d3, d4] }
  | _ => none }
def rateRightRow : OpenClaim := { program := "ytfndbcebbdbhaaa", sum := "e0cdce8b41f4d4827ecc4ad2e63e8a5fb5645aede24ff44d55a09b360485bd43", func := "checkroll/checkrolllaw26.RateRight", spec := "rateRight", apart := false }
def RateRightSaid : Prop := rateRightRow.holds Try.pinned (OpenSpec.ofChange rateRightSpec)

/-- ITS FALSE NEIGHBOUR: 'it returns false'. Refute it at one input. -/
def rateRightWrong : ChangeSpec := { name := "rateRight", fn := fun _ => fun
  | [d1, d2, d3, d4] => { results := [.lit (.bool false)], args := [d1, d2, d3, d4] }
  | _ => none }
def RateRightWrongFalsely : Prop := rateRightRow.holds Try.pinned (OpenSpec.ofChange rateRightWrong)

/-- 'checkrolllaw26.RateNext': WHATEVER THE INPUT: true; the input reads as it did. -/
def rateNextSpec : ChangeSpec := { name := "rateNext", fn := fun _ => fun
  | [d1, d2, d3] => { results := [.lit (.bool true)], args := [d1, d2, d3] }
  | _ => none }
def rateNextRow : OpenClaim := { program := "ytfndbcebbdbhaaa", sum := "e0cdce8b41f4d4827ecc4ad2e63e8a5fb5645aede24ff44d55a09b360485bd43", func := "checkroll/checkrolllaw26.RateNext", spec := "rateNext", apart := false }
def RateNextSaid : Prop := rateNextRow.holds Try.pinned (OpenSpec.ofChange rateNextSpec)

/-- ITS FALSE NEIGHBOUR: 'it returns false'. Refute it at one input. -/
def rateNextWrong : ChangeSpec := { name := "rateNext", fn := fun _ => fun
  | [d1, d2, d3] => { results := [.lit (.bool false)], args := [d1, d2, d3] }
  | _ => none }
def RateNextWrongFalsely : Prop := rateNextRow.holds Try.pinned (OpenSpec.ofChange rateNextWrong)

/-- 'checkrolllaw26.RateSpans': WHATEVER THE INPUT: true; the input reads as it did. -/
def rateSpansSpec : ChangeSpec := { name := "rateSpans", fn := fun _ => fun
  | [d1, d2, d3] => { results := [.lit (.bool true)], args := [d1, d2, d3] }
  | _ => none }
def rateSpansRow : OpenClaim := { program := "ytfndbcebbdbhaaa", sum := "e0cdce8b41f4d4827ecc4ad2e63e8a5fb5645aede24ff44d55a09b360485bd43", func := "checkroll/checkrolllaw26.RateSpans", spec := "rateSpans", apart := false }
def RateSpansSaid : Prop := rateSpansRow.holds Try.pinned (OpenSpec.ofChange rateSpansSpec)

/-- ITS FALSE NEIGHBOUR: 'it returns false'. Refute it at one input. -/
def rateSpansWrong : ChangeSpec := { name := "rateSpans", fn := fun _ => fun
  | [d1, d2, d3] => { results := [.lit (.bool false)], args := [d1, d2, d3] }
  | _ => none }
def RateSpansWrongFalsely : Prop := rateSpansRow.holds Try.pinned (OpenSpec.ofChange rateSpansWrong)

/-- 'checkrolllaw26.RateAll': WHATEVER THE INPUT: true; the input reads as it did. -/
def rateAllSpec : ChangeSpec := { name := "rateAll", fn := fun _ => fun
  | [d1, d2, d3] => { results := [.lit (.bool true)], args := [d1, d2, d3] }
  | _ => none }
def rateAllRow : OpenClaim := { program := "ytfndbcebbdbhaaa", sum := "e0cdce8b41f4d4827ecc4ad2e63e8a5fb5645aede24ff44d55a09b360485bd43", func := "checkroll/checkrolllaw26.RateAll", spec := "rateAll", apart := false }
def RateAllSaid : Prop := rateAllRow.holds Try.pinned (OpenSpec.ofChange rateAllSpec)

/-- ITS FALSE NEIGHBOUR: 'it returns false'. Refute it at one input. -/
def rateAllWrong : ChangeSpec := { name := "rateAll", fn := fun _ => fun
  | [d1, d2, d3] => { results := [.lit (.bool false)], args := [d1, d2, d3] }
  | _ => none }
def RateAllWrongFalsely : Prop := rateAllRow.holds Try.pinned (OpenSpec.ofChange rateAllWrong)

/- THE SECOND FORM. 'bulk': how many values and letters a reading holds, each counted each time it is reached (what is shared counts as often as it is met; a slice's spare places count too). A statement '..UptoSaid' is the law's where the arguments, and the package variables that the reading takes, are together of bulk at most 1048576: NARROWER than '..Said'. Prove '..Said' where nothing that the law and all that it calls make is longer than what came in: it says more and counts as full. Else prove '..UptoSaid'. A law counts once. -/
mutual
def uptoBulk {H : Type} : DataW H → Nat
  | .lit (.string bytes) => bytes.length + 1
  | .lit _ => 1
  | .nil => 1
  | .ptr d => uptoBulk d + 1
  | .slice elems spare => uptoBulkAll elems + uptoBulkAll spare + 1
  | .agg parts => uptoBulkAll parts + 1
  | .iface _ d => uptoBulk d + 1
  | .map entries => uptoBulkEntries entries + 1
  | .held _ => 1
def uptoBulkAll {H : Type} : List (DataW H) → Nat
  | [] => 0
  | d :: r => uptoBulk d + uptoBulkAll r
def uptoBulkEntries {H : Type} : List (Lit × DataW H) → Nat
  | [] => 0
  | x :: r => uptoBulkEntry x + uptoBulkEntries r
def uptoBulkEntry {H : Type} : Lit × DataW H → Nat
  | (.string bytes, d) => bytes.length + uptoBulk d + 1
  | (_, d) => uptoBulk d + 1
 end
def uptoSmall : (H : Type) → List (DataW H) → Bool := fun _ ds => decide (uptoBulkAll ds ≤ 1048576)
def OpenSpec.upto (s : _root_.Go.ChangeSpec) : _root_.Go.OpenSpec := { _root_.Go.OpenSpec.ofChange s with cond := some uptoSmall }

/-- 'checkrolllaw26.RateRight', WHERE WHAT IT READS IS OF BULK AT MOST 1048576: true; the input reads as it did. -/
def rateRightUptoRow : OpenClaim := { program := "ytfndbcebbdbhaaa", sum := "e0cdce8b41f4d4827ecc4ad2e63e8a5fb5645aede24ff44d55a09b360485bd43", func := "checkroll/checkrolllaw26.RateRight", spec := "rateRight", apart := false, narrowed := true }
def RateRightUptoSaid : Prop := rateRightUptoRow.holds Try.pinned (OpenSpec.upto rateRightSpec)

/-- 'checkrolllaw26.RateNext', WHERE WHAT IT READS IS OF BULK AT MOST 1048576: true; the input reads as it did. -/
def rateNextUptoRow : OpenClaim := { program := "ytfndbcebbdbhaaa", sum := "e0cdce8b41f4d4827ecc4ad2e63e8a5fb5645aede24ff44d55a09b360485bd43", func := "checkroll/checkrolllaw26.RateNext", spec := "rateNext", apart := false, narrowed := true }
def RateNextUptoSaid : Prop := rateNextUptoRow.holds Try.pinned (OpenSpec.upto rateNextSpec)

/-- 'checkrolllaw26.RateSpans', WHERE WHAT IT READS IS OF BULK AT MOST 1048576: true; the input reads as it did. -/
def rateSpansUptoRow : OpenClaim := { program := "ytfndbcebbdbhaaa", sum := "e0cdce8b41f4d4827ecc4ad2e63e8a5fb5645aede24ff44d55a09b360485bd43", func := "checkroll/checkrolllaw26.RateSpans", spec := "rateSpans", apart := false, narrowed := true }
def RateSpansUptoSaid : Prop := rateSpansUptoRow.holds Try.pinned (OpenSpec.upto rateSpansSpec)

/-- 'checkrolllaw26.RateAll', WHERE WHAT IT READS IS OF BULK AT MOST 1048576: true; the input reads as it did. -/
def rateAllUptoRow : OpenClaim := { program := "ytfndbcebbdbhaaa", sum := "e0cdce8b41f4d4827ecc4ad2e63e8a5fb5645aede24ff44d55a09b360485bd43", func := "checkroll/checkrolllaw26.RateAll", spec := "rateAll", apart := false, narrowed := true }
def RateAllUptoSaid : Prop := rateAllUptoRow.holds Try.pinned (OpenSpec.upto rateAllSpec)

end Rows
end Go.Proofs.Ytfndbcebbdbhaaa
