/-
  No cell of these rows narrows 'for every input' (looked for: loops, veiled, ifaces, maps, wideKeys, modest, calm, conditions, laid).
  DERIVED. THE GIVEN ROWS OF THIS SEAT. 8 by the template 'for every input the law returns true; each argument reads behind the call as it read before'; 0 by the template 'total and deterministic' (their statements: YtogenggejmbhjaaTotals.lean).
  GIVEN WITH THE SEED: the statements are not yours to turn. If you find one false, say at which input.
  Laid BY PROGRAM, IN A SANDBOX (cutbox-rows.mjs): the forced cells as the released guide's own fill.sh prints them over the translation c1df2064b997c4dc… (all of the seat's roots in one cut). By AI agents, Wed Nov 11 2026. No macro, syntax, notation, axiom, sorry.
-/
import Derived.Test.YtogenggejmbhjaaChecked
import GoSem.Claim
import GoSem.ClaimJoined
import GoSem.ClaimMapViews
import Derived.JoinedTies
import Derived.KernelRfl
namespace Go.Proofs.Ytogenggejmbhjaa
/- THE CELL 'sum', in the pinned program and in every row, IS THE sha256 OF THE DUMP (.gsa) THAT YtogenggejmbhjaaProg.lean LOADS. Nothing in Lean hashes anything: it is a label: what it is worth is what the hold of that sum in a sandbox is worth. -/
noncomputable def Try.pinned : Pinned := { name := "ytogenggejmbhjaa", sum := "c1df2064b997c4dcf2e9b80bb1b53127ab6018718e442a2bea700dac9e5ad094", checked := Try.checked }
namespace Rows
def none {H : Type} : Left H := { results := [], args := [] }

/-- 'checkrolllaw14.MergeRight': WHATEVER THE INPUT: true; the input reads as it did. -/
def mergeRightSpec : ChangeSpec := { name := "mergeRight", fn := fun _ => fun
  | [d1, d2, d3] => { results := [.lit (.bool true)], args := [d1, d2, d3] }
  | _ => none }
def mergeRightRow : OpenClaim := { program := "ytogenggejmbhjaa", sum := "c1df2064b997c4dcf2e9b80bb1b53127ab6018718e442a2bea700dac9e5ad094", func := "checkroll/checkrolllaw14.MergeRight", spec := "mergeRight", inPlace := ["math/bits.Add64"], unfollowed := true, recurses := true, apart := false }
def MergeRightSaid : Prop := mergeRightRow.holds Try.pinned (OpenSpec.ofChange mergeRightSpec)

/-- ITS FALSE NEIGHBOUR: 'it returns false'. Refute it at one input. -/
def mergeRightWrong : ChangeSpec := { name := "mergeRight", fn := fun _ => fun
  | [d1, d2, d3] => { results := [.lit (.bool false)], args := [d1, d2, d3] }
  | _ => none }
def MergeRightWrongFalsely : Prop := mergeRightRow.holds Try.pinned (OpenSpec.ofChange mergeRightWrong)

/-- 'checkrolllaw14.MergeSums': WHATEVER THE INPUT: true; the input reads as it did. -/
def mergeSumsSpec : ChangeSpec := { name := "mergeSums", fn := fun _ => fun
  | [d1, d2] => { results := [.lit (.bool true)], args := [d1, d2] }
  | _ => none }
def mergeSumsRow : OpenClaim := { program := "ytogenggejmbhjaa", sum := "c1df2064b997c4dcf2e9b80bb1b53127ab6018718e442a2bea700dac9e5ad094", func := "checkroll/checkrolllaw14.MergeSums", spec := "mergeSums", inPlace := ["math/bits.Add64"], unfollowed := true, recurses := true, apart := false }
def MergeSumsSaid : Prop := mergeSumsRow.holds Try.pinned (OpenSpec.ofChange mergeSumsSpec)

/-- ITS FALSE NEIGHBOUR: 'it returns false'. Refute it at one input. -/
def mergeSumsWrong : ChangeSpec := { name := "mergeSums", fn := fun _ => fun
  | [d1, d2] => { results := [.lit (.bool false)], args := [d1, d2] }
  | _ => none }
def MergeSumsWrongFalsely : Prop := mergeSumsRow.holds Try.pinned (OpenSpec.ofChange mergeSumsWrong)

/-- 'checkrolllaw14.MergeParts': WHATEVER THE INPUT: true; the input reads as it did. -/
def mergePartsSpec : ChangeSpec := { name := "mergeParts", fn := fun _ => fun
  | [d1, d2] => { results := [.lit (.bool true)], args := [d1, d2] }
  | _ => none }
def mergePartsRow : OpenClaim := { program := "ytogenggejmbhjaa", sum := "c1df2064b997c4dcf2e9b80bb1b53127ab6018718e442a2bea700dac9e5ad094", func := "checkroll/checkrolllaw14.MergeParts", spec := "mergeParts", inPlace := ["math/bits.Add64"], unfollowed := true, recurses := true, apart := false }
def MergePartsSaid : Prop := mergePartsRow.holds Try.pinned (OpenSpec.ofChange mergePartsSpec)

/-- ITS FALSE NEIGHBOUR: 'it returns false'. Refute it at one input. -/
def mergePartsWrong : ChangeSpec := { name := "mergeParts", fn := fun _ => fun
  | [d1, d2] => { results := [.lit (.bool false)], args := [d1, d2] }
  | _ => none }
def MergePartsWrongFalsely : Prop := mergePartsRow.holds Try.pinned (OpenSpec.ofChange mergePartsWrong)

/-- 'checkrolllaw14.MergeNames': WHATEVER THE INPUT: true; the input reads as it did. -/
def mergeNamesSpec : ChangeSpec := { name := "mergeNames", fn := fun _ => fun
  | [d1, d2, d3] => { results := [.lit (.bool true)], args := [d1, d2, d3] }
  | _ => none }
def mergeNamesRow : OpenClaim := { program := "ytogenggejmbhjaa", sum := "c1df2064b997c4dcf2e9b80bb1b53127ab6018718e442a2bea700dac9e5ad094", func := "checkroll/checkrolllaw14.MergeNames", spec := "mergeNames", inPlace := ["math/bits.Add64"], unfollowed := true, recurses := true, apart := false }
def MergeNamesSaid : Prop := mergeNamesRow.holds Try.pinned (OpenSpec.ofChange mergeNamesSpec)

/-- ITS FALSE NEIGHBOUR: 'it returns false'. Refute it at one input. -/
def mergeNamesWrong : ChangeSpec := { name := "mergeNames", fn := fun _ => fun
  | [d1, d2, d3] => { results := [.lit (.bool false)], args := [d1, d2, d3] }
  | _ => none }
def MergeNamesWrongFalsely : Prop := mergeNamesRow.holds Try.pinned (OpenSpec.ofChange mergeNamesWrong)

/-- 'checkrolllaw17.LimitRight': WHATEVER THE INPUT: true; the input reads as it did. -/
def limitRightSpec : ChangeSpec := { name := "limitRight", fn := fun _ => fun
  | [d1, d2, d3, d4] => { results := [.lit (.bool true)], args := [d1, d2, d3, d4] }
  | _ => none }
def limitRightRow : OpenClaim := { program := "ytogenggejmbhjaa", sum := "c1df2064b997c4dcf2e9b80bb1b53127ab6018718e442a2bea700dac9e5ad094", func := "checkroll/checkrolllaw17.LimitRight", spec := "limitRight", inPlace := ["slices.overlaps[checkroll/api.Limit]"], unfollowed := true, recurses := true, apart := false }
def LimitRightSaid : Prop := limitRightRow.holds Try.pinned (OpenSpec.ofChange limitRightSpec)

/-- ITS FALSE NEIGHBOUR: 'it returns false'. Refute it at one input. -/
def limitRightWrong : ChangeSpec := { name := "limitRight", fn := fun _ => fun
  | [d1, d2, d3, d4] => { results := [.lit (.bool false)], args := [d1, d2, d3, d4] }
  | _ => none }
def LimitRightWrongFalsely : Prop := limitRightRow.holds Try.pinned (OpenSpec.ofChange limitRightWrong)

/-- 'checkrolllaw17.LimitSafe': WHATEVER THE INPUT: true; the input reads as it did. -/
def limitSafeSpec : ChangeSpec := { name := "limitSafe", fn := fun _ => fun
  | [d1, d2, d3, d4] => { results := [.lit (.bool true)], args := [d1, d2, d3, d4] }
  | _ => none }
def limitSafeRow : OpenClaim := { program := "ytogenggejmbhjaa", sum := "c1df2064b997c4dcf2e9b80bb1b53127ab6018718e442a2bea700dac9e5ad094", func := "checkroll/checkrolllaw17.LimitSafe", spec := "limitSafe", inPlace := ["slices.overlaps[checkroll/api.Limit]"], unfollowed := true, recurses := true, apart := false }
def LimitSafeSaid : Prop := limitSafeRow.holds Try.pinned (OpenSpec.ofChange limitSafeSpec)

/-- ITS FALSE NEIGHBOUR: 'it returns false'. Refute it at one input. -/
def limitSafeWrong : ChangeSpec := { name := "limitSafe", fn := fun _ => fun
  | [d1, d2, d3, d4] => { results := [.lit (.bool false)], args := [d1, d2, d3, d4] }
  | _ => none }
def LimitSafeWrongFalsely : Prop := limitSafeRow.holds Try.pinned (OpenSpec.ofChange limitSafeWrong)

/-- 'checkrolllaw17.LimitSets': WHATEVER THE INPUT: true; the input reads as it did. -/
def limitSetsSpec : ChangeSpec := { name := "limitSets", fn := fun _ => fun
  | [d1, d2, d3] => { results := [.lit (.bool true)], args := [d1, d2, d3] }
  | _ => none }
def limitSetsRow : OpenClaim := { program := "ytogenggejmbhjaa", sum := "c1df2064b997c4dcf2e9b80bb1b53127ab6018718e442a2bea700dac9e5ad094", func := "checkroll/checkrolllaw17.LimitSets", spec := "limitSets", inPlace := ["slices.overlaps[checkroll/api.Limit]"], unfollowed := true, recurses := true, apart := false }
def LimitSetsSaid : Prop := limitSetsRow.holds Try.pinned (OpenSpec.ofChange limitSetsSpec)

/-- ITS FALSE NEIGHBOUR: 'it returns false'. Refute it at one input. -/
def limitSetsWrong : ChangeSpec := { name := "limitSets", fn := fun _ => fun
  | [d1, d2, d3] => { results := [.lit (.bool false)], args := [d1, d2, d3] }
  | _ => none }
def LimitSetsWrongFalsely : Prop := limitSetsRow.holds Try.pinned (OpenSpec.ofChange limitSetsWrong)

/-- 'checkrolllaw17.LimitNone': WHATEVER THE INPUT: true; the input reads as it did. -/
def limitNoneSpec : ChangeSpec := { name := "limitNone", fn := fun _ => fun
  | [d1, d2, d3] => { results := [.lit (.bool true)], args := [d1, d2, d3] }
  | _ => none }
def limitNoneRow : OpenClaim := { program := "ytogenggejmbhjaa", sum := "c1df2064b997c4dcf2e9b80bb1b53127ab6018718e442a2bea700dac9e5ad094", func := "checkroll/checkrolllaw17.LimitNone", spec := "limitNone", inPlace := ["slices.overlaps[checkroll/api.Limit]"], unfollowed := true, recurses := true, apart := false }
def LimitNoneSaid : Prop := limitNoneRow.holds Try.pinned (OpenSpec.ofChange limitNoneSpec)

/-- ITS FALSE NEIGHBOUR: 'it returns false'. Refute it at one input. -/
def limitNoneWrong : ChangeSpec := { name := "limitNone", fn := fun _ => fun
  | [d1, d2, d3] => { results := [.lit (.bool false)], args := [d1, d2, d3] }
  | _ => none }
def LimitNoneWrongFalsely : Prop := limitNoneRow.holds Try.pinned (OpenSpec.ofChange limitNoneWrong)

/- THE SECOND FORM. 'bulk': how many values and letters a reading holds, each counted each time it is reached (what is shared counts as often as it is met; a slice's spare places count too). A statement '..UptoSaid' is the law's where the arguments, and the package variables that the reading takes, are together of bulk at most 1048576: NARROWER than '..Said'. Prove '..Said' where nothing that the law and all that it calls make is longer than what came in: it says more and counts as full. Else prove '..UptoSaid'. A law counts once. -/
mutual
def uptoBulk {H : Type} : DataW H → Nat
  | .lit (.string bytes) => bytes.length + 1
  | .lit _ => 1
  | .nil => 1
  | .ptr d => uptoBulk d + 1
  | .slice elems spare => uptoBulkAll elems + uptoBulkAll spare + 1
  | .agg parts => uptoBulkAll parts + 1
  | .iface _ d => uptoBulk d + 1
  | .map entries => uptoBulkEntries entries + 1
  | .held _ => 1
def uptoBulkAll {H : Type} : List (DataW H) → Nat
  | [] => 0
  | d :: r => uptoBulk d + uptoBulkAll r
def uptoBulkEntries {H : Type} : List (Lit × DataW H) → Nat
  | [] => 0
  | x :: r => uptoBulkEntry x + uptoBulkEntries r
def uptoBulkEntry {H : Type} : Lit × DataW H → Nat
  | (.string bytes, d) => bytes.length + uptoBulk d + 1
  | (_, d) => uptoBulk d + 1
 end
def uptoSmall : (H : Type) → List (DataW H) → Bool := fun _ ds => decide (uptoBulkAll ds ≤ 1048576)
def OpenSpec.upto (s : _root_.Go.ChangeSpec) : _root_.Go.OpenSpec := { _root_.Go.OpenSpec.ofChange s with cond := some uptoSmall }

/-- 'checkrolllaw14.MergeRight', WHERE WHAT IT READS IS OF BULK AT MOST 1048576: true; the input reads as it did. -/
def mergeRightUptoRow : OpenClaim := { program := "ytogenggejmbhjaa", sum := "c1df2064b997c4dcf2e9b80bb1b53127ab6018718e442a2bea700dac9e5ad094", func := "checkroll/checkrolllaw14.MergeRight", spec := "mergeRight", inPlace := ["math/bits.Add64"], unfollowed := true, recurses := true, apart := false, narrowed := true }
def MergeRightUptoSaid : Prop := mergeRightUptoRow.holds Try.pinned (OpenSpec.upto mergeRightSpec)

/-- 'checkrolllaw14.MergeSums', WHERE WHAT IT READS IS OF BULK AT MOST 1048576: true; the input reads as it did. -/
def mergeSumsUptoRow : OpenClaim := { program := "ytogenggejmbhjaa", sum := "c1df2064b997c4dcf2e9b80bb1b53127ab6018718e442a2bea700dac9e5ad094", func := "checkroll/checkrolllaw14.MergeSums", spec := "mergeSums", inPlace := ["math/bits.Add64"], unfollowed := true, recurses := true, apart := false, narrowed := true }
def MergeSumsUptoSaid : Prop := mergeSumsUptoRow.holds Try.pinned (OpenSpec.upto mergeSumsSpec)

/-- 'checkrolllaw14.MergeParts', WHERE WHAT IT READS IS OF BULK AT MOST 1048576: true; the input reads as it did. -/
def mergePartsUptoRow : OpenClaim := { program := "ytogenggejmbhjaa", sum := "c1df2064b997c4dcf2e9b80bb1b53127ab6018718e442a2bea700dac9e5ad094", func := "checkroll/checkrolllaw14.MergeParts", spec := "mergeParts", inPlace := ["math/bits.Add64"], unfollowed := true, recurses := true, apart := false, narrowed := true }
def MergePartsUptoSaid : Prop := mergePartsUptoRow.holds Try.pinned (OpenSpec.upto mergePartsSpec)

/-- 'checkrolllaw14.MergeNames', WHERE WHAT IT READS IS OF BULK AT MOST 1048576: true; the input reads as it did. -/
def mergeNamesUptoRow : OpenClaim := { program := "ytogenggejmbhjaa", sum := "c1df2064b997c4dcf2e9b80bb1b53127ab6018718e442a2bea700dac9e5ad094", func := "checkroll/checkrolllaw14.MergeNames", spec := "mergeNames", inPlace := ["math/bits.Add64"], unfollowed := true, recurses := true, apart := false, narrowed := true }
def MergeNamesUptoSaid : Prop := mergeNamesUptoRow.holds Try.pinned (OpenSpec.upto mergeNamesSpec)

/-- 'checkrolllaw17.LimitRight', WHERE WHAT IT READS IS OF BULK AT MOST 1048576: true; the input reads as it did. -/
def limitRightUptoRow : OpenClaim := { program := "ytogenggejmbhjaa", sum := "c1df2064b997c4dcf2e9b80bb1b53127ab6018718e442a2bea700dac9e5ad094", func := "checkroll/checkrolllaw17.LimitRight", spec := "limitRight", inPlace := ["slices.overlaps[checkroll/api.Limit]"], unfollowed := true, recurses := true, apart := false, narrowed := true }
def LimitRightUptoSaid : Prop := limitRightUptoRow.holds Try.pinned (OpenSpec.upto limitRightSpec)

/-- 'checkrolllaw17.LimitSafe', WHERE WHAT IT READS IS OF BULK AT MOST 1048576: true; the input reads as it did. -/
def limitSafeUptoRow : OpenClaim := { program := "ytogenggejmbhjaa", sum := "c1df2064b997c4dcf2e9b80bb1b53127ab6018718e442a2bea700dac9e5ad094", func := "checkroll/checkrolllaw17.LimitSafe", spec := "limitSafe", inPlace := ["slices.overlaps[checkroll/api.Limit]"], unfollowed := true, recurses := true, apart := false, narrowed := true }
def LimitSafeUptoSaid : Prop := limitSafeUptoRow.holds Try.pinned (OpenSpec.upto limitSafeSpec)

/-- 'checkrolllaw17.LimitSets', WHERE WHAT IT READS IS OF BULK AT MOST 1048576: true; the input reads as it did. -/
def limitSetsUptoRow : OpenClaim := { program := "ytogenggejmbhjaa", sum := "c1df2064b997c4dcf2e9b80bb1b53127ab6018718e442a2bea700dac9e5ad094", func := "checkroll/checkrolllaw17.LimitSets", spec := "limitSets", inPlace := ["slices.overlaps[checkroll/api.Limit]"], unfollowed := true, recurses := true, apart := false, narrowed := true }
def LimitSetsUptoSaid : Prop := limitSetsUptoRow.holds Try.pinned (OpenSpec.upto limitSetsSpec)

/-- 'checkrolllaw17.LimitNone', WHERE WHAT IT READS IS OF BULK AT MOST 1048576: true; the input reads as it did. -/
def limitNoneUptoRow : OpenClaim := { program := "ytogenggejmbhjaa", sum := "c1df2064b997c4dcf2e9b80bb1b53127ab6018718e442a2bea700dac9e5ad094", func := "checkroll/checkrolllaw17.LimitNone", spec := "limitNone", inPlace := ["slices.overlaps[checkroll/api.Limit]"], unfollowed := true, recurses := true, apart := false, narrowed := true }
def LimitNoneUptoSaid : Prop := limitNoneUptoRow.holds Try.pinned (OpenSpec.upto limitNoneSpec)

end Rows
end Go.Proofs.Ytogenggejmbhjaa
