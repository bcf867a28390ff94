/-
  No cell of these rows narrows 'for every input' (looked for: loops, veiled, ifaces, maps, wideKeys, modest, calm, conditions, laid).
  DERIVED. THE GIVEN ROWS OF THIS SEAT. 7 by the template 'for every input the law returns true; each argument reads behind the call as it read before'; 0 by the template 'total and deterministic' (their statements: YtpmammacnoamkaaTotals.lean).
  GIVEN WITH THE SEED: the statements are not yours to turn. If you find one false, say at which input.
  Laid BY PROGRAM, IN A SANDBOX (cutbox-rows.mjs): the forced cells as the released guide's own fill.sh prints them over the translation 216690d2fe4f3c5b… (all of the seat's roots in one cut). By AI agents, Wed Nov 11 2026. No macro, syntax, notation, axiom, sorry.
-/
import Derived.Test.YtpmammacnoamkaaChecked
import GoSem.Claim
import GoSem.ClaimJoined
import GoSem.ClaimMapViews
import Derived.JoinedTies
import Derived.KernelRfl
namespace Go.Proofs.Ytpmammacnoamkaa
/- THE CELL 'sum', in the pinned program and in every row, IS THE sha256 OF THE DUMP (.gsa) THAT YtpmammacnoamkaaProg.lean LOADS. Nothing in Lean hashes anything: it is a label: what it is worth is what the hold of that sum in a sandbox is worth. -/
noncomputable def Try.pinned : Pinned := { name := "ytpmammacnoamkaa", sum := "216690d2fe4f3c5b0eb89ab2aeffee859f90f4da0c7320bb0576ecaa86ba9c3e", checked := Try.checked }
namespace Rows
def none {H : Type} : Left H := { results := [], args := [] }

/-- 'checkrolllaw06.ReseqOrder': WHATEVER THE INPUT: true; the input reads as it did. -/
def reseqOrderSpec : ChangeSpec := { name := "reseqOrder", fn := fun _ => fun
  | [d] => { results := [.lit (.bool true)], args := [d] }
  | _ => none }
def reseqOrderRow : OpenClaim := { program := "ytpmammacnoamkaa", sum := "216690d2fe4f3c5b0eb89ab2aeffee859f90f4da0c7320bb0576ecaa86ba9c3e", func := "checkroll/checkrolllaw06.ReseqOrder", spec := "reseqOrder", inPlace := ["slices.overlaps[checkroll/api.Item]"], apart := false }
def ReseqOrderSaid : Prop := reseqOrderRow.holds Try.pinned (OpenSpec.ofChange reseqOrderSpec)

/-- ITS FALSE NEIGHBOUR: 'it returns false'. Refute it at one input. -/
def reseqOrderWrong : ChangeSpec := { name := "reseqOrder", fn := fun _ => fun
  | [d] => { results := [.lit (.bool false)], args := [d] }
  | _ => none }
def ReseqOrderWrongFalsely : Prop := reseqOrderRow.holds Try.pinned (OpenSpec.ofChange reseqOrderWrong)

/-- 'checkrolllaw06.ReseqHoles': WHATEVER THE INPUT: true; the input reads as it did. -/
def reseqHolesSpec : ChangeSpec := { name := "reseqHoles", fn := fun _ => fun
  | [d1, d2] => { results := [.lit (.bool true)], args := [d1, d2] }
  | _ => none }
def reseqHolesRow : OpenClaim := { program := "ytpmammacnoamkaa", sum := "216690d2fe4f3c5b0eb89ab2aeffee859f90f4da0c7320bb0576ecaa86ba9c3e", func := "checkroll/checkrolllaw06.ReseqHoles", spec := "reseqHoles", inPlace := ["slices.overlaps[checkroll/api.Item]"], apart := false }
def ReseqHolesSaid : Prop := reseqHolesRow.holds Try.pinned (OpenSpec.ofChange reseqHolesSpec)

/-- ITS FALSE NEIGHBOUR: 'it returns false'. Refute it at one input. -/
def reseqHolesWrong : ChangeSpec := { name := "reseqHoles", fn := fun _ => fun
  | [d1, d2] => { results := [.lit (.bool false)], args := [d1, d2] }
  | _ => none }
def ReseqHolesWrongFalsely : Prop := reseqHolesRow.holds Try.pinned (OpenSpec.ofChange reseqHolesWrong)

/-- 'checkrolllaw06.ReseqRoom': WHATEVER THE INPUT: true; the input reads as it did. -/
def reseqRoomSpec : ChangeSpec := { name := "reseqRoom", fn := fun _ => fun
  | [d1, d2, d3] => { results := [.lit (.bool true)], args := [d1, d2, d3] }
  | _ => none }
def reseqRoomRow : OpenClaim := { program := "ytpmammacnoamkaa", sum := "216690d2fe4f3c5b0eb89ab2aeffee859f90f4da0c7320bb0576ecaa86ba9c3e", func := "checkroll/checkrolllaw06.ReseqRoom", spec := "reseqRoom", inPlace := ["slices.overlaps[checkroll/api.Item]"], apart := false }
def ReseqRoomSaid : Prop := reseqRoomRow.holds Try.pinned (OpenSpec.ofChange reseqRoomSpec)

/-- ITS FALSE NEIGHBOUR: 'it returns false'. Refute it at one input. -/
def reseqRoomWrong : ChangeSpec := { name := "reseqRoom", fn := fun _ => fun
  | [d1, d2, d3] => { results := [.lit (.bool false)], args := [d1, d2, d3] }
  | _ => none }
def ReseqRoomWrongFalsely : Prop := reseqRoomRow.holds Try.pinned (OpenSpec.ofChange reseqRoomWrong)

/-- 'checkrolllaw07.SessFills': WHATEVER THE INPUT: true; the input reads as it did. -/
def sessFillsSpec : ChangeSpec := { name := "sessFills", fn := fun _ => fun
  | [d1, d2] => { results := [.lit (.bool true)], args := [d1, d2] }
  | _ => none }
def sessFillsRow : OpenClaim := { program := "ytpmammacnoamkaa", sum := "216690d2fe4f3c5b0eb89ab2aeffee859f90f4da0c7320bb0576ecaa86ba9c3e", func := "checkroll/checkrolllaw07.SessFills", spec := "sessFills", inPlace := ["internal/bytealg.IndexByteString", "slices.overlaps[checkroll/api.Item]"], apart := false }
def SessFillsSaid : Prop := sessFillsRow.holds Try.pinned (OpenSpec.ofChange sessFillsSpec)

/-- ITS FALSE NEIGHBOUR: 'it returns false'. Refute it at one input. -/
def sessFillsWrong : ChangeSpec := { name := "sessFills", fn := fun _ => fun
  | [d1, d2] => { results := [.lit (.bool false)], args := [d1, d2] }
  | _ => none }
def SessFillsWrongFalsely : Prop := sessFillsRow.holds Try.pinned (OpenSpec.ofChange sessFillsWrong)

/-- 'checkrolllaw07.SessKeeps': WHATEVER THE INPUT: true; the input reads as it did. -/
def sessKeepsSpec : ChangeSpec := { name := "sessKeeps", fn := fun _ => fun
  | [d1, d2] => { results := [.lit (.bool true)], args := [d1, d2] }
  | _ => none }
def sessKeepsRow : OpenClaim := { program := "ytpmammacnoamkaa", sum := "216690d2fe4f3c5b0eb89ab2aeffee859f90f4da0c7320bb0576ecaa86ba9c3e", func := "checkroll/checkrolllaw07.SessKeeps", spec := "sessKeeps", inPlace := ["internal/bytealg.IndexByteString", "slices.overlaps[checkroll/api.Item]"], apart := false }
def SessKeepsSaid : Prop := sessKeepsRow.holds Try.pinned (OpenSpec.ofChange sessKeepsSpec)

/-- ITS FALSE NEIGHBOUR: 'it returns false'. Refute it at one input. -/
def sessKeepsWrong : ChangeSpec := { name := "sessKeeps", fn := fun _ => fun
  | [d1, d2] => { results := [.lit (.bool false)], args := [d1, d2] }
  | _ => none }
def SessKeepsWrongFalsely : Prop := sessKeepsRow.holds Try.pinned (OpenSpec.ofChange sessKeepsWrong)

/-- 'checkrolllaw07.SessLost': WHATEVER THE INPUT: true; the input reads as it did. -/
def sessLostSpec : ChangeSpec := { name := "sessLost", fn := fun _ => fun
  | [d1, d2] => { results := [.lit (.bool true)], args := [d1, d2] }
  | _ => none }
def sessLostRow : OpenClaim := { program := "ytpmammacnoamkaa", sum := "216690d2fe4f3c5b0eb89ab2aeffee859f90f4da0c7320bb0576ecaa86ba9c3e", func := "checkroll/checkrolllaw07.SessLost", spec := "sessLost", inPlace := ["internal/bytealg.IndexByteString", "slices.overlaps[checkroll/api.Item]"], apart := false }
def SessLostSaid : Prop := sessLostRow.holds Try.pinned (OpenSpec.ofChange sessLostSpec)

/-- ITS FALSE NEIGHBOUR: 'it returns false'. Refute it at one input. -/
def sessLostWrong : ChangeSpec := { name := "sessLost", fn := fun _ => fun
  | [d1, d2] => { results := [.lit (.bool false)], args := [d1, d2] }
  | _ => none }
def SessLostWrongFalsely : Prop := sessLostRow.holds Try.pinned (OpenSpec.ofChange sessLostWrong)

/-- 'checkrolllaw07.SessOrder': WHATEVER THE INPUT: true; the input reads as it did. -/
def sessOrderSpec : ChangeSpec := { name := "sessOrder", fn := fun _ => fun
  | [d1, d2] => { results := [.lit (.bool true)], args := [d1, d2] }
  | _ => none }
def sessOrderRow : OpenClaim := { program := "ytpmammacnoamkaa", sum := "216690d2fe4f3c5b0eb89ab2aeffee859f90f4da0c7320bb0576ecaa86ba9c3e", func := "checkroll/checkrolllaw07.SessOrder", spec := "sessOrder", inPlace := ["internal/bytealg.IndexByteString", "slices.overlaps[checkroll/api.Item]"], apart := false }
def SessOrderSaid : Prop := sessOrderRow.holds Try.pinned (OpenSpec.ofChange sessOrderSpec)

/-- ITS FALSE NEIGHBOUR: 'it returns false'. Refute it at one input. -/
def sessOrderWrong : ChangeSpec := { name := "sessOrder", fn := fun _ => fun
  | [d1, d2] => { results := [.lit (.bool false)], args := [d1, d2] }
  | _ => none }
def SessOrderWrongFalsely : Prop := sessOrderRow.holds Try.pinned (OpenSpec.ofChange sessOrderWrong)

/- THE SECOND FORM. 'bulk': how many values and letters a reading holds, each counted each time it is reached (what is shared counts as often as it is met; a slice's spare places count too). A statement '..UptoSaid' is the law's where the arguments, and the package variables that the reading takes, are together of bulk at most 1048576: NARROWER than '..Said'. Prove '..Said' where nothing that the law and all that it calls make is longer than what came in: it says more and counts as full. Else prove '..UptoSaid'. A law counts once. -/
mutual
def uptoBulk {H : Type} : DataW H → Nat
  | .lit (.string bytes) => bytes.length + 1
  | .lit _ => 1
  | .nil => 1
  | .ptr d => uptoBulk d + 1
  | .slice elems spare => uptoBulkAll elems + uptoBulkAll spare + 1
  | .agg parts => uptoBulkAll parts + 1
  | .iface _ d => uptoBulk d + 1
  | .map entries => uptoBulkEntries entries + 1
  | .held _ => 1
def uptoBulkAll {H : Type} : List (DataW H) → Nat
  | [] => 0
  | d :: r => uptoBulk d + uptoBulkAll r
def uptoBulkEntries {H : Type} : List (Lit × DataW H) → Nat
  | [] => 0
  | x :: r => uptoBulkEntry x + uptoBulkEntries r
def uptoBulkEntry {H : Type} : Lit × DataW H → Nat
  | (.string bytes, d) => bytes.length + uptoBulk d + 1
  | (_, d) => uptoBulk d + 1
 end
def uptoSmall : (H : Type) → List (DataW H) → Bool := fun _ ds => decide (uptoBulkAll ds ≤ 1048576)
def OpenSpec.upto (s : _root_.Go.ChangeSpec) : _root_.Go.OpenSpec := { _root_.Go.OpenSpec.ofChange s with cond := some uptoSmall }

/-- 'checkrolllaw06.ReseqOrder', WHERE WHAT IT READS IS OF BULK AT MOST 1048576: true; the input reads as it did. -/
def reseqOrderUptoRow : OpenClaim := { program := "ytpmammacnoamkaa", sum := "216690d2fe4f3c5b0eb89ab2aeffee859f90f4da0c7320bb0576ecaa86ba9c3e", func := "checkroll/checkrolllaw06.ReseqOrder", spec := "reseqOrder", inPlace := ["slices.overlaps[checkroll/api.Item]"], apart := false, narrowed := true }
def ReseqOrderUptoSaid : Prop := reseqOrderUptoRow.holds Try.pinned (OpenSpec.upto reseqOrderSpec)

/-- 'checkrolllaw06.ReseqHoles', WHERE WHAT IT READS IS OF BULK AT MOST 1048576: true; the input reads as it did. -/
def reseqHolesUptoRow : OpenClaim := { program := "ytpmammacnoamkaa", sum := "216690d2fe4f3c5b0eb89ab2aeffee859f90f4da0c7320bb0576ecaa86ba9c3e", func := "checkroll/checkrolllaw06.ReseqHoles", spec := "reseqHoles", inPlace := ["slices.overlaps[checkroll/api.Item]"], apart := false, narrowed := true }
def ReseqHolesUptoSaid : Prop := reseqHolesUptoRow.holds Try.pinned (OpenSpec.upto reseqHolesSpec)

/-- 'checkrolllaw06.ReseqRoom', WHERE WHAT IT READS IS OF BULK AT MOST 1048576: true; the input reads as it did. -/
def reseqRoomUptoRow : OpenClaim := { program := "ytpmammacnoamkaa", sum := "216690d2fe4f3c5b0eb89ab2aeffee859f90f4da0c7320bb0576ecaa86ba9c3e", func := "checkroll/checkrolllaw06.ReseqRoom", spec := "reseqRoom", inPlace := ["slices.overlaps[checkroll/api.Item]"], apart := false, narrowed := true }
def ReseqRoomUptoSaid : Prop := reseqRoomUptoRow.holds Try.pinned (OpenSpec.upto reseqRoomSpec)

/-- 'checkrolllaw07.SessFills', WHERE WHAT IT READS IS OF BULK AT MOST 1048576: true; the input reads as it did. -/
def sessFillsUptoRow : OpenClaim := { program := "ytpmammacnoamkaa", sum := "216690d2fe4f3c5b0eb89ab2aeffee859f90f4da0c7320bb0576ecaa86ba9c3e", func := "checkroll/checkrolllaw07.SessFills", spec := "sessFills", inPlace := ["internal/bytealg.IndexByteString", "slices.overlaps[checkroll/api.Item]"], apart := false, narrowed := true }
def SessFillsUptoSaid : Prop := sessFillsUptoRow.holds Try.pinned (OpenSpec.upto sessFillsSpec)

/-- 'checkrolllaw07.SessKeeps', WHERE WHAT IT READS IS OF BULK AT MOST 1048576: true; the input reads as it did. -/
def sessKeepsUptoRow : OpenClaim := { program := "ytpmammacnoamkaa", sum := "216690d2fe4f3c5b0eb89ab2aeffee859f90f4da0c7320bb0576ecaa86ba9c3e", func := "checkroll/checkrolllaw07.SessKeeps", spec := "sessKeeps", inPlace := ["internal/bytealg.IndexByteString", "slices.overlaps[checkroll/api.Item]"], apart := false, narrowed := true }
def SessKeepsUptoSaid : Prop := sessKeepsUptoRow.holds Try.pinned (OpenSpec.upto sessKeepsSpec)

/-- 'checkrolllaw07.SessLost', WHERE WHAT IT READS IS OF BULK AT MOST 1048576: true; the input reads as it did. -/
def sessLostUptoRow : OpenClaim := { program := "ytpmammacnoamkaa", sum := "216690d2fe4f3c5b0eb89ab2aeffee859f90f4da0c7320bb0576ecaa86ba9c3e", func := "checkroll/checkrolllaw07.SessLost", spec := "sessLost", inPlace := ["internal/bytealg.IndexByteString", "slices.overlaps[checkroll/api.Item]"], apart := false, narrowed := true }
def SessLostUptoSaid : Prop := sessLostUptoRow.holds Try.pinned (OpenSpec.upto sessLostSpec)

/-- 'checkrolllaw07.SessOrder', WHERE WHAT IT READS IS OF BULK AT MOST 1048576: true; the input reads as it did. -/
def sessOrderUptoRow : OpenClaim := { program := "ytpmammacnoamkaa", sum := "216690d2fe4f3c5b0eb89ab2aeffee859f90f4da0c7320bb0576ecaa86ba9c3e", func := "checkroll/checkrolllaw07.SessOrder", spec := "sessOrder", inPlace := ["internal/bytealg.IndexByteString", "slices.overlaps[checkroll/api.Item]"], apart := false, narrowed := true }
def SessOrderUptoSaid : Prop := sessOrderUptoRow.holds Try.pinned (OpenSpec.upto sessOrderSpec)

end Rows
end Go.Proofs.Ytpmammacnoamkaa
