/-
  DERIVED. GIVEN WITH THE SEED: THE CARDS: each row of YtllfgnhnooonfaaDoorRows.lean that lists a variable, with what it lists TIED to the program's text (the seventh form; the later family's looks); each row that meets fmt, with fmt's text TOLD by the authors' own Lean function (tested against real Go, not proved from fmt's source: count such statements apart). THE CARD IS WHAT COUNTS. Prove the row's statement (the work); the ties are given (YtllfgnhnooonfaaDoorTie.lean); close each card by the builder's one call (the guide's Derived/Test/ToyasCard.lean, 'card_holds'). Laid BY PROGRAM, IN A SANDBOX (cutbox-door.mjs). By AI agents, Wed Nov 11 2026. No macro, syntax, notation, axiom, sorry.
-/
import Derived.Test.YtllfgnhnooonfaaDoorRows
import GoSem.ClaimSeven
namespace Go.Proofs.YtllfgnhnooonfaaDoor
namespace Rows

/-- THE TIED CARD OF 'checkrolllaw01.NumRight'. -/
def numRightCard : Claim7 := { stood := { row := numRightRow, standIns := [], harness := (true, "9aca4b21a07cd80f96981ea419f4d24a24dc402779fac86041eb5623730f5d24"), looks := true }, kinds := [], alts := [], laidByText := true, laidKinds := [.data, .data, .data, .sentinel, .sentinel], laidTests := true, laidLooks := .later }
def NumRightCardSaid : Prop := Claim7.holds Tryd.pinned (.plain (OpenSpec.ofChange numRightSpec)) numRightCard

/-- THE TIED CARD OF 'checkrolllaw01.NumReads'. -/
def numReadsCard : Claim7 := { stood := { row := numReadsRow, standIns := [], harness := (true, "9aca4b21a07cd80f96981ea419f4d24a24dc402779fac86041eb5623730f5d24"), looks := true }, kinds := [], alts := [], laidByText := true, laidKinds := [.data, .data, .data, .sentinel, .sentinel], laidTests := true, laidLooks := .later }
def NumReadsCardSaid : Prop := Claim7.holds Tryd.pinned (.plain (OpenSpec.ofChange numReadsSpec)) numReadsCard

/-- THE TIED CARD OF 'checkrolllaw01.NumChecked'. -/
def numCheckedCard : Claim7 := { stood := { row := numCheckedRow, standIns := [], harness := (true, "9aca4b21a07cd80f96981ea419f4d24a24dc402779fac86041eb5623730f5d24"), looks := true }, kinds := [], alts := [], laidByText := true, laidKinds := [.data, .data, .data, .sentinel, .sentinel], laidTests := true, laidLooks := .later }
def NumCheckedCardSaid : Prop := Claim7.holds Tryd.pinned (.plain (OpenSpec.ofChange numCheckedSpec)) numCheckedCard

/-- THE TIED CARD OF 'checkrolllaw01.NumOrder'. -/
def numOrderCard : Claim7 := { stood := { row := numOrderRow, standIns := [], harness := (true, "9aca4b21a07cd80f96981ea419f4d24a24dc402779fac86041eb5623730f5d24"), looks := true }, kinds := [], alts := [], laidByText := true, laidKinds := [.data, .data, .data, .sentinel, .sentinel], laidTests := true, laidLooks := .later }
def NumOrderCardSaid : Prop := Claim7.holds Tryd.pinned (.plain (OpenSpec.ofChange numOrderSpec)) numOrderCard

/-- THE TIED CARD OF 'checkrolllaw01.NumSums'. -/
def numSumsCard : Claim7 := { stood := { row := numSumsRow, standIns := [], harness := (true, "9aca4b21a07cd80f96981ea419f4d24a24dc402779fac86041eb5623730f5d24"), looks := true }, kinds := [], alts := [], laidByText := true, laidKinds := [.data, .data, .data, .sentinel, .sentinel], laidTests := true, laidLooks := .later }
def NumSumsCardSaid : Prop := Claim7.holds Tryd.pinned (.plain (OpenSpec.ofChange numSumsSpec)) numSumsCard

/-- THE TIED CARD OF 'checkrolllaw01.NumBack'. -/
def numBackCard : Claim7 := { stood := { row := numBackRow, standIns := [], harness := (true, "9aca4b21a07cd80f96981ea419f4d24a24dc402779fac86041eb5623730f5d24"), looks := true }, kinds := [], alts := [], laidByText := true, laidKinds := [.data, .data, .data, .sentinel, .sentinel], laidTests := true, laidLooks := .later }
def NumBackCardSaid : Prop := Claim7.holds Tryd.pinned (.plain (OpenSpec.ofChange numBackSpec)) numBackCard

/-- THE SECOND FORM's CARD OF 'checkrolllaw01.NumRight'. -/
def numRightUptoCard : Claim7 := { stood := { row := numRightUptoRow, standIns := [], harness := (true, "9aca4b21a07cd80f96981ea419f4d24a24dc402779fac86041eb5623730f5d24"), looks := true }, kinds := [], alts := [], laidByText := true, laidKinds := [.data, .data, .data, .sentinel, .sentinel], laidTests := true, laidLooks := .later }
def NumRightUptoCardSaid : Prop := Claim7.holds Tryd.pinned (.plain (OpenSpec.upto numRightSpec)) numRightUptoCard

/-- THE SECOND FORM's CARD OF 'checkrolllaw01.NumReads'. -/
def numReadsUptoCard : Claim7 := { stood := { row := numReadsUptoRow, standIns := [], harness := (true, "9aca4b21a07cd80f96981ea419f4d24a24dc402779fac86041eb5623730f5d24"), looks := true }, kinds := [], alts := [], laidByText := true, laidKinds := [.data, .data, .data, .sentinel, .sentinel], laidTests := true, laidLooks := .later }
def NumReadsUptoCardSaid : Prop := Claim7.holds Tryd.pinned (.plain (OpenSpec.upto numReadsSpec)) numReadsUptoCard

/-- THE SECOND FORM's CARD OF 'checkrolllaw01.NumChecked'. -/
def numCheckedUptoCard : Claim7 := { stood := { row := numCheckedUptoRow, standIns := [], harness := (true, "9aca4b21a07cd80f96981ea419f4d24a24dc402779fac86041eb5623730f5d24"), looks := true }, kinds := [], alts := [], laidByText := true, laidKinds := [.data, .data, .data, .sentinel, .sentinel], laidTests := true, laidLooks := .later }
def NumCheckedUptoCardSaid : Prop := Claim7.holds Tryd.pinned (.plain (OpenSpec.upto numCheckedSpec)) numCheckedUptoCard

/-- THE SECOND FORM's CARD OF 'checkrolllaw01.NumOrder'. -/
def numOrderUptoCard : Claim7 := { stood := { row := numOrderUptoRow, standIns := [], harness := (true, "9aca4b21a07cd80f96981ea419f4d24a24dc402779fac86041eb5623730f5d24"), looks := true }, kinds := [], alts := [], laidByText := true, laidKinds := [.data, .data, .data, .sentinel, .sentinel], laidTests := true, laidLooks := .later }
def NumOrderUptoCardSaid : Prop := Claim7.holds Tryd.pinned (.plain (OpenSpec.upto numOrderSpec)) numOrderUptoCard

/-- THE SECOND FORM's CARD OF 'checkrolllaw01.NumSums'. -/
def numSumsUptoCard : Claim7 := { stood := { row := numSumsUptoRow, standIns := [], harness := (true, "9aca4b21a07cd80f96981ea419f4d24a24dc402779fac86041eb5623730f5d24"), looks := true }, kinds := [], alts := [], laidByText := true, laidKinds := [.data, .data, .data, .sentinel, .sentinel], laidTests := true, laidLooks := .later }
def NumSumsUptoCardSaid : Prop := Claim7.holds Tryd.pinned (.plain (OpenSpec.upto numSumsSpec)) numSumsUptoCard

/-- THE SECOND FORM's CARD OF 'checkrolllaw01.NumBack'. -/
def numBackUptoCard : Claim7 := { stood := { row := numBackUptoRow, standIns := [], harness := (true, "9aca4b21a07cd80f96981ea419f4d24a24dc402779fac86041eb5623730f5d24"), looks := true }, kinds := [], alts := [], laidByText := true, laidKinds := [.data, .data, .data, .sentinel, .sentinel], laidTests := true, laidLooks := .later }
def NumBackUptoCardSaid : Prop := Claim7.holds Tryd.pinned (.plain (OpenSpec.upto numBackSpec)) numBackUptoCard
end Rows
end Go.Proofs.YtllfgnhnooonfaaDoor
