/-
  DERIVED. GIVEN WITH THE SEED: THE CARDS: each row of YtgenjpingdkmgaaGreatDoorRows.lean that lists a variable, with what it lists TIED to the program's text (the seventh form; the later family's looks); each row that meets fmt, with fmt's text TOLD by the authors' own Lean function (tested against real Go, not proved from fmt's source: count such statements apart). THE CARD IS WHAT COUNTS. Prove the row's statement (the work); the ties are given (YtgenjpingdkmgaaGreatDoorTie.lean); close each card by the builder's one call (the guide's Derived/Test/ToyasCard.lean, 'card_holds'). Laid BY PROGRAM, IN A SANDBOX (cutbox-door.mjs). By AI agents, Wed Nov 11 2026. No macro, syntax, notation, axiom, sorry.
-/
import Derived.Test.YtgenjpingdkmgaaGreatDoorRows
import GoSem.ClaimSeven
namespace Go.Proofs.YtgenjpingdkmgaaGreatDoor
namespace Rows

/-- THE TIED CARD OF 'checkrolltop.TopMerge'. -/
def topMergeCard : Claim7 := { stood := { row := topMergeRow, standIns := [], harness := (true, "3af1291ab02ba808d63791fc384557b6b4027fa74574e977795b14a6c85d7802"), looks := true }, kinds := [], alts := [], laidByText := true, laidKinds := [.data, .data, .data, .data, .sentinel, .sentinel, .data, .data, .pinned], laidTests := true, laidLooks := .later }
def TopMergeCardSaid : Prop := Claim7.holds Tryz.pinned (.plain (OpenSpec.ofChange topMergeSpec)) topMergeCard

/-- THE TIED CARD OF 'checkrolltop.TopShut'. -/
def topShutCard : Claim7 := { stood := { row := topShutRow, standIns := [], harness := (true, "3af1291ab02ba808d63791fc384557b6b4027fa74574e977795b14a6c85d7802"), looks := true }, kinds := [], alts := [], laidByText := true, laidKinds := [.data, .data, .data, .data, .sentinel, .sentinel, .data, .data, .pinned], laidTests := true, laidLooks := .later }
def TopShutCardSaid : Prop := Claim7.holds Tryz.pinned (.plain (OpenSpec.ofChange topShutSpec)) topShutCard

/-- THE TIED CARD OF 'checkrolltop.TopDominates'. -/
def topDominatesCard : Claim7 := { stood := { row := topDominatesRow, standIns := [], harness := (true, "3af1291ab02ba808d63791fc384557b6b4027fa74574e977795b14a6c85d7802"), looks := true }, kinds := [], alts := [], laidByText := true, laidKinds := [.data, .data, .data, .data, .sentinel, .sentinel, .data, .data, .pinned], laidTests := true, laidLooks := .later }
def TopDominatesCardSaid : Prop := Claim7.holds Tryz.pinned (.plain (OpenSpec.ofChange topDominatesSpec)) topDominatesCard

/-- THE SECOND FORM's CARD OF 'checkrolltop.TopMerge'. -/
def topMergeUptoCard : Claim7 := { stood := { row := topMergeUptoRow, standIns := [], harness := (true, "3af1291ab02ba808d63791fc384557b6b4027fa74574e977795b14a6c85d7802"), looks := true }, kinds := [], alts := [], laidByText := true, laidKinds := [.data, .data, .data, .data, .sentinel, .sentinel, .data, .data, .pinned], laidTests := true, laidLooks := .later }
def TopMergeUptoCardSaid : Prop := Claim7.holds Tryz.pinned (.plain (OpenSpec.upto topMergeSpec)) topMergeUptoCard

/-- THE SECOND FORM's CARD OF 'checkrolltop.TopShut'. -/
def topShutUptoCard : Claim7 := { stood := { row := topShutUptoRow, standIns := [], harness := (true, "3af1291ab02ba808d63791fc384557b6b4027fa74574e977795b14a6c85d7802"), looks := true }, kinds := [], alts := [], laidByText := true, laidKinds := [.data, .data, .data, .data, .sentinel, .sentinel, .data, .data, .pinned], laidTests := true, laidLooks := .later }
def TopShutUptoCardSaid : Prop := Claim7.holds Tryz.pinned (.plain (OpenSpec.upto topShutSpec)) topShutUptoCard

/-- THE SECOND FORM's CARD OF 'checkrolltop.TopDominates'. -/
def topDominatesUptoCard : Claim7 := { stood := { row := topDominatesUptoRow, standIns := [], harness := (true, "3af1291ab02ba808d63791fc384557b6b4027fa74574e977795b14a6c85d7802"), looks := true }, kinds := [], alts := [], laidByText := true, laidKinds := [.data, .data, .data, .data, .sentinel, .sentinel, .data, .data, .pinned], laidTests := true, laidLooks := .later }
def TopDominatesUptoCardSaid : Prop := Claim7.holds Tryz.pinned (.plain (OpenSpec.upto topDominatesSpec)) topDominatesUptoCard
end Rows
end Go.Proofs.YtgenjpingdkmgaaGreatDoor
