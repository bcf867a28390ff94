/- Contracts of functions that this seat's law calls. No condition. -/
import Derived.Test.YtgenjpingdkmgaaGreatDoorRows
import Derived.JoinedOf
import Derived.SevenTiedAt
set_option maxRecDepth 100000
set_option linter.unusedSimpArgs false
set_option linter.unusedVariables false
namespace Go.Proofs.YtgenjpingdkmgaaGreatDoor
theorem topMergeFt : Rows.topMergeRow.wfByText (OpenSpec.ofChange Rows.topMergeSpec) = true := by kernel_rfl
theorem topMergeFm : Tryz.prog.mainIs = some (true, "3af1291ab02ba808d63791fc384557b6b4027fa74574e977795b14a6c85d7802".toList) := by kernel_rfl
theorem topMergeFl : true = Tryz.prog.looks [] := by kernel_rfl
theorem topMergeFg : false = Rows.topMergeRow.goesBy Tryz.prog := by kernel_rfl
theorem topMergeFs : ([22, 5].all fun u => !Tryz.prog.wantsStandIn u) = true := by kernel_rfl
end Go.Proofs.YtgenjpingdkmgaaGreatDoor
