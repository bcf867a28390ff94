/- Contracts of functions that this seat's law calls. No condition. -/
import Derived.Test.YtgenjpingdkmgaaGreatDoorRows
import Derived.JoinedOf
import Derived.SevenTiedAt
set_option maxRecDepth 100000
set_option linter.unusedSimpArgs false
set_option linter.unusedVariables false
open Go.Proofs.Tryz
namespace Go.Proofs.YtgenjpingdkmgaaGreatDoor
theorem topShutFt : Rows.topShutRow.wfByText (OpenSpec.ofChange Rows.topShutSpec) = true := by kernel_rfl
theorem topShutFm : prog.mainIs = some (true, "3af1291ab02ba808d63791fc384557b6b4027fa74574e977795b14a6c85d7802".toList) := by kernel_rfl
theorem topShutFl : true = prog.looks [] := by kernel_rfl
theorem topShutFg : false = Rows.topShutRow.goesBy prog := by kernel_rfl
theorem topShutFs : ([22, 44, 33].all fun u => !prog.wantsStandIn u) = true := by kernel_rfl
end Go.Proofs.YtgenjpingdkmgaaGreatDoor
