/- Closed facts of the card of ScriptWords. -/
import Derived.Test.YtnlbfblcjnpoaaaGreatDoorRows
import Derived.KernelRfl
import GoSem.ClaimSeven
import Derived.SevenTiedAt
namespace Go.Proofs.YtnlbfblcjnpoaaaGreatDoor
open Go
theorem w_wf : Rows.scriptWordsRow.wfByText (OpenSpec.ofChange Rows.scriptWordsSpec) = true := by kernel_rfl
theorem w_stand : (([9] : List TypeId).all fun u => !Tryz.pinned.checked.prog.wantsStandIn u) = true := by kernel_rfl
end Go.Proofs.YtnlbfblcjnpoaaaGreatDoor
