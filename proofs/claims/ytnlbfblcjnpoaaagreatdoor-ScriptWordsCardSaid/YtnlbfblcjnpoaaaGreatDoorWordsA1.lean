/- Closed facts of the row of ScriptWords. -/
import Derived.Test.YtnlbfblcjnpoaaaGreatDoorRows
import Derived.KernelRfl
namespace Go.Proofs.YtnlbfblcjnpoaaaGreatDoor
open Go
theorem w_inPlace : Rows.scriptWordsRow.inPlace = Tryz.pinned.checked.prog.inPlace 5 := by kernel_rfl
end Go.Proofs.YtnlbfblcjnpoaaaGreatDoor
