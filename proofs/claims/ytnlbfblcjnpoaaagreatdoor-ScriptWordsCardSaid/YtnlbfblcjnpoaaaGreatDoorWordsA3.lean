/- Closed facts of the row of ScriptWords. -/
import Derived.Test.YtnlbfblcjnpoaaaGreatDoorRows
import Derived.KernelRfl
namespace Go.Proofs.YtnlbfblcjnpoaaaGreatDoor
open Go
theorem w_recurses : Rows.scriptWordsRow.recurses = Tryz.pinned.checked.prog.recurses 5 := by kernel_rfl
end Go.Proofs.YtnlbfblcjnpoaaaGreatDoor
