/- Closed facts of the row of ScriptWords. -/
import Derived.Test.YtnlbfblcjnpoaaaGreatDoorRows
import Derived.KernelRfl
namespace Go.Proofs.YtnlbfblcjnpoaaaGreatDoor
open Go
theorem w_unfollowed : Rows.scriptWordsRow.unfollowed = Tryz.pinned.checked.prog.unfollowed 5 := by kernel_rfl
end Go.Proofs.YtnlbfblcjnpoaaaGreatDoor
