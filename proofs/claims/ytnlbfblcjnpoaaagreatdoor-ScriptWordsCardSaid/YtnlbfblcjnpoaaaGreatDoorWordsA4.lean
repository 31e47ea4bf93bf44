/- Closed facts of the row of ScriptWords. -/
import Derived.Test.YtnlbfblcjnpoaaaGreatDoorRows
import Derived.KernelRfl
namespace Go.Proofs.YtnlbfblcjnpoaaaGreatDoor
open Go
theorem w_named : Rows.scriptWordsRow.named = Tryz.pinned.checked.prog.varsNamed 5 := by kernel_rfl
end Go.Proofs.YtnlbfblcjnpoaaaGreatDoor
