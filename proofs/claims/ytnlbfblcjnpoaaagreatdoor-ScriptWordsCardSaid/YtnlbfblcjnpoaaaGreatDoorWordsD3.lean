/- Closed facts of the card of ScriptWords. -/
import Derived.Test.YtnlbfblcjnpoaaaGreatDoorRows
import Derived.KernelRfl
import GoSem.ClaimSeven
import Derived.SevenTiedAt
namespace Go.Proofs.YtnlbfblcjnpoaaaGreatDoor
open Go
theorem w_func : Tryz.pinned.checked.prog.funcNamed Rows.scriptWordsRow.func = some 5 := by kernel_rfl
end Go.Proofs.YtnlbfblcjnpoaaaGreatDoor
