/- A closed fact of the card of ScriptWords. -/
import Derived.Test.YtnlbfblcjnpoaaaGreatDoorRows
import Derived.KernelRfl
import GoSem.ClaimSeven
import Derived.SevenTiedAt
namespace Go.Proofs.YtnlbfblcjnpoaaaGreatDoor
open Go
theorem k_looks : true = Tryz.pinned.checked.prog.looks [] := by kernel_rfl
theorem k_main : Tryz.pinned.checked.prog.mainIs = some (true, "7988eec4d4df6279d49f2974218da6453a8eb02fba195885369fa3b0d9839e44".toList) := by kernel_rfl
end Go.Proofs.YtnlbfblcjnpoaaaGreatDoor
