/- Closed facts of the row of ScriptWords. -/
import Derived.Test.YtnlbfblcjnpoaaaGreatDoorRows
import Derived.KernelRfl
import Derived.JoinedOf
namespace Go.Proofs.YtnlbfblcjnpoaaaGreatDoor
open Go
theorem w_inPlace : Rows.scriptWordsRow.inPlace = Tryz.pinned.checked.prog.inPlace 5 := by kernel_rfl
theorem w_unfollowed : Rows.scriptWordsRow.unfollowed = Tryz.pinned.checked.prog.unfollowed 5 := by kernel_rfl
theorem w_recurses : Rows.scriptWordsRow.recurses = Tryz.pinned.checked.prog.recurses 5 := by kernel_rfl
theorem w_named : Rows.scriptWordsRow.named = Tryz.pinned.checked.prog.varsNamed 5 := by kernel_rfl
theorem w_closed : joinedFacts Tryz.pinned.checked.prog 5 Tryz.f5 Rows.scriptWordsSpec Rows.scriptWordsRow = true := by
  unfold joinedFacts
  rw [← w_inPlace, ← w_unfollowed, ← w_recurses, ← w_named]
  kernel_rfl
end Go.Proofs.YtnlbfblcjnpoaaaGreatDoor
