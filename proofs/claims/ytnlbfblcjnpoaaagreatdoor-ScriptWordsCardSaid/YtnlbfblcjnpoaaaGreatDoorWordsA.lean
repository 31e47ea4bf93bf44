/- Closed facts of the row of ScriptWords. -/
import Derived.Test.YtnlbfblcjnpoaaaGreatDoorWordsA1
import Derived.Test.YtnlbfblcjnpoaaaGreatDoorWordsA2
import Derived.Test.YtnlbfblcjnpoaaaGreatDoorWordsA3
import Derived.Test.YtnlbfblcjnpoaaaGreatDoorWordsA4
import Derived.JoinedOf
namespace Go.Proofs.YtnlbfblcjnpoaaaGreatDoor
open Go
theorem w_closed : joinedFacts Tryz.pinned.checked.prog 5 Tryz.f5 Rows.scriptWordsSpec Rows.scriptWordsRow = true := by
  unfold joinedFacts
  rw [← w_inPlace, ← w_unfollowed, ← w_recurses, ← w_named]
  kernel_rfl
end Go.Proofs.YtnlbfblcjnpoaaaGreatDoor
