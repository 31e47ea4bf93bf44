/- Closed facts of the card of ScriptWords. -/
import Derived.Test.YtnlbfblcjnpoaaaGreatDoorRows
import Derived.KernelRfl
import GoSem.ClaimSeven
import Derived.SevenTiedAt
namespace Go.Proofs.YtnlbfblcjnpoaaaGreatDoor
open Go
theorem w_none : false = Tryz.pinned.checked.prog.funcs.any Func.goes := by kernel_rfl
theorem goes_none {P : Program} (h : false = P.funcs.any Func.goes) (f : FuncId) : P.goes f = false := by
  unfold Program.goes
  rw [← h, Bool.and_false, Bool.or_false, List.any_eq_false]
  intro g _ hg
  cases hf : P.funcs[g]? with
  | none => rw [hf] at hg; cases hg
  | some fn =>
    rw [hf] at hg
    have h1 := (Array.any_eq_false.1 h.symm) g (Array.getElem?_eq_some_iff.1 hf).1
    rw [(Array.getElem?_eq_some_iff.1 hf).2] at h1
    exact h1 hg
theorem goesBy_none {P : Program} (h : false = P.funcs.any Func.goes) (c : OpenClaim) : c.goesBy P = false := by
  unfold OpenClaim.goesBy Program.goesAt Program.goesFrom
  have h1 : ∀ o : Option FuncId, o.any P.goes = false := by
    intro o
    cases o with
    | none => rfl
    | some f => exact goes_none h f
  rw [h1, Bool.false_or]
  have h2 : P.inits.toList.any P.goes = false := by
    rw [List.any_eq_false]
    intro g _ hg
    rw [goes_none h g] at hg
    cases hg
  split
  · rfl
  · exact h2
theorem w_goes : false = Rows.scriptWordsRow.goesBy Tryz.pinned.checked.prog := (goesBy_none w_none _).symm
end Go.Proofs.YtnlbfblcjnpoaaaGreatDoor
