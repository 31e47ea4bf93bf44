/- For every string, script.Words and script.Number answer what the document's Words and Number answer (ScriptWords of layer 21 returns true, and the string reads as it did): the tied card. Conditions: none but the row's own (the listed library tables lie as the program's text lays them). -/
import Derived.Test.YtnlbfblcjnpoaaaGreatDoorWordsB
import Derived.Test.YtnlbfblcjnpoaaaGreatDoorWordsC
import Derived.Test.YtnlbfblcjnpoaaaGreatDoorWordsD1
import Derived.Test.YtnlbfblcjnpoaaaGreatDoorWordsD2
import Derived.Test.YtnlbfblcjnpoaaaGreatDoorWordsD3
namespace Go.Proofs.YtnlbfblcjnpoaaaGreatDoor
open Go
/-- script.Words and script.Number are the document's at every string: the tied card. -/
theorem words_card : Rows.ScriptWordsCardSaid :=
  Claim7.holds_tied_plain_at .later [] [.data, .data, .data, .data, .pinned] true (true, "7988eec4d4df6279d49f2974218da6453a8eb02fba195885369fa3b0d9839e44") true
    words_holds (fun _ h => by cases h) w_wf (fun _ h => by cases h) scriptWords_row_tie rfl ⟨rfl, rfl⟩ k_main rfl
    (fun f fn hf hfn => by
      obtain rfl : f = 5 := Option.some.inj (w_func.symm.trans hf) |>.symm
      obtain rfl : fn = Tryz.f5 := (Option.some.inj (Tryz.func5.symm.trans hfn)).symm
      exact ⟨k_looks, fun j t ht => by
        rw [Tryz.params5] at ht
        have hm : t ∈ [9] := by simpa using Array.mem_of_getElem? ht
        simpa using List.all_eq_true.1 w_stand t hm⟩)
    w_goes
#print axioms words_card
end Go.Proofs.YtnlbfblcjnpoaaaGreatDoor
