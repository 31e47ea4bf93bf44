/- alive of layer 21 answers true: run by the kernel in AM. -/
import Derived.Test.YtnlbfblcjnpoaaaGreatDoorAmTab
import Derived.KernelRfl
namespace Go.AM
open Go
/-- memory as the program begins: the tables that are read -/
noncomputable def s0 : St := ⟨T.set (T.set (T.set .lf 0 (some (.cells deB .ro 0))) 6 (some (.cells deB32 .ro 0))) 4 (some (.cells p10 .ro 0)), 7⟩
def isTrue (q : Option (Res × St)) : Bool := match q with
  | some (.out (.ret (.bool true)) none, _) => true
  | _ => false
set_option maxRecDepth 1000000
theorem k1 : isTrue (run EE 100000 (.call 26 [] none) s0) = true := by kernel_rfl
end Go.AM
