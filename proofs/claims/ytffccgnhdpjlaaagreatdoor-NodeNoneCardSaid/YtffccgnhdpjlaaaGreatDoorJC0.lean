/- NodeNone: closed facts of its card. -/
import Derived.Test.YtffccgnhdpjlaaaGreatDoorRows
import Derived.SevenTiedAt
import Derived.KernelRfl
set_option linter.unusedVariables false
namespace Go.Proofs.YtffccgnhdpjlaaaGreatDoor.nodeNoneRow
open Go
set_option maxRecDepth 100000
theorem jc2 : Tryz.pinned.checked.prog.looks [] = true := by kernel_rfl
end Go.Proofs.YtffccgnhdpjlaaaGreatDoor.nodeNoneRow
