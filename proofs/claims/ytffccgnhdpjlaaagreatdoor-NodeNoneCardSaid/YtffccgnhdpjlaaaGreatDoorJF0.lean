/- NodeNone: closed facts of its row. -/
import Derived.Test.YtffccgnhdpjlaaaGreatDoorRows
import Derived.JoinedOf
import Derived.KernelRfl
set_option linter.unusedVariables false
namespace Go.Proofs.YtffccgnhdpjlaaaGreatDoor.nodeNoneRow
open Go
set_option maxRecDepth 100000 in
theorem jf9 : (Rows.nodeNoneRow.inPlace == Tryz.pinned.checked.prog.inPlace 3) = true := by kernel_rfl
end Go.Proofs.YtffccgnhdpjlaaaGreatDoor.nodeNoneRow
