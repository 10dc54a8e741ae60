/- NodeNone: the law's call with a long text, run. -/
import Derived.Test.YtffccgnhdpjlaaaGreatDoorHNon
set_option linter.unusedVariables false
namespace Go.Proofs.YtffccgnhdpjlaaaGreatDoor.Ev
open Go Go.RowKit
set_option maxRecDepth 1000000 in
theorem run_big : okB (callBy Tryz.prog FN (runBy Tryz.prog (KN true) AN FN 1000000) 3 [.e (.lf (.sy 0))] ⟨.nil, 2⟩) = true := by kernel_rfl
end Go.Proofs.YtffccgnhdpjlaaaGreatDoor.Ev
