/- NodeNone: the closed facts of its row, together. -/
import Derived.Test.YtffccgnhdpjlaaaGreatDoorJF0
import Derived.Test.YtffccgnhdpjlaaaGreatDoorJF1
import Derived.Test.YtffccgnhdpjlaaaGreatDoorJF2
import Derived.Test.YtffccgnhdpjlaaaGreatDoorJF3
import Derived.Test.YtffccgnhdpjlaaaGreatDoorJF4
import Derived.Test.YtffccgnhdpjlaaaGreatDoorJF5
import Derived.Test.YtffccgnhdpjlaaaGreatDoorJF6
set_option linter.unusedVariables false
namespace Go.Proofs.YtffccgnhdpjlaaaGreatDoor.nodeNoneRow
open Go
theorem and2 {a b : Bool} (h : a = true) (k : b = true) : (a && b) = true := by rw [h, k]; rfl
set_option maxRecDepth 100000 in
set_option maxHeartbeats 4000000 in
theorem joined : joinedFacts Tryz.pinned.checked.prog 3 Tryz.f3 Rows.nodeNoneSpec Rows.nodeNoneRow = true := by
  unfold joinedFacts
  exact (and2 (and2 (and2 (and2 (and2 (and2 (and2 (and2 (and2 (and2 (and2 (and2 (and2 (and2 (and2 (and2 (and2 (and2 (and2 (and2 (and2 (and2 (and2 (and2 (and2 (and2 (and2 (and2 (and2 (and2 (and2 jf0 jf1) jf2) jf3) jf4) jf5) jf6) jf7) jf8) jf9) jf10) jf11) jf12) jf13) jf14) jf15) jf16) jf17) jf18) jf19) jf20) jf21) jf22) jf23) jf24) jf25) jf26) jf27) jf28) jf29) jf30) jf31)
end Go.Proofs.YtffccgnhdpjlaaaGreatDoor.nodeNoneRow
