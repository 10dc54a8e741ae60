/- NodeNone: closed facts of its row. -/
import Derived.Test.YtffccgnhdpjlaaaGreatDoorRows
import Derived.JoinedOf
import Derived.KernelRfl
set_option linter.unusedVariables false
namespace Go.Proofs.YtffccgnhdpjlaaaGreatDoor.nodeNoneRow
open Go
set_option maxRecDepth 100000 in
theorem jf0 : Rows.nodeNoneRow.wf (OpenSpec.ofChange Rows.nodeNoneSpec) = true := by kernel_rfl
set_option maxRecDepth 100000 in
theorem jf1 : laidOutB Tryz.pinned.checked.prog = true := by kernel_rfl
set_option maxRecDepth 100000 in
theorem jf2 : mapsRowed Tryz.pinned.checked.prog = true := by kernel_rfl
set_option maxRecDepth 100000 in
theorem jf3 : Tryz.f3.params.all (Tryz.pinned.checked.prog.readableRec ·) = true := by kernel_rfl
set_option maxRecDepth 100000 in
theorem jf4 : namedTie Tryz.pinned.checked.prog Rows.nodeNoneRow.named Rows.nodeNoneSpec.vars = true := by kernel_rfl
set_option maxRecDepth 100000 in
theorem jf5 : (Rows.nodeNoneRow.stops == []) = true := by kernel_rfl
set_option maxRecDepth 100000 in
theorem jf6 : (Tryz.pinned.checked.prog.stops == []) = true := by kernel_rfl
set_option maxRecDepth 100000 in
theorem jf7 : (Rows.nodeNoneRow.knobs == []) = true := by kernel_rfl
set_option maxRecDepth 100000 in
theorem jf8 : (Tryz.pinned.checked.prog.stopKnobs == []) = true := by kernel_rfl
set_option maxRecDepth 100000 in
theorem jf13 : (Rows.nodeNoneRow.maps == (Tryz.f3.params.toList ++ Rows.nodeNoneSpec.plain.varTypes Tryz.pinned.checked.prog).any (Tryz.pinned.checked.prog.mapsRec ·)) = true := by kernel_rfl
set_option maxRecDepth 100000 in
theorem jf14 : (Rows.nodeNoneRow.ifaces == (Tryz.f3.params.toList ++ Rows.nodeNoneSpec.plain.varTypes Tryz.pinned.checked.prog).any (Tryz.pinned.checked.prog.ifacesRec ·)) = true := by kernel_rfl
set_option maxRecDepth 100000 in
theorem jf15 : (Rows.nodeNoneRow.mapsOut == Tryz.pinned.checked.prog.mapsAmong Tryz.f3.resultTypes.toList) = true := by kernel_rfl
set_option maxRecDepth 100000 in
theorem jf16 : (Rows.nodeNoneRow.loops == (Tryz.f3.params.toList ++ Rows.nodeNoneSpec.plain.varTypes Tryz.pinned.checked.prog).any (Tryz.pinned.checked.prog.loopsFrom ·)) = true := by kernel_rfl
set_option maxRecDepth 100000 in
theorem jf17 : (Rows.nodeNoneRow.wideKeys == (Tryz.f3.params.toList ++ Rows.nodeNoneSpec.plain.varTypes Tryz.pinned.checked.prog ++ Tryz.f3.resultTypes.toList).any (Tryz.pinned.checked.prog.wideKeysFrom ·)) = true := by kernel_rfl
set_option maxRecDepth 100000 in
theorem jf18 : Rows.nodeNoneSpec.vars.all (Tryz.pinned.checked.prog.varReadable ·) = true := by kernel_rfl
set_option maxRecDepth 100000 in
theorem jf19 : Tryz.f3.resultTypes.all (fun t => Tryz.pinned.checked.prog.readableRec t && decide (t < Tryz.pinned.checked.prog.types.size)) = true := by kernel_rfl
set_option maxRecDepth 100000 in
theorem jf20 : (Rows.nodeNoneRow.ifacesOut == Tryz.f3.resultTypes.toList.any (Tryz.pinned.checked.prog.ifacesRec ·)) = true := by kernel_rfl
set_option maxRecDepth 100000 in
theorem jf21 : (Rows.nodeNoneRow.loopsOut == Tryz.f3.resultTypes.toList.any (Tryz.pinned.checked.prog.loopsFrom ·)) = true := by kernel_rfl
set_option maxRecDepth 100000 in
theorem jf23 : Rows.nodeNoneRow.shortTexts.isNone = true := by kernel_rfl
set_option maxRecDepth 100000 in
theorem jf24 : Tryz.pinned.checked.prog.stopsHeard = true := by kernel_rfl
set_option maxRecDepth 100000 in
theorem jf26 : (Rows.nodeNoneRow.lifted == Tryz.pinned.checked.prog.liftsFinal) = true := by kernel_rfl
set_option maxRecDepth 100000 in
theorem jf27 : (Tryz.pinned.checked.prog.make == some Rows.nodeNoneRow.make) = true := by kernel_rfl
set_option maxRecDepth 100000 in
theorem jf28 : (Rows.nodeNoneRow.kinds == (if Rows.nodeNoneRow.domain.isEmpty then [] else Tryz.f3.params.toList.map fun t => match Tryz.pinned.checked.prog.underlying t with | some (.int k) => some k | _ => none)) = true := by kernel_rfl
set_option maxRecDepth 100000 in
theorem jf29 : (Rows.nodeNoneRow.pinned == Rows.nodeNoneRow.pinnedBy) = true := by kernel_rfl
set_option maxRecDepth 100000 in
theorem jf30 : (Rows.nodeNoneRow.veiled == (Tryz.f3.params.toList ++ Rows.nodeNoneSpec.plain.varTypes Tryz.pinned.checked.prog ++ Tryz.f3.resultTypes.toList).any (Tryz.pinned.checked.prog.veiledRec ·)) = true := by kernel_rfl
set_option maxRecDepth 100000 in
theorem jf31 : Rows.nodeNoneRow.veiledFits Tryz.pinned.checked.prog Tryz.f3.params.toList (Tryz.f3.params.toList ++ Rows.nodeNoneSpec.plain.varTypes Tryz.pinned.checked.prog ++ Tryz.f3.resultTypes.toList) = true := by kernel_rfl
end Go.Proofs.YtffccgnhdpjlaaaGreatDoor.nodeNoneRow
