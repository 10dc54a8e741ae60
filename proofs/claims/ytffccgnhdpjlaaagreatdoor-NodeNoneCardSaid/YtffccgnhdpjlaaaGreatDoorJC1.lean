/- NodeNone: closed facts of its card. -/
import Derived.Test.YtffccgnhdpjlaaaGreatDoorRows
import Derived.SevenTiedAt
import Derived.KernelRfl
set_option linter.unusedVariables false
namespace Go.Proofs.YtffccgnhdpjlaaaGreatDoor.nodeNoneRow
open Go
/-- Where no body starts a goroutine no call does. -/
theorem goes_none {P : Program} (h : P.funcs.any Func.goes = false) (f : FuncId) : P.goes f = false := by
  have hall : ∀ g : Nat, (P.funcs[g]?).any Func.goes = false := fun g => by
    cases hg : P.funcs[g]? with
    | none => rfl
    | some fn =>
      cases hb : Func.goes fn with
      | false => exact hb
      | true =>
        have ht : P.funcs.any Func.goes = true := by
          rw [Array.any_eq_true']
          exact ⟨fn, Array.mem_of_getElem? hg, hb⟩
        rw [h] at ht
        cases ht
  unfold Program.goes
  rw [h, Bool.and_false, Bool.or_false]
  exact List.any_eq_false.2 fun g _ => by simp [hall g]
set_option maxRecDepth 100000
theorem goes_no : Tryz.pinned.checked.prog.funcs.any Func.goes = false := by kernel_rfl
theorem jc3 : false = Rows.nodeNoneRow.goesBy Tryz.pinned.checked.prog := by
  unfold OpenClaim.goesBy Program.goesAt Program.goesFrom
  cases Tryz.pinned.checked.prog.funcNamed Rows.nodeNoneRow.func with
  | none => rfl
  | some f =>
    rw [Option.any_some, goes_none goes_no]
    rfl
theorem jc4 : Rows.nodeNoneRow.wfByText (OpenSpec.ofChange Rows.nodeNoneSpec) = true := by kernel_rfl
end Go.Proofs.YtffccgnhdpjlaaaGreatDoor.nodeNoneRow
