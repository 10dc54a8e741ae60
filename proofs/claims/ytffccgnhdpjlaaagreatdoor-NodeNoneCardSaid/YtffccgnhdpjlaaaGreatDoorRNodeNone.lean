/- The statement that the law squelchlaw27.NodeNone is true of every input, its arguments left as they were: the row, out of its walk and its plain law. Written by a program of this session (wip/pp/row.py). -/
import Derived.Test.YtffccgnhdpjlaaaGreatDoorRows
import Derived.Test.YtffccgnhdpjlaaaGreatDoorQAllxF3
import Derived.Test.YtffccgnhdpjlaaaGreatDoorPureNodeNone
import Derived.Test.YtffccgnhdpjlaaaGreatDoorHLaid
import Derived.Test.YtffccgnhdpjlaaaGreatDoorTie
import Derived.Test.YtffccgnhdpjlaaaGreatDoorCards
import Derived.Test.YtffccgnhdpjlaaaGreatDoorJFa
import Derived.Test.YtffccgnhdpjlaaaGreatDoorJC0
import Derived.Test.YtffccgnhdpjlaaaGreatDoorJC1
import Derived.WalkKit
import Derived.ProofKit
import Derived.OpenShut
import Derived.ShutString
import Derived.ChangeOld
import Derived.Below
import Derived.SizedLaws
import Derived.Lib.SmallJoins
import Derived.Deep.Slices
import Derived.Deep.Fields
import Derived.ChangeSame
namespace Go.Proofs.YtffccgnhdpjlaaaGreatDoor.nodeNoneRow
open Go.ChangeShapes Go.WideShapes Go.ChangeAt Go.RowKit
open Go.ChangeMaps (open_string shut_string)
set_option linter.unusedVariables false
set_option linter.unusedSimpArgs false
theorem own : ownKnob Tryz.prog.godebug = none := by kernel_rfl
theorem laidOut : laidOutB Tryz.prog = true := by kernel_rfl
theorem cells9 : Tryz.prog.cellsOf 9 = 1 := by kernel_rfl
theorem met (os : Os) (args : Array Value) : laidMetH Tryz.prog Rows.nodeNoneRow.laid ((World.laidAll Tryz.prog os Rows.nodeNoneRow.laid).forCall (fun _ _ => 0) ⟨#[], args, []⟩).memory :=
  (show laidMet Tryz.prog Rows.nodeNoneRow.laid _ from laidMet_laidAll _ (by kernel_rfl) (by kernel_rfl))
set_option maxRecDepth 100000 in
theorem lifted (os : Os) (started : os.Started) (H : Type) (enc : TypeId × Value → H) :
    ReturnsInHanded {} Tryz.checked os 3 .any (fun w args => (Rows.nodeNoneSpec.pre enc Tryz.prog Tryz.f3 Rows.nodeNoneRow.domain false w args ∧ laidMetH Tryz.prog Rows.nodeNoneRow.laid w) ∧ sizedMet enc Tryz.prog Tryz.f3 (OpenSpec.ofChange Rows.nodeNoneSpec) false w args) (Rows.nodeNoneSpec.post enc Tryz.prog Tryz.f3 false true false false) := by
  refine QAll.returns_laid_shaped (C := Tryz.checked) own started (by kernel_rfl) Tryz.func3
    (ChangeSpec.witness_shaped (enc := enc) (C := Tryz.checked) (os := os) (X := fun w _ => laidMetH Tryz.prog Rows.nodeNoneRow.laid w) false (World.laidAll Tryz.prog os Rows.nodeNoneRow.laid) #[.string ByteArray.empty] 8 (World.laidAll_os _ _ _) (World.shaped_of_ZipB (by kernel_rfl) (by kernel_rfl)) (by kernel_rfl) (by kernel_rfl) (by kernel_rfl) (met os _)) ?_
  intro W base args ds gs before hval0 hW hcnd hsz0 hL hsh
  have hE : QAll.EnvW W := QAll.env_of_laid hsh (show laidMet Tryz.prog Rows.nodeNoneRow.laid W from hL) (by simp [Rows.nodeNoneRow])
  have hsz : (DataW.weightsEach Tryz.prog (Tryz.f3.params.toList ++ Rows.nodeNoneSpec.plain.varTypes Tryz.prog) (ds ++ gs)).all (· ≤ reachBytes) = true := hsz0
  have hval : ∀ (j : Nat) t v, Tryz.f3.params[j]? = some t → args[j]? = some v → Value.okWide Tryz.prog W .any base t v := hval0
  have hW' := hW
  obtain ⟨p, q, hA0, hV, rfl, hfz, hnd⟩ := hW
  have hA : DataW.TrodAll enc Tryz.prog W 0 (fun _ => true) true Tryz.f3.params.toList args.toList ds p := hA0
  rw [Tryz.params3] at hA hval hsz
  obtain ⟨v0, vs0, d0, ds0, p0, q0, hargs, rfl, rfl, h0, r0⟩ := trodAll_cons hA
  obtain ⟨rfl, rfl, rfl⟩ := trodAll_nil r0
  obtain rfl : args = #[v0] := by cases args; simp_all
  obtain ⟨rfl, rfl⟩ := trodVars_none hV
  have k0 := h0
  have lt0 : ∀ x ∈ p0, x.block < W.heap.size := by obtain ⟨m, hm⟩ := k0; exact DataW.trod_lt m _ _ _ hm
  obtain ⟨a0, rfl, rfl, rfl, ma0⟩ := open_string Tryz.underlying9 (hval 0 9 v0 rfl rfl) h0
  have hz : a0.size ≤ 140737488351232 := by
    have z := hsz
    skip
    simp [DataW.weightsEach, DataW.weights, reachBytes, Tryz.underlying9] at z
    first | omega | exact of_decide_eq_true z | exact of_decide_eq_true z.1 | exact of_decide_eq_true z.2 | exact of_decide_eq_true z.2.1
  have za0 := hz
  clear hA0 hval0 hsz0 hsz
  obtain ⟨k, hp⟩ := Pure.NodeNone a0
  refine (QAll.squelchlaw27_NodeNone.calls k a0 true W hE rfl hp).mono fun e W' ⟨he, bel⟩ => ?_
  subst he
  exact ⟨_, rfl, _, _, _, [], _, [], hW', trodAll_mk1 (shut_bool Tryz.underlying4 _), (trodAll_cons_mk (Below.trod laidOut (by kernel_rfl) (of_decide_eq_true (by kernel_rfl)) k0 bel lt0) trodAll_mk0), rfl, bel.frame _, fun h => by cases h⟩
theorem over : Rows.nodeNoneRow.holds Tryz.pinned (OpenSpec.ofChange Rows.nodeNoneSpec) :=
  OpenClaim.holds_of_wide 3 Tryz.f3 rfl rfl rfl rfl rfl rfl rfl ⟨rfl, rfl, rfl, rfl, rfl⟩ rfl rfl rfl rfl rfl (by kernel_rfl) Tryz.func3 joined
    (of_decide_eq_true (by kernel_rfl)) (by unfold Func.isWrapper; first | (rw [if_pos (by decide +kernel)]; kernel_rfl) | (rw [if_neg (by decide +kernel)]; exact ⟨rfl, rfl⟩))
    (fun os started H enc _ => lifted os started H enc)
theorem card : Rows.NodeNoneCardSaid :=
  Claim7.holds_tied_plain_at .later [] [.data, .data, .data, .data, .sentinel, .sentinel, .listed, .data, .pinned] true (true, "76e636334a5958b1e8642e8d855dfdd1635c711cd164d86003e85eaba2beb2a9") true
    over (fun _ h => by cases h) jc4 (fun _ h => by cases h) nodeNone_row_tie rfl ⟨rfl, rfl⟩ (by kernel_rfl) rfl
    (fun f fn hf hfn => by
      obtain rfl : f = 3 := Option.some.inj ((show Tryz.prog.funcNamed "squelch/squelchlaw27.NodeNone" = some 3 by kernel_rfl).symm.trans hf) |>.symm
      obtain rfl : fn = Tryz.f3 := (Option.some.inj (Tryz.func3.symm.trans hfn)).symm
      exact ⟨jc2.symm, fun j t ht => by
        rw [Tryz.params3] at ht
        have hm := Array.mem_of_getElem? ht
        simp at hm
        rcases hm with rfl
        · exact (show Tryz.prog.wantsStandIn 9 = false by kernel_rfl)
      ⟩)
    jc3
end Go.Proofs.YtffccgnhdpjlaaaGreatDoor.nodeNoneRow
namespace Go.Proofs.YtffccgnhdpjlaaaGreatDoor
theorem nodeNone_holds : Rows.NodeNoneCardSaid := nodeNoneRow.card
#print axioms nodeNone_holds
end Go.Proofs.YtffccgnhdpjlaaaGreatDoor
