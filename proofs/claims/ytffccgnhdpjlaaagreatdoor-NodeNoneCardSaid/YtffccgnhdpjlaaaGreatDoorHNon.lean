/- NodeNone: the functions that are told by laws of their own, at this program. -/
import Derived.Test.YtffccgnhdpjlaaaGreatDoorEvP
import Derived.Test.YtffccgnhdpjlaaaGreatDoorProg
import Derived.Below
import Derived.OwnWalk
import Derived.Tactics
import Derived.WalkKit
import Derived.KernelRfl
import Derived.RowKit3
import Derived.Deep.LoopGhost
import Derived.Laws.Tables
import Derived.Recover
import Derived.Defers
import Derived.Lib.AppendStr
import Derived.Shelf.Abstract
import Derived.Lib.Space
import Derived.BigFrame
import Derived.BigQuiet
import Derived.LoopTactic
set_option linter.unusedVariables false
set_option linter.unusedSimpArgs false
namespace Go.Proofs.YtffccgnhdpjlaaaGreatDoor.Ev
open Go Go.RowKit
structure Aside0 (p : Prop) : Prop where mk :: (out : p)
theorem zero234 : Tryz.zeroCells234.size = 256 := by kernel_rfl
/-- The table's block. -/
def TB (g : Nat) (W : World) : Prop := ∃ cs, W.heap[g]? = some (.cells cs 234 (0, 0)) ∧ cs.size = 256
theorem TB_at {g : Nat} {W : World} (h : TB g W) (i : Nat) (hi : i < 256) : (∃ v, W.cell? ⟨g, i, none⟩ = some v) ∧ W.frozen? ⟨g, i, none⟩ = false := by
  obtain ⟨cs, h1, h2⟩ := h
  refine ⟨⟨cs[i]'(by omega), ?_⟩, Lib.frozen_of_heap h1 i⟩
  simp [World.cell?, h1, show i < cs.size by omega]
theorem TB_set {g : Nat} {W : World} (h : TB g W) (i : Nat) (u : Value) : TB g (W.setCell ⟨g, i, none⟩ u) := by
  obtain ⟨cs, h1, h2⟩ := h
  exact ⟨cs.setIfInBounds i u, by simp [World.setCell, Array.getElem?_modify, h1], by simp [h2]⟩
set_option maxHeartbeats 4000000 in
set_option maxRecDepth 100000 in
theorem fcs_New.calls (w : World) : Calls Tryz.prog 50 #[] w fun e w' => ∃ g cs, e = .returned (.pointer (some ⟨g, 0, none⟩)) ∧ w.heap.size ≤ g ∧ w'.heap[g]? = some (.cells cs 234 (0, 0)) ∧ Below w.heap.size w w' := by
  have HT := Aside0.mk (show TB w.heap.size (w.alloc (.cells Tryz.zeroCells234 234 (0, 0))) from ⟨_, heap_alloc_new _ _, zero234⟩)
  have HB := Aside0.mk ((Below.refl w.heap.size w).alloc (Nat.le_refl _) (.cells Tryz.zeroCells234 234 (0, 0)))
  go_enter Tryz.func50, Tryz.ntmps50
  go_wp2_with (fail)
  go_loopw [5] (fun v5 wr => ∃ i : Nat, i ≤ 256 ∧ v5 = .int .i64 i ∧ Aside0 (TB w.heap.size wr) ∧ Aside0 (Below w.heap.size w wr)) (fun v5 _ => 256 - (intOf v5).toNat)
  case atStart => exact ⟨0, by omega, rfl, HT, HB⟩
  case round =>
    clear HT HB
    obtain ⟨i, hi, rfl, HT, HB⟩ := hrel
    by_cases hlt : i < 256
    · go_wp2_with (fail)
      go_loopw [3, 10] (fun v3 v10 w' => ∃ (r : Int) (j : Nat), j ≤ 8 ∧ v3 = .int .u16 r ∧ v10 = .int .i64 j ∧ w' = wr) (fun _ v10 _ => 8 - (intOf v10).toNat)
      case atStart => exact ⟨_, 0, by omega, rfl, rfl, rfl⟩
      case round =>
        obtain ⟨r, j, hj, rfl, rfl, rfl⟩ := hrel
        by_cases hlj : j < 8
        · go_wp2_with (fail)
          all_goals (go_roundw; (case rel => exact ⟨_, j + 1, by omega, rfl, rfl, trivial⟩); (case measure => simp [intOf]; omega))
        · obtain rfl : j = 8 := by omega
          obtain ⟨⟨v, hv⟩, hf⟩ := TB_at HT.out i hlt
          go_wp2_with (fail)
          go_roundw
          case rel => exact ⟨i + 1, by omega, rfl, ⟨TB_set HT.out i _⟩, ⟨HB.out.setCell (p := ⟨w.heap.size, i, none⟩) (Nat.le_refl _) _⟩⟩
          case measure => simp [intOf]; omega
    · obtain rfl : i = 256 := by omega
      go_wp2_with (fail)
      go_ret
      obtain ⟨cs, h1, -⟩ := HT.out
      exact ⟨_, cs, rfl, Nat.le_refl _, h1, HB.out⟩
theorem catch_idle (p q : Addr) (w : World) :
    CallsD Tryz.prog 192 #[.pointer (some p), .pointer (some q)] .returning w fun e u' w' => (∃ v, e = .returned v) ∧ u' = .returning ∧ w' = w := by
  refine callsD_of_wpS Tryz.func192 rfl fun c₀ cs hu => ?_
  apply wpS_seq
  apply wpS_region
  simp [wpOpsS, go_sem, recoverD, hu, Tryz.ntmps192, Exit.thenS]
  refine wpS_of_wp ?_
  cases c₀
  simp at hu
  go_wp2
  simp_all [bodyPostS, results, Tryz.f192]
/-! ### what the runner is given -/
noncomputable def KN (big : Bool) : Kt where
  gv := fun g => bif Nat.beq g 0 then some (0, Lib.asciiSpaceTab.map fun n => Lf.i .u8 n) else none
  idl := fun f => Nat.beq f 192
  orc := fun op x y => match op, x, y with
    | .gtr, .lf (.sy 1), .lf (.i .i64 (.ofNat 1000)) => some (.lf (.b big))
    | _, _, _ => none
  sy := fun _ => none
  ln := fun t x => match x with
    | .lf (.sy 0) => bif Nat.beq t 9 then some (.lf (.sy 1)) else none
    | _ => none
noncomputable def AN (f : FuncId) : Option (List AV → St → Option (AV × St)) :=
  bif Nat.beq f 231 then some sameF else bif Nat.beq f 388 then some (pureF Tryz.prog Extern.BytealgIndexByte.indexByte) else bif Nat.beq f 282 then some (roomF 5) else bif Nat.beq f 50 then some (blindF 234) else none
noncomputable def FN (f : FuncId) : Option Func := Tryz.prog.funcs[f]?
theorem mixed : Tryz.prog.follows .mixedOrders = true := by kernel_rfl
theorem names_ok : (Tryz.prog.funcs.toList.all fun fn => !(fn.name == "runtime.NumGoroutine")) = true := by kernel_rfl
theorem FN_ok : ∀ f fn, FN f = some fn → Tryz.prog.funcs[f]? = some fn ∧ (fn.name == "runtime.NumGoroutine") = false := fun f fn h => by
  refine ⟨h, ?_⟩
  have hm : fn ∈ Tryz.prog.funcs.toList := by
    have := Array.mem_of_getElem? h
    simpa using this
  have := List.all_eq_true.1 names_ok fn hm
  simpa using this
theorem ext231 : ∀ args w, (callFunc 231 args).run Tryz.prog w = ((Extern.AbiNoEscape.same args).run Tryz.prog w).andThen fun v w' => .ok (.value v) w' :=
  run_callFunc_extern Tryz.func231 (by kernel_rfl) (by kernel_rfl) (by kernel_rfl) (e := Extern.AbiNoEscape.same) (by kernel_rfl)
theorem ext388 : ∀ args w, (callFunc 388 args).run Tryz.prog w = ((Extern.BytealgIndexByte.indexByte args).run Tryz.prog w).andThen fun v w' => .ok (.value v) w' :=
  run_callFunc_extern Tryz.func388 (by kernel_rfl) (by kernel_rfl) (by kernel_rfl) (e := Extern.BytealgIndexByte.indexByte) (by kernel_rfl)
theorem ext282 : ∀ args w, (callFunc 282 args).run Tryz.prog w = ((Extern.BytealgMakeNoZero.makeNoZero Tryz.f282.params #[143] args).run Tryz.prog w).andThen fun v w' => .ok (.value v) w' :=
  run_callFunc_extern Tryz.func282 (by kernel_rfl) (by kernel_rfl) (by kernel_rfl) (e := Extern.BytealgMakeNoZero.makeNoZero Tryz.f282.params #[143]) (by kernel_rfl)
theorem AN_ok {K : Kt} : ∀ f g, AN f = some g → DoerOk Tryz.prog K fun f' axs S => bif Nat.beq f' f then g axs S else none := fun f g h => by
  unfold AN at h
  cases h1 : Nat.beq f 231 with
  | true =>
    rw [h1, cond_true] at h
    obtain rfl := Option.some.inj h
    obtain rfl := Nat.eq_of_beq_eq_true h1
    exact sameF_ok ext231
  | false =>
    rw [h1, cond_false] at h
    cases h2 : Nat.beq f 388 with
    | true =>
      rw [h2, cond_true] at h
      obtain rfl := Option.some.inj h
      obtain rfl := Nat.eq_of_beq_eq_true h2
      exact pureF_ok ext388
    | false =>
      rw [h2, cond_false] at h
      cases h3 : Nat.beq f 282 with
      | true =>
        rw [h3, cond_true] at h
        obtain rfl := Option.some.inj h
        obtain rfl := Nat.eq_of_beq_eq_true h3
        exact roomF_ok Tryz.underlying143 ext282
      | false =>
        rw [h3, cond_false] at h
        cases h4 : Nat.beq f 50 with
        | true =>
          rw [h4, cond_true] at h
          obtain rfl := Option.some.inj h
          obtain rfl := Nat.eq_of_beq_eq_true h4
          exact blindF_ok (enters_of Tryz.func50 (by kernel_rfl) rfl) fcs_New.calls
        | false =>
          rw [h4, cond_false] at h
          cases h
theorem KN_idle (big : Bool) : IdlOk Tryz.prog (KN big) := fun g h p q => by
  obtain rfl := Nat.eq_of_beq_eq_true (show Nat.beq g 192 = true from h)
  exact ⟨enters_of Tryz.func192 (by kernel_rfl) rfl, catch_idle p q⟩
noncomputable def okB : Option (AV × St) → Bool
  | some (.e (.lf (.b true)), _) => true
  | _ => false
theorem okB_ok {o : Option (AV × St)} (h : okB o = true) : ∃ T, o = some (.e (.lf (.b true)), T) := by
  unfold okB at h
  split at h
  · exact ⟨_, rfl⟩
  · cases h
end Go.Proofs.YtffccgnhdpjlaaaGreatDoor.Ev
