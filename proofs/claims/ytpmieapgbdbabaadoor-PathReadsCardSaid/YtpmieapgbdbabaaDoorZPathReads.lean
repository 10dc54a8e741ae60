/- The row of the law PathReads, out of its walks and its plain law. -/
import Derived.Test.YtpmieapgbdbabaaDoorMPathReads2
import Derived.Test.YtpmieapgbdbabaaDoorMPathReads1
import Derived.ScopeJumps
import Derived.Laws.DeepStrings4
import Derived.Test.YtpmieapgbdbabaaDoorMPathReads0
import Derived.Lib.IndexLaws
import Derived.KernelRfl
import Derived.Test.YtpmieapgbdbabaaDoorRows
import Derived.Lib.LaidU8
import Derived.Lay
import Derived.Handed
import Derived.SizedLaws
import Derived.LaidLaws
import Derived.Shelf.Vars
import Derived.LaidHandle
import Derived.Stop.Joined
import Derived.Test.YtpmieapgbdbabaaDoorTie
import Derived.Test.YtpmieapgbdbabaaDoorCards
import Derived.WalkKit
import Derived.ProofKit
import Derived.OpenShut
import Derived.ShutString
import Derived.ChangeOld
import Derived.Below
import Derived.Lib.SmallJoins
import Derived.Deep.Slices
import Derived.Deep.Fields
import Derived.ChangeSame
section
/- call.Get, walked by hand: the call of seven bytes, its marks, or none, for every text. -/
set_option linter.unusedVariables false
set_option linter.unusedSimpArgs false
namespace Go.Proofs.YtpmieapgbdbabaaDoor.QAll
open Go.RowKit Go.Proofs.YtpmieapgbdbabaaDoorW.PrintWords Go.Proofs.YtpmieapgbdbabaaDoorW.PrintLast Go.Proofs.YtpmieapgbdbabaaDoorW.PrintMore

def halfL (s : ByteArray) (k : Nat) : List Int := (List.range k).map fun j : Nat => bt s (j : Int) / 2
def getBase (s : ByteArray) : ByteArray := ⟨(Lib.trimRightB (strOfNums (halfL s 6)).data.toList 32).toArray⟩
/-- What Get tells. -/
def getS (s : ByteArray) : ByteArray × Int × Bool × Bool × Int :=
  if s.size < 7 then (⟨#[]⟩, 0, false, false, 4) else if 7 < s.size then (⟨#[]⟩, 0, false, false, 5)
  else if rightB (getBase s) (bt s 6 / 2 % 16) = true ∧ strOfNums (putL (getBase s) (bt s 6 / 2 % 16) (decide (128 ≤ bt s 6)) (decide (bt s 6 % 2 = 1))) = s
    then (getBase s, bt s 6 / 2 % 16, decide (128 ≤ bt s 6), decide (bt s 6 % 2 = 1), 0)
  else (⟨#[]⟩, 0, false, false, 2)
def call_Get.f (a0 : ByteArray) : Option (ByteArray × Int × Bool × Bool × Int) := if a0.size ≤ 9223372036854775807 then some (getS a0) else none

theorem results_cttt {P : Program} {fn : Func} {p u v x : Tmp} {ty : TypeId} (h : fn.results = #[.cell p ty, .tmp u, .tmp v, .tmp x]) (tmps : Array Value) (w : World) (g : Nat) (t : TypeId) (cs : Array Value) (fr : Nat × Nat) (d : TypeDesc)
    (hp : tmps.getD p undef = .pointer (some ⟨g, 0, none⟩)) (hg : w.heap[g]? = some (.cells cs t fr))
    (hu : P.underlying ty = some d) (hd : (match d with | .struct _ | .array _ _ => true | _ => false) = true) (hi : (P.info? ty).map (·.size) = some cs.size) :
    (results fn tmps).run P w = .ok (.tuple #[.agg cs, tmps.getD u undef, tmps.getD v undef, tmps.getD x undef]) w := by
  have hp' : tmps[p]?.getD undef = .pointer (some ⟨g, 0, none⟩) := by simpa using hp
  simp [results, h, hp', asAddr, run_loadVar_row w g t ty cs fr d hg hu hd hi]
theorem halfL_step (s : ByteArray) (k : Nat) : halfL s (k + 1) = halfL s k ++ [bt s k / 2] := by
  unfold halfL
  rw [List.range_succ, List.map_append]
  rfl
theorem halfL_len (s : ByteArray) (k : Nat) : (halfL s k).length = k := by simp [halfL]
theorem mark_bit (c : Int) (h : 0 ≤ c ∧ c ≤ 255) : (Go.bits .and .u8 c 128 != 0) = decide (128 ≤ c) := by
  have h1 : ∀ c : Fin 256, (Go.bits .and .u8 (c.val : Int) 128 != 0) = decide (128 ≤ (c.val : Int)) := by decide +kernel
  have := h1 ⟨c.toNat, by omega⟩
  rw [show ((⟨c.toNat, by omega⟩ : Fin 256).val : Int) = c by simp; omega] at this
  exact this
theorem last_bit (c : Int) (h : 0 ≤ c ∧ c ≤ 255) : (Go.bits .and .u8 c 1 != 0) = decide (c % 2 = 1) := by
  have h1 : ∀ c : Fin 256, (Go.bits .and .u8 (c.val : Int) 1 != 0) = decide ((c.val : Int) % 2 = 1) := by decide +kernel
  have := h1 ⟨c.toNat, by omega⟩
  rw [show ((⟨c.toNat, by omega⟩ : Fin 256).val : Int) = c by simp; omega] at this
  exact this
set_option maxHeartbeats 1000000 in
set_option maxRecDepth 100000 in
theorem call_Get.calls (a0 : ByteArray) (r1 : ByteArray) (r2 : Int) (r3 r4 : Bool) (r5 : Int) (w : World) (h : call_Get.f a0 = some (r1, r2, r3, r4, r5)) :
    Calls Tryd.prog 54 #[.string a0] w fun e w' => e = .returned (.tuple #[.agg #[.string r1, .int .i64 r2], .bool r3, .bool r4, .int .i64 r5]) ∧ Below w.heap.size w w' := by
  unfold call_Get.f at h
  split at h
  case isFalse => exact absurd h (by simp)
  rename_i hs
  have HR := Aside0.mk (Option.some.inj h)
  clear h
  have hu23 := Tryd.underlying23
  by_cases h1 : a0.size < 7
  · have hpr := HR.out
    rw [show getS a0 = (⟨#[]⟩, 0, false, false, 4) by unfold getS; rw [if_pos h1]] at hpr
    simp only [Prod.mk.injEq] at hpr
    obtain ⟨rfl, rfl, rfl, rfl, rfl⟩ := hpr
    clear HR
    go_enter Tryd.func54, Tryd.ntmps54
    go_wp2
    refine bodyPost_ret (results_cttt rfl _ _ w.heap.size 23 #[.string ⟨#[]⟩, .int .i64 0] (0, 0) _ rfl (heap_alloc_new w _) Tryd.underlying23 rfl (by kernel_rfl)) rfl ?_
    exact ⟨rfl, (Below.refl _ _).alloc (Nat.le_refl _) _⟩
  · by_cases h2 : 7 < a0.size
    · have hpr := HR.out
      rw [show getS a0 = (⟨#[]⟩, 0, false, false, 5) by unfold getS; rw [if_neg h1, if_pos h2]] at hpr
      simp only [Prod.mk.injEq] at hpr
      obtain ⟨rfl, rfl, rfl, rfl, rfl⟩ := hpr
      clear HR
      go_enter Tryd.func54, Tryd.ntmps54
      go_wp2
      refine bodyPost_ret (results_cttt rfl _ _ w.heap.size 23 #[.string ⟨#[]⟩, .int .i64 0] (0, 0) _ rfl (heap_alloc_new w _) Tryd.underlying23 rfl (by kernel_rfl)) rfl ?_
      exact ⟨rfl, (Below.refl _ _).alloc (Nat.le_refl _) _⟩
    · have h7 : a0.size = 7 := by omega
      have hb6 := bt_range a0 6
      have HB6 := Aside0.mk hb6
      have kb := fun W => print_bytes (P := Tryd.prog) 9 104 5 Tryd.underlying9 Tryd.underlying104 Tryd.underlying5 (a0.extract 0 6) W
      have hx6 : ∀ h : 6 < a0.size, ((a0[6]'h).toNat : Int) = bt a0 6 := fun h => bt_at a0 6 h
      go_enter Tryd.func54, Tryd.ntmps54
      go_wp2
      have hW2 : ∃ W2, W2 = Lib.bytesWorld (w.alloc (Obj.cells #[Value.string { data := #[] }, Value.int IntKind.i64 0] 23)) 5 (a0.extract 0 6) := ⟨_, rfl⟩
      obtain ⟨W2, hW2⟩ := hW2
      have hsz6 : (a0.extract 0 6).size = 6 := by simp [ByteArray.size_extract]; omega
      have HB2 := Aside0.mk (show Below w.heap.size w W2 by rw [hW2]; exact bytes_below ((Below.refl _ _).alloc (Nat.le_refl _) _) (by simp) _ _)
      have HR2 := Aside0.mk (show W2.heap[w.heap.size]? = some (.cells #[.string ⟨#[]⟩, .int .i64 0] 23 (0, 0)) by
        rw [hW2, (bytes_below (Below.refl _ (w.alloc (Obj.cells #[Value.string { data := #[] }, Value.int IntKind.i64 0] 23))) (Nat.le_refl _) 5 (a0.extract 0 6)).block w.heap.size (by simp)]
        exact heap_alloc_new w _)
      have HC2 := Aside0.mk (show ∀ j : Nat, j < 6 → W2.cell? ⟨w.heap.size + 1, j, none⟩ = some (.int .u8 (bt a0 j)) by
        intro j hj
        have z := Lib.bytesWorld_cell (w.alloc (Obj.cells #[Value.string { data := #[] }, Value.int IntKind.i64 0] 23)) 5 (a0.extract 0 6) j (by omega)
        have e : (w.alloc (Obj.cells #[Value.string { data := #[] }, Value.int IntKind.i64 0] 23)).heap.size = w.heap.size + 1 := by simp
        rw [e] at z
        rw [hW2, z, bt_data a0 j (by omega)]
        congr 3
        simp [ByteArray.data_extract, List.getD_eq_getElem?_getD, hj, show j < a0.size by omega])
      rw [← hW2]
      have HS2 := Aside0.mk (show w.heap.size + 2 ≤ W2.heap.size from World.block_lt_of_cell? _ _ (HC2.out 0 (by omega)))
      clear hW2 kb
      go_loopw [7, 31] (fun v7 v31 wr => ∃ k : Nat, k ≤ 6 ∧ v31 = .int .i64 k ∧ Aside0 (Kd.R (Kd.int .u8) 5 wr W2.heap.size (fun _ => True) v7 (halfL a0 k)) ∧ Aside0 (Below W2.heap.size W2 wr)) (fun v7 v31 _ => 6 - (intOf v31).toNat)
      case atStart => exact ⟨0, by omega, rfl, ⟨Kd.R_nil _ _ _ _ _⟩, ⟨Below.refl _ _⟩⟩
      case round =>
        obtain ⟨k, hk, rfl, HO, HB⟩ := hrel
        by_cases hlt : k < 6
        · have hcell := (HB.out.cell (World.block_lt_of_cell? _ _ (HC2.out k hlt))).trans (HC2.out k hlt)
          have hbk := bt_range a0 k
          have HBK := Aside0.mk hbk
          obtain ⟨y1, hy1⟩ : ∃ y, y = halfL a0 (k + 1) := ⟨_, rfl⟩
          have Ny := Aside0.mk (show y1 = halfL a0 k ++ [bt a0 k / 2] by rw [hy1, halfL_step])
          have HL := Aside0.mk (halfL_len a0 k)
          go_wp2_with (first | ((with_reducible refine gate_builtin (b := .append) (xs := #[.tmp 35, .tmp 38]) rfl ?_); at_builtin; refine Kd.R_append (Kd.int .u8) (w0 := W2) W2.heap.size rfl (.tmp 35) (.tmp 38) 104 5 (.int .u8 0) 1 rfl Tryd.underlying104 info5 rfl (by decide) (by omega) u7 (halfL a0 k) (bt a0 k / 2) [.int .u8 (bt a0 k / 2)] (fun _ => True) (fun _ => False) rfl rfl ?aP (fun _ hk => hk.elim) ?aF ?aO ?aB ?aS ?aL ?_; (case aP => exact rfl); (case aB => exact (by repeat (first | (with_reducible first | exact HB.out | apply below_alloc | apply pw_below_drewN | apply below_drew1) | exact HB.out))); (case aF => exact (fun _ _ => trivial)); (case aO => exact (by (with_reducible repeat (first | apply Kd.R_alloc | apply Kd.R_drewN | apply Kd.R_drew)); exact HO.out)); (case aS => exact (below_size (by repeat (first | (with_reducible first | exact HB.out | apply below_alloc | apply pw_below_drewN | apply below_drew1) | exact HB.out)))); (case aL => have := HL.out; omega); intro v357 w9 ho hb hg hat; rw [← Ny.out] at ho; have n0_ := Aside0.mk (hb); have n1_ := Aside0.mk (ho); clear HB; clear HO; have HB := n0_; have HO358 := n1_; clear n0_ n1_; clear ho hb hg hat))
          refine ⟨⟨k + 1, by omega, by go_num, ⟨by rw [← hy1]; exact HO358.out⟩, HB⟩, by simp [intOf]; omega⟩
        · obtain rfl : k = 6 := by omega
          have hcv10 := own_string (P := Tryd.prog) Tryd.underlying104 Tryd.underlying5 Tryd.underlying9 (Kd.own_of_R HO.out)
          have hT : (strOfNums (halfL a0 6)).size ≤ 9223372036854775807 := by show (List.toArray _).size ≤ _; simp [halfL]
          have HT := Aside0.mk hT
          clear hT
          have HSZ := Aside0.mk (show W2.heap.size ≤ wr.heap.size from HB.out.size)
          have HRr := Aside0.mk ((HB.out.block w.heap.size (by have := HS2.out; omega)).trans HR2.out)
          have HBw := Aside0.mk (below_then HB2.out (by have := HS2.out; omega) HB.out)
          have HSw := Aside0.mk (show w.heap.size + 2 ≤ wr.heap.size by have := HS2.out; have := HSZ.out; omega)
          go_wp2_with (go_at_call 84; (with_reducible refine (Tryd.strings_TrimRight_one (strOfNums (halfL a0 6)) 32 (by decide) _ HT.out).mono ?_); rintro e w' ⟨rfl, hw'⟩; subst hw')
          have HM := Aside0.mk (mark_bit (bt a0 6) HB6.out)
          have HLb := Aside0.mk (last_bit (bt a0 6) HB6.out)
          rw [HM.out, HLb.out]
          have hgb : (⟨(Lib.trimRightB (strOfNums (halfL a0 6)).data.toList 32).toArray⟩ : ByteArray) = getBase a0 := rfl
          simp only [hgb]
          have HG7 := Aside0.mk (show getS a0 = if rightB (getBase a0) (bt a0 6 / 2 % 16) = true ∧ strOfNums (putL (getBase a0) (bt a0 6 / 2 % 16) (decide (128 ≤ bt a0 6)) (decide (bt a0 6 % 2 = 1))) = a0
            then (getBase a0, bt a0 6 / 2 % 16, decide (128 ≤ bt a0 6), decide (bt a0 6 % 2 = 1), 0) else (⟨#[]⟩, 0, false, false, 2) by unfold getS; rw [if_neg h1, if_neg h2])
          have HBs := Aside0.mk (show (getBase a0).size ≤ 9223372036854775807 by
            show (List.toArray _).size ≤ _
            rw [List.size_toArray]
            unfold Lib.trimRightB
            rw [List.length_reverse]
            have h1 := (List.dropWhile_sublist (fun x => x == (32 : UInt8)) (l := (strOfNums (halfL a0 6)).data.toList.reverse)).length_le
            have h2 : (strOfNums (halfL a0 6)).data.toList.length = 6 := by simp [strOfNums, halfL]
            rw [List.length_reverse, h2] at h1
            omega)
          have HSw' := HSw.out
          cases hr : rightB (getBase a0) (bt a0 6 / 2 % 16) with
          | false =>
            have hpr := HR.out
            rw [HG7.out, hr, if_neg (by simp)] at hpr
            simp only [Prod.mk.injEq] at hpr
            obtain ⟨rfl, rfl, rfl, rfl, rfl⟩ := hpr
            refine (call_Put.calls (getBase a0) (bt a0 6 / 2 % 16) _ _ ⟨#[]⟩ 12 _ (by unfold call_Put.f; rw [if_pos HBs.out, hr]; rfl)).mono ?_
            rintro e w3 ⟨rfl, hb3⟩
            clear HR HG7 hr HBs
            have HR3 := Aside0.mk ((hb3.block w.heap.size (by simp; omega)).trans ((Below.heap_alloc _ _ _ (by omega)).trans HRr.out))
            have HB3 := Aside0.mk (below_then (HBw.out.alloc HBw.out.size _) (by simp; omega) hb3)
            clear hb3
            obtain ⟨k0, k1, k2, k3⟩ := two_cell HR3.out
            go_wp2_with (fail)
            refine bodyPost_ret (results_cttt rfl _ _ w.heap.size 23 #[.string ⟨#[]⟩, .int .i64 0] (0, 0) _ rfl (two_set HR3.out) Tryd.underlying23 rfl (by kernel_rfl)) rfl ?_
            exact ⟨rfl, (HB3.out.setCell (Nat.le_refl _) _).setCell (Nat.le_refl _) _⟩
          | true =>
            refine (call_Put.calls (getBase a0) (bt a0 6 / 2 % 16) _ _ (strOfNums (putL (getBase a0) (bt a0 6 / 2 % 16) (decide (128 ≤ bt a0 6)) (decide (bt a0 6 % 2 = 1)))) 0 _ (by unfold call_Put.f; rw [if_pos HBs.out, hr]; rfl)).mono ?_
            rintro e w3 ⟨rfl, hb3⟩
            have HR3 := Aside0.mk ((hb3.block w.heap.size (by simp; omega)).trans ((Below.heap_alloc _ _ _ (by omega)).trans HRr.out))
            have HC3 := Aside0.mk ((hb3.block w'.heap.size (by simp)).trans (heap_alloc_new w' _))
            have HB3 := Aside0.mk (below_then (HBw.out.alloc HBw.out.size _) (by simp; omega) hb3)
            clear hb3
            obtain ⟨k0, k1, k2, k3⟩ := two_cell HR3.out
            obtain ⟨d0, d1, d2, d3⟩ := two_cell HC3.out
            by_cases heq : strOfNums (putL (getBase a0) (bt a0 6 / 2 % 16) (decide (128 ≤ bt a0 6)) (decide (bt a0 6 % 2 = 1))) = a0
            · have hpr := HR.out
              rw [HG7.out, if_pos ⟨hr, heq⟩] at hpr
              simp only [Prod.mk.injEq] at hpr
              obtain ⟨rfl, rfl, rfl, rfl, rfl⟩ := hpr
              have hne : (!(strOfNums (putL (getBase a0) (bt a0 6 / 2 % 16) (decide (128 ≤ bt a0 6)) (decide (bt a0 6 % 2 = 1)))).toList == a0.toList) = false := by rw [heq]; simp
              clear HR HG7 hr HBs heq
              go_wp2_with (fail)
              refine bodyPost_ret (results_cttt rfl _ _ w.heap.size 23 #[.string (getBase a0), .int .i64 (bt a0 6 / 2 % 16)] (0, 0) _ rfl (two_set HR3.out) Tryd.underlying23 rfl (by kernel_rfl)) rfl ?_
              exact ⟨rfl, (HB3.out.setCell (Nat.le_refl _) _).setCell (Nat.le_refl _) _⟩
            · have hpr := HR.out
              rw [HG7.out, if_neg (fun h => heq h.2)] at hpr
              simp only [Prod.mk.injEq] at hpr
              obtain ⟨rfl, rfl, rfl, rfl, rfl⟩ := hpr
              have hne : (!(strOfNums (putL (getBase a0) (bt a0 6 / 2 % 16) (decide (128 ≤ bt a0 6)) (decide (bt a0 6 % 2 = 1)))).toList == a0.toList) = true := by
                rw [Bool.not_eq_true', beq_eq_false_iff_ne]
                intro h
                apply heq
                rw [Go.ByteArray.toList_eq, Go.ByteArray.toList_eq] at h
                generalize strOfNums _ = t at h ⊢
                cases t; cases a0
                congr 1
                exact Array.ext' h
              clear HR HG7 hr HBs heq
              go_wp2_with (fail)
              refine bodyPost_ret (results_cttt rfl _ _ w.heap.size 23 #[.string ⟨#[]⟩, .int .i64 0] (0, 0) _ rfl (two_set HR3.out) Tryd.underlying23 rfl (by kernel_rfl)) rfl ?_
              exact ⟨rfl, (HB3.out.setCell (Nat.le_refl _) _).setCell (Nat.le_refl _) _⟩
end Go.Proofs.YtpmieapgbdbabaaDoor.QAll
end

section
/- path.Get, walked by hand: the path with whose bytes a text begins, or none. -/
set_option linter.unusedVariables false
set_option linter.unusedSimpArgs false
namespace Go.Proofs.YtpmieapgbdbabaaDoor.QAll
open Go.RowKit Go.Proofs.YtpmieapgbdbabaaDoorW.PrintWords Go.Proofs.YtpmieapgbdbabaaDoorW.PrintLast Go.Proofs.YtpmieapgbdbabaaDoorW.PrintMore

theorem wp_scope_again {P : Program} {a : Act} {w : World} {Q : Exit → Act → World → Prop} {c r : Code} (l : Nat) (J : Act → World → Prop) (μ : Act → World → Nat) (hf : findLabel c l = some (.seq .skip r))
    (pass : ∀ a w, J a w → r.wp P (Exit.jump l (fun a' w' => J a' w' ∧ μ a' w' < μ a w) Q) a w)
    (first : (∀ a w, J a w → r.wp P (Exit.jump l J Q) a w) → c.wp P (Exit.jump l J Q) a w) : (Code.scope c).wp P Q a w :=
  wp_scope_jumps l J μ hf (first fun a w h => Code.wp_mono (fun e a' w' hq => by
    cases e with
    | goto l' => exact ⟨hq.1, hq.2.1⟩
    | _ => exact hq) (pass a w h)) (fun a w h => wp_seq (wp_skip (pass a w h)))
theorem frame76 (t : Array Value) (h : t.size = 76) : ∃ u : Nat → Value, t = #[u 0, u 1, u 2, u 3, u 4, u 5, u 6, u 7, u 8, u 9, u 10, u 11, u 12, u 13, u 14, u 15, u 16, u 17, u 18, u 19, u 20, u 21, u 22, u 23, u 24, u 25, u 26, u 27, u 28, u 29, u 30, u 31, u 32, u 33, u 34, u 35, u 36, u 37, u 38, u 39, u 40, u 41, u 42, u 43, u 44, u 45, u 46, u 47, u 48, u 49, u 50, u 51, u 52, u 53, u 54, u 55, u 56, u 57, u 58, u 59, u 60, u 61, u 62, u 63, u 64, u 65, u 66, u 67, u 68, u 69, u 70, u 71, u 72, u 73, u 74, u 75] ∧ ∀ i, t.getD i undef = u i := by
  refine ⟨fun i => t.getD i undef, ?_, fun _ => rfl⟩
  have e : t = ((List.range 76).map fun i => t.getD i undef).toArray := by
    apply Array.ext
    · simp [h]
    · intro i h1 h2
      simp [h1]
  conv => lhs; rw [e]
  rfl
theorem jump_ret {l : Nat} {J : Act → World → Prop} {Q : Exit → Act → World → Prop} {a : Act} {w : World} (h : Q .ret a w) : Exit.jump l J Q .ret a w := h
theorem then_goto {K : Act → World → Prop} {l : Nat} {J : Act → World → Prop} {Q : Exit → Act → World → Prop} {a : Act} {w : World} (h : J a w) : Exit.then K (Exit.jump l J Q) (.goto l) a w := ⟨rfl, h⟩
theorem results_ctt {P : Program} {fn : Func} {p u v : Tmp} {ty : TypeId} (h : fn.results = #[.cell p ty, .tmp u, .tmp v]) (tmps : Array Value) (w : World) (g : Nat) (t : TypeId) (cs : Array Value) (fr : Nat × Nat) (d : TypeDesc)
    (hp : tmps.getD p undef = .pointer (some ⟨g, 0, none⟩)) (hg : w.heap[g]? = some (.cells cs t fr))
    (hu : P.underlying ty = some d) (hd : (match d with | .struct _ | .array _ _ => true | _ => false) = true) (hi : (P.info? ty).map (·.size) = some cs.size) :
    (results fn tmps).run P w = .ok (.tuple #[.agg cs, tmps.getD u undef, tmps.getD v undef]) w := by
  have hp' : tmps[p]?.getD undef = .pointer (some ⟨g, 0, none⟩) := by simpa using hp
  simp [results, h, hp', asAddr, run_loadVar_row w g t ty cs fr d hg hu hd hi]
theorem below_two_ {B B' : Nat} {w W w' : World} (h1 : Below B w W) (h : B ≤ B') (h2 : Below B' W w') : Below B w w' :=
  ⟨h2.os.trans h1.os, h2.tape.trans h1.tape, h2.output.trans h1.output, Nat.le_trans h1.size h2.size, fun k hk => (h2.block k (Nat.lt_of_lt_of_le hk h)).trans (h1.block k hk)⟩
theorem two_cell' {w : World} {g : Nat} {a b : Value} {t : TypeId} (h : w.heap[g]? = some (.cells #[a, b] t (0, 0))) :
    w.cell? ⟨g, 0, none⟩ = some a ∧ w.cell? ⟨g, 1, none⟩ = some b ∧ w.frozen? ⟨g, 0, none⟩ = false ∧ w.frozen? ⟨g, 1, none⟩ = false := by
  simp [World.cell?, World.frozen?, h]
theorem seven_set {w : World} {g : Nat} {a0 a1 a2 a3 a4 a5 a6 x0 x1 x2 x3 x4 x5 x6 : Value} {t : TypeId} (h : w.heap[g]? = some (.cells #[a0, a1, a2, a3, a4, a5, a6] t (0, 0))) :
    (((((((w.setCell ⟨g, 0, none⟩ x0).setCell ⟨g, 1, none⟩ x1).setCell ⟨g, 2, none⟩ x2).setCell ⟨g, 3, none⟩ x3).setCell ⟨g, 4, none⟩ x4).setCell ⟨g, 5, none⟩ x5).setCell ⟨g, 6, none⟩ x6).heap[g]? = some (.cells #[x0, x1, x2, x3, x4, x5, x6] t (0, 0)) := by
  simp [World.setCell, Array.getElem?_modify, h]
theorem seven_below {n : Nat} {w W : World} {g : Nat} (h : Below n w W) (hg : n ≤ g) (x0 x1 x2 x3 x4 x5 x6 : Value) :
    Below n w (((((((W.setCell ⟨g, 0, none⟩ x0).setCell ⟨g, 1, none⟩ x1).setCell ⟨g, 2, none⟩ x2).setCell ⟨g, 3, none⟩ x3).setCell ⟨g, 4, none⟩ x4).setCell ⟨g, 5, none⟩ x5).setCell ⟨g, 6, none⟩ x6) :=
  ((((((h.setCell hg _).setCell hg _).setCell hg _).setCell hg _).setCell hg _).setCell hg _).setCell hg _
theorem seven_cell {w : World} {g : Nat} {a0 a1 a2 a3 a4 a5 a6 : Value} {t : TypeId} (h : w.heap[g]? = some (.cells #[a0, a1, a2, a3, a4, a5, a6] t (0, 0))) :
    (w.cell? ⟨g, 0, none⟩ = some a0 ∧ w.cell? ⟨g, 1, none⟩ = some a1 ∧ w.cell? ⟨g, 2, none⟩ = some a2 ∧ w.cell? ⟨g, 3, none⟩ = some a3 ∧ w.cell? ⟨g, 4, none⟩ = some a4 ∧ w.cell? ⟨g, 5, none⟩ = some a5 ∧ w.cell? ⟨g, 6, none⟩ = some a6) ∧
    (w.frozen? ⟨g, 0, none⟩ = false ∧ w.frozen? ⟨g, 1, none⟩ = false ∧ w.frozen? ⟨g, 2, none⟩ = false ∧ w.frozen? ⟨g, 3, none⟩ = false ∧ w.frozen? ⟨g, 4, none⟩ = false ∧ w.frozen? ⟨g, 5, none⟩ = false ∧ w.frozen? ⟨g, 6, none⟩ = false) := by
  simp [World.cell?, World.frozen?, h]
def RdOk (w w' : World) : Prop := ∀ a v, w.cell? a = some v → w'.cell? a = some v
theorem rdOk_refl (w : World) : RdOk w w := fun _ _ h => h
theorem rdOk_alloc {w w' : World} (h : RdOk w w') (o : Obj) : RdOk w (w'.alloc o) := fun a v hv => by
  have := h a v hv
  rw [World.cell?_alloc_lt]
  · exact this
  · exact World.block_lt_of_cell? w' a this
theorem seven_Q {α : Type} {d : Kd α} {e base : Nat} {w : World} {v : Value} {xs : List α} {g : Nat} (h : d.Q e w base (fun _ => True) v xs) (hg : g < base) (x0 x1 x2 x3 x4 x5 x6 : Value) :
    d.Q e (((((((w.setCell ⟨g, 0, none⟩ x0).setCell ⟨g, 1, none⟩ x1).setCell ⟨g, 2, none⟩ x2).setCell ⟨g, 3, none⟩ x3).setCell ⟨g, 4, none⟩ x4).setCell ⟨g, 5, none⟩ x5).setCell ⟨g, 6, none⟩ x6) base (fun _ => True) v xs :=
  Kd.Q_mono (Kd.Q_move (Kd.Q_bound h) (fun k hk => by
    have hne : k ≠ g := by have := hk.2.1; omega
    rw [Below.heap_setCell _ _ _ _ hne, Below.heap_setCell _ _ _ _ hne, Below.heap_setCell _ _ _ _ hne, Below.heap_setCell _ _ _ _ hne, Below.heap_setCell _ _ _ _ hne, Below.heap_setCell _ _ _ _ hne, Below.heap_setCell _ _ _ _ hne])) (fun _ _ => trivial)
def path_Get.T15 : Bool × List (List Nat × List Nat) := (true, [([], []), ([0], [0]), ([1], [1]), ([2], [2]), ([], []), ([4], [4]), ([5], [5]), ([6], [6]), ([], []), ([8], [8]), ([9], [9]), ([10], [10]), ([], []), ([12], [12]), ([13], [13]), ([14], [14]), ([], []), ([16], [16]), ([3, 7, 11, 15, 17], [3, 7, 11, 15, 17]), ([], []), ([19, 18, 0, 1, 2, 3, 4, 5, 6, 7, 8, 9, 10, 11, 12, 13, 14, 15, 16, 17, 18, 19], [18, 19])])
def path_Get.B15 : List Nat := [0, 1, 3, 7, 0, 16, 48, 112, 0, 256, 768, 1792, 0, 4096, 12288, 28672, 0, 65536, 262143, 0, 1048575]
theorem path_Get.tab15 : rtab .any (opsOf Tryd.f29 15) = path_Get.T15 := by kernel_rfl
theorem path_Get.bits15 : waitsOk path_Get.T15.2 path_Get.B15 = true := by kernel_rfl
/-- The entry that begins at the k-th seven bytes. -/
def pgT (s : ByteArray) (k : Nat) : ByteArray := s.extract (7 * k) (7 * k + 7)
def pgE (s : ByteArray) (k : Nat) : S93 := ⟨⟨(getS (pgT s k)).1, (getS (pgT s k)).2.1⟩, (getS (pgT s k)).2.2.1⟩
/-- What is told behind k entries, which are l. -/
def pgFrom (s : ByteArray) : Nat → Nat → List S93 → Nat × List S93 × Int
  | 0, _, _ => (0, [], 11)
  | f + 1, k, l =>
    if s.size < 7 * k + 7 then (0, [], 4)
    else if (getS (pgT s k)).2.2.2.2 ≠ 0 then (0, [], 2)
    else if k = 10 then (0, [], 11)
    else if (getS (pgT s k)).2.2.2.1 = false then pgFrom s f (k + 1) (l ++ [pgE s k])
    else if k = 0 then (0, [], 2)
    else if ordB ((l ++ [pgE s k]).drop 2) = true then (7 * k + 7, l ++ [pgE s k], 0) else (0, [], 11)
def pgS (s : ByteArray) : Nat × List S93 × Int := pgFrom s 11 0 []
def path_Get.f (a0 : ByteArray) : Option (ByteArray × Int × ByteArray × Int × Bool × Bool × List S93 × Int × Int) :=
  if a0.size ≤ 1000000 then some ((rd_T93 (pgS a0).2.1 0).f0.f0, (rd_T93 (pgS a0).2.1 0).f0.f1, (rd_T93 (pgS a0).2.1 1).f0.f0, (rd_T93 (pgS a0).2.1 1).f0.f1, (rd_T93 (pgS a0).2.1 0).f1, (rd_T93 (pgS a0).2.1 1).f1, (pgS a0).2.1.drop 2, ((pgS a0).1 : Int), (pgS a0).2.2) else none
set_option maxHeartbeats 4000000 in
set_option maxRecDepth 100000 in
theorem path_Get.calls (a0 : ByteArray) (r0 : ByteArray) (r1 : Int) (r2 : ByteArray) (r3 : Int) (r4 r5 : Bool) (r6 : List S93) (r7 r8 : Int) (w : World) (h : path_Get.f a0 = some (r0, r1, r2, r3, r4, r5, r6, r7, r8)) :
    Calls Tryd.prog 29 #[.string a0] w fun e w' => ∃ v6_ : Value, e = .returned (.tuple #[.agg #[.string r0, .int .i64 r1, .string r2, .int .i64 r3, .bool r4, .bool r5, v6_], .int .i64 r7, .int .i64 r8]) ∧ Kd.Q k93 93 w' w.heap.size (fun _ => True) v6_ r6 ∧ Below w.heap.size w w' := by
  unfold path_Get.f at h
  split at h
  case isFalse => cases h
  rename_i hs
  have HS := Aside0.mk hs
  have HR := Aside0.mk (Option.some.inj h)
  clear h hs
  have hu23 := Tryd.underlying23
  have hu26 := Tryd.underlying26
  have hu93 := Tryd.underlying93
  obtain ⟨w2, hw2⟩ : ∃ w2, w2 = w.alloc (.cells #[.string ⟨#[]⟩, .int .i64 0, .string ⟨#[]⟩, .int .i64 0, .bool false, .bool false, .slice none 0 0] 26) := ⟨_, rfl⟩
  have HB2 := Aside0.mk (show Below w.heap.size w w2 by rw [hw2]; exact (Below.refl _ _).alloc (Nat.le_refl _) _)
  have HK2 := Aside0.mk (show w2.heap[w.heap.size]? = some (.cells #[.string ⟨#[]⟩, .int .i64 0, .string ⟨#[]⟩, .int .i64 0, .bool false, .bool false, .slice none 0 0] 26 (0, 0)) by rw [hw2]; exact heap_alloc_new w _)
  have HZ2 := Aside0.mk (show w.heap.size + 1 ≤ w2.heap.size by rw [hw2]; simp)
  go_enter Tryd.func29, Tryd.ntmps29
  go_wp2
  refine wp_scope_again 0 (fun a' wr => ∃ (k : Nat) (l : List S93) (v5 : Value) (t : Array Value), a' = { tmps := t, defers := [] } ∧ t.size = 76 ∧ t.getD 0 undef = .string a0 ∧ t.getD 2 undef = .pointer (some ⟨w.heap.size, 0, none⟩) ∧ t.getD 3 undef = .int .i64 0 ∧ t.getD 4 undef = .int .i64 0 ∧ t.getD 5 undef = v5 ∧ t.getD 6 undef = .int .i64 ((7 * k : Nat) : Int) ∧ k ≤ 10 ∧ l.length = k ∧ Aside0 (pgFrom a0 (11 - k) k l = pgS a0) ∧ Aside0 (Kd.R k93 93 wr w2.heap.size (fun _ => True) v5 l) ∧ Aside0 (Below w2.heap.size w2 wr))
    (fun a' _ => 11 - (intOf (a'.tmps.getD 6 undef)).toNat / 7) (by rfl) ?pass ?first
  case pass =>
    rintro a' wr ⟨k, l, v5, t, rfl, hsz, g0, g2, g3, g4, g5, g6, hk, hkl, HG, HO, HB⟩
    clear hw2
    obtain ⟨u, rfl, hu⟩ := frame76 t hsz
    rw [hu 0] at g0
    rw [hu 2] at g2
    rw [hu 3] at g3
    rw [hu 4] at g4
    rw [hu 5] at g5
    rw [hu 6] at g6
    rw [g0, g2, g3, g4, g5, g6]
    clear g0 g2 g3 g4 g5 g6 hu hsz
    go_hide hQ
    have HSW := Aside0.mk (show w2.heap.size ≤ wr.heap.size from HB.out.size)
    have HKr := Aside0.mk ((HB.out.block w.heap.size (by have := HZ2.out; omega)).trans HK2.out)
    have HBw := Aside0.mk (below_then HB2.out (by have := HZ2.out; omega) HB.out)
    have hs := HS.out
    have HG1 := Aside0.mk (show pgFrom a0 (11 - k) k l = (if a0.size < 7 * k + 7 then (0, [], 4)
      else if (getS (pgT a0 k)).2.2.2.2 ≠ 0 then (0, [], 2)
      else if k = 10 then (0, [], 11)
      else if (getS (pgT a0 k)).2.2.2.1 = false then pgFrom a0 (10 - k) (k + 1) (l ++ [pgE a0 k])
      else if k = 0 then (0, [], 2)
      else if ordB ((l ++ [pgE a0 k]).drop 2) = true then (7 * k + 7, l ++ [pgE a0 k], 0) else (0, [], 11)) by
      conv => lhs; rw [show 11 - k = (10 - k) + 1 by omega]; unfold pgFrom)
    have HE := Aside0.mk (show ∀ x : Int, pgS a0 = (0, [], x) → r0 = ⟨#[]⟩ ∧ r1 = 0 ∧ r2 = ⟨#[]⟩ ∧ r3 = 0 ∧ r4 = false ∧ r5 = false ∧ r6 = [] ∧ r7 = 0 ∧ r8 = x by
      intro x hx
      have h0 := HR.out
      rw [hx] at h0
      simp only [Prod.mk.injEq] at h0
      obtain ⟨g0, g1, g2, g3, g4, g5, g6, g7, g8⟩ := h0
      exact ⟨g0.symm, g1.symm, g2.symm, g3.symm, g4.symm, g5.symm, g6.symm, g7.symm, g8.symm⟩)
    by_cases h1 : a0.size < 7 * k + 7
    · obtain ⟨rfl, rfl, rfl, rfl, rfl, rfl, rfl, rfl, rfl⟩ := HE.out 4 (by rw [← HG.out, HG1.out, if_pos h1])
      clear HE HG HG1 HR HSW HO HB
      obtain ⟨⟨k0, k1, k2, k3, k4, k5, k6⟩, f0, f1, f2, f3, f4, f5, f6⟩ := seven_cell HKr.out
      go_wp2_with (fail)
      subst hQ
      refine jump_ret ?_
      refine bodyPost_ret (results_ctt rfl _ _ w.heap.size 26 _ (0, 0) _ rfl (seven_set HKr.out) Tryd.underlying26 rfl (by kernel_rfl)) rfl ?_
      exact ⟨_, rfl, Kd.Q_nil _ _ _ _ _, seven_below HBw.out (Nat.le_refl _) _ _ _ _ _ _ _⟩
    · have hlo : 7 * k + 7 ≤ a0.size := by omega
      obtain ⟨⟨b, q, m, la, e⟩, hg⟩ : ∃ x, getS (pgT a0 k) = x := ⟨_, rfl⟩
      have hpe : pgE a0 k = ⟨⟨b, q⟩, m⟩ := by unfold pgE; rw [hg]
      have HG2 := Aside0.mk (show pgS a0 = if e ≠ 0 then (0, [], 2) else if k = 10 then (0, [], 11) else if la = false then pgFrom a0 (10 - k) (k + 1) (l ++ [(⟨⟨b, q⟩, m⟩ : S93)])
        else if k = 0 then (0, [], 2) else if ordB ((l ++ [(⟨⟨b, q⟩, m⟩ : S93)]).drop 2) = true then (7 * k + 7, l ++ [(⟨⟨b, q⟩, m⟩ : S93)], 0) else (0, [], 11) by
        rw [← HG.out, HG1.out, if_neg h1, hg, hpe])
      have HGt := Aside0.mk (show call_Get.f (pgT a0 k) = some (b, q, m, la, e) by
        unfold call_Get.f
        rw [if_pos (by unfold pgT; simp only [ByteArray.size_extract]; omega), hg])
      have hsl : ∀ W : World, (Instr.slice 9 (.string a0) (some (.int .i64 (7 * (k : Int)))) (some (.int .i64 (7 * (k : Int) + 7))) none).run Tryd.prog W = .ok (.string (pgT a0 k)) W := by
        intro W
        rw [Go.run_slice_string_if (P := Tryd.prog) (w := W) 9 a0 .i64 .i64 (7 * (k : Int)) (7 * (k : Int) + 7) Tryd.underlying9, if_pos (by omega), if_pos (by omega)]
        unfold pgT
        rw [show (7 * (k : Int)).toNat = 7 * k by omega, show (7 * (k : Int) + 7).toNat = 7 * k + 7 by omega]
      clear HG1 HG hg hpe
      go_wp2_with (fail)
      refine (call_Get.calls (pgT a0 k) b q m la e _ HGt.out).mono ?_
      rintro ex w3 ⟨rfl, hb3⟩
      have HK3 := Aside0.mk ((hb3.block w.heap.size (by have := HSW.out; have := HZ2.out; omega)).trans HKr.out)
      have HB3 := Aside0.mk (below_then HBw.out HBw.out.size hb3)
      have HBx3 := Aside0.mk (below_then HB.out HB.out.size hb3)
      have HO3 := Aside0.mk (Kd.R_below HO.out hb3)
      have hsw3 : w.heap.size + 1 ≤ w3.heap.size := by have := HSW.out; have := HZ2.out; have := hb3.size; omega
      clear HKr HBw HB HO hb3 hsl HGt
      go_upto_region 6 with fail
      have HK4 := Aside0.mk ((Below.heap_alloc w3 (.cells #[.string b, .int .i64 q] 23) w.heap.size (by omega)).trans HK3.out)
      have HC4 := Aside0.mk (heap_alloc_new w3 (.cells #[.string b, .int .i64 q] 23))
      have HB4 := Aside0.mk (HB3.out.alloc (by omega) (.cells #[.string b, .int .i64 q] 23))
      have HBx4 := Aside0.mk (HBx3.out.alloc HBx3.out.size (.cells #[.string b, .int .i64 q] 23))
      have HO4 := Aside0.mk (Kd.R_alloc HO3.out (.cells #[.string b, .int .i64 q] 23))
      have HZ4 := Aside0.mk (show w.heap.size + 1 ≤ (w3.alloc (.cells #[.string b, .int .i64 q] 23)).heap.size by simp; omega)
      clear HK3 HB3 HBx3 HO3
      generalize w3.alloc (.cells #[.string b, .int .i64 q] 23) = w4 at HK4 HC4 HB4 HBx4 HO4 HZ4 ⊢
      obtain ⟨d0, d1, d2, d3⟩ := two_cell' HC4.out
      obtain ⟨⟨k0, k1, k2, k3, k4, k5, k6⟩, f0, f1, f2, f3, f4, f5, f6⟩ := seven_cell HK4.out
      by_cases he : e = 0
      · subst he
        go_upto_region 8 with fail
        by_cases h10 : k = 10
        · subst h10
          obtain ⟨rfl, rfl, rfl, rfl, rfl, rfl, rfl, rfl, rfl⟩ := HE.out 11 (by rw [HG2.out, if_neg (by simp), if_pos rfl])
          obtain ⟨A5, c5, rfl, hle5, hC5⟩ := Kd.R_reads HO4.out
          clear HE HG2 HR HSW hC5
          rw [hkl]
          go_wp2_with (fail)
          subst hQ
          refine jump_ret ?_
          refine bodyPost_ret (results_ctt rfl _ _ w.heap.size 26 _ (0, 0) _ rfl (seven_set HK4.out) Tryd.underlying26 rfl (by kernel_rfl)) rfl ?_
          exact ⟨_, rfl, Kd.Q_nil _ _ _ _ _, seven_below HB4.out (Nat.le_refl _) _ _ _ _ _ _ _⟩
        · have HG3 := Aside0.mk (show pgS a0 = if la = false then pgFrom a0 (10 - k) (k + 1) (l ++ [(⟨⟨b, q⟩, m⟩ : S93)])
            else if k = 0 then (0, [], 2) else if ordB ((l ++ [(⟨⟨b, q⟩, m⟩ : S93)]).drop 2) = true then (7 * k + 7, l ++ [(⟨⟨b, q⟩, m⟩ : S93)], 0) else (0, [], 11) by rw [HG2.out, if_neg (by simp), if_neg h10])
          clear HG2
          have HL4 := Aside0.mk (show (l.length + 1) * 32 ≤ 140737488355328 by omega)
          obtain ⟨A5, c5, rfl, hle5, hC5⟩ := Kd.R_reads HO4.out
          clear hC5
          have hlk : ((l.length : Int) == 10) = false := by rw [beq_eq_false_iff_ne]; omega
          go_upto_region 11 with (first | ((with_reducible refine gate_builtin (b := .append) (xs := #[.tmp 36, .tmp 40]) rfl ?_); at_builtin; refine Kd.R_append k93 (w0 := w2) w2.heap.size rfl (.tmp 36) (.tmp 40) 24 93 (.agg #[(.string ⟨#[]⟩), (.int .i64 0), (.bool false)]) 32 rfl Tryd.underlying24 info93 rfl (by decide) (by omega) (.slice A5 l.length c5) l ⟨⟨b, q⟩, m⟩ [.string b, .int .i64 q, .bool m] (fun _ => True) (fun _ => False) rfl rfl ?aP (fun _ hk => hk.elim) ?aF ?aO ?aB ?aS ?aL ?_; (case aP => exact k93_mkM _ _ _ _); (case aB => exact HBx4.out); (case aF => exact (fun _ _ => trivial)); (case aO => exact HO4.out); (case aS => exact (below_size HBx4.out)); (case aL => exact HL4.out); intro v9 w9 ho hb hgg hat))
          have HO9 := Aside0.mk ho
          have HBx9 := Aside0.mk hb
          have HK9 := Aside0.mk ((hb.block w.heap.size (by have := HZ2.out; omega)).trans HK2.out)
          have HB9 := Aside0.mk (below_two_ HB2.out (by have := HZ2.out; omega) hb)
          have hsw9 : w.heap.size + 1 ≤ w9.heap.size := by have := HZ2.out; have := hb.size; omega
          clear ho hb hgg hat HO4 HBx4 HK4 HB4 HC4 HZ4 HL4 hlk d0 d1 d2 d3 k0 k1 k2 k3 k4 k5 k6 f0 f1 f2 f3 f4 f5 f6 hsw3 hle5
          cases la with
          | false =>
            go_wp2_with (fail)
            go_step3
            subst hQ
            refine then_goto ?_
            refine ⟨⟨k + 1, l ++ [(⟨⟨b, q⟩, m⟩ : S93)], v9, _, rfl, rfl, rfl, rfl, rfl, rfl, rfl, by show Value.int .i64 _ = Value.int .i64 _; congr 1 <;> omega, by omega, by simp [hkl], ⟨by rw [HG3.out, show 11 - (k + 1) = 10 - k by omega]; simp⟩, HO9, HBx9⟩, ?_⟩
            show 11 - (intOf (Value.int .i64 _)).toNat / 7 < 11 - (intOf (Value.int .i64 _)).toNat / 7
            simp only [intOf]
            omega
          | true =>
            by_cases hk0 : k = 0
            · subst hk0
              obtain ⟨rfl, rfl, rfl, rfl, rfl, rfl, rfl, rfl, rfl⟩ := HE.out 2 (by rw [HG3.out, if_neg (by simp), if_pos rfl])
              have HLn := Aside0.mk (show (l ++ [(⟨⟨b, q⟩, m⟩ : S93)]).length = 1 by simp [hkl])
              clear HE HG3 HR
              obtain ⟨A6, c6, rfl, hle6, hC6⟩ := Kd.R_reads HO9.out
              clear hC6 HO9 hle6
              rw [HLn.out]
              obtain ⟨⟨k0, k1, k2, k3, k4, k5, k6⟩, f0, f1, f2, f3, f4, f5, f6⟩ := seven_cell HK9.out
              go_wp2_with (fail)
              subst hQ
              refine jump_ret ?_
              refine bodyPost_ret (results_ctt rfl _ _ w.heap.size 26 _ (0, 0) _ rfl (seven_set HK9.out) Tryd.underlying26 rfl (by kernel_rfl)) rfl ?_
              exact ⟨_, rfl, Kd.Q_nil _ _ _ _ _, seven_below HB9.out (Nat.le_refl _) _ _ _ _ _ _ _⟩
            · have HG4 := Aside0.mk (show pgS a0 = if ordB ((l ++ [(⟨⟨b, q⟩, m⟩ : S93)]).drop 2) = true then (7 * k + 7, l ++ [(⟨⟨b, q⟩, m⟩ : S93)], 0) else (0, [], 11) by rw [HG3.out, if_neg (by simp), if_neg hk0])
              have HLn := Aside0.mk (show (l ++ [(⟨⟨b, q⟩, m⟩ : S93)]).length = k + 1 by simp [hkl])
              clear HG3
              obtain ⟨L, hL⟩ : ∃ L, L = l ++ [(⟨⟨b, q⟩, m⟩ : S93)] := ⟨_, rfl⟩
              rw [← hL] at HG4 HLn HO9
              clear hL hkl
              obtain ⟨g, c6, rfl, hgle, hglt, gcs, hgb⟩ := Kd.R_form HO9.out (by have := HLn.out; omega)
              obtain ⟨_, hle6, hC6⟩ := Kd.R_reads' HO9.out
              obtain ⟨ad, e', x0, x1, x2⟩ := at_T93 hC6 0 (by omega) (by have := HLn.out; omega)
              cases e'
              obtain ⟨ad', e', y0, y1, y2⟩ := at_T93 hC6 1 (by omega) (by have := HLn.out; omega)
              cases e'
              replace x0 : w9.cell? ⟨g, 0, none⟩ = some (.string (rd_T93 L 0).f0.f0) := x0
              replace x1 : w9.cell? ⟨g, 1, none⟩ = some (.int .i64 (rd_T93 L 0).f0.f1) := x1
              replace x2 : w9.cell? ⟨g, 2, none⟩ = some (.bool (rd_T93 L 0).f1) := x2
              replace y0 : w9.cell? ⟨g, 3, none⟩ = some (.string (rd_T93 L 1).f0.f0) := y0
              replace y1 : w9.cell? ⟨g, 4, none⟩ = some (.int .i64 (rd_T93 L 1).f0.f1) := y1
              replace y2 : w9.cell? ⟨g, 5, none⟩ = some (.bool (rd_T93 L 1).f1) := y2
              clear hgb hgle
              obtain ⟨i0, hi0, _, hsz0, _⟩ := info_parts info93
              have hcut := cut_from (P := Tryd.prog) 24 93 .i64 Tryd.underlying24 hi0 3 hsz0 (some ⟨g, 0, none⟩) L.length c6 2 (by omega) (by have := HLn.out; omega)
              have hQ9 := Kd.Q_drop (k := 2) (Kd.Q_of_R HO9.out) (by have := HLn.out; omega)
              have HQ9 := Aside0.mk hQ9
              clear hQ9 hi0 hsz0 hC6
              rw [HLn.out] at hcut HQ9 hle6
              rw [HLn.out]
              obtain ⟨Ac, hAc⟩ : ∃ A : Option Addr, A = (if c6 = 2 then some ⟨g, 0, none⟩ else some ⟨g, 6, none⟩) := ⟨_, rfl⟩
              obtain ⟨D, hD⟩ : ∃ D, D = L.drop 2 := ⟨_, rfl⟩
              obtain ⟨cc, hcc⟩ : ∃ c, c = c6 - 2 := ⟨_, rfl⟩
              have hDl : D.length = k - 1 := by rw [hD, List.length_drop, HLn.out]; omega
              have HDl := Aside0.mk hDl
              have hccl := Aside0.mk (show D.length ≤ cc by omega)
              replace hcut : ∀ W : World, (Instr.slice 24 (.slice (some ⟨g, 0, none⟩) (k + 1) c6) (some (.int .i64 2)) none none).run Tryd.prog W = .ok (.slice Ac D.length cc) W := by
                intro W
                rw [hcut W, hAc, hDl, hcc]
                congr 2
              replace HQ9 : Aside0 (Kd.Q k93 93 w9 w2.heap.size (fun _ => True) (.slice Ac D.length cc) D) := ⟨by rw [hAc, hDl, hD, hcc]; exact HQ9.out⟩
              have HD := Aside0.mk hD
              clear hAc hD hcc hDl
              have hk1 : (1 : Int) < (k : Int) + 1 := by omega
              subst hQ
              go_upto_region 15 with fail
              replace x0 : w9.drew.cell? ⟨g, 0, none⟩ = some (.string (rd_T93 L 0).f0.f0) := x0
              replace x1 : w9.drew.cell? ⟨g, 1, none⟩ = some (.int .i64 (rd_T93 L 0).f0.f1) := x1
              replace x2 : w9.drew.cell? ⟨g, 2, none⟩ = some (.bool (rd_T93 L 0).f1) := x2
              replace y0 : w9.drew.cell? ⟨g, 3, none⟩ = some (.string (rd_T93 L 1).f0.f0) := y0
              replace y1 : w9.drew.cell? ⟨g, 4, none⟩ = some (.int .i64 (rd_T93 L 1).f0.f1) := y1
              replace y2 : w9.drew.cell? ⟨g, 5, none⟩ = some (.bool (rd_T93 L 1).f1) := y2
              refine start_ (n := 21) (S := fun w' => True) (ds := []) #[false, false, false, false, false, false, false, false, false, false, false, false, false, false, false, false, false, false, false, false, false] (by kernel_rfl) rfl rfl trivial (fun hHeld => ?_)
              refine with_tabW path_Get.tab15 path_Get.bits15 (fun HT_ HW_ => ?_)
              generalize hw10 : w9.drew = w10 at x0 x1 x2 y0 y1 y2 hHeld ⊢
              have FR := Aside0.mk (rdOk_refl w10)
              have FA := Aside0.mk (rfl : w10 = w10)
              refine pure_ (i := 0) (N := some 50) (v := ?_) (a' := ?_) #[true, false, false, false, false, false, false, false, false, false, false, false, false, false, false, false, false, false, false, false, false] rfl rfl (any_of HT_.out (by kernel_rfl)) (fun _ _ _ h => h) (Or.inl ⟨by rfl, ?_⟩) ?_ ?_
              rotate_left
              · intro w'
                go_simp
                with_reducible rfl
              rotate_left
              · simp only [Act.put, List.setIfInBounds_toArray, List.set_cons_zero, List.set_cons_succ, i64_w, i32_w]
                rfl
              refine pure_ (i := 1) (N := some 51) (v := ?_) (a' := ?_) #[true, true, false, false, false, false, false, false, false, false, false, false, false, false, false, false, false, false, false, false, false] rfl rfl (any_of HT_.out (by kernel_rfl)) (fun _ _ _ h => h) (Or.inl ⟨by rfl, ?_⟩) ?_ ?_
              rotate_left
              · intro w'
                go_simp
                with_reducible rfl
              rotate_left
              · simp only [Act.put, List.setIfInBounds_toArray, List.set_cons_zero, List.set_cons_succ, i64_w, i32_w]
                rfl
              refine pure_ (i := 2) (N := some 52) (v := ?_) (a' := ?_) #[true, true, true, false, false, false, false, false, false, false, false, false, false, false, false, false, false, false, false, false, false] rfl rfl (any_of HT_.out (by kernel_rfl)) (fun _ _ _ h => h) (Or.inl ⟨by rfl, ?_⟩) ?_ ?_
              rotate_left
              · intro w'
                go_simp
                with_reducible rfl
              rotate_left
              · simp only [Act.put, List.setIfInBounds_toArray, List.set_cons_zero, List.set_cons_succ, i64_w, i32_w]
                rfl
              refine pure_ (i := 4) (N := some 54) (v := ?_) (a' := ?_) #[true, true, true, false, true, false, false, false, false, false, false, false, false, false, false, false, false, false, false, false, false] rfl rfl (any_of HT_.out (by kernel_rfl)) (fun _ _ _ h => h) (Or.inl ⟨by rfl, ?_⟩) ?_ ?_
              rotate_left
              · intro w'
                go_simp
                with_reducible rfl
              rotate_left
              · simp only [Act.put, List.setIfInBounds_toArray, List.set_cons_zero, List.set_cons_succ, i64_w, i32_w]
                rfl
              refine pure_ (i := 5) (N := some 55) (v := ?_) (a' := ?_) #[true, true, true, false, true, true, false, false, false, false, false, false, false, false, false, false, false, false, false, false, false] rfl rfl (any_of HT_.out (by kernel_rfl)) (fun _ _ _ h => h) (Or.inl ⟨by rfl, ?_⟩) ?_ ?_
              rotate_left
              · intro w'
                go_simp
                with_reducible rfl
              rotate_left
              · simp only [Act.put, List.setIfInBounds_toArray, List.set_cons_zero, List.set_cons_succ, i64_w, i32_w]
                rfl
              refine pure_ (i := 6) (N := some 56) (v := ?_) (a' := ?_) #[true, true, true, false, true, true, true, false, false, false, false, false, false, false, false, false, false, false, false, false, false] rfl rfl (any_of HT_.out (by kernel_rfl)) (fun _ _ _ h => h) (Or.inl ⟨by rfl, ?_⟩) ?_ ?_
              rotate_left
              · intro w'
                go_simp
                with_reducible rfl
              rotate_left
              · simp only [Act.put, List.setIfInBounds_toArray, List.set_cons_zero, List.set_cons_succ, i64_w, i32_w]
                rfl
              refine pure_ (i := 8) (N := some 58) (v := ?_) (a' := ?_) #[true, true, true, false, true, true, true, false, true, false, false, false, false, false, false, false, false, false, false, false, false] rfl rfl (any_of HT_.out (by kernel_rfl)) (fun _ _ _ h => h) (Or.inl ⟨by rfl, ?_⟩) ?_ ?_
              rotate_left
              · intro w'
                go_simp
                with_reducible rfl
              rotate_left
              · simp only [Act.put, List.setIfInBounds_toArray, List.set_cons_zero, List.set_cons_succ, i64_w, i32_w]
                rfl
              refine pure_ (i := 9) (N := some 59) (v := ?_) (a' := ?_) #[true, true, true, false, true, true, true, false, true, true, false, false, false, false, false, false, false, false, false, false, false] rfl rfl (any_of HT_.out (by kernel_rfl)) (fun _ _ _ h => h) (Or.inl ⟨by rfl, ?_⟩) ?_ ?_
              rotate_left
              · intro w'
                go_simp
                with_reducible rfl
              rotate_left
              · simp only [Act.put, List.setIfInBounds_toArray, List.set_cons_zero, List.set_cons_succ, i64_w, i32_w]
                rfl
              refine pure_ (i := 10) (N := some 60) (v := ?_) (a' := ?_) #[true, true, true, false, true, true, true, false, true, true, true, false, false, false, false, false, false, false, false, false, false] rfl rfl (any_of HT_.out (by kernel_rfl)) (fun _ _ _ h => h) (Or.inl ⟨by rfl, ?_⟩) ?_ ?_
              rotate_left
              · intro w'
                go_simp
                with_reducible rfl
              rotate_left
              · simp only [Act.put, List.setIfInBounds_toArray, List.set_cons_zero, List.set_cons_succ, i64_w, i32_w]
                rfl
              refine pure_ (i := 12) (N := some 62) (v := ?_) (a' := ?_) #[true, true, true, false, true, true, true, false, true, true, true, false, true, false, false, false, false, false, false, false, false] rfl rfl (any_of HT_.out (by kernel_rfl)) (fun _ _ _ h => h) (Or.inl ⟨by rfl, ?_⟩) ?_ ?_
              rotate_left
              · intro w'
                go_simp
                with_reducible rfl
              rotate_left
              · simp only [Act.put, List.setIfInBounds_toArray, List.set_cons_zero, List.set_cons_succ, i64_w, i32_w]
                rfl
              refine pure_ (i := 13) (N := some 63) (v := ?_) (a' := ?_) #[true, true, true, false, true, true, true, false, true, true, true, false, true, true, false, false, false, false, false, false, false] rfl rfl (any_of HT_.out (by kernel_rfl)) (fun _ _ _ h => h) (Or.inl ⟨by rfl, ?_⟩) ?_ ?_
              rotate_left
              · intro w'
                go_simp
                with_reducible rfl
              rotate_left
              · simp only [Act.put, List.setIfInBounds_toArray, List.set_cons_zero, List.set_cons_succ, i64_w, i32_w]
                rfl
              refine pure_ (i := 14) (N := some 64) (v := ?_) (a' := ?_) #[true, true, true, false, true, true, true, false, true, true, true, false, true, true, true, false, false, false, false, false, false] rfl rfl (any_of HT_.out (by kernel_rfl)) (fun _ _ _ h => h) (Or.inl ⟨by rfl, ?_⟩) ?_ ?_
              rotate_left
              · intro w'
                go_simp
                with_reducible rfl
              rotate_left
              · simp only [Act.put, List.setIfInBounds_toArray, List.set_cons_zero, List.set_cons_succ, i64_w, i32_w]
                rfl
              refine pure_ (i := 16) (N := some 66) (v := ?_) (a' := ?_) #[true, true, true, false, true, true, true, false, true, true, true, false, true, true, true, false, true, false, false, false, false] rfl rfl (any_of HT_.out (by kernel_rfl)) (fun _ _ _ h => h) (Or.inl ⟨by rfl, ?_⟩) ?_ ?_
              rotate_left
              · intro w'
                go_simp
                with_reducible rfl
              rotate_left
              · simp only [Act.put, List.setIfInBounds_toArray, List.set_cons_zero, List.set_cons_succ, i64_w, i32_w]
                rfl
              refine pure_ (i := 17) (N := some 67) (v := ?_) (a' := ?_) #[true, true, true, false, true, true, true, false, true, true, true, false, true, true, true, false, true, true, false, false, false] rfl rfl (any_of HT_.out (by kernel_rfl)) (fun _ _ _ h => h) (Or.inl ⟨by rfl, ?_⟩) ?_ ?_
              rotate_left
              · intro w'
                go_simp
                with_reducible rfl
              rotate_left
              · simp only [Act.put, List.setIfInBounds_toArray, List.set_cons_zero, List.set_cons_succ, i64_w, i32_w]
                rfl
              refine inv_at [3, 7, 11, 15, 18, 19, 20] (fun a0_ b a w' => a = putSel a0_ b [(3, 53, .agg #[.string (rd_T93 L 0).f0.f0, .int .i64 (rd_T93 L 0).f0.f1]), (7, 57, .agg #[.string (rd_T93 L 1).f0.f0, .int .i64 (rd_T93 L 1).f0.f1]), (11, 61, .bool (rd_T93 L 0).f1), (15, 65, .bool (rd_T93 L 1).f1), (18, 68, .agg #[.string (rd_T93 L 0).f0.f0, .int .i64 (rd_T93 L 0).f0.f1, .string (rd_T93 L 1).f0.f0, .int .i64 (rd_T93 L 1).f0.f1, .bool (rd_T93 L 0).f1, .bool (rd_T93 L 1).f1, .slice Ac D.length cc]), (19, 11, .pointer (some ⟨w10.heap.size, 0, none⟩))] ∧ (b 20 = false → RdOk w10 w') ∧ (b 19 = false → w' = w10) ∧ (b 19 = true → b 20 = false → w' = w10.alloc (.cells #[.string ⟨#[]⟩, .int .i64 0, .string ⟨#[]⟩, .int .i64 0, .bool false, .bool false, .slice none 0 0] 26)) ∧ (b 20 = true → w' = (((((((w10.alloc (.cells #[.string ⟨#[]⟩, .int .i64 0, .string ⟨#[]⟩, .int .i64 0, .bool false, .bool false, .slice none 0 0] 26)).setCell ⟨w10.heap.size, 0, none⟩ (.string (rd_T93 L 0).f0.f0)).setCell ⟨w10.heap.size, 1, none⟩ (.int .i64 (rd_T93 L 0).f0.f1)).setCell ⟨w10.heap.size, 2, none⟩ (.string (rd_T93 L 1).f0.f0)).setCell ⟨w10.heap.size, 3, none⟩ (.int .i64 (rd_T93 L 1).f0.f1)).setCell ⟨w10.heap.size, 4, none⟩ (.bool (rd_T93 L 0).f1)).setCell ⟨w10.heap.size, 5, none⟩ (.bool (rd_T93 L 1).f1)).setCell ⟨w10.heap.size, 6, none⟩ (.slice Ac D.length cc))) HT_.out HW_.out (by kernel_rfl) (by kernel_rfl) ?_ ?_ ?_
              · exact ⟨by simp only [putSel, Bool.false_eq_true, if_false], fun _ => FR.out, fun _ => FA.out, fun h_ => absurd h_ (by decide), fun h_ => absurd h_ (by decide)⟩
              · skip
                clear FA FR
                refine steps_cons ?_ ?_
                · rintro b a w' ⟨ha, Q_FR, Q_FA, Q_FB, Q_FC⟩ hb_ hon hoff
                  refine ⟨_, rfl, fun K hK => ?_⟩
                  have e52 : a.tmps[52]? = some (.pointer (some ⟨g, 0, none⟩)) := by rw [ha]; exact (putSel_off rfl).trans rfl
                  replace ha := Aside0.mk ha
                  have FR := Aside0.mk (Q_FR (hoff 20 (by kernel_rfl)))
                  have hc0_ := FR.out _ _ x0
                  have hc1_ := FR.out _ _ x1
                  refine value_ (w1 := w') (v := .agg #[.string (rd_T93 L 0).f0.f0, .int .i64 (rd_T93 L 0).f0.f1]) (by rfl) rfl ?_ ?_
                  · go_simp
                    (try simp only [i64_w])
                    try rfl
                    all_goals (try ((try simp only [ByteArray.size_append] at *); omega))
                  refine hK.out _ _ ⟨(by rw [ha.out]; exact putSel_upk 0 hb_ rfl rfl rfl), Q_FR, Q_FA, Q_FB, fun h0_ => absurd ((hoff 20 (by kernel_rfl)).symm.trans h0_) (by decide)⟩
                refine steps_cons ?_ ?_
                · rintro b a w' ⟨ha, Q_FR, Q_FA, Q_FB, Q_FC⟩ hb_ hon hoff
                  refine ⟨_, rfl, fun K hK => ?_⟩
                  have e56 : a.tmps[56]? = some (.pointer (some ⟨g, 3, none⟩)) := by rw [ha]; exact (putSel_off rfl).trans rfl
                  replace ha := Aside0.mk ha
                  have FR := Aside0.mk (Q_FR (hoff 20 (by kernel_rfl)))
                  have hc0_ := FR.out _ _ y0
                  have hc1_ := FR.out _ _ y1
                  refine value_ (w1 := w') (v := .agg #[.string (rd_T93 L 1).f0.f0, .int .i64 (rd_T93 L 1).f0.f1]) (by rfl) rfl ?_ ?_
                  · go_simp
                    (try simp only [i64_w])
                    try rfl
                    all_goals (try ((try simp only [ByteArray.size_append] at *); omega))
                  refine hK.out _ _ ⟨(by rw [ha.out]; exact putSel_upk 1 hb_ rfl rfl rfl), Q_FR, Q_FA, Q_FB, fun h0_ => absurd ((hoff 20 (by kernel_rfl)).symm.trans h0_) (by decide)⟩
                refine steps_cons ?_ ?_
                · rintro b a w' ⟨ha, Q_FR, Q_FA, Q_FB, Q_FC⟩ hb_ hon hoff
                  refine ⟨_, rfl, fun K hK => ?_⟩
                  have e60 : a.tmps[60]? = some (.pointer (some ⟨g, 2, none⟩)) := by rw [ha]; exact (putSel_off rfl).trans rfl
                  replace ha := Aside0.mk ha
                  have FR := Aside0.mk (Q_FR (hoff 20 (by kernel_rfl)))
                  have hc0_ := FR.out _ _ x2
                  refine value_ (w1 := w') (v := .bool (rd_T93 L 0).f1) (by rfl) rfl ?_ ?_
                  · go_simp
                    (try simp only [i64_w])
                    try rfl
                    all_goals (try ((try simp only [ByteArray.size_append] at *); omega))
                  refine hK.out _ _ ⟨(by rw [ha.out]; exact putSel_upk 2 hb_ rfl rfl rfl), Q_FR, Q_FA, Q_FB, fun h0_ => absurd ((hoff 20 (by kernel_rfl)).symm.trans h0_) (by decide)⟩
                refine steps_cons ?_ ?_
                · rintro b a w' ⟨ha, Q_FR, Q_FA, Q_FB, Q_FC⟩ hb_ hon hoff
                  refine ⟨_, rfl, fun K hK => ?_⟩
                  have e64 : a.tmps[64]? = some (.pointer (some ⟨g, 5, none⟩)) := by rw [ha]; exact (putSel_off rfl).trans rfl
                  replace ha := Aside0.mk ha
                  have FR := Aside0.mk (Q_FR (hoff 20 (by kernel_rfl)))
                  have hc0_ := FR.out _ _ y2
                  refine value_ (w1 := w') (v := .bool (rd_T93 L 1).f1) (by rfl) rfl ?_ ?_
                  · go_simp
                    (try simp only [i64_w])
                    try rfl
                    all_goals (try ((try simp only [ByteArray.size_append] at *); omega))
                  refine hK.out _ _ ⟨(by rw [ha.out]; exact putSel_upk 3 hb_ rfl rfl rfl), Q_FR, Q_FA, Q_FB, fun h0_ => absurd ((hoff 20 (by kernel_rfl)).symm.trans h0_) (by decide)⟩
                refine steps_cons ?_ ?_
                · rintro b a w' ⟨ha, Q_FR, Q_FA, Q_FB, Q_FC⟩ hb_ hon hoff
                  refine ⟨_, rfl, fun K hK => ?_⟩
                  have e53 : a.tmps[53]? = some (.agg #[.string (rd_T93 L 0).f0.f0, .int .i64 (rd_T93 L 0).f0.f1]) := by rw [ha]; exact putSel_on (e := (3, 53, .agg #[.string (rd_T93 L 0).f0.f0, .int .i64 (rd_T93 L 0).f0.f1])) 0 rfl rfl (hon 3 (by kernel_rfl)) rfl
                  have e57 : a.tmps[57]? = some (.agg #[.string (rd_T93 L 1).f0.f0, .int .i64 (rd_T93 L 1).f0.f1]) := by rw [ha]; exact putSel_on (e := (7, 57, .agg #[.string (rd_T93 L 1).f0.f0, .int .i64 (rd_T93 L 1).f0.f1])) 1 rfl rfl (hon 7 (by kernel_rfl)) rfl
                  have e61 : a.tmps[61]? = some (.bool (rd_T93 L 0).f1) := by rw [ha]; exact putSel_on (e := (11, 61, .bool (rd_T93 L 0).f1)) 2 rfl rfl (hon 11 (by kernel_rfl)) rfl
                  have e65 : a.tmps[65]? = some (.bool (rd_T93 L 1).f1) := by rw [ha]; exact putSel_on (e := (15, 65, .bool (rd_T93 L 1).f1)) 3 rfl rfl (hon 15 (by kernel_rfl)) rfl
                  have e67 : a.tmps[67]? = some (.slice Ac D.length cc) := by rw [ha]; exact (putSel_off rfl).trans rfl
                  replace ha := Aside0.mk ha
                  have FR := Aside0.mk (Q_FR (hoff 20 (by kernel_rfl)))
                  refine value_ (w1 := w') (v := .agg #[.string (rd_T93 L 0).f0.f0, .int .i64 (rd_T93 L 0).f0.f1, .string (rd_T93 L 1).f0.f0, .int .i64 (rd_T93 L 1).f0.f1, .bool (rd_T93 L 0).f1, .bool (rd_T93 L 1).f1, .slice Ac D.length cc]) (by rfl) rfl ?_ ?_
                  · go_simp
                    (try simp only [i64_w])
                    try rfl
                    all_goals (try ((try simp only [ByteArray.size_append] at *); omega))
                  refine hK.out _ _ ⟨(by rw [ha.out]; exact putSel_upk 4 hb_ rfl rfl rfl), Q_FR, Q_FA, Q_FB, fun h0_ => absurd ((hoff 20 (by kernel_rfl)).symm.trans h0_) (by decide)⟩
                refine steps_cons ?_ ?_
                · rintro b a w' ⟨ha, Q_FR, Q_FA, Q_FB, Q_FC⟩ hb_ hon hoff
                  refine ⟨_, rfl, fun K hK => ?_⟩
                  replace ha := Aside0.mk ha
                  have FR := Aside0.mk (Q_FR (hoff 20 (by kernel_rfl)))
                  have FA := Aside0.mk (Q_FA hb_)
                  have hw_ : w'.heap.size = w10.heap.size := by rw [FA.out]
                  refine value_ (w1 := w'.alloc (.cells #[.string ⟨#[]⟩, .int .i64 0, .string ⟨#[]⟩, .int .i64 0, .bool false, .bool false, .slice none 0 0] 26)) (v := .pointer (some ⟨w10.heap.size, 0, none⟩)) (by rfl) rfl ?_ ?_
                  · rw [← hw_]
                    go_simp
                    try rfl
                  refine hK.out _ _ ⟨(by rw [ha.out]; exact putSel_upk 5 hb_ rfl rfl rfl), fun _ => rdOk_alloc FR.out _, fun h0_ => absurd ((up_self b 19).symm.trans h0_) (by decide), fun _ _ => by rw [FA.out], fun h0_ => absurd ((hoff 20 (by kernel_rfl)).symm.trans h0_) (by decide)⟩
                refine steps_cons ?_ ?_
                · rintro b a w' ⟨ha, Q_FR, Q_FA, Q_FB, Q_FC⟩ hb_ hon hoff
                  refine ⟨_, rfl, fun K hK => ?_⟩
                  have e11 : a.tmps[11]? = some (.pointer (some ⟨w10.heap.size, 0, none⟩)) := by rw [ha]; exact putSel_on (e := (19, 11, .pointer (some ⟨w10.heap.size, 0, none⟩))) 5 rfl rfl (hon 19 (by kernel_rfl)) rfl
                  have e68 : a.tmps[68]? = some (.agg #[.string (rd_T93 L 0).f0.f0, .int .i64 (rd_T93 L 0).f0.f1, .string (rd_T93 L 1).f0.f0, .int .i64 (rd_T93 L 1).f0.f1, .bool (rd_T93 L 0).f1, .bool (rd_T93 L 1).f1, .slice Ac D.length cc]) := by rw [ha]; exact putSel_on (e := (18, 68, .agg #[.string (rd_T93 L 0).f0.f0, .int .i64 (rd_T93 L 0).f0.f1, .string (rd_T93 L 1).f0.f0, .int .i64 (rd_T93 L 1).f0.f1, .bool (rd_T93 L 0).f1, .bool (rd_T93 L 1).f1, .slice Ac D.length cc])) 4 rfl rfl (hon 18 (by kernel_rfl)) rfl
                  replace ha := Aside0.mk ha
                  have FR := Aside0.mk (Q_FR hb_)
                  have FB := Aside0.mk (Q_FB (hon 19 (by kernel_rfl)) hb_)
                  obtain ⟨⟨k0, k1, k2, k3, k4, k5, k6⟩, f0, f1, f2, f3, f4, f5, f6⟩ := seven_cell (show w'.heap[w10.heap.size]? = some (.cells #[.string ⟨#[]⟩, .int .i64 0, .string ⟨#[]⟩, .int .i64 0, .bool false, .bool false, .slice none 0 0] 26 (0, 0)) by rw [FB.out]; exact heap_alloc_new w10 _)
                  refine skip_ (w1 := (((((((w').setCell ⟨w10.heap.size, 0, none⟩ (.string (rd_T93 L 0).f0.f0)).setCell ⟨w10.heap.size, 1, none⟩ (.int .i64 (rd_T93 L 0).f0.f1)).setCell ⟨w10.heap.size, 2, none⟩ (.string (rd_T93 L 1).f0.f0)).setCell ⟨w10.heap.size, 3, none⟩ (.int .i64 (rd_T93 L 1).f0.f1)).setCell ⟨w10.heap.size, 4, none⟩ (.bool (rd_T93 L 0).f1)).setCell ⟨w10.heap.size, 5, none⟩ (.bool (rd_T93 L 1).f1)).setCell ⟨w10.heap.size, 6, none⟩ (.slice Ac D.length cc)) (by rfl) rfl ?_ ?_
                  · go_simp
                    try rfl
                  refine hK.out _ _ ⟨(by rw [ha.out]; exact putSel_none (v := undef) rfl), fun h0_ => absurd ((up_self b 20).symm.trans h0_) (by decide), fun h0_ => absurd ((hon 19 (by kernel_rfl)).symm.trans h0_) (by decide), fun _ h1_ => absurd ((up_self b 20).symm.trans h1_) (by decide), fun _ => by rw [FB.out]⟩
                exact steps_nil
              · rintro b a w' hall ⟨ha, Q_FR, Q_FA, Q_FB, Q_FC⟩
                clear FA FR
                have hb3_ := hall 3 (by kernel_rfl)
                have hb7_ := hall 7 (by kernel_rfl)
                have hb11_ := hall 11 (by kernel_rfl)
                have hb15_ := hall 15 (by kernel_rfl)
                have hb18_ := hall 18 (by kernel_rfl)
                have hb19_ := hall 19 (by kernel_rfl)
                have hb20_ := hall 20 (by kernel_rfl)
                subst ha
                simp only [putSel, hb3_, hb7_, hb11_, hb15_, hb18_, hb19_, hb20_, if_true, Act.put, List.setIfInBounds_toArray, List.set_cons_zero, List.set_cons_succ]
                clear Q_FR
                clear Q_FA
                clear Q_FB
                have FC := Aside0.mk (Q_FC hb20_)
                clear Q_FC
                clear hall hb3_ hb7_ hb11_ hb15_ hb18_ hb19_ hb20_
                have hzz2 := HZ2.out
                have hzz9 := HBx9.out.size
                have HB11 := Aside0.mk (show Below w9.heap.size w9 w' by
                  rw [FC.out]
                  exact seven_below ((show Below w9.heap.size w9 w10 by rw [← hw10]; exact below_drew1 (Below.refl _ _)).alloc (by rw [← hw10]; exact Nat.le_refl _) _) (by rw [← hw10]; exact Nat.le_refl _) _ _ _ _ _ _ _)
                have HP11 := Aside0.mk (show w'.heap[w10.heap.size]? = some (.cells #[.string (rd_T93 L 0).f0.f0, .int .i64 (rd_T93 L 0).f0.f1, .string (rd_T93 L 1).f0.f0, .int .i64 (rd_T93 L 1).f0.f1, .bool (rd_T93 L 0).f1, .bool (rd_T93 L 1).f1, .slice Ac D.length cc] 26 (0, 0)) by
                  rw [FC.out]
                  exact seven_set (heap_alloc_new w10 _))
                have HK11 := Aside0.mk ((HB11.out.block w.heap.size (by omega)).trans HK9.out)
                have HQ11 := Aside0.mk (Kd.Q_below HQ9.out HB11.out)
                have HBw11 := Aside0.mk (below_then HB9.out HB9.out.size HB11.out)
                have hz11 : w10.heap.size + 1 ≤ w'.heap.size := by
                  have h1 := (Array.getElem?_eq_some_iff.1 HP11.out).1
                  omega
                have hz12 : w.heap.size + 1 ≤ w'.heap.size := by have := HB11.out.size; omega
                clear FC HB11 HK9 HQ9 HB9 x0 x1 x2 y0 y1 y2 hcut hw10 hHeld
                have HG5 := Aside0.mk (show pgS a0 = if ordB D = true then (7 * k + 7, L, 0) else (0, [], 11) by rw [HD.out]; exact HG4.out)
                clear HG4
                have p6 : w'.cell? ⟨w10.heap.size, 6, none⟩ = some (.slice Ac D.length cc) := blk_cell HP11.out 6
                go_wp2_with (fail)
                have hC11 := (Kd.Q_reads' HQ11.out).2.2
                refine (path_ordered.calls (D.length + 1) Ac cc D (ordB D) _ hC11 hccl.out (ordered_f D (by have := HDl.out; omega) _ (Nat.le_refl _))).mono ?_
                rintro ex w12 ⟨rfl, hb⟩
                have HP12 := Aside0.mk ((hb.block w10.heap.size (by omega)).trans HP11.out)
                have HK12 := Aside0.mk ((hb.block w.heap.size (by omega)).trans HK11.out)
                have HQ12 := Aside0.mk (Kd.Q_below HQ11.out hb)
                have HB12 := Aside0.mk (below_then HBw11.out HBw11.out.size hb)
                clear HP11 HK11 HQ11 HBw11 hb hC11 p6
                obtain ⟨⟨k0, k1, k2, k3, k4, k5, k6⟩, f0, f1, f2, f3, f4, f5, f6⟩ := seven_cell HK12.out
                cases ho : ordB D with
                | false =>
                  obtain ⟨rfl, rfl, rfl, rfl, rfl, rfl, rfl, rfl, rfl⟩ := HE.out 11 (by rw [HG5.out, ho, if_neg (by simp)])
                  clear HE HG5 HR ho
                  go_wp2_with (fail)
                  refine jump_ret ?_
                  refine bodyPost_ret (results_ctt rfl _ _ w.heap.size 26 _ (0, 0) _ rfl (seven_set HK12.out) Tryd.underlying26 rfl (by kernel_rfl)) rfl ?_
                  exact ⟨_, rfl, Kd.Q_nil _ _ _ _ _, seven_below HB12.out (Nat.le_refl _) _ _ _ _ _ _ _⟩
                | true =>
                  have h0 := HR.out
                  rw [HG5.out, ho, if_pos rfl] at h0
                  simp only [Prod.mk.injEq] at h0
                  obtain ⟨rfl, rfl, rfl, rfl, rfl, rfl, h6, h7, rfl⟩ := h0
                  obtain rfl : D = r6 := HD.out.trans h6
                  obtain rfl : r7 = 7 * (k : Int) + 7 := by omega
                  clear HE HG5 HR ho h6 h7
                  obtain ⟨⟨q0, q1, q2, q3, q4, q5, q6⟩, e0, e1, e2, e3, e4, e5, e6⟩ := seven_cell HP12.out
                  clear e0 e1 e2 e3 e4 e5 e6
                  go_wp2_with (fail)
                  refine jump_ret ?_
                  refine bodyPost_ret (results_ctt rfl _ _ w.heap.size 26 _ (0, 0) _ rfl (seven_set HK12.out) Tryd.underlying26 rfl (by kernel_rfl)) rfl ?_
                  exact ⟨_, rfl, Kd.Q_lower (seven_Q HQ12.out (by omega) _ _ _ _ _ _ _) (by omega), seven_below HB12.out (Nat.le_refl _) _ _ _ _ _ _ _⟩
      · obtain ⟨rfl, rfl, rfl, rfl, rfl, rfl, rfl, rfl, rfl⟩ := HE.out 2 (by rw [HG2.out, if_pos he])
        clear HE HG2 HR HSW
        go_wp2_with (fail)
        subst hQ
        refine jump_ret ?_
        refine bodyPost_ret (results_ctt rfl _ _ w.heap.size 26 _ (0, 0) _ rfl (seven_set HK4.out) Tryd.underlying26 rfl (by kernel_rfl)) rfl ?_
        exact ⟨_, rfl, Kd.Q_nil _ _ _ _ _, seven_below HB4.out (Nat.le_refl _) _ _ _ _ _ _ _⟩
  case first =>
    intro hbody
    go_wp2
    go_step3
    rename_i hk_
    rw [← hw2]
    refine hk_ _ _ ?_
    exact hbody _ _ ⟨0, [], _, _, rfl, rfl, rfl, rfl, rfl, rfl, rfl, rfl, by omega, rfl, ⟨rfl⟩, ⟨Kd.R_nil _ _ _ _ _⟩, ⟨Below.refl _ _⟩⟩
end Go.Proofs.YtpmieapgbdbabaaDoor.QAll
end

section
/- Walks, written by a program of this session (wip/pp): a Go function comes to what the Lean function beside it tells. -/
namespace Go.Proofs.YtpmieapgbdbabaaDoor.QAll
open Go.RowKit Go.Proofs.YtpmieapgbdbabaaDoorW.PrintWords Go.Proofs.YtpmieapgbdbabaaDoorW.PrintLast Go.Proofs.YtpmieapgbdbabaaDoorW.PrintMore
set_option linter.unusedVariables false
set_option linter.unusedSimpArgs false

attribute [local go_sem high] eqA23
def squelchlaw05_PathReads.f (k : Nat) (a0 : ByteArray) : Option (Bool) := (squelchlaw05_awake.f).bind fun t306 => (if t306 = true then (if (a0.size : Int) > 1000 then (some true) else ((path_Get.f a0).bind fun bt307 => ((squelchref05_Get.f k a0).bind fun bt319 => (if bt319.2.2 = 0 then ((squelchlaw05_Plain.f k bt307.1 bt307.2.1 bt307.2.2.1 bt307.2.2.2.1 bt307.2.2.2.2.1 bt307.2.2.2.2.2.1 bt307.2.2.2.2.2.2.1).bind fun t325 => ((squelchref05_Same.f k t325 bt319.1).bind fun t328 => (if t328 = true then (if bt307.2.2.2.2.2.2.2.1 = bt319.2.1 then (some (bt307.2.2.2.2.2.2.2.2 == 0)) else (some false)) else (some false)))) else (if bt307.2.2.2.2.2.2.2.1 = 0 then (if bt307.2.2.2.2.2.2.2.2 = bt319.2.2 then (if (bt307.1.toList == ([] : List UInt8) && (bt307.2.1 == 0)) = true then (some ((bt307.2.2.2.2.2.2.1.length : Int) == 0)) else (some false)) else (some false)) else (some false)))))) else (some false))
def squelchlaw05_PathReads.T9 : Bool × List (List Nat × List Nat) := (true, [([], []), ([0], [0]), ([], []), ([1, 2, 1], [1, 2]), ([3, 3], [3]), ([4], [4]), ([4], [4]), ([5, 6, 4], [4, 5, 6]), ([4, 7], [4, 7]), ([8, 4], [8]), ([9], [9]), ([10, 9], [9, 10]), ([9, 11], [9, 11]), ([12, 9, 0, 1, 2, 3, 4, 5, 6, 7, 8, 9, 10, 11, 12], [12])])
def squelchlaw05_PathReads.B9 : List Nat := [0, 1, 0, 7, 15, 31, 31, 127, 255, 511, 1023, 2047, 4095, 8191]
theorem squelchlaw05_PathReads.tab9 : rtab .any (opsOf Tryd.f5 9) = squelchlaw05_PathReads.T9 := by kernel_rfl
theorem squelchlaw05_PathReads.bits9 : waitsOk squelchlaw05_PathReads.T9.2 squelchlaw05_PathReads.B9 = true := by kernel_rfl
set_option maxHeartbeats 8000000 in
set_option maxRecDepth 100000 in
theorem squelchlaw05_PathReads.calls (k : Nat) (a0 : ByteArray) (r : Bool) (w : World) (hT_ : r = true) (h : squelchlaw05_PathReads.f k a0 = some r) :
  Calls Tryd.prog 5 #[.string a0] w fun e w' => e = .returned (.bool r) ∧ Below w.heap.size w w' := by
 have hu26 := Tryd.underlying26
 have hu31 := Tryd.underlying31
 have hu23 := Tryd.underlying23
 have HB := Aside0.mk (Below.refl w.heap.size w)
 have HT_ := Aside0.mk hT_
 clear hT_
 have H : ((squelchlaw05_awake.f).bind fun t306 => (if t306 = true then (if (a0.size : Int) > 1000 then (some true) else ((path_Get.f a0).bind fun bt307 => ((squelchref05_Get.f k a0).bind fun bt319 => (if bt319.2.2 = 0 then ((squelchlaw05_Plain.f k bt307.1 bt307.2.1 bt307.2.2.1 bt307.2.2.2.1 bt307.2.2.2.2.1 bt307.2.2.2.2.2.1 bt307.2.2.2.2.2.2.1).bind fun t325 => ((squelchref05_Same.f k t325 bt319.1).bind fun t328 => (if t328 = true then (if bt307.2.2.2.2.2.2.2.1 = bt319.2.1 then (some (bt307.2.2.2.2.2.2.2.2 == 0)) else (some false)) else (some false)))) else (if bt307.2.2.2.2.2.2.2.1 = 0 then (if bt307.2.2.2.2.2.2.2.2 = bt319.2.2 then (if (bt307.1.toList == ([] : List UInt8) && (bt307.2.1 == 0)) = true then (some ((bt307.2.2.2.2.2.2.1.length : Int) == 0)) else (some false)) else (some false)) else (some false)))))) else (some false))) = some r := h
 clear h
 replace H := Option.bind_eq_some_iff.mp H
 obtain ⟨t306, A20, H⟩ := H
 replace H : (if t306 = true then (if (a0.size : Int) > 1000 then (some true) else ((path_Get.f a0).bind fun bt307 => ((squelchref05_Get.f k a0).bind fun bt319 => (if bt319.2.2 = 0 then ((squelchlaw05_Plain.f k bt307.1 bt307.2.1 bt307.2.2.1 bt307.2.2.2.1 bt307.2.2.2.2.1 bt307.2.2.2.2.2.1 bt307.2.2.2.2.2.2.1).bind fun t325 => ((squelchref05_Same.f k t325 bt319.1).bind fun t328 => (if t328 = true then (if bt307.2.2.2.2.2.2.2.1 = bt319.2.1 then (some (bt307.2.2.2.2.2.2.2.2 == 0)) else (some false)) else (some false)))) else (if bt307.2.2.2.2.2.2.2.1 = 0 then (if bt307.2.2.2.2.2.2.2.2 = bt319.2.2 then (if (bt307.1.toList == ([] : List UInt8) && (bt307.2.1 == 0)) = true then (some ((bt307.2.2.2.2.2.2.1.length : Int) == 0)) else (some false)) else (some false)) else (some false)))))) else (some false)) = some r := H
 have A2 := Aside0.mk A20
 clear A20
 by_cases c3 : t306 = true
 ·subst c3
  have H1 : (if (a0.size : Int) > 1000 then (some true) else ((path_Get.f a0).bind fun bt307 => ((squelchref05_Get.f k a0).bind fun bt319 => (if bt319.2.2 = 0 then ((squelchlaw05_Plain.f k bt307.1 bt307.2.1 bt307.2.2.1 bt307.2.2.2.1 bt307.2.2.2.2.1 bt307.2.2.2.2.2.1 bt307.2.2.2.2.2.2.1).bind fun t325 => ((squelchref05_Same.f k t325 bt319.1).bind fun t328 => (if t328 = true then (if bt307.2.2.2.2.2.2.2.1 = bt319.2.1 then (some (bt307.2.2.2.2.2.2.2.2 == 0)) else (some false)) else (some false)))) else (if bt307.2.2.2.2.2.2.2.1 = 0 then (if bt307.2.2.2.2.2.2.2.2 = bt319.2.2 then (if (bt307.1.toList == ([] : List UInt8) && (bt307.2.1 == 0)) = true then (some ((bt307.2.2.2.2.2.2.1.length : Int) == 0)) else (some false)) else (some false)) else (some false)))))) = some r := by rw [if_pos rfl] at H; exact H
  clear H
  have H := H1
  clear H1
  by_cases c4 : (a0.size : Int) > 1000
  ·rw [if_pos c4] at H
   have c4b0 : decide (1000 < (a0.size : Int)) = true := decide_eq_true c4
   have c4b1 : decide (1000 < a0.size) = true := decide_eq_true (by omega)
   clear c4
   obtain rfl := Option.some.inj H
   go_enter Tryd.func5, Tryd.ntmps5
   go_wp2_with (first | ((with_reducible refine gate_callee (f := 15) rfl ?_); refine goesL_ (some 9) rfl rfl Tryd.func15 (by kernel_rfl) rfl #[] rfl (by (try simp only [List.map_toArray, List.map_cons, List.map_nil]); first | done | rfl | (simp only [List.length_drop, List.length_take]; rfl)) ?_; (with_reducible refine (squelchlaw05_awake.calls  true _ A2.out).mono ?_); rintro e w5 ⟨rfl, hb⟩; refine ⟨_, rfl, ?_⟩; have n0_ := Aside0.mk (below_step (by repeat (first | (with_reducible first | exact HB.out | apply below_alloc | apply pw_below_drewN | apply below_drew1) | exact HB.out)) hb); clear HB; have HB := n0_; clear n0_; (try clear hb); (try clear hb2); (try clear hk); (try clear hi)))
   go_ret
   exact ⟨by first | rfl | (simp [errW_none, errW_some] <;> rfl) | (simp [*, errW_none, errW_some] <;> rfl), by repeat (first | (with_reducible first | exact HB.out | apply below_alloc | apply pw_below_drewN | apply below_drew1) | exact HB.out)⟩
  ·rw [if_neg c4] at H
   have c4b0 : decide (1000 < (a0.size : Int)) = false := decide_eq_false c4
   have c4b1 : decide (1000 < a0.size) = false := decide_eq_false (by omega)
   clear c4
   replace H := Option.bind_eq_some_iff.mp H
   obtain ⟨⟨t307, t308, t309, t310, t311, t312, t313, t316, t317⟩, A60, H⟩ := H
   replace H : ((squelchref05_Get.f k a0).bind fun bt319 => (if bt319.2.2 = 0 then ((squelchlaw05_Plain.f k t307 t308 t309 t310 t311 t312 t313).bind fun t325 => ((squelchref05_Same.f k t325 bt319.1).bind fun t328 => (if t328 = true then (if t316 = bt319.2.1 then (some (t317 == 0)) else (some false)) else (some false)))) else (if t316 = 0 then (if t317 = bt319.2.2 then (if (t307.toList == ([] : List UInt8) && (t308 == 0)) = true then (some ((t313.length : Int) == 0)) else (some false)) else (some false)) else (some false)))) = some r := H
   have A6 := Aside0.mk A60
   clear A60
   replace H := Option.bind_eq_some_iff.mp H
   obtain ⟨⟨t319, t322, t323⟩, A70, H⟩ := H
   replace H : (if t323 = 0 then ((squelchlaw05_Plain.f k t307 t308 t309 t310 t311 t312 t313).bind fun t325 => ((squelchref05_Same.f k t325 t319).bind fun t328 => (if t328 = true then (if t316 = t322 then (some (t317 == 0)) else (some false)) else (some false)))) else (if t316 = 0 then (if t317 = t323 then (if (t307.toList == ([] : List UInt8) && (t308 == 0)) = true then (some ((t313.length : Int) == 0)) else (some false)) else (some false)) else (some false))) = some r := H
   have A7 := Aside0.mk A70
   clear A70
   by_cases c8 : t323 = 0
   ·rw [if_pos c8] at H
    have c8b0 : (t323 == 0) = true := beq_iff_eq.mpr c8
    have c8b1 : (t323 != 0) = false := bne_eq_false_iff_eq.mpr c8
    clear c8
    replace H := Option.bind_eq_some_iff.mp H
    obtain ⟨t325, A90, H⟩ := H
    replace H : ((squelchref05_Same.f k t325 t319).bind fun t328 => (if t328 = true then (if t316 = t322 then (some (t317 == 0)) else (some false)) else (some false))) = some r := H
    have A9 := Aside0.mk A90
    clear A90
    replace H := Option.bind_eq_some_iff.mp H
    obtain ⟨t328, A100, H⟩ := H
    replace H : (if t328 = true then (if t316 = t322 then (some (t317 == 0)) else (some false)) else (some false)) = some r := H
    have A10 := Aside0.mk A100
    clear A100
    by_cases c11 : t328 = true
    ·subst c11
     have H1 : (if t316 = t322 then (some (t317 == 0)) else (some false)) = some r := by rw [if_pos rfl] at H; exact H
     clear H
     have H := H1
     clear H1
     by_cases c12 : t316 = t322
     ·rw [if_pos c12] at H
      have c12b0 : (t316 == t322) = true := beq_iff_eq.mpr c12
      have c12b1 : (t316 != t322) = false := bne_eq_false_iff_eq.mpr c12
      clear c12
      obtain rfl := Option.some.inj H
      go_enter Tryd.func5, Tryd.ntmps5
      try go_wp2_with (first | ((with_reducible refine gate_callee (f := 15) rfl ?_); refine goesL_ (some 9) rfl rfl Tryd.func15 (by kernel_rfl) rfl #[] rfl (by (try simp only [List.map_toArray, List.map_cons, List.map_nil]); first | done | rfl | (simp only [List.length_drop, List.length_take]; rfl)) ?_; (with_reducible refine (squelchlaw05_awake.calls  true _ A2.out).mono ?_); rintro e w13 ⟨rfl, hb⟩; refine ⟨_, rfl, ?_⟩; have n0_ := Aside0.mk (below_step (by repeat (first | (with_reducible first | exact HB.out | apply below_alloc | apply pw_below_drewN | apply below_drew1) | exact HB.out)) hb); clear HB; have HB := n0_; clear n0_; (try clear hb); (try clear hb2); (try clear hk); (try clear hi)) | ((with_reducible refine gate_callee (f := 29) rfl ?_); refine goesL_ (some 16) rfl rfl Tryd.func29 (by kernel_rfl) rfl #[.string a0] rfl (by (try simp only [List.map_toArray, List.map_cons, List.map_nil]); first | done | rfl | (simp only [List.length_drop, List.length_take]; rfl)) ?_; (with_reducible refine (path_Get.calls a0 t307 t308 t309 t310 t311 t312 t313 t316 t317 _ A6.out).mono ?_); rintro e w14 ⟨v314, rfl, ho0, hb⟩; refine ⟨_, rfl, ?_⟩; have n0_ := Aside0.mk (Kd.Q_lower ho0 (below_size (by repeat (first | (with_reducible first | exact HB.out | apply below_alloc | apply pw_below_drewN | apply below_drew1) | exact HB.out)))); have n1_ := Aside0.mk (below_step (by repeat (first | (with_reducible first | exact HB.out | apply below_alloc | apply pw_below_drewN | apply below_drew1) | exact HB.out)) hb); clear HB; have HO315 := n0_; have HB := n1_; clear n0_ n1_; (try clear hb); (try clear hb2); (try clear hk); (try clear hi); (try clear ho0)) | ((with_reducible refine gate_dst (N := 3) rfl ?_); (try (refine gate_guard (by rfl) ?_; dsimp only)); refine box_event ?hg (N := 3) ?hd (cs := #[.string (⟨#[]⟩ : ByteArray), .int .i64 0, .string (⟨#[]⟩ : ByteArray), .int .i64 0, .bool false, .bool false, .slice none 0 0]) (t := 26) ?hr ?_; (case hd => rfl); (case hg => rfl); (case hr => first | (go_simp; done) | (go_simp; rfl)); intro gb318 hg w15 hbox hb; have n0_ := Aside0.mk (Kd.Q_below (by (with_reducible repeat (first | apply Kd.Q_alloc | apply Kd.Q_drewN | apply Kd.Q_drew)); exact HO315.out) hb); have n1_ := Aside0.mk (below_step (by repeat (first | (with_reducible first | exact HB.out | apply below_alloc | apply pw_below_drewN | apply below_drew1) | exact HB.out)) hb); have n2_ := Aside0.mk (hbox); have n3_ := Aside0.mk ((by rw [hg]; exact (below_size (by repeat (first | (with_reducible first | exact HB.out | apply below_alloc | apply pw_below_drewN | apply below_drew1) | exact HB.out))) : w.heap.size ≤ gb318)); have n4_ := Aside0.mk ((by rw [hg]; exact (below_size (by repeat (first | (with_reducible first | exact HB.out | apply below_alloc | apply pw_below_drewN | apply below_drew1) | exact HB.out))) : w.heap.size ≤ gb318)); clear HO315; clear HB; have HO315 := n0_; have HB := n1_; have BK318 := n2_; have GW318 := n3_; have GE318 := n4_; clear n0_ n1_ n2_ n3_ n4_; clear hb hbox hg; have hcz16_0 : w15.cell? ⟨gb318, 0, none⟩ = some (.string (⟨#[]⟩ : ByteArray)) := (blk_cell BK318.out 0).trans rfl; have hcz16_1 : w15.cell? ⟨gb318, 1, none⟩ = some (.int .i64 0) := (blk_cell BK318.out 1).trans rfl; have hcz16_2 : w15.cell? ⟨gb318, 2, none⟩ = some (.string (⟨#[]⟩ : ByteArray)) := (blk_cell BK318.out 2).trans rfl; have hcz16_3 : w15.cell? ⟨gb318, 3, none⟩ = some (.int .i64 0) := (blk_cell BK318.out 3).trans rfl; have hcz16_4 : w15.cell? ⟨gb318, 4, none⟩ = some (.bool false) := (blk_cell BK318.out 4).trans rfl; have hcz16_5 : w15.cell? ⟨gb318, 5, none⟩ = some (.bool false) := (blk_cell BK318.out 5).trans rfl; have hcz16_6 : w15.cell? ⟨gb318, 6, none⟩ = some (.slice none 0 0) := (blk_cell BK318.out 6).trans rfl; have hfz16_0 := blk_frozen BK318.out 0; have hfz16_1 := blk_frozen BK318.out 1; have hfz16_2 := blk_frozen BK318.out 2; have hfz16_3 := blk_frozen BK318.out 3; have hfz16_4 := blk_frozen BK318.out 4; have hfz16_5 := blk_frozen BK318.out 5; have hfz16_6 := blk_frozen BK318.out 6; obtain ⟨Ao17, co17, eo17, _⟩ := Kd.Q_slice HO315.out; subst eo17) | ((with_reducible refine gate_callee (f := 30) rfl ?_); refine goesL_ (some 22) rfl rfl Tryd.func30 (by kernel_rfl) rfl #[.string a0] rfl (by (try simp only [List.map_toArray, List.map_cons, List.map_nil]); first | done | rfl | (simp only [List.length_drop, List.length_take]; rfl)) ?_; (with_reducible refine (squelchref05_Get.calls k a0 t319 t322 t323 _ A7.out).mono ?_); rintro e w18 ⟨v320, rfl, ho0, hb⟩; refine ⟨_, rfl, ?_⟩; have n0_ := Aside0.mk (Kd.Q_below (by (with_reducible repeat (first | apply Kd.Q_alloc | apply Kd.Q_drewN | apply Kd.Q_drew)); exact (Kd.Q_mono (Kd.Q_far (p := ⟨gb318, 6, none⟩) (Kd.Q_far (p := ⟨gb318, 5, none⟩) (Kd.Q_far (p := ⟨gb318, 4, none⟩) (Kd.Q_far (p := ⟨gb318, 3, none⟩) (Kd.Q_far (p := ⟨gb318, 2, none⟩) (Kd.Q_far (p := ⟨gb318, 1, none⟩) (Kd.Q_far (p := ⟨gb318, 0, none⟩) (Kd.Q_types HO315.out BK318.out (by decide)) (fun _ hk => hk.2) (.string t307)) (fun _ hk => hk.2) (.int .i64 t308)) (fun _ hk => hk.2) (.string t309)) (fun _ hk => hk.2) (.int .i64 t310)) (fun _ hk => hk.2) (.bool t311)) (fun _ hk => hk.2) (.bool t312)) (fun _ hk => hk.2) (.slice Ao17 t313.length co17)) (fun _ h_ => h_.1))) hb); have n1_ := Aside0.mk (Kd.R_lower ho0 (below_size (by repeat (first | (with_reducible first | exact HB.out | apply below_alloc | apply pw_below_drewN | apply below_drew1 | refine below_set ?_ GE318.out) | exact HB.out)))); have n2_ := Aside0.mk (blk_below (g := gb318) (o := .cells #[.string t307, .int .i64 t308, .string t309, .int .i64 t310, .bool t311, .bool t312, .slice Ao17 t313.length co17] 26 (0, 0)) (by (with_reducible repeat (first | refine blk_drewN ?_ _ | refine blk_drew ?_ | refine blk_alloc ?_ _)); refine blk_put (cs := #[.string t307, .int .i64 t308, .string t309, .int .i64 t310, .bool t311, .bool t312, .slice none 0 0]) ?_ 6 _ rfl; (with_reducible repeat (first | refine blk_drewN ?_ _ | refine blk_drew ?_ | refine blk_alloc ?_ _)); refine blk_put (cs := #[.string t307, .int .i64 t308, .string t309, .int .i64 t310, .bool t311, .bool false, .slice none 0 0]) ?_ 5 _ rfl; (with_reducible repeat (first | refine blk_drewN ?_ _ | refine blk_drew ?_ | refine blk_alloc ?_ _)); refine blk_put (cs := #[.string t307, .int .i64 t308, .string t309, .int .i64 t310, .bool false, .bool false, .slice none 0 0]) ?_ 4 _ rfl; (with_reducible repeat (first | refine blk_drewN ?_ _ | refine blk_drew ?_ | refine blk_alloc ?_ _)); refine blk_put (cs := #[.string t307, .int .i64 t308, .string t309, .int .i64 0, .bool false, .bool false, .slice none 0 0]) ?_ 3 _ rfl; (with_reducible repeat (first | refine blk_drewN ?_ _ | refine blk_drew ?_ | refine blk_alloc ?_ _)); refine blk_put (cs := #[.string t307, .int .i64 t308, .string (⟨#[]⟩ : ByteArray), .int .i64 0, .bool false, .bool false, .slice none 0 0]) ?_ 2 _ rfl; (with_reducible repeat (first | refine blk_drewN ?_ _ | refine blk_drew ?_ | refine blk_alloc ?_ _)); refine blk_put (cs := #[.string t307, .int .i64 0, .string (⟨#[]⟩ : ByteArray), .int .i64 0, .bool false, .bool false, .slice none 0 0]) ?_ 1 _ rfl; (with_reducible repeat (first | refine blk_drewN ?_ _ | refine blk_drew ?_ | refine blk_alloc ?_ _)); refine blk_put (cs := #[.string (⟨#[]⟩ : ByteArray), .int .i64 0, .string (⟨#[]⟩ : ByteArray), .int .i64 0, .bool false, .bool false, .slice none 0 0]) ?_ 0 _ rfl; (with_reducible repeat (first | refine blk_drewN ?_ _ | refine blk_drew ?_ | refine blk_alloc ?_ _)); exact BK318.out) hb); have n3_ := Aside0.mk (below_step (by repeat (first | (with_reducible first | exact HB.out | apply below_alloc | apply pw_below_drewN | apply below_drew1 | refine below_set ?_ GE318.out) | exact HB.out)) hb); clear HO315; clear BK318; clear HB; have HO315 := n0_; have HO321 := n1_; have BK318 := n2_; have HB := n3_; clear n0_ n1_ n2_ n3_; (try clear hb); (try clear hb2); (try clear hk); (try clear hi); (try clear ho0)) | ((with_reducible refine gate_dst (N := 6) rfl ?_); (try (refine gate_guard (by rfl) ?_; dsimp only)); refine box_event ?hg (N := 6) ?hd (cs := #[.slice none 0 0]) (t := 31) ?hr ?_; (case hd => rfl); (case hg => rfl); (case hr => first | (go_simp; done) | (go_simp; rfl)); intro gb324 hg w19 hbox hb; have n0_ := Aside0.mk (Kd.Q_below (by (with_reducible repeat (first | apply Kd.Q_alloc | apply Kd.Q_drewN | apply Kd.Q_drew)); exact HO315.out) hb); have n1_ := Aside0.mk (Kd.R_below (by (with_reducible repeat (first | apply Kd.R_alloc | apply Kd.R_drewN | apply Kd.R_drew)); exact HO321.out) hb); have n2_ := Aside0.mk (blk_below (g := gb318) (o := .cells #[.string t307, .int .i64 t308, .string t309, .int .i64 t310, .bool t311, .bool t312, .slice Ao17 t313.length co17] 26 (0, 0)) (by (with_reducible repeat (first | refine blk_drewN ?_ _ | refine blk_drew ?_ | refine blk_alloc ?_ _)); exact BK318.out) hb); have n3_ := Aside0.mk (below_step (by repeat (first | (with_reducible first | exact HB.out | apply below_alloc | apply pw_below_drewN | apply below_drew1 | refine below_set ?_ GE318.out) | exact HB.out)) hb); have n4_ := Aside0.mk (hbox); have n5_ := Aside0.mk ((by rw [hg]; exact (below_size (by repeat (first | (with_reducible first | exact HB.out | apply below_alloc | apply pw_below_drewN | apply below_drew1 | refine below_set ?_ GE318.out) | exact HB.out))) : w.heap.size ≤ gb324)); have n6_ := Aside0.mk ((by rw [hg]; exact (below_size (by repeat (first | (with_reducible first | exact HB.out | apply below_alloc | apply pw_below_drewN | apply below_drew1 | refine below_set ?_ GE318.out) | exact HB.out))) : w.heap.size ≤ gb324)); have n7_ := Aside0.mk ((by rw [hg]; exact Nat.ne_of_lt (blk_lt (g := gb318) (o := .cells #[.string t307, .int .i64 t308, .string t309, .int .i64 t310, .bool t311, .bool t312, .slice Ao17 t313.length co17] 26 (0, 0)) (by (with_reducible repeat (first | refine blk_drewN ?_ _ | refine blk_drew ?_ | refine blk_alloc ?_ _)); exact BK318.out)) : gb318 ≠ gb324)); have n8_ := Aside0.mk ((by rw [hg]; exact Nat.ne_of_gt (blk_lt (g := gb318) (o := .cells #[.string t307, .int .i64 t308, .string t309, .int .i64 t310, .bool t311, .bool t312, .slice Ao17 t313.length co17] 26 (0, 0)) (by (with_reducible repeat (first | refine blk_drewN ?_ _ | refine blk_drew ?_ | refine blk_alloc ?_ _)); exact BK318.out)) : gb324 ≠ gb318)); clear HO315; clear HO321; clear BK318; clear HB; have HO315 := n0_; have HO321 := n1_; have BK318 := n2_; have HB := n3_; have BK324 := n4_; have GW324 := n5_; have GE324 := n6_; have NB318_324 := n7_; have NB324_318 := n8_; clear n0_ n1_ n2_ n3_ n4_ n5_ n6_ n7_ n8_; clear hb hbox hg; obtain ⟨Ao20, co20, eo20⟩ := Kd.R_slice HO321.out; subst eo20; have hnb21 := NB324_318.out; have hnc21 := NB318_324.out; have hcz22_0 : w19.cell? ⟨gb324, 0, none⟩ = some (.slice none 0 0) := (blk_cell BK324.out 0).trans rfl; have hfz22_0 := blk_frozen BK324.out 0))
      have n0_ : Aside0 (Kd.Q k93 93 (w19.setCell ⟨gb324, 0, none⟩ (.slice Ao20 t319.length co20)) w.heap.size (fun _ => True) (.slice Ao17 t313.length co17) t313) := ⟨by (with_reducible repeat (first | apply Kd.Q_alloc | apply Kd.Q_drewN | apply Kd.Q_drew)); exact Kd.Q_mono (Kd.Q_far (p := ⟨gb324, 0, none⟩) (Kd.Q_types HO315.out BK324.out (by decide)) (fun _ hk => hk.2) (.slice Ao20 t319.length co20)) (fun _ hk => trivial)⟩
      have n1_ : Aside0 (Kd.R k37 37 (w19.setCell ⟨gb324, 0, none⟩ (.slice Ao20 t319.length co20)) w.heap.size (fun _ => True) (.slice Ao20 t319.length co20) t319) := ⟨by (with_reducible repeat (first | apply Kd.R_alloc | apply Kd.R_drewN | apply Kd.R_drew)); exact Kd.R_mono (Kd.R_far (p := ⟨gb324, 0, none⟩) (Kd.R_types HO321.out BK324.out (by decide)) (fun _ hk => hk.2) (.slice Ao20 t319.length co20)) (fun _ hk => trivial)⟩
      have n2_ : Aside0 ((w19.setCell ⟨gb324, 0, none⟩ (.slice Ao20 t319.length co20)).heap[gb318]? = some (.cells #[.string t307, .int .i64 t308, .string t309, .int .i64 t310, .bool t311, .bool t312, .slice Ao17 t313.length co17] 26 (0, 0))) := ⟨by (with_reducible repeat (first | refine blk_drewN ?_ _ | refine blk_drew ?_ | refine blk_alloc ?_ _)); refine blk_far ?_ NB318_324.out _; (with_reducible repeat (first | refine blk_drewN ?_ _ | refine blk_drew ?_ | refine blk_alloc ?_ _)); exact BK318.out⟩
      have n3_ : Aside0 ((w19.setCell ⟨gb324, 0, none⟩ (.slice Ao20 t319.length co20)).heap[gb324]? = some (.cells #[.slice Ao20 t319.length co20] 31 (0, 0))) := ⟨by (with_reducible repeat (first | refine blk_drewN ?_ _ | refine blk_drew ?_ | refine blk_alloc ?_ _)); refine blk_put (cs := #[.slice none 0 0]) ?_ 0 _ rfl; (with_reducible repeat (first | refine blk_drewN ?_ _ | refine blk_drew ?_ | refine blk_alloc ?_ _)); exact BK324.out⟩
      have n4_ : Aside0 (Below w.heap.size w (w19.setCell ⟨gb324, 0, none⟩ (.slice Ao20 t319.length co20))) := ⟨by repeat (first | (with_reducible first | exact HB.out | apply below_alloc | apply pw_below_drewN | apply below_drew1 | refine below_set ?_ GE318.out | refine below_set ?_ GE324.out) | exact HB.out)⟩
      (try clear HO315)
      (try clear HO321)
      (try clear BK318)
      (try clear BK324)
      (try clear HB)
      generalize (w19.setCell ⟨gb324, 0, none⟩ (.slice Ao20 t319.length co20)) = w23 at n0_ n1_ n2_ n3_ n4_ ⊢
      have HO315 := n0_
      have HO321 := n1_
      have BK318 := n2_
      have BK324 := n3_
      have HB := n4_
      clear n0_ n1_ n2_ n3_ n4_
      have n0_ := Aside0.mk (Kd.Q_drew HO315.out)
      have n1_ := Aside0.mk (Kd.R_drew HO321.out)
      have n2_ := Aside0.mk (blk_drew BK318.out)
      have n3_ := Aside0.mk (blk_drew BK324.out)
      have n4_ := Aside0.mk (below_drew1 HB.out)
      clear HO315
      clear HO321
      clear BK318
      clear BK324
      clear HB
      have HO315 := n0_
      have HO321 := n1_
      have BK318 := n2_
      have BK324 := n3_
      have HB := n4_
      clear n0_ n1_ n2_ n3_ n4_
      refine start_ (n := 14) (S := fun w' => w'.cell? ⟨gb318, 0, none⟩ = some (.string t307) ∧ w'.cell? ⟨gb318, 1, none⟩ = some (.int .i64 t308) ∧ w'.cell? ⟨gb318, 2, none⟩ = some (.string t309) ∧ w'.cell? ⟨gb318, 3, none⟩ = some (.int .i64 t310) ∧ w'.cell? ⟨gb318, 4, none⟩ = some (.bool t311) ∧ w'.cell? ⟨gb318, 5, none⟩ = some (.bool t312) ∧ w'.cell? ⟨gb318, 6, none⟩ = some (.slice Ao17 t313.length co17) ∧ w'.cell? ⟨gb324, 0, none⟩ = some (.slice Ao20 t319.length co20)) (ds := []) #[false, false, false, false, false, false, false, false, false, false, false, false, false, false] (by kernel_rfl) rfl rfl ⟨(blk_cell BK318.out 0).trans rfl, (blk_cell BK318.out 1).trans rfl, (blk_cell BK318.out 2).trans rfl, (blk_cell BK318.out 3).trans rfl, (blk_cell BK318.out 4).trans rfl, (blk_cell BK318.out 5).trans rfl, (blk_cell BK318.out 6).trans rfl, (blk_cell BK324.out 0).trans rfl⟩ (fun hHeld => ?_); refine with_tabW squelchlaw05_PathReads.tab9 squelchlaw05_PathReads.bits9 (fun HT_ HW_ => ?_)
      generalize w23.drew = w24 at HO315 HO321 BK318 BK324 HB hHeld ⊢
      refine take_ (i := 0) (N := some 47) (v := ?_) (a' := ?_) #[true, false, false, false, false, false, false, false, false, false, false, false, false, false] rfl rfl (take_ofW HT_.out HW_.out (by kernel_rfl)) (fun _ _ _ h => h) (Or.inl ⟨by rfl, ?_⟩) hHeld ?_ ?_
      rotate_left
      ·rintro w' ⟨s0, s1, s2, s3, s4, s5, s6, s7⟩
       go_simp
       with_reducible rfl
      rotate_left
      ·simp only [Act.put, List.setIfInBounds_toArray, List.set_cons_zero, List.set_cons_succ, i64_w, i32_w]
       rfl
      refine take_ (i := 2) (N := some 49) (v := ?_) (a' := ?_) #[true, false, true, false, false, false, false, false, false, false, false, false, false, false] rfl rfl (take_ofW HT_.out HW_.out (by kernel_rfl)) (fun _ _ _ h => h) (Or.inl ⟨by rfl, ?_⟩) hHeld ?_ ?_
      rotate_left
      ·rintro w' ⟨s0, s1, s2, s3, s4, s5, s6, s7⟩
       go_simp
       with_reducible rfl
      rotate_left
      ·simp only [Act.put, List.setIfInBounds_toArray, List.set_cons_zero, List.set_cons_succ, i64_w, i32_w]
       rfl
      refine one_ (i := 1) (N := some 48) #[true, true, true, false, false, false, false, false, false, false, false, false, false, false] rfl rfl (one_of HT_.out (by kernel_rfl)) (by decide) (fun K hK => ?_)
      refine goes_ Tryd.func17 (by kernel_rfl) rfl #[.agg #[.string t307, .int .i64 t308, .string t309, .int .i64 t310, .bool t311, .bool t312, .slice Ao17 t313.length co17]] (by rfl) rfl rfl (by (try simp only [List.map_toArray, List.map_cons, List.map_nil]); first | done | rfl | (simp only [List.length_drop, List.length_take]; rfl)) ?_
      with_reducible refine (squelchlaw05_Plain.calls k t307 t308 t309 t310 t311 t312 _ _ t313 t325 _ ?side1 ?side2 A9.out).mono ?_
      (case side1 => repeat (first | exact (Kd.Q_reads' HO315.out).2.2 | (with_reducible refine Kd.C_alloc ?_ _) | (with_reducible refine Kd.C_drewN ?_ _) | (with_reducible refine Kd.C_drew ?_)))
      (case side2 => exact (Kd.Q_reads' HO315.out).2.1)
      rintro e w25 ⟨v326, rfl, ho0, hb⟩
      refine ⟨_, rfl, ?_⟩
      have n0_ := Aside0.mk (Kd.Q_below (by (with_reducible repeat (first | apply Kd.Q_alloc | apply Kd.Q_drewN | apply Kd.Q_drew)); exact HO315.out) hb)
      have n1_ := Aside0.mk (Kd.R_elder' (by (with_reducible repeat (first | apply Kd.R_alloc | apply Kd.R_drewN | apply Kd.R_drew)); exact HO321.out) (Kd.R_base ho0) hb)
      have n2_ := Aside0.mk (Kd.R_lower (Kd.R_new' ho0 (Kd.R_lt (by (with_reducible repeat (first | apply Kd.R_alloc | apply Kd.R_drewN | apply Kd.R_drew)); exact HO321.out))) (below_size (by repeat (first | (with_reducible first | exact HB.out | apply below_alloc | apply pw_below_drewN | apply below_drew1 | refine below_set ?_ GE318.out | refine below_set ?_ GE324.out) | exact HB.out))))
      have n3_ := Aside0.mk (blk_below (g := gb318) (o := .cells #[.string t307, .int .i64 t308, .string t309, .int .i64 t310, .bool t311, .bool t312, .slice Ao17 t313.length co17] 26 (0, 0)) (by (with_reducible repeat (first | refine blk_drewN ?_ _ | refine blk_drew ?_ | refine blk_alloc ?_ _)); exact BK318.out) hb)
      have n4_ := Aside0.mk (blk_below (g := gb324) (o := .cells #[.slice Ao20 t319.length co20] 31 (0, 0)) (by (with_reducible repeat (first | refine blk_drewN ?_ _ | refine blk_drew ?_ | refine blk_alloc ?_ _)); exact BK324.out) hb)
      have n5_ := Aside0.mk (below_step (by repeat (first | (with_reducible first | exact HB.out | apply below_alloc | apply pw_below_drewN | apply below_drew1 | refine below_set ?_ GE318.out | refine below_set ?_ GE324.out) | exact HB.out)) hb)
      clear HO315
      clear HO321
      clear BK318
      clear BK324
      clear HB
      have HO315 := n0_
      have HO321 := n1_
      have HO327 := n2_
      have BK318 := n3_
      have BK324 := n4_
      have HB := n5_
      clear n0_ n1_ n2_ n3_ n4_ n5_
      (try clear hb)
      (try clear hb2)
      (try clear hk)
      (try clear hi)
      (try clear ho0)
      obtain ⟨Ao26, co26, eo26⟩ := Kd.R_slice HO327.out
      (first | subst eo26 | (injection eo26 with f1_ f2_ f3_; have f4_ := f1_.symm; have f5_ := f3_.symm; clear f1_ f2_ f3_; subst f4_; subst f5_))
      refine hK.out _ _ ⟨(blk_cell BK318.out 0).trans rfl, (blk_cell BK318.out 1).trans rfl, (blk_cell BK318.out 2).trans rfl, (blk_cell BK318.out 3).trans rfl, (blk_cell BK318.out 4).trans rfl, (blk_cell BK318.out 5).trans rfl, (blk_cell BK318.out 6).trans rfl, (blk_cell BK324.out 0).trans rfl⟩ (fun hHeld => ?_)
      clear hK K
      refine norm_ (a' := ?_) ?_ ?_
      rotate_left
      ·show Act.put _ (some 48) _ = _
       simp only [Act.put, List.setIfInBounds_toArray, List.set_cons_zero, List.set_cons_succ, i64_w, i32_w]
       rfl
      refine one_ (i := 3) (N := some 50) #[true, true, true, true, false, false, false, false, false, false, false, false, false, false] rfl rfl (one_of HT_.out (by kernel_rfl)) (by decide) (fun K hK => ?_)
      refine goes_ Tryd.func23 (by kernel_rfl) rfl #[.agg #[.slice Ao26 t325.length co26], .agg #[.slice Ao20 t319.length co20]] (by rfl) rfl rfl (by (try simp only [List.map_toArray, List.map_cons, List.map_nil]); first | done | rfl | (simp only [List.length_drop, List.length_take]; rfl)) ?_
      with_reducible refine (squelchref05_Same.calls k _ _ t325 _ _ t319 true _ ?side1 ?side2 ?side3 ?side4 A10.out).mono ?_
      (case side1 => repeat (first | exact (Kd.R_reads' HO327.out).2.2 | (with_reducible refine Kd.C_alloc ?_ _) | (with_reducible refine Kd.C_drewN ?_ _) | (with_reducible refine Kd.C_drew ?_)))
      (case side2 => exact (Kd.R_reads' HO327.out).2.1)
      (case side3 => repeat (first | exact (Kd.R_reads' HO321.out).2.2 | (with_reducible refine Kd.C_alloc ?_ _) | (with_reducible refine Kd.C_drewN ?_ _) | (with_reducible refine Kd.C_drew ?_)))
      (case side4 => exact (Kd.R_reads' HO321.out).2.1)
      rintro e w27 ⟨rfl, hb⟩
      refine ⟨_, rfl, ?_⟩
      have n0_ := Aside0.mk (Kd.Q_below (by (with_reducible repeat (first | apply Kd.Q_alloc | apply Kd.Q_drewN | apply Kd.Q_drew)); exact HO315.out) hb)
      have n1_ := Aside0.mk (Kd.R_below (by (with_reducible repeat (first | apply Kd.R_alloc | apply Kd.R_drewN | apply Kd.R_drew)); exact HO321.out) hb)
      have n2_ := Aside0.mk (Kd.R_below (by (with_reducible repeat (first | apply Kd.R_alloc | apply Kd.R_drewN | apply Kd.R_drew)); exact HO327.out) hb)
      have n3_ := Aside0.mk (blk_below (g := gb318) (o := .cells #[.string t307, .int .i64 t308, .string t309, .int .i64 t310, .bool t311, .bool t312, .slice Ao17 t313.length co17] 26 (0, 0)) (by (with_reducible repeat (first | refine blk_drewN ?_ _ | refine blk_drew ?_ | refine blk_alloc ?_ _)); exact BK318.out) hb)
      have n4_ := Aside0.mk (blk_below (g := gb324) (o := .cells #[.slice Ao20 t319.length co20] 31 (0, 0)) (by (with_reducible repeat (first | refine blk_drewN ?_ _ | refine blk_drew ?_ | refine blk_alloc ?_ _)); exact BK324.out) hb)
      have n5_ := Aside0.mk (below_step (by repeat (first | (with_reducible first | exact HB.out | apply below_alloc | apply pw_below_drewN | apply below_drew1 | refine below_set ?_ GE318.out | refine below_set ?_ GE324.out) | exact HB.out)) hb)
      clear HO315
      clear HO321
      clear HO327
      clear BK318
      clear BK324
      clear HB
      have HO315 := n0_
      have HO321 := n1_
      have HO327 := n2_
      have BK318 := n3_
      have BK324 := n4_
      have HB := n5_
      clear n0_ n1_ n2_ n3_ n4_ n5_
      (try clear hb)
      (try clear hb2)
      (try clear hk)
      (try clear hi)
      refine hK.out _ _ ⟨(blk_cell BK318.out 0).trans rfl, (blk_cell BK318.out 1).trans rfl, (blk_cell BK318.out 2).trans rfl, (blk_cell BK318.out 3).trans rfl, (blk_cell BK318.out 4).trans rfl, (blk_cell BK318.out 5).trans rfl, (blk_cell BK318.out 6).trans rfl, (blk_cell BK324.out 0).trans rfl⟩ (fun hHeld => ?_)
      clear hK K
      refine norm_ (a' := ?_) ?_ ?_
      rotate_left
      ·show Act.put _ (some 50) _ = _
       simp only [Act.put, List.setIfInBounds_toArray, List.set_cons_zero, List.set_cons_succ, i64_w, i32_w]
       rfl
      refine pure_ (i := 4) (N := some 51) (v := ?_) (a' := ?_) #[true, true, true, true, true, false, false, false, false, false, false, false, false, false] rfl rfl (any_of HT_.out (by kernel_rfl)) (fun _ _ _ h => h) (Or.inl ⟨by rfl, ?_⟩) ?_ ?_
      rotate_left
      ·intro w'
       go_simp
       with_reducible rfl
      rotate_left
      ·simp only [Act.put, List.setIfInBounds_toArray, List.set_cons_zero, List.set_cons_succ, i64_w, i32_w]
       rfl
      refine pure_ (i := 5) (N := some 52) (v := ?_) (a' := ?_) #[true, true, true, true, true, true, false, false, false, false, false, false, false, false] rfl rfl (any_of HT_.out (by kernel_rfl)) (fun _ _ _ h => h) (Or.inl ⟨by rfl, ?_⟩) ?_ ?_
      rotate_left
      ·intro w'
       go_simp
       with_reducible rfl
      rotate_left
      ·simp only [Act.put, List.setIfInBounds_toArray, List.set_cons_zero, List.set_cons_succ, i64_w, i32_w]
       rfl
      refine pure_ (i := 6) (N := some 53) (v := ?_) (a' := ?_) #[true, true, true, true, true, true, true, false, false, false, false, false, false, false] rfl rfl (any_of HT_.out (by kernel_rfl)) (fun _ _ _ h => h) (Or.inl ⟨by rfl, ?_⟩) ?_ ?_
      rotate_left
      ·intro w'
       go_simp
       with_reducible rfl
      rotate_left
      ·simp only [Act.put, List.setIfInBounds_toArray, List.set_cons_zero, List.set_cons_succ, i64_w, i32_w]
       rfl
      refine pure_ (i := 7) (N := some 54) (v := ?_) (a' := ?_) #[true, true, true, true, true, true, true, true, false, false, false, false, false, false] rfl rfl (any_of HT_.out (by kernel_rfl)) (fun _ _ _ h => h) (Or.inl ⟨by rfl, ?_⟩) ?_ ?_
      rotate_left
      ·intro w'
       go_simp
       with_reducible rfl
      rotate_left
      ·simp only [Act.put, List.setIfInBounds_toArray, List.set_cons_zero, List.set_cons_succ, i64_w, i32_w]
       rfl
      refine pure_ (i := 8) (N := some 55) (v := ?_) (a' := ?_) #[true, true, true, true, true, true, true, true, true, false, false, false, false, false] rfl rfl (any_of HT_.out (by kernel_rfl)) (fun _ _ _ h => h) (Or.inl ⟨by rfl, ?_⟩) ?_ ?_
      rotate_left
      ·intro w'
       go_simp
       with_reducible rfl
      rotate_left
      ·simp only [Act.put, List.setIfInBounds_toArray, List.set_cons_zero, List.set_cons_succ, i64_w, i32_w]
       rfl
      refine pure_ (i := 9) (N := some 56) (v := ?_) (a' := ?_) #[true, true, true, true, true, true, true, true, true, true, false, false, false, false] rfl rfl (any_of HT_.out (by kernel_rfl)) (fun _ _ _ h => h) (Or.inl ⟨by rfl, ?_⟩) ?_ ?_
      rotate_left
      ·intro w'
       go_simp
       with_reducible rfl
      rotate_left
      ·simp only [Act.put, List.setIfInBounds_toArray, List.set_cons_zero, List.set_cons_succ, i64_w, i32_w]
       rfl
      refine pure_ (i := 10) (N := some 57) (v := ?_) (a' := ?_) #[true, true, true, true, true, true, true, true, true, true, true, false, false, false] rfl rfl (any_of HT_.out (by kernel_rfl)) (fun _ _ _ h => h) (Or.inl ⟨by rfl, ?_⟩) ?_ ?_
      rotate_left
      ·intro w'
       go_simp
       with_reducible rfl
      rotate_left
      ·simp only [Act.put, List.setIfInBounds_toArray, List.set_cons_zero, List.set_cons_succ, i64_w, i32_w]
       rfl
      refine pure_ (i := 11) (N := some 58) (v := ?_) (a' := ?_) #[true, true, true, true, true, true, true, true, true, true, true, true, false, false] rfl rfl (any_of HT_.out (by kernel_rfl)) (fun _ _ _ h => h) (Or.inl ⟨by rfl, ?_⟩) ?_ ?_
      rotate_left
      ·intro w'
       go_simp
       with_reducible rfl
      rotate_left
      ·simp only [Act.put, List.setIfInBounds_toArray, List.set_cons_zero, List.set_cons_succ, i64_w, i32_w]
       rfl
      refine pure_ (i := 12) (N := some 59) (v := ?_) (a' := ?_) #[true, true, true, true, true, true, true, true, true, true, true, true, true, false] rfl rfl (any_of HT_.out (by kernel_rfl)) (fun _ _ _ h => h) (Or.inl ⟨by rfl, ?_⟩) ?_ ?_
      rotate_left
      ·intro w'
       go_simp
       with_reducible rfl
      rotate_left
      ·simp only [Act.put, List.setIfInBounds_toArray, List.set_cons_zero, List.set_cons_succ, i64_w, i32_w]
       rfl
      refine pure_ (i := 13) (N := some 2) (v := ?_) (a' := ?_) #[true, true, true, true, true, true, true, true, true, true, true, true, true, true] rfl rfl (any_of HT_.out (by kernel_rfl)) (fun _ _ _ h => h) (Or.inl ⟨by rfl, ?_⟩) ?_ ?_
      rotate_left
      ·intro w'
       go_simp
       with_reducible rfl
      rotate_left
      ·simp only [Act.put, List.setIfInBounds_toArray, List.set_cons_zero, List.set_cons_succ, i64_w, i32_w]
       rfl
      refine done_ (done_of HT_.out (by kernel_rfl)) ?_
      try go_wp2
      go_ret
      exact ⟨by first | rfl | (simp [errW_none, errW_some] <;> rfl) | (simp [*, errW_none, errW_some] <;> rfl), by repeat (first | (with_reducible first | exact HB.out | apply below_alloc | apply pw_below_drewN | apply below_drew1 | refine below_set ?_ GE318.out | refine below_set ?_ GE324.out) | exact HB.out)⟩
     ·rw [if_neg c12] at H
      have c12b0 : (t316 == t322) = false := beq_eq_false_iff_ne.mpr c12
      have c12b1 : (t316 != t322) = true := bne_iff_ne.mpr c12
      exact absurd ((Option.some.inj H).trans HT_.out) (by decide)
    ·replace c11 := Bool.eq_false_iff.mpr c11
     subst c11
     have H1 : (some false) = some r := by rw [if_neg (show ¬ (false = true) by decide)] at H; exact H
     clear H
     have H := H1
     clear H1
     exact absurd ((Option.some.inj H).trans HT_.out) (by decide)
   ·rw [if_neg c8] at H
    have c8b0 : (t323 == 0) = false := beq_eq_false_iff_ne.mpr c8
    have c8b1 : (t323 != 0) = true := bne_iff_ne.mpr c8
    by_cases c28 : t316 = 0
    ·rw [if_pos c28] at H
     have c28b0 : (t316 == 0) = true := beq_iff_eq.mpr c28
     have c28b1 : (t316 != 0) = false := bne_eq_false_iff_eq.mpr c28
     clear c28
     by_cases c29 : t317 = t323
     ·rw [if_pos c29] at H
      have c29b0 : (t317 == t323) = true := beq_iff_eq.mpr c29
      have c29b1 : (t317 != t323) = false := bne_eq_false_iff_eq.mpr c29
      clear c29
      by_cases c30 : (t307.toList == ([] : List UInt8) && (t308 == 0)) = true
      ·rw [if_pos c30] at H
       have c30b0 : (t307.toList == ([] : List UInt8) && (t308 == 0)) = true := c30
       (try (have c30b0e : (t307.toList.isEmpty && (t308 == 0)) = true := by simpa using c30b0))
       (try (have c30b1 : decide (t307.toList = ([] : List UInt8) && (t308 == 0)) = true := by simpa using c30))
       (try (have c30b2 : (t307.toList == ([] : List UInt8) && (t308 == 0)) = true := by simpa using c30))
       clear c30
       obtain rfl := Option.some.inj H
       go_enter Tryd.func5, Tryd.ntmps5
       go_wp2_with (first | ((with_reducible refine gate_callee (f := 15) rfl ?_); refine goesL_ (some 9) rfl rfl Tryd.func15 (by kernel_rfl) rfl #[] rfl (by (try simp only [List.map_toArray, List.map_cons, List.map_nil]); first | done | rfl | (simp only [List.length_drop, List.length_take]; rfl)) ?_; (with_reducible refine (squelchlaw05_awake.calls  true _ A2.out).mono ?_); rintro e w31 ⟨rfl, hb⟩; refine ⟨_, rfl, ?_⟩; have n0_ := Aside0.mk (below_step (by repeat (first | (with_reducible first | exact HB.out | apply below_alloc | apply pw_below_drewN | apply below_drew1) | exact HB.out)) hb); clear HB; have HB := n0_; clear n0_; (try clear hb); (try clear hb2); (try clear hk); (try clear hi)) | ((with_reducible refine gate_callee (f := 29) rfl ?_); refine goesL_ (some 16) rfl rfl Tryd.func29 (by kernel_rfl) rfl #[.string a0] rfl (by (try simp only [List.map_toArray, List.map_cons, List.map_nil]); first | done | rfl | (simp only [List.length_drop, List.length_take]; rfl)) ?_; (with_reducible refine (path_Get.calls a0 t307 t308 t309 t310 t311 t312 t313 t316 t317 _ A6.out).mono ?_); rintro e w32 ⟨v314, rfl, ho0, hb⟩; refine ⟨_, rfl, ?_⟩; have n0_ := Aside0.mk (Kd.Q_lower ho0 (below_size (by repeat (first | (with_reducible first | exact HB.out | apply below_alloc | apply pw_below_drewN | apply below_drew1) | exact HB.out)))); have n1_ := Aside0.mk (below_step (by repeat (first | (with_reducible first | exact HB.out | apply below_alloc | apply pw_below_drewN | apply below_drew1) | exact HB.out)) hb); clear HB; have HO315 := n0_; have HB := n1_; clear n0_ n1_; (try clear hb); (try clear hb2); (try clear hk); (try clear hi); (try clear ho0)) | ((with_reducible refine gate_dst (N := 3) rfl ?_); (try (refine gate_guard (by rfl) ?_; dsimp only)); refine box_event ?hg (N := 3) ?hd (cs := #[.string (⟨#[]⟩ : ByteArray), .int .i64 0, .string (⟨#[]⟩ : ByteArray), .int .i64 0, .bool false, .bool false, .slice none 0 0]) (t := 26) ?hr ?_; (case hd => rfl); (case hg => rfl); (case hr => first | (go_simp; done) | (go_simp; rfl)); intro gb318 hg w33 hbox hb; have n0_ := Aside0.mk (Kd.Q_below (by (with_reducible repeat (first | apply Kd.Q_alloc | apply Kd.Q_drewN | apply Kd.Q_drew)); exact HO315.out) hb); have n1_ := Aside0.mk (below_step (by repeat (first | (with_reducible first | exact HB.out | apply below_alloc | apply pw_below_drewN | apply below_drew1) | exact HB.out)) hb); have n2_ := Aside0.mk (hbox); have n3_ := Aside0.mk ((by rw [hg]; exact (below_size (by repeat (first | (with_reducible first | exact HB.out | apply below_alloc | apply pw_below_drewN | apply below_drew1) | exact HB.out))) : w.heap.size ≤ gb318)); have n4_ := Aside0.mk ((by rw [hg]; exact (below_size (by repeat (first | (with_reducible first | exact HB.out | apply below_alloc | apply pw_below_drewN | apply below_drew1) | exact HB.out))) : w.heap.size ≤ gb318)); clear HO315; clear HB; have HO315 := n0_; have HB := n1_; have BK318 := n2_; have GW318 := n3_; have GE318 := n4_; clear n0_ n1_ n2_ n3_ n4_; clear hb hbox hg; have hcz34_0 : w33.cell? ⟨gb318, 0, none⟩ = some (.string (⟨#[]⟩ : ByteArray)) := (blk_cell BK318.out 0).trans rfl; have hcz34_1 : w33.cell? ⟨gb318, 1, none⟩ = some (.int .i64 0) := (blk_cell BK318.out 1).trans rfl; have hcz34_2 : w33.cell? ⟨gb318, 2, none⟩ = some (.string (⟨#[]⟩ : ByteArray)) := (blk_cell BK318.out 2).trans rfl; have hcz34_3 : w33.cell? ⟨gb318, 3, none⟩ = some (.int .i64 0) := (blk_cell BK318.out 3).trans rfl; have hcz34_4 : w33.cell? ⟨gb318, 4, none⟩ = some (.bool false) := (blk_cell BK318.out 4).trans rfl; have hcz34_5 : w33.cell? ⟨gb318, 5, none⟩ = some (.bool false) := (blk_cell BK318.out 5).trans rfl; have hcz34_6 : w33.cell? ⟨gb318, 6, none⟩ = some (.slice none 0 0) := (blk_cell BK318.out 6).trans rfl; have hfz34_0 := blk_frozen BK318.out 0; have hfz34_1 := blk_frozen BK318.out 1; have hfz34_2 := blk_frozen BK318.out 2; have hfz34_3 := blk_frozen BK318.out 3; have hfz34_4 := blk_frozen BK318.out 4; have hfz34_5 := blk_frozen BK318.out 5; have hfz34_6 := blk_frozen BK318.out 6; obtain ⟨Ao35, co35, eo35, _⟩ := Kd.Q_slice HO315.out; subst eo35) | ((with_reducible refine gate_callee (f := 30) rfl ?_); refine goesL_ (some 22) rfl rfl Tryd.func30 (by kernel_rfl) rfl #[.string a0] rfl (by (try simp only [List.map_toArray, List.map_cons, List.map_nil]); first | done | rfl | (simp only [List.length_drop, List.length_take]; rfl)) ?_; (with_reducible refine (squelchref05_Get.calls k a0 t319 t322 t323 _ A7.out).mono ?_); rintro e w36 ⟨v320, rfl, ho0, hb⟩; refine ⟨_, rfl, ?_⟩; have n0_ := Aside0.mk (Kd.Q_below (by (with_reducible repeat (first | apply Kd.Q_alloc | apply Kd.Q_drewN | apply Kd.Q_drew)); exact (Kd.Q_mono (Kd.Q_far (p := ⟨gb318, 6, none⟩) (Kd.Q_far (p := ⟨gb318, 5, none⟩) (Kd.Q_far (p := ⟨gb318, 4, none⟩) (Kd.Q_far (p := ⟨gb318, 3, none⟩) (Kd.Q_far (p := ⟨gb318, 2, none⟩) (Kd.Q_far (p := ⟨gb318, 1, none⟩) (Kd.Q_far (p := ⟨gb318, 0, none⟩) (Kd.Q_types HO315.out BK318.out (by decide)) (fun _ hk => hk.2) (.string t307)) (fun _ hk => hk.2) (.int .i64 t308)) (fun _ hk => hk.2) (.string t309)) (fun _ hk => hk.2) (.int .i64 t310)) (fun _ hk => hk.2) (.bool t311)) (fun _ hk => hk.2) (.bool t312)) (fun _ hk => hk.2) (.slice Ao35 t313.length co35)) (fun _ h_ => h_.1))) hb); have n1_ := Aside0.mk (Kd.R_lower ho0 (below_size (by repeat (first | (with_reducible first | exact HB.out | apply below_alloc | apply pw_below_drewN | apply below_drew1 | refine below_set ?_ GE318.out) | exact HB.out)))); have n2_ := Aside0.mk (blk_below (g := gb318) (o := .cells #[.string t307, .int .i64 t308, .string t309, .int .i64 t310, .bool t311, .bool t312, .slice Ao35 t313.length co35] 26 (0, 0)) (by (with_reducible repeat (first | refine blk_drewN ?_ _ | refine blk_drew ?_ | refine blk_alloc ?_ _)); refine blk_put (cs := #[.string t307, .int .i64 t308, .string t309, .int .i64 t310, .bool t311, .bool t312, .slice none 0 0]) ?_ 6 _ rfl; (with_reducible repeat (first | refine blk_drewN ?_ _ | refine blk_drew ?_ | refine blk_alloc ?_ _)); refine blk_put (cs := #[.string t307, .int .i64 t308, .string t309, .int .i64 t310, .bool t311, .bool false, .slice none 0 0]) ?_ 5 _ rfl; (with_reducible repeat (first | refine blk_drewN ?_ _ | refine blk_drew ?_ | refine blk_alloc ?_ _)); refine blk_put (cs := #[.string t307, .int .i64 t308, .string t309, .int .i64 t310, .bool false, .bool false, .slice none 0 0]) ?_ 4 _ rfl; (with_reducible repeat (first | refine blk_drewN ?_ _ | refine blk_drew ?_ | refine blk_alloc ?_ _)); refine blk_put (cs := #[.string t307, .int .i64 t308, .string t309, .int .i64 0, .bool false, .bool false, .slice none 0 0]) ?_ 3 _ rfl; (with_reducible repeat (first | refine blk_drewN ?_ _ | refine blk_drew ?_ | refine blk_alloc ?_ _)); refine blk_put (cs := #[.string t307, .int .i64 t308, .string (⟨#[]⟩ : ByteArray), .int .i64 0, .bool false, .bool false, .slice none 0 0]) ?_ 2 _ rfl; (with_reducible repeat (first | refine blk_drewN ?_ _ | refine blk_drew ?_ | refine blk_alloc ?_ _)); refine blk_put (cs := #[.string t307, .int .i64 0, .string (⟨#[]⟩ : ByteArray), .int .i64 0, .bool false, .bool false, .slice none 0 0]) ?_ 1 _ rfl; (with_reducible repeat (first | refine blk_drewN ?_ _ | refine blk_drew ?_ | refine blk_alloc ?_ _)); refine blk_put (cs := #[.string (⟨#[]⟩ : ByteArray), .int .i64 0, .string (⟨#[]⟩ : ByteArray), .int .i64 0, .bool false, .bool false, .slice none 0 0]) ?_ 0 _ rfl; (with_reducible repeat (first | refine blk_drewN ?_ _ | refine blk_drew ?_ | refine blk_alloc ?_ _)); exact BK318.out) hb); have n3_ := Aside0.mk (below_step (by repeat (first | (with_reducible first | exact HB.out | apply below_alloc | apply pw_below_drewN | apply below_drew1 | refine below_set ?_ GE318.out) | exact HB.out)) hb); clear HO315; clear BK318; clear HB; have HO315 := n0_; have HO321 := n1_; have BK318 := n2_; have HB := n3_; clear n0_ n1_ n2_ n3_; (try clear hb); (try clear hb2); (try clear hk); (try clear hi); (try clear ho0)) | ((with_reducible refine gate_dst (N := 6) rfl ?_); (try (refine gate_guard (by rfl) ?_; dsimp only)); refine box_event ?hg (N := 6) ?hd (cs := #[.slice none 0 0]) (t := 31) ?hr ?_; (case hd => rfl); (case hg => rfl); (case hr => first | (go_simp; done) | (go_simp; rfl)); intro gb324 hg w37 hbox hb; have n0_ := Aside0.mk (Kd.Q_below (by (with_reducible repeat (first | apply Kd.Q_alloc | apply Kd.Q_drewN | apply Kd.Q_drew)); exact HO315.out) hb); have n1_ := Aside0.mk (Kd.R_below (by (with_reducible repeat (first | apply Kd.R_alloc | apply Kd.R_drewN | apply Kd.R_drew)); exact HO321.out) hb); have n2_ := Aside0.mk (blk_below (g := gb318) (o := .cells #[.string t307, .int .i64 t308, .string t309, .int .i64 t310, .bool t311, .bool t312, .slice Ao35 t313.length co35] 26 (0, 0)) (by (with_reducible repeat (first | refine blk_drewN ?_ _ | refine blk_drew ?_ | refine blk_alloc ?_ _)); exact BK318.out) hb); have n3_ := Aside0.mk (below_step (by repeat (first | (with_reducible first | exact HB.out | apply below_alloc | apply pw_below_drewN | apply below_drew1 | refine below_set ?_ GE318.out) | exact HB.out)) hb); have n4_ := Aside0.mk (hbox); have n5_ := Aside0.mk ((by rw [hg]; exact (below_size (by repeat (first | (with_reducible first | exact HB.out | apply below_alloc | apply pw_below_drewN | apply below_drew1 | refine below_set ?_ GE318.out) | exact HB.out))) : w.heap.size ≤ gb324)); have n6_ := Aside0.mk ((by rw [hg]; exact (below_size (by repeat (first | (with_reducible first | exact HB.out | apply below_alloc | apply pw_below_drewN | apply below_drew1 | refine below_set ?_ GE318.out) | exact HB.out))) : w.heap.size ≤ gb324)); have n7_ := Aside0.mk ((by rw [hg]; exact Nat.ne_of_lt (blk_lt (g := gb318) (o := .cells #[.string t307, .int .i64 t308, .string t309, .int .i64 t310, .bool t311, .bool t312, .slice Ao35 t313.length co35] 26 (0, 0)) (by (with_reducible repeat (first | refine blk_drewN ?_ _ | refine blk_drew ?_ | refine blk_alloc ?_ _)); exact BK318.out)) : gb318 ≠ gb324)); have n8_ := Aside0.mk ((by rw [hg]; exact Nat.ne_of_gt (blk_lt (g := gb318) (o := .cells #[.string t307, .int .i64 t308, .string t309, .int .i64 t310, .bool t311, .bool t312, .slice Ao35 t313.length co35] 26 (0, 0)) (by (with_reducible repeat (first | refine blk_drewN ?_ _ | refine blk_drew ?_ | refine blk_alloc ?_ _)); exact BK318.out)) : gb324 ≠ gb318)); clear HO315; clear HO321; clear BK318; clear HB; have HO315 := n0_; have HO321 := n1_; have BK318 := n2_; have HB := n3_; have BK324 := n4_; have GW324 := n5_; have GE324 := n6_; have NB318_324 := n7_; have NB324_318 := n8_; clear n0_ n1_ n2_ n3_ n4_ n5_ n6_ n7_ n8_; clear hb hbox hg; obtain ⟨Ao38, co38, eo38⟩ := Kd.R_slice HO321.out; subst eo38; have hnb39 := NB324_318.out; have hnc39 := NB318_324.out; have hcz40_0 : w37.cell? ⟨gb324, 0, none⟩ = some (.slice none 0 0) := (blk_cell BK324.out 0).trans rfl; have hfz40_0 := blk_frozen BK324.out 0; have hcz41_0 : w37.cell? ⟨gb318, 0, none⟩ = some (.string t307) := (blk_cell BK318.out 0).trans rfl; have hcz41_1 : w37.cell? ⟨gb318, 1, none⟩ = some (.int .i64 t308) := (blk_cell BK318.out 1).trans rfl; have hcz41_2 : w37.cell? ⟨gb318, 2, none⟩ = some (.string t309) := (blk_cell BK318.out 2).trans rfl; have hcz41_3 : w37.cell? ⟨gb318, 3, none⟩ = some (.int .i64 t310) := (blk_cell BK318.out 3).trans rfl; have hcz41_4 : w37.cell? ⟨gb318, 4, none⟩ = some (.bool t311) := (blk_cell BK318.out 4).trans rfl; have hcz41_5 : w37.cell? ⟨gb318, 5, none⟩ = some (.bool t312) := (blk_cell BK318.out 5).trans rfl; have hcz41_6 : w37.cell? ⟨gb318, 6, none⟩ = some (.slice Ao35 t313.length co35) := (blk_cell BK318.out 6).trans rfl; have hfz41_0 := blk_frozen BK318.out 0; have hfz41_1 := blk_frozen BK318.out 1; have hfz41_2 := blk_frozen BK318.out 2; have hfz41_3 := blk_frozen BK318.out 3; have hfz41_4 := blk_frozen BK318.out 4; have hfz41_5 := blk_frozen BK318.out 5; have hfz41_6 := blk_frozen BK318.out 6))
       go_ret
       exact ⟨by first | rfl | (simp [errW_none, errW_some] <;> rfl) | (simp [*, errW_none, errW_some] <;> rfl), by repeat (first | (with_reducible first | exact HB.out | apply below_alloc | apply pw_below_drewN | apply below_drew1 | refine below_set ?_ GE318.out | refine below_set ?_ GE324.out) | exact HB.out)⟩
      ·rw [if_neg c30] at H
       have c30b0 : (t307.toList == ([] : List UInt8) && (t308 == 0)) = false := by simpa using c30
       (try (have c30b0e : (t307.toList.isEmpty && (t308 == 0)) = false := by simpa using c30b0))
       (try (have c30b1 : decide (t307.toList = ([] : List UInt8) && (t308 == 0)) = false := by simpa using c30))
       (try (have c30b2 : (t307.toList == ([] : List UInt8) && (t308 == 0)) = false := by simpa using c30))
       (try (have c30b3 : ¬ (t307.toList = ([] : List UInt8) && (t308 == 0)) := by simpa using c30))
       clear c30
       exact absurd ((Option.some.inj H).trans HT_.out) (by decide)
     ·rw [if_neg c29] at H
      have c29b0 : (t317 == t323) = false := beq_eq_false_iff_ne.mpr c29
      have c29b1 : (t317 != t323) = true := bne_iff_ne.mpr c29
      exact absurd ((Option.some.inj H).trans HT_.out) (by decide)
    ·rw [if_neg c28] at H
     have c28b0 : (t316 == 0) = false := beq_eq_false_iff_ne.mpr c28
     have c28b1 : (t316 != 0) = true := bne_iff_ne.mpr c28
     exact absurd ((Option.some.inj H).trans HT_.out) (by decide)
 ·replace c3 := Bool.eq_false_iff.mpr c3
  subst c3
  have H1 : (some false) = some r := by rw [if_neg (show ¬ (false = true) by decide)] at H; exact H
  clear H
  have H := H1
  clear H1
  exact absurd ((Option.some.inj H).trans HT_.out) (by decide)

/-- THE ONE PURE STATEMENT of squelchlaw05_PathReads: yours. -/
def squelchlaw05_PathReads.Pure : Prop := ∀ (a0 : ByteArray), a0.size ≤ 140737488351232 → ∃ k, squelchlaw05_PathReads.f k a0 = some true
end Go.Proofs.YtpmieapgbdbabaaDoor.QAll
end

section
/- Walks, written by a program of this session (wip/pp): a Go function comes to what the Lean function beside it tells. -/
namespace Go.Proofs.YtpmieapgbdbabaaDoor.QAll
open Go.RowKit Go.Proofs.YtpmieapgbdbabaaDoorW.PrintWords Go.Proofs.YtpmieapgbdbabaaDoorW.PrintLast Go.Proofs.YtpmieapgbdbabaaDoorW.PrintMore
set_option linter.unusedVariables false
set_option linter.unusedSimpArgs false

def squelchref04_Digits.f (a0 : Int) : Option (ByteArray) := if a0 < 10 then (if 0 ≤ a0 then (if a0 ≤ (wrap64 (a0 + 1)) then (if (wrap64 (a0 + 1)) ≤ 10 then (some ((⟨#[48, 49, 50, 51, 52, 53, 54, 55, 56, 57]⟩ : ByteArray).extract (a0 : Int).toNat ((wrap64 (a0 + 1)) : Int).toNat)) else (none)) else (none)) else (none)) else (if 0 ≤ (wrap64 (Int.tdiv a0 10)) then (if (wrap64 (Int.tdiv a0 10)) ≤ (wrap64 ((wrap64 (Int.tdiv a0 10)) + 1)) then (if (wrap64 ((wrap64 (Int.tdiv a0 10)) + 1)) ≤ 10 then (if 0 ≤ (Int.tmod a0 10) then (if (Int.tmod a0 10) ≤ (wrap64 ((Int.tmod a0 10) + 1)) then (if (wrap64 ((Int.tmod a0 10) + 1)) ≤ 10 then (if ((⟨#[48, 49, 50, 51, 52, 53, 54, 55, 56, 57]⟩ : ByteArray).extract ((wrap64 (Int.tdiv a0 10)) : Int).toNat ((wrap64 ((wrap64 (Int.tdiv a0 10)) + 1)) : Int).toNat).size + ((⟨#[48, 49, 50, 51, 52, 53, 54, 55, 56, 57]⟩ : ByteArray).extract ((Int.tmod a0 10) : Int).toNat ((wrap64 ((Int.tmod a0 10) + 1)) : Int).toNat).size ≤ 9223372036854775807 then (some (((⟨#[48, 49, 50, 51, 52, 53, 54, 55, 56, 57]⟩ : ByteArray).extract ((wrap64 (Int.tdiv a0 10)) : Int).toNat ((wrap64 ((wrap64 (Int.tdiv a0 10)) + 1)) : Int).toNat) ++ ((⟨#[48, 49, 50, 51, 52, 53, 54, 55, 56, 57]⟩ : ByteArray).extract ((Int.tmod a0 10) : Int).toNat ((wrap64 ((Int.tmod a0 10) + 1)) : Int).toNat))) else (none)) else (none)) else (none)) else (none)) else (none)) else (none)) else (none))
end Go.Proofs.YtpmieapgbdbabaaDoor.QAll
end

section
/- Walks, written by a program of this session (wip/pp): a Go function comes to what the Lean function beside it tells. -/
namespace Go.Proofs.YtpmieapgbdbabaaDoor.QAll
open Go.RowKit Go.Proofs.YtpmieapgbdbabaaDoorW.PrintWords Go.Proofs.YtpmieapgbdbabaaDoorW.PrintLast Go.Proofs.YtpmieapgbdbabaaDoorW.PrintMore
set_option linter.unusedVariables false
set_option linter.unusedSimpArgs false

mutual
def squelchref04_Parse.l0 : Nat → ByteArray → Int → ByteArray → Int → Option (ByteArray × Int × Bool)
 | 0, _, _, _, _ => none
 | k + 1, x0, x5, x426000, x426001 => if x5 < (x0.size : Int) then (if 0 ≤ x5 then (squelchref04_Parse.j1 k x0 x5 ((bt x0 x5) != 45) x426000 x426001) else (none)) else (squelchref04_Parse.j1 k x0 x5 false x426000 x426001)
def squelchref04_Parse.j1 : Nat → ByteArray → Int → Bool → ByteArray → Int → Option (ByteArray × Int × Bool)
 | 0, _, _, _, _, _ => none
 | k + 1, x0, x5, x19, x426000, x426001 => if x19 = true then (if 0 ≤ x5 then (if x5 < (x0.size : Int) then (if (bt x0 x5) ≥ 97 then (if (bt x0 x5) ≤ 122 then ((some (([((bt x0 x5) - 32) % 256] : List Int) : List Int)).bind fun y426 => (if x426000.size + (strOfNums y426).size ≤ 9223372036854775807 then (squelchref04_Parse.l0 k x0 (wrap64 (x5 + 1)) (x426000 ++ (strOfNums y426)) x426001) else (none))) else ((some (([bt x0 x5] : List Int) : List Int)).bind fun y429 => (if x426000.size + (strOfNums y429).size ≤ 9223372036854775807 then (squelchref04_Parse.l0 k x0 (wrap64 (x5 + 1)) (x426000 ++ (strOfNums y429)) x426001) else (none)))) else ((some (([bt x0 x5] : List Int) : List Int)).bind fun y432 => (if x426000.size + (strOfNums y432).size ≤ 9223372036854775807 then (squelchref04_Parse.l0 k x0 (wrap64 (x5 + 1)) (x426000 ++ (strOfNums y432)) x426001) else (none)))) else (none)) else (none)) else (if x5 < (x0.size : Int) then (squelchref04_Parse.l1 k x0 x5 false 0 x426000 x426001) else ((squelchref04_Right.f k x426000 x426001).bind fun t437 => (if t437 = true then (some (x426000, x426001, true)) else (some ((⟨#[]⟩ : ByteArray), 0, false)))))
def squelchref04_Parse.l1 : Nat → ByteArray → Int → Bool → Int → ByteArray → Int → Option (ByteArray × Int × Bool)
 | 0, _, _, _, _, _, _ => none
 | k + 1, x0, x5, x7, x8, x426000, x426001 => if x8 ≤ 15 then ((squelchref04_Digits.f x8).bind fun t435 => (if 0 ≤ (wrap64 (x5 + 1)) then (if (wrap64 (x5 + 1)) ≤ (x0.size : Int) then (if t435.toList = (x0.extract ((wrap64 (x5 + 1)) : Int).toNat x0.size).toList then (squelchref04_Parse.l1 k x0 x5 true (wrap64 (x8 + 1)) x426000 x8) else (squelchref04_Parse.l1 k x0 x5 x7 (wrap64 (x8 + 1)) x426000 x426001)) else (none)) else (none))) else (if x7 = true then ((squelchref04_Right.f k x426000 x426001).bind fun t436 => (if t436 = true then (some (x426000, x426001, true)) else (some ((⟨#[]⟩ : ByteArray), 0, false)))) else (some ((⟨#[]⟩ : ByteArray), 0, false)))
end
def squelchref04_Parse.f (k : Nat) (a0 : ByteArray) : Option (ByteArray × Int × Bool) := squelchref04_Parse.l0 k a0 0 (⟨#[]⟩ : ByteArray) 0
end Go.Proofs.YtpmieapgbdbabaaDoor.QAll
end

section
/- Walks, written by a program of this session (wip/pp): a Go function comes to what the Lean function beside it tells. -/
namespace Go.Proofs.YtpmieapgbdbabaaDoor.QAll
open Go.RowKit Go.Proofs.YtpmieapgbdbabaaDoorW.PrintWords Go.Proofs.YtpmieapgbdbabaaDoorW.PrintLast Go.Proofs.YtpmieapgbdbabaaDoorW.PrintMore
set_option linter.unusedVariables false
set_option linter.unusedSimpArgs false

def squelchref04_Text.f (a0_0 : ByteArray) (a0_1 : Int) : Option (ByteArray) := if a0_1 = 0 then (some a0_0) else (if a0_0.size + 1 ≤ 9223372036854775807 then ((squelchref04_Digits.f a0_1).bind fun t345 => (if (a0_0 ++ (⟨#[45]⟩ : ByteArray)).size + t345.size ≤ 9223372036854775807 then (some ((a0_0 ++ (⟨#[45]⟩ : ByteArray)) ++ t345)) else (none))) else (none))
end Go.Proofs.YtpmieapgbdbabaaDoor.QAll
end

section
/- What the reference says of a call's word: which call is right, its digits, and what is read of a word: as much as the walked program tells; over plain strings and numbers. -/
set_option linter.unusedVariables false
namespace Go.Proofs.YtpmieapgbdbabaaDoor.Pure
open Go.RowKit Go.Proofs.YtpmieapgbdbabaaDoor.QAll Go.Proofs.YtpmieapgbdbabaaDoorW.PrintWords Go.Proofs.YtpmieapgbdbabaaDoorW.PrintLast

theorem ba_eq {a b : ByteArray} (h : a.toList = b.toList) : a = b := by
  rw [Go.ByteArray.toList_eq, Go.ByteArray.toList_eq] at h
  cases a; cases b
  congr 1
  exact Array.ext' h
theorem len_eq (a : ByteArray) : a.toList.length = a.size := by rw [Go.ByteArray.toList_eq]; simp
theorem bt_at (s : ByteArray) (i : Nat) (h : i < s.size) : ∃ c r, s.toList.drop i = c :: r ∧ s.toList.drop (i + 1) = r ∧ bt s i = (c.toNat : Int) := by
  have hl : i < s.toList.length := by rw [len_eq]; exact h
  refine ⟨s.toList[i], s.toList.drop (i + 1), List.drop_eq_getElem_cons hl, rfl, ?_⟩
  rw [bt_data s i h]
  congr 2
  simp only [Go.ByteArray.toList_eq]
theorem drop_all (s : ByteArray) (i : Nat) (h : s.size ≤ i) : s.toList.drop i = [] := List.drop_eq_nil_of_le (by rw [len_eq]; exact h)
theorem wrap_succ (i : Nat) (h : i < 9223372036854775807) : wrap64 ((i : Int) + 1) = ((i + 1 : Nat) : Int) := by unfold wrap64; omega

theorem ref_right_l (s : ByteArray) (n : Int) (hs : s.size < 9223372036854775807) : ∀ (d k i : Nat), s.size - i ≤ d → d + 1 ≤ k → i ≤ s.size →
    squelchref04_Right.l0 k (i : Int) s n = some ((s.toList.drop i).all fun c => letB c.toNat)
  | d, 0, i, _, hk, _ => absurd hk (by omega)
  | d, k + 1, i, hd, hk, hi => by
    rw [squelchref04_Right.l0]
    by_cases h : i < s.size
    · obtain ⟨c, r, e1, e2, e3⟩ := bt_at s i h
      obtain ⟨d', rfl⟩ : ∃ d', d = d' + 1 := ⟨d - 1, by omega⟩
      have ih := ref_right_l s n hs d' k (i + 1) (by omega) (by omega) (by omega)
      rw [if_pos (by omega), if_pos (by omega), e3, wrap_succ i (by omega), ih, e1, e2]
      simp only [List.all_cons]
      unfold letB
      by_cases h1 : (c.toNat : Int) ≥ 65
      · rw [if_pos h1]
        by_cases h2 : (c.toNat : Int) ≤ 90
        · rw [if_pos h2, decide_eq_true (by omega), Bool.true_and]
        · rw [if_neg h2, if_pos (by omega), if_neg (by omega), decide_eq_false (by omega), Bool.false_and]
      · rw [if_neg h1]
        by_cases h2 : (c.toNat : Int) ≥ 48
        · rw [if_pos h2]
          by_cases h3 : (c.toNat : Int) ≤ 57
          · rw [if_pos h3, decide_eq_true (by omega), Bool.true_and]
          · rw [if_neg h3, decide_eq_false (by omega), Bool.false_and]
        · rw [if_neg h2, decide_eq_false (by omega), Bool.false_and]
    · rw [if_neg (by omega), drop_all s i (by omega)]
      rfl
theorem ref_right (s : ByteArray) (n : Int) (hs : s.size < 9223372036854775807) (k : Nat) (hk : s.size + 2 ≤ k) : squelchref04_Right.f k s n = some (rightB s n) := by
  obtain ⟨k, rfl⟩ : ∃ k', k = k' + 1 := ⟨k - 1, by omega⟩
  unfold squelchref04_Right.f rightB
  have h0 := ref_right_l s n hs s.size k 0 (by omega) (by omega) (by omega)
  simp only [squelchref04_Right.j0]
  rw [show ((0 : Nat) : Int) = 0 from rfl] at h0
  rw [h0, List.drop_zero]
  have hl : letsB s = s.toList.all fun c => letB c.toNat := by unfold letsB; rw [Go.ByteArray.toList_eq]
  rw [hl]
  by_cases h1 : (s.size : Int) < 1
  · rw [if_pos h1, if_pos trivial, decide_eq_false (show ¬ 1 ≤ s.size by omega)]; simp
  · rw [if_neg h1, decide_eq_true (show 1 ≤ s.size by omega)]
    by_cases h2 : (s.size : Int) > 6
    · rw [if_pos h2, if_pos trivial, decide_eq_false (show ¬ s.size ≤ 6 by omega)]; simp
    · rw [if_neg h2, decide_eq_true (show s.size ≤ 6 by omega)]
      by_cases h3 : n < 0
      · rw [if_pos h3, if_pos trivial, decide_eq_false (show ¬ 0 ≤ n by omega)]; simp
      · rw [if_neg h3, decide_eq_true (show 0 ≤ n by omega)]
        by_cases h4 : n > 15
        · rw [decide_eq_true h4, if_pos rfl, decide_eq_false (show ¬ n ≤ 15 by omega)]; simp
        · rw [decide_eq_false h4, if_neg (by simp), decide_eq_true (show n ≤ 15 by omega)]; simp

theorem toList_app (a b : ByteArray) : (a ++ b).toList = a.toList ++ b.toList := by
  simp [Go.ByteArray.toList_eq]
theorem strOf_one (x : Int) : (strOfNums [x]).toList = [UInt8.ofNat x.toNat] := by
  rw [Go.ByteArray.toList_eq]; rfl
end Go.Proofs.YtpmieapgbdbabaaDoor.Pure
end

section
/- A call's seven bytes, as the reference says them, and the call that is read of seven bytes; over plain strings and numbers. -/
set_option linter.unusedVariables false
namespace Go.Proofs.YtpmieapgbdbabaaDoor.Pure
open Go.RowKit Go.Proofs.YtpmieapgbdbabaaDoor.QAll Go.Proofs.YtpmieapgbdbabaaDoorW.PrintWords Go.Proofs.YtpmieapgbdbabaaDoorW.PrintLast

def pAt (s : ByteArray) (i j : Nat) : Int := if j < i then bt s (j : Int) * 2 else 64
def pRow (s : ByteArray) (i : Nat) (e : Int) : List Int := [pAt s i 0, pAt s i 1, pAt s i 2, pAt s i 3, pAt s i 4, pAt s i 5, e]
theorem pRow_set (s : ByteArray) (i : Nat) (hi : i < 6) (e x : Int) (hx : x = bt s (i : Int) * 2) : (pRow s i e).set i x = pRow s (i + 1) e := by
  have h : i = 0 ∨ i = 1 ∨ i = 2 ∨ i = 3 ∨ i = 4 ∨ i = 5 := by omega
  rcases h with rfl | rfl | rfl | rfl | rfl | rfl <;> subst hx <;> simp [pRow, pAt]
theorem put_end (m l : Bool) (n : Int) (h0 : 0 ≤ n) (h1 : n ≤ 15) : ∀ k x1 : Bool, k = m → x1 = l →
    (if m = true then (if l = true then ((96 + 2 * n + 128) % 256 + 1) % 256 else (96 + 2 * n + 128) % 256) else (if l = true then (96 + 2 * n + 1) % 256 else 96 + 2 * n)) = putEnd n m l := by
  intro _ _ _ _
  unfold putEnd
  cases m <;> cases l <;> simp <;> omega
theorem ref_put_l (s : ByteArray) (n : Int) (hr : rightB s n = true) (m l : Bool) (e : Int) (he : e = 96 + 2 * n) : ∀ (d i k : Nat), s.size - i ≤ d → d + 1 ≤ k → i ≤ s.size →
    squelchref04_Put.l0 k m l (pRow s i e) (i : Int) s n = some (strOfNums (pRow s s.size (putEnd n m l)))
  | d, i, 0, _, hk, _ => absurd hk (by omega)
  | d, i, k + 1, hd, hk, hi => by
    have hl := right_lens hr
    rw [squelchref04_Put.l0]
    by_cases h : i < s.size
    · obtain ⟨d', rfl⟩ : ∃ d', d = d' + 1 := ⟨d - 1, by omega⟩
      have hb := lets_le hr i h
      rw [if_pos (by omega), if_pos (by omega), if_pos (by simp [pRow]; omega), wrap_succ i (by omega), show ((i : Int)).toNat = i from by omega, pRow_set s i (by omega) e _ (by omega)]
      exact ref_put_l s n hr m l e he d' (i + 1) k (by omega) (by omega) (by omega)
    · obtain rfl : i = s.size := by omega
      rw [if_neg (by omega)]
      subst he
      have hlen : (6 : Int) < ((pRow s s.size (96 + 2 * n)).length : Int) := by simp [pRow]
      have hlast : ∀ x y : Int, (pRow s s.size x).set (6 : Int).toNat y = pRow s s.size y := fun x y => by simp [pRow]
      have hrd : ∀ x : Int, rd (pRow s s.size x) 6 = x := fun x => by
        unfold rd; simp [pRow]
      have hp := put_end m l n hl.2.2.1 hl.2.2.2 m l rfl rfl
      cases m <;> cases l <;> simp only [Bool.false_eq_true, if_true, if_false, Option.bind_some, hlen, hlast, hrd] at hp ⊢ <;> first | rw [← hp] | skip
theorem ref_put (s : ByteArray) (n : Int) (hr : rightB s n = true) (m l : Bool) (k : Nat) (hk : 10 ≤ k) : squelchref04_Put.f k s n m l = some (strOfNums (putL s n m l)) := by
  have hl := right_lens hr
  unfold squelchref04_Put.f
  have h := ref_put_l s n hr m l (96 + 2 * n) rfl 6 0 k (by omega) (by omega) (by omega)
  have e1 : (wrap64 (96 + (wrap64 (2 * n)))) % 256 = 96 + 2 * n := by unfold wrap64; omega
  rw [e1]
  have e2 : pRow s 0 (96 + 2 * n) = [64, 64, 64, 64, 64, 64, 96 + 2 * n] := by simp [pRow, pAt]
  rw [e2] at h
  rw [show ((0 : Nat) : Int) = 0 from rfl] at h
  rw [h]
  congr 2

theorem strOf_list (xs : List Int) : (strOfNums xs).toList = xs.map fun n => UInt8.ofNat n.toNat := by
  rw [Go.ByteArray.toList_eq]; rfl
theorem strOf_size (xs : List Int) : (strOfNums xs).size = xs.length := by rw [← len_eq, strOf_list, List.length_map]
theorem bt_strOf (xs : List Int) (j : Nat) (hj : j < xs.length) (h : 0 ≤ xs[j] ∧ xs[j] ≤ 255) : bt (strOfNums xs) (j : Int) = xs[j] := by
  rw [bt_data _ j (by rw [strOf_size]; exact hj)]
  have : (strOfNums xs).data.toList[j]'(by simpa [strOfNums] using hj) = UInt8.ofNat (xs[j]).toNat := by simp [strOfNums]
  rw [this, UInt8.toNat_ofNat']
  omega
theorem put_bt (s : ByteArray) (n : Int) (m l : Bool) (hr : rightB s n = true) (j : Nat) (hj : j < 6) : bt (strOfNums (putL s n m l)) (j : Int) = putAt s j := by
  have hx : (putL s n m l)[j]'(by simp [putL]; omega) = putAt s j := by
    have h : j = 0 ∨ j = 1 ∨ j = 2 ∨ j = 3 ∨ j = 4 ∨ j = 5 := by omega
    rcases h with rfl | rfl | rfl | rfl | rfl | rfl <;> rfl
  have hp : 0 ≤ putAt s j ∧ putAt s j ≤ 255 := by
    unfold putAt
    split
    · rename_i h; have := lets_le hr j h; omega
    · omega
  rw [bt_strOf _ j (by simp [putL]; omega) (by rw [hx]; exact hp), hx]
theorem get_base (s : ByteArray) (n : Int) (m l : Bool) (hr : rightB s n = true) : getBase (strOfNums (putL s n m l)) = s := by
  have hl := right_lens hr
  apply ba_eq
  unfold getBase
  rw [Go.ByteArray.toList_eq]
  show Lib.trimRightB _ 32 = _
  have hlist : (strOfNums (halfL (strOfNums (putL s n m l)) 6)).data.toList = s.toList ++ List.replicate (6 - s.size) 32 := by
    rw [← Go.ByteArray.toList_eq, strOf_list]
    unfold halfL
    rw [List.map_map]
    apply List.ext_getElem
    · simp [len_eq]; omega
    · intro j h1 h2
      have hj : j < 6 := by simpa using h1
      simp only [List.getElem_map, List.getElem_range, Function.comp]
      rw [put_bt s n m l hr j hj]
      unfold putAt
      by_cases h : j < s.size
      · have hb := lets_le hr j h
        rw [if_pos h, List.getElem_append_left (by rw [len_eq]; exact h)]
        have hbd := bt_data s j h
        have hd : (bt s (j : Int) * 2 / 2).toNat = (s.data.toList[j]'(by simpa using h)).toNat := by omega
        rw [hd]
        simp only [Go.ByteArray.toList_eq]
        simp
      · rw [if_neg h, List.getElem_append_right (by rw [len_eq]; omega), List.getElem_replicate]
        rfl
  rw [hlist, Lib.trimRightB_take _ 32 s.size (by simp [len_eq]) ?_ ?_, List.take_left' (len_eq s)]
  · intro j b hj hb
    rw [List.getElem?_append_right (by rw [len_eq]; exact hj)] at hb
    exact (List.mem_replicate.1 (List.mem_of_getElem? hb)).2
  · intro b h0 hb
    rw [List.getElem?_append_left (by rw [len_eq]; omega)] at hb
    have hb2 := lets_le hr (s.size - 1) (by omega)
    rw [bt_data s (s.size - 1) (by omega)] at hb2
    rw [Go.ByteArray.toList_eq, List.getElem?_eq_getElem (by simp; omega)] at hb
    rintro rfl
    have := Option.some.inj hb
    rw [this] at hb2
    simp at hb2
/-- What the reference gathers of the first six bytes. -/
def refB (s : ByteArray) (i : Nat) : List UInt8 := ((s.toList.take i).filter fun c => decide (c.toNat ≠ 64)).map fun c => UInt8.ofNat (c.toNat / 2)
theorem refB_len (s : ByteArray) (i : Nat) : (refB s i).length ≤ i := by
  unfold refB
  rw [List.length_map]
  have h1 := (List.filter_sublist (l := s.toList.take i) (p := fun c => decide (c.toNat ≠ 64))).length_le
  have h2 := List.length_take_le i s.toList
  omega
theorem ref_get_l (s : ByteArray) (hs : s.size = 7) (n : Int) (K : Nat) (R : Option (ByteArray × Int × Bool × Bool × Bool))
    (hR : ∀ (k : Nat) (b : ByteArray), K ≤ k → b.toList = refB s 6 → squelchref04_Get.l0 k s 6 b n = R) : ∀ (d i k : Nat) (b : ByteArray), 6 - i ≤ d → i ≤ 6 → d + K ≤ k → b.toList = refB s i →
    squelchref04_Get.l0 k s (i : Int) b n = R
  | 0, i, k, b, hd, hi, hk, hb => by
    obtain rfl : i = 6 := by omega
    exact hR k b (by omega) hb
  | d + 1, i, 0, b, hd, hi, hk, hb => absurd hk (by omega)
  | d + 1, i, k + 1, b, hd, hi, hk, hb => by
    by_cases e : i = 6
    · subst e; exact hR (k + 1) b (by omega) hb
    · have h : i < s.size := by omega
      obtain ⟨c, r, e1, e2, e3⟩ := bt_at s i h
      have hc : s.toList[i]? = some c := by
        have := congrArg (·[0]?) e1
        simpa using this
      have ht : s.toList.take (i + 1) = s.toList.take i ++ [c] := by rw [List.take_add_one, hc]; rfl
      have hbs : b.size ≤ i := by rw [← len_eq, hb]; exact refB_len s i
      rw [squelchref04_Get.l0, if_pos (by omega), if_pos (by omega), if_pos (by omega), e3, wrap_succ i (by omega)]
      by_cases h64 : (c.toNat : Int) = 64
      · rw [if_pos h64]
        refine ref_get_l s hs n K R hR d (i + 1) k b (by omega) (by omega) (by omega) ?_
        unfold refB at hb ⊢
        rw [ht, List.filter_append, hb]
        have : (List.filter (fun c => decide (c.toNat ≠ 64)) [c]) = [] := by
          rw [List.filter_cons_of_neg (by simp; omega)]; rfl
        rw [this, List.append_nil]
      · rw [if_neg h64]
        simp only [Option.bind_some]
        rw [if_pos (by have : ∀ x, (strOfNums [x]).size = 1 := fun _ => rfl
                       rw [this]; omega)]
        refine ref_get_l s hs n K R hR d (i + 1) k _ (by omega) (by omega) (by omega) ?_
        rw [toList_app, strOf_one, hb]
        unfold refB
        rw [ht, List.filter_append, List.map_append]
        have : (List.filter (fun c => decide (c.toNat ≠ 64)) [c]) = [c] := by
          rw [List.filter_cons_of_pos (by simp; omega)]; rfl
        rw [this]
        congr 1
        have hcl := c.toNat_lt
        rw [Int.tdiv_eq_ediv_of_nonneg (by omega)]
        simp only [List.map_cons, List.map_nil]
        congr 2
        omega
theorem ref_base (s : ByteArray) (n : Int) (m l : Bool) (hr : rightB s n = true) : refB (strOfNums (putL s n m l)) 6 = s.toList := by
  have hl := right_lens hr
  have hlist : (strOfNums (putL s n m l)).toList.take 6 = (s.toList.map fun c => UInt8.ofNat (c.toNat * 2)) ++ List.replicate (6 - s.size) 64 := by
    have hlen6 : ((strOfNums (putL s n m l)).toList.take 6).length = 6 := by rw [List.length_take, len_eq, strOf_size]; rfl
    apply List.ext_getElem
    · rw [hlen6]; simp [len_eq]; omega
    · intro j h1 h2
      have hj : j < 6 := by omega
      have hb := put_bt s n m l hr j hj
      rw [bt_data _ j (by rw [strOf_size]; simp [putL]; omega)] at hb
      rw [List.getElem_take]
      simp only [Go.ByteArray.toList_eq] at hb ⊢
      generalize hx : (strOfNums (putL s n m l)).data.toList[j]'_ = x at hb ⊢
      have hxl := x.toNat_lt
      unfold putAt at hb
      by_cases h : j < s.size
      · have hb2 := lets_le hr j h
        rw [if_pos h, bt_data s j h] at hb
        rw [bt_data s j h] at hb2
        rw [List.getElem_append_left (by simpa using h), List.getElem_map]
        apply UInt8.toNat_inj.1
        rw [UInt8.toNat_ofNat']
        omega
      · rw [if_neg h] at hb
        rw [List.getElem_append_right (by simp; omega), List.getElem_replicate]
        apply UInt8.toNat_inj.1
        show x.toNat = 64
        omega
  have hq : ∀ c ∈ s.toList, 48 ≤ c.toNat ∧ c.toNat ≤ 90 := fun c hc => by
    unfold rightB letsB at hr
    simp only [Bool.and_eq_true, List.all_eq_true] at hr
    rw [Go.ByteArray.toList_eq] at hc
    have := hr.1 c hc
    unfold letB at this
    simp only [decide_eq_true_eq] at this
    omega
  unfold refB
  rw [hlist, List.filter_append, List.map_append]
  have h2 : List.filter (fun c => decide (c.toNat ≠ 64)) (List.replicate (6 - s.size) (64 : UInt8)) = [] := by
    rw [List.filter_eq_nil_iff]
    intro c hc
    rw [(List.mem_replicate.1 hc).2]
    simp
  have h1 : List.filter (fun c => decide (c.toNat ≠ 64)) (s.toList.map fun c => UInt8.ofNat (c.toNat * 2)) = s.toList.map fun c => UInt8.ofNat (c.toNat * 2) := by
    rw [List.filter_eq_self]
    intro c hc
    obtain ⟨x, hx, rfl⟩ := List.mem_map.1 hc
    have := hq x hx
    simp only [UInt8.toNat_ofNat', decide_eq_true_eq]
    omega
  rw [h2, h1, List.map_nil, List.append_nil, List.map_map]
  conv => rhs; rw [← List.map_id s.toList]
  apply List.map_congr_left
  intro c hc
  have := hq c hc
  simp only [Function.comp, UInt8.toNat_ofNat', id]
  apply UInt8.toNat_inj.1
  rw [UInt8.toNat_ofNat']
  omega
theorem ref_get (s : ByteArray) (k : Nat) (hk : 20 ≤ k) : squelchref04_Get.f k s = some ((getS s).1, (getS s).2.1, (getS s).2.2.1, (getS s).2.2.2.1, (getS s).2.2.2.2 == 0) := by
  unfold squelchref04_Get.f
  by_cases h7 : s.size = 7
  · rw [if_pos (by omega), if_pos (by omega)]
    have hb6 := bt_range s 6
    have hn : Int.tmod (wrap64 (Int.tdiv (wrap64 (bt s 6)) 2)) 16 = bt s 6 / 2 % 16 := by
      have h1 : wrap64 (bt s 6) = bt s 6 := by unfold wrap64; omega
      rw [h1, Int.tdiv_eq_ediv_of_nonneg hb6.1]
      have h2 : wrap64 (bt s 6 / 2) = bt s 6 / 2 := by unfold wrap64; omega
      rw [h2, Int.tmod_eq_emod_of_nonneg (by omega)]
    have hm : decide (bt s 6 ≥ 128) = decide (128 ≤ bt s 6) := rfl
    have hl : (Int.tmod (bt s 6) 2 == 1) = decide (bt s 6 % 2 = 1) := by rw [Int.tmod_eq_emod_of_nonneg hb6.1]; rfl
    rw [hn]
    have hC : (⟨(refB s 6).toArray⟩ : ByteArray).toList = refB s 6 := by rw [Go.ByteArray.toList_eq]
    generalize hCe : (⟨(refB s 6).toArray⟩ : ByteArray) = C at hC
    have hCs : C.size ≤ 6 := by rw [← len_eq, hC]; exact refB_len s 6
    refine ref_get_l s h7 (bt s 6 / 2 % 16) 12 _ (fun k' b hk' hb => ?_) 6 0 k _ (by omega) (by omega) (by omega) (by rw [Go.ByteArray.toList_eq]; rfl)
    obtain rfl : b = C := ba_eq (hb.trans hC.symm)
    obtain ⟨k', rfl⟩ : ∃ k'', k' = k'' + 1 := ⟨k' - 1, by omega⟩
    rw [squelchref04_Get.l0, if_neg (by omega), if_pos (by omega), ref_right b _ (by omega) k' (by omega), Option.bind_some, hm, hl]
    have hg : getS s = if rightB (getBase s) (bt s 6 / 2 % 16) = true ∧ strOfNums (putL (getBase s) (bt s 6 / 2 % 16) (decide (128 ≤ bt s 6)) (decide (bt s 6 % 2 = 1))) = s
        then (getBase s, bt s 6 / 2 % 16, decide (128 ≤ bt s 6), decide (bt s 6 % 2 = 1), 0) else (⟨#[]⟩, 0, false, false, 2) := by
      unfold getS; rw [if_neg (by omega), if_neg (by omega)]
    rw [hg]
    by_cases h : rightB (getBase s) (bt s 6 / 2 % 16) = true ∧ strOfNums (putL (getBase s) (bt s 6 / 2 % 16) (decide (128 ≤ bt s 6)) (decide (bt s 6 % 2 = 1))) = s
    · rw [if_pos h]
      have hr := ref_base (getBase s) _ (decide (128 ≤ bt s 6)) (decide (bt s 6 % 2 = 1)) h.1
      rw [h.2] at hr
      obtain rfl : b = getBase s := ba_eq (hC.trans hr)
      rw [if_pos h.1, ref_put _ _ h.1 _ _ k' (by omega), Option.bind_some, if_pos (by rw [h.2])]
      rfl
    · rw [if_neg h]
      by_cases hr : rightB b (bt s 6 / 2 % 16) = true
      · rw [if_pos hr, ref_put _ _ hr _ _ k' (by omega), Option.bind_some, if_neg ?_]
        · rfl
        · intro he
          have he2 := ba_eq he
          have hgb := get_base b (bt s 6 / 2 % 16) (decide (128 ≤ bt s 6)) (decide (bt s 6 % 2 = 1)) hr
          rw [he2] at hgb
          rw [hgb] at h
          exact h ⟨hr, he2⟩
      · rw [if_neg hr]; rfl
  · rw [if_neg (by omega)]
    unfold getS
    by_cases h : s.size < 7
    · rw [if_pos h]; rfl
    · rw [if_neg h, if_pos (by omega)]; rfl
end Go.Proofs.YtpmieapgbdbabaaDoor.Pure
end

section
/- What the reference of paths tells, over plain lists: the plain form of a path, whether two are alike, the order of the marks, the path of some bytes. -/
set_option linter.unusedVariables false
set_option linter.unusedSimpArgs false
namespace Go.Proofs.YtpmieapgbdbabaaDoor.Pure
open Go.RowKit Go.Proofs.YtpmieapgbdbabaaDoor.QAll Go.Proofs.YtpmieapgbdbabaaDoorW.PrintWords

def mk37 (d : S93) : S37 := ⟨d.f0, d.f1⟩
theorem w64 (x : Int) (h0 : 0 ≤ x) (h1 : x ≤ 4611686018427387904) : wrap64 x = x := by unfold wrap64; omega
theorem plain_at (l : List S93) (hl : l.length ≤ 1000000) : ∀ (d i k : Nat) (acc : List S37), l.length - i ≤ d → d + 1 ≤ k → i ≤ l.length → acc.length ≤ 2000000 + i →
    squelchlaw05_Plain.l0 k l (l.length : Int) (i : Int) acc = some (acc ++ (l.drop i).map mk37)
  | d, i, 0, _, _, hk, _, _ => absurd hk (by omega)
  | d, i, k + 1, acc, hd, hk, hi, ha => by
    rw [squelchlaw05_Plain.l0]
    by_cases h : i < l.length
    · obtain ⟨d', rfl⟩ : ∃ d', d = d' + 1 := ⟨d - 1, by omega⟩
      rw [if_pos (by omega), if_pos (by omega), if_pos (by omega), if_pos (by omega), show wrap64 ((i : Int) + 1) = ((i + 1 : Nat) : Int) by rw [w64 _ (by omega) (by omega)]; omega,
        plain_at l hl d' (i + 1) k _ (by omega) (by omega) (by omega) (by simp; omega), drop_T93 l i h]
      simp [mk37]
    · rw [if_neg (by omega), List.drop_eq_nil_of_le (by omega)]
      simp
theorem plain_f (a0 : ByteArray) (a1 : Int) (a2 : ByteArray) (a3 : Int) (a4 a5 : Bool) (l : List S93) (hl : l.length ≤ 1000000) (k : Nat) (hk : l.length + 1 ≤ k) :
    squelchlaw05_Plain.f k a0 a1 a2 a3 a4 a5 l = some ((⟨⟨a0, a1⟩, a4⟩ : S37) :: (⟨⟨a2, a3⟩, a5⟩ : S37) :: l.map mk37) := by
  unfold squelchlaw05_Plain.f
  have := plain_at l hl l.length 0 k [(⟨(⟨a0, a1⟩ : S23), a4⟩ : S37), (⟨(⟨a2, a3⟩ : S23), a5⟩ : S37)] (by omega) hk (by omega) (by simp)
  rw [List.drop_zero] at this
  exact this
theorem same_at (l : List S37) (hl : l.length ≤ 2000000) : ∀ (d i k : Nat), l.length - i ≤ d → d + 1 ≤ k → i ≤ l.length → squelchref05_Same.l0 k (i : Int) l l = some true
  | d, i, 0, _, hk, _ => absurd hk (by omega)
  | d, i, k + 1, hd, hk, hi => by
    rw [squelchref05_Same.l0]
    by_cases h : i < l.length
    · obtain ⟨d', rfl⟩ : ∃ d', d = d' + 1 := ⟨d - 1, by omega⟩
      rw [if_pos (by omega), if_pos (by omega), if_pos (by omega), show wrap64 ((i : Int) + 1) = ((i + 1 : Nat) : Int) by rw [w64 _ (by omega) (by omega)]; omega, if_neg (by simp)]
      exact same_at l hl d' (i + 1) k (by omega) (by omega) (by omega)
    · rw [if_neg (by omega)]
theorem same_f (l : List S37) (hl : l.length ≤ 2000000) (k : Nat) (hk : l.length + 1 ≤ k) : squelchref05_Same.f k l l = some true := by
  unfold squelchref05_Same.f
  rw [if_pos rfl]
  exact same_at l hl l.length 0 k (by omega) hk (by omega)
theorem rd37 (a b : S37) (D : List S93) (j : Nat) (hj : j < D.length) : rd_T37 (a :: b :: D.map mk37) ((j + 2 : Nat) : Int) = mk37 (rd_T93 D (j : Int)) := by
  unfold rd_T37 rd_T93
  rw [Int.toNat_natCast, Int.toNat_natCast, List.getD_eq_getElem?_getD, List.getD_eq_getElem?_getD]
  simp [hj]
theorem ordered_at37 (a b : S37) (D : List S93) (hl : D.length ≤ 1000000) : ∀ (d j k : Nat), D.length - (j + 1) ≤ d → d + 1 ≤ k → j < D.length →
    squelchref05_ordered.l0 k (a :: b :: D.map mk37) ((j + 3 : Nat) : Int) = some (ordFrom (rd_T93 D (j : Int)).f1 (D.drop (j + 1)))
  | d, j, 0, _, hk, _ => absurd hk (by omega)
  | d, j, k + 1, hd, hk, hj => by
    rw [squelchref05_ordered.l0]
    have hlen : ((a :: b :: D.map mk37).length : Int) = (D.length : Int) + 2 := by simp; omega
    rw [hlen]
    by_cases h : j + 1 < D.length
    · obtain ⟨d', rfl⟩ : ∃ d', d = d' + 1 := ⟨d - 1, by omega⟩
      have ih := ordered_at37 a b D hl d' (j + 1) k (by omega) (by omega) (by omega)
      rw [if_pos (by omega), if_pos (by omega), show wrap64 (((j + 3 : Nat) : Int) - 1) = ((j + 2 : Nat) : Int) by rw [w64 _ (by omega) (by omega)]; omega, show wrap64 (((j + 3 : Nat) : Int) + 1) = ((j + 1 + 3 : Nat) : Int) by rw [w64 _ (by omega) (by omega)]; omega,
        show ((j + 3 : Nat) : Int) = (((j + 1) + 2 : Nat) : Int) by omega, rd37 a b D (j + 1) (by omega), rd37 a b D j (by omega), ih, drop_T93 D (j + 1) h, ordFrom_cons]
      by_cases h1 : (rd_T93 D ((j + 1 : Nat) : Int)).f1 = true
      · rw [if_pos (by exact h1), if_pos (by omega), if_pos (by omega)]
        by_cases h2 : (rd_T93 D (j : Int)).f1 = true
        · rw [if_pos (by exact h2), h2, h1]; simp
        · rw [if_neg (by exact h2)]
          have h2' : (rd_T93 D (j : Int)).f1 = false := by simpa using h2
          rw [h2', h1]; rfl
      · rw [if_neg (by exact h1)]
        have h1' : (rd_T93 D ((j + 1 : Nat) : Int)).f1 = false := by simpa using h1
        rw [h1']; simp
    · rw [if_neg (by omega), List.drop_eq_nil_of_le (by omega)]
      rfl
theorem ordered_f37 (a b : S37) (D : List S93) (hl : D.length ≤ 1000000) (k : Nat) (hk : D.length + 1 ≤ k) : squelchref05_ordered.f k (a :: b :: D.map mk37) = some (ordFrom true D) := by
  unfold squelchref05_ordered.f
  cases D with
  | nil =>
    obtain ⟨k', rfl⟩ : ∃ k', k = k' + 1 := ⟨k - 1, by omega⟩
    rw [squelchref05_ordered.l0, if_neg (by simp)]
    rfl
  | cons x r =>
    have := ordered_at37 a b (x :: r) hl (x :: r).length 0 k (by omega) hk (by simp)
    rw [show (3 : Int) = ((0 + 3 : Nat) : Int) by rfl, this, ordFrom_cons]
    simp [rd_T93]
/-- A list of two and more, by its first two. -/
theorem two_of (L : List S93) (h : 2 ≤ L.length) : ∃ x y D, L = x :: y :: D := by
  match L, h with
  | x :: y :: D, _ => exact ⟨x, y, D, rfl⟩
theorem pg_ref (s : ByteArray) (hs : s.size ≤ 1000000) : ∀ (f k K : Nat) (l : List S93), f = 11 - k → k ≤ 10 → l.length = k → f + 30 ≤ K →
    squelchref05_Get.l0 K s ((7 * k : Nat) : Int) (l.map mk37) = some ((pgFrom s f k l).2.1.map mk37, ((pgFrom s f k l).1 : Int), (pgFrom s f k l).2.2)
  | 0, k, K, l, hf, hk, _, _ => absurd hf (by omega)
  | f + 1, k, 0, l, hf, hk, hl, hK => absurd hK (by omega)
  | f + 1, k, K + 1, l, hf, hk, hl, hK => by
    rw [squelchref05_Get.l0, pgFrom, show wrap64 (((7 * k : Nat) : Int) + 7) = ((7 * k + 7 : Nat) : Int) by rw [w64 _ (by omega) (by omega)]; omega]
    by_cases h1 : s.size < 7 * k + 7
    · rw [if_pos (by omega), if_pos h1]; rfl
    · rw [if_neg (by omega), if_neg h1, if_pos (by omega), if_pos (by omega), if_pos (by omega), Int.toNat_natCast, Int.toNat_natCast,
        show s.extract (7 * k) (7 * k + 7) = pgT s k from rfl, ref_get (pgT s k) K (by omega)]
      simp only [Option.bind_some]
      by_cases h2 : (getS (pgT s k)).2.2.2.2 = 0
      · rw [if_pos (by rw [h2]; rfl), if_neg (show ¬ (getS (pgT s k)).2.2.2.2 ≠ 0 by simp [h2]), List.length_map, hl]
        by_cases h10 : k = 10
        · rw [if_pos (by omega), if_pos h10]; rfl
        · have hmap : l.map mk37 ++ [(⟨(⟨(getS (pgT s k)).1, (getS (pgT s k)).2.1⟩ : S23), (getS (pgT s k)).2.2.1⟩ : S37)] = (l ++ [pgE s k]).map mk37 := by
            rw [List.map_append]; rfl
          rw [if_neg (by omega), if_neg h10, if_pos (by omega), hmap]
          try simp only [Option.bind_some]
          by_cases h3 : (getS (pgT s k)).2.2.2.1 = true
          · rw [if_pos h3, if_neg (show ¬ (getS (pgT s k)).2.2.2.1 = false by simp [h3])]
            have hlen : (l ++ [pgE s k]).length = k + 1 := by simp [hl]
            rw [List.length_map, hlen]
            by_cases h0 : k = 0
            · rw [if_pos (by omega), if_pos h0]; rfl
            · rw [if_neg (by omega), if_neg h0]
              obtain ⟨x, y, D, hD⟩ := two_of (l ++ [pgE s k]) (by omega)
              have hDl : D.length + 2 = k + 1 := by rw [← hlen, hD]; rfl
              rw [hD, List.map_cons, List.map_cons, ordered_f37 _ _ D (by omega) K (by omega)]
              simp only [Option.bind_some]
              have ho : ordB ((x :: y :: D).drop 2) = ordFrom true D := by
                show (ordFrom true D && decide (D.length ≤ 8)) = _
                rw [decide_eq_true (show D.length ≤ 8 by omega), Bool.and_true]
              rw [ho]
              by_cases h4 : ordFrom true D = true
              · rw [if_pos h4, if_pos h4]; rfl
              · rw [if_neg h4, if_neg h4]; rfl
          · rw [if_neg h3, if_pos (show (getS (pgT s k)).2.2.2.1 = false by simpa using h3)]
            have ih := pg_ref s hs f (k + 1) K (l ++ [pgE s k]) (by omega) (by omega) (by simp [hl]) (by omega)
            rw [show ((7 * k + 7 : Nat) : Int) = ((7 * (k + 1) : Nat) : Int) by omega]
            exact ih
      · rw [if_neg (show ¬ ((getS (pgT s k)).2.2.2.2 == 0) = true by simpa using h2), if_pos h2]; rfl
theorem pg_ref0 (s : ByteArray) (hs : s.size ≤ 1000000) (K : Nat) (hK : 41 ≤ K) : squelchref05_Get.f K s = some ((pgS s).2.1.map mk37, ((pgS s).1 : Int), (pgS s).2.2) := by
  unfold squelchref05_Get.f
  exact pg_ref s hs 11 0 K [] rfl (by omega) rfl hK
/-- What is told is a path of two entries to ten, or none. -/
theorem pg_form (s : ByteArray) : ∀ (f k : Nat) (l : List S93), l.length = k → k ≤ 10 →
    ((pgFrom s f k l).2.2 = 0 ∧ 2 ≤ (pgFrom s f k l).2.1.length ∧ (pgFrom s f k l).2.1.length ≤ 10) ∨ ((pgFrom s f k l).2.2 ≠ 0 ∧ (pgFrom s f k l).1 = 0 ∧ (pgFrom s f k l).2.1 = [])
  | 0, k, l, _, _ => Or.inr ⟨by rw [pgFrom]; decide, rfl, rfl⟩
  | f + 1, k, l, hl, hk => by
    rw [pgFrom]
    by_cases h1 : s.size < 7 * k + 7
    · rw [if_pos h1]; exact Or.inr ⟨by decide, rfl, rfl⟩
    · rw [if_neg h1]
      by_cases h2 : (getS (pgT s k)).2.2.2.2 ≠ 0
      · rw [if_pos h2]; exact Or.inr ⟨by decide, rfl, rfl⟩
      · rw [if_neg h2]
        by_cases h10 : k = 10
        · rw [if_pos h10]; exact Or.inr ⟨by decide, rfl, rfl⟩
        · rw [if_neg h10]
          by_cases h3 : (getS (pgT s k)).2.2.2.1 = false
          · rw [if_pos h3]; exact pg_form s f (k + 1) _ (by simp [hl]) (by omega)
          · rw [if_neg h3]
            by_cases h0 : k = 0
            · rw [if_pos h0]; exact Or.inr ⟨by decide, rfl, rfl⟩
            · rw [if_neg h0]
              by_cases h4 : ordB ((l ++ [pgE s k]).drop 2) = true
              · rw [if_pos h4]; exact Or.inl ⟨rfl, by simp [hl]; omega, by simp [hl]; omega⟩
              · rw [if_neg h4]; exact Or.inr ⟨by decide, rfl, rfl⟩
theorem pg_form0 (s : ByteArray) : ((pgS s).2.2 = 0 ∧ 2 ≤ (pgS s).2.1.length ∧ (pgS s).2.1.length ≤ 10) ∨ ((pgS s).2.2 ≠ 0 ∧ (pgS s).1 = 0 ∧ (pgS s).2.1 = []) := pg_form s 11 0 [] rfl (by omega)
end Go.Proofs.YtpmieapgbdbabaaDoor.Pure
end

section
/- The plain law of PathReads: the path of any bytes is the one that the reference says, or none, told so; over plain strings and lists. -/
set_option linter.unusedVariables false
namespace Go.Proofs.YtpmieapgbdbabaaDoor.Pure
open Go.RowKit Go.Proofs.YtpmieapgbdbabaaDoor.QAll Go.Proofs.YtpmieapgbdbabaaDoorW.PrintWords Go.Proofs.YtpmieapgbdbabaaDoorW.PrintLast

theorem PathReads : squelchlaw05_PathReads.Pure := by
  intro s _
  refine ⟨60, ?_⟩
  unfold squelchlaw05_PathReads.f
  rw [show squelchlaw05_awake.f = some true from rfl]
  simp only [Option.bind_some]
  rw [if_pos (by trivial)]
  by_cases hs : (s.size : Int) > 1000
  · rw [if_pos hs]
  · rw [if_neg hs]
    unfold path_Get.f
    rw [if_pos (show s.size ≤ 1000000 by omega), pg_ref0 s (by omega) 60 (by omega)]
    simp only [Option.bind_some]
    rcases pg_form0 s with ⟨h0, h1, h2⟩ | ⟨h0, h1, h2⟩
    · rw [if_pos h0]
      obtain ⟨x, y, D, hD⟩ := two_of _ h1
      rw [hD] at h2 ⊢
      have hDl : D.length ≤ 8 := by simp at h2; omega
      rw [show (x :: y :: D).drop 2 = D from rfl, show rd_T93 (x :: y :: D) 0 = x from rfl, show rd_T93 (x :: y :: D) 1 = y from rfl, plain_f _ _ _ _ _ _ D (by omega) 60 (by omega)]
      simp only [Option.bind_some]
      rw [show (((⟨⟨x.f0.f0, x.f0.f1⟩, x.f1⟩ : S37) :: (⟨⟨y.f0.f0, y.f0.f1⟩, y.f1⟩ : S37) :: D.map mk37)) = (x :: y :: D).map mk37 from rfl, same_f _ (by simp; omega) 60 (by simp; omega)]
      simp only [Option.bind_some]
      rw [if_pos (by trivial), if_pos (by trivial), h0]
      rfl
    · rw [if_neg h0, h1, h2]
      rw [if_pos (by trivial), if_pos (by trivial), if_pos (by rw [show (rd_T93 [] 0).f0.f0.toList = [] by rw [Go.ByteArray.toList_eq]; rfl]; rfl)]
      rfl
end Go.Proofs.YtpmieapgbdbabaaDoor.Pure
end

section
/- From a row's listed variables, and the world's shape, to what the walks ask of the package's variables; and the wrap of a row that hands on both. -/
set_option linter.unusedVariables false
namespace Go.Proofs.YtpmieapgbdbabaaDoor.QAll
open Go.RowKit Go.Lib

/-- The wrap of a row that lists variables, with the reach, the listed variables and the world's shape handed on. -/
theorem returns_laid_shaped {H : Type} {enc : TypeId × Value → H} {a : Assume} {C : Checked} {os : Os} {f : FuncId} {fn : Func} {s : ChangeSpec} {conds : List PathCond} {apart fresh handsOn again : Bool} {l : List (String × DataW Unit)}
    (own : ownKnob C.prog.godebug = none) (started : os.Started) (noInit : C.prog.inits.idxOf? f = none) (hfn : C.prog.funcs[f]? = some fn)
    (witness : ∃ (w : World) (tape : Tape) (i : Input), w.os = os ∧ (w.forCall tape i).Shaped C.prog ∧ i.vars = [] ∧ Input.okWide C.prog (w.forCall tape i) .any w.heap.size f i ∧
      ((s.pre enc C.prog fn conds apart (w.forCall tape i).memory i.args ∧ laidMetH C.prog l (w.forCall tape i).memory) ∧ sizedMet enc C.prog fn (OpenSpec.ofChange s) apart (w.forCall tape i).memory i.args) ∧ a.holds C.prog (lone (Frame.enter C.prog f i.args .normal) [] (w.forCall tape i)))
    (contract : ∀ (W : World) (base : Nat) (args : Array Value) (ds gs : List (DataW H)) (before : List MemPlace),
      (∀ (j : Nat) t v, fn.params[j]? = some t → args[j]? = some v → Value.okWide C.prog W .any base t v) →
      DataW.Whole enc C.prog fn.params.toList s.vars apart W args.toList ds gs before →
      conds.all (PathCond.test C.prog ⟨fn.params.toList, ds, s.plain.varTypes C.prog, gs⟩) = true →
      (DataW.weightsEach C.prog (fn.params.toList ++ s.plain.varTypes C.prog) (ds ++ gs)).all (· ≤ reachBytes) = true → laidMetH C.prog l W → W.ShapedOpen C.prog →
      Calls C.prog f args W fun e W' => ∃ v, e = .returned v ∧ s.post enc C.prog fn apart fresh handsOn again W args v W') :
    ReturnsInHanded a C os f .any (fun w args => (s.pre enc C.prog fn conds apart w args ∧ laidMetH C.prog l w) ∧ sizedMet enc C.prog fn (OpenSpec.ofChange s) apart w args) (s.post enc C.prog fn apart fresh handsOn again) := by
  refine returnsInHanded_of_calls own started noInit witness ?_
  intro w tape i _ hsh _ hok hpre hholds
  obtain ⟨_, _, _, fn', hfn', _, _, _, _, hval⟩ := hok
  have e : fn' = fn := Option.some.inj (hfn'.symm.trans hfn)
  subst e
  obtain ⟨⟨⟨ds, gs, before, hw, hc⟩, hx⟩, hz⟩ := hpre
  have hw' := DataW.Whole.of_heap (w' := w.forCall tape i) (by rfl) hw
  refine (contract (w.forCall tape i) w.heap.size i.args ds gs before hval hw' hc (hz.weights hw) (laidMetH.of_heap (by rfl) hx) hsh).mono fun e W' ⟨v, he, hp⟩ => ?_
  subst he
  exact ChangeSpec.post_blind hp
end Go.Proofs.YtpmieapgbdbabaaDoor.QAll
end

section
/- The statement that the law squelchlaw05.PathReads is true of every input, its arguments left as they were: the row, out of its walk and its plain law. Written by a program of this session (wip/pp/row.py). -/
namespace Go.Proofs.YtpmieapgbdbabaaDoor.pathReadsRow
open Go.ChangeShapes Go.WideShapes Go.ChangeAt Go.RowKit
open Go.ChangeMaps (open_string shut_string)
set_option linter.unusedVariables false
set_option linter.unusedSimpArgs false
theorem own : ownKnob Tryd.prog.godebug = none := by kernel_rfl
theorem laidOut : laidOutB Tryd.prog = true := by kernel_rfl
theorem met (os : Os) (args : Array Value) : laidMetH Tryd.prog Rows.pathReadsRow.laid ((World.laidAll Tryd.prog os Rows.pathReadsRow.laid).forCall (fun _ _ => 0) ⟨#[], args, []⟩).memory :=
  (show laidMet Tryd.prog Rows.pathReadsRow.laid _ from laidMet_laidAll _ (by kernel_rfl) (by kernel_rfl))
set_option maxRecDepth 100000 in
theorem lifted (os : Os) (started : os.Started) (H : Type) (enc : TypeId × Value → H) :
    ReturnsInHanded {} Tryd.checked os 5 .any (fun w args => (Rows.pathReadsSpec.pre enc Tryd.prog Tryd.f5 Rows.pathReadsRow.domain false w args ∧ laidMetH Tryd.prog Rows.pathReadsRow.laid w) ∧ sizedMet enc Tryd.prog Tryd.f5 (OpenSpec.ofChange Rows.pathReadsSpec) false w args) (Rows.pathReadsSpec.post enc Tryd.prog Tryd.f5 false true false false) := by
  refine QAll.returns_laid_shaped (C := Tryd.checked) own started (by kernel_rfl) Tryd.func5
    (ChangeSpec.witness_at (enc := enc) (C := Tryd.checked) (os := os) (X := fun w _ => laidMetH Tryd.prog Rows.pathReadsRow.laid w) false (World.laidAll Tryd.prog os Rows.pathReadsRow.laid) #[.string ByteArray.empty] 8 (World.laidAll_os _ _ _) (by kernel_rfl) (by kernel_rfl) (by kernel_rfl) (by kernel_rfl) (by kernel_rfl) (met os _)) ?_
  intro W base args ds gs before hval0 hW hcnd hsz0 hL hsh
  have hsz : (DataW.weightsEach Tryd.prog (Tryd.f5.params.toList ++ Rows.pathReadsSpec.plain.varTypes Tryd.prog) (ds ++ gs)).all (· ≤ reachBytes) = true := hsz0
  have hval : ∀ (j : Nat) t v, Tryd.f5.params[j]? = some t → args[j]? = some v → Value.okWide Tryd.prog W .any base t v := hval0
  have hW' := hW
  obtain ⟨p, q, hA0, hV, rfl, hfz, hnd⟩ := hW
  have hA : DataW.TrodAll enc Tryd.prog W 0 (fun _ => true) true Tryd.f5.params.toList args.toList ds p := hA0
  rw [Tryd.params5] at hA hval hsz
  obtain ⟨v0, vs0, d0, ds0, p0, q0, hargs, rfl, rfl, h0, r0⟩ := trodAll_cons hA
  obtain ⟨rfl, rfl, rfl⟩ := trodAll_nil r0
  obtain rfl : args = #[v0] := by cases args; simp_all
  obtain ⟨rfl, rfl⟩ := trodVars_none hV
  have k0 := h0
  have lt0 : ∀ x ∈ p0, x.block < W.heap.size := by obtain ⟨m, hm⟩ := k0; exact DataW.trod_lt m _ _ _ hm
  obtain ⟨a0, rfl, rfl, rfl, ma0⟩ := open_string Tryd.underlying9 (hval 0 9 v0 rfl rfl) h0
  have hz : a0.size ≤ 140737488351232 := by
    have z := hsz
    skip
    simp [DataW.weightsEach, DataW.weights, reachBytes, Tryd.underlying9] at z
    first | omega | exact of_decide_eq_true z
  have za0 := hz
  clear hA0 hval0 hsz0 hsz
  obtain ⟨k, hp⟩ := Pure.PathReads a0 za0
  refine (QAll.squelchlaw05_PathReads.calls k a0 true W rfl hp).mono fun e W' ⟨he, bel⟩ => ?_
  subst he
  exact ⟨_, rfl, _, _, _, [], _, [], hW', trodAll_mk1 (shut_bool Tryd.underlying4 _), (trodAll_cons_mk (Below.trod laidOut (by kernel_rfl) (of_decide_eq_true (by kernel_rfl)) k0 bel lt0) trodAll_mk0), rfl, bel.frame _, fun h => by cases h⟩
theorem over : Rows.pathReadsRow.holds Tryd.pinned (OpenSpec.ofChange Rows.pathReadsSpec) :=
  OpenClaim.holds_of_wide 5 Tryd.f5 rfl rfl rfl rfl rfl rfl rfl ⟨rfl, rfl, rfl, rfl, rfl⟩ rfl rfl rfl rfl rfl (by kernel_rfl) Tryd.func5 (by kernel_rfl)
    (of_decide_eq_true (by kernel_rfl)) (by unfold Func.isWrapper; first | (rw [if_pos (by decide +kernel)]; kernel_rfl) | (rw [if_neg (by decide +kernel)]; exact ⟨rfl, rfl⟩))
    (fun os started H enc _ => lifted os started H enc)
theorem card : Rows.PathReadsCardSaid :=
  Claim7.holds_tied_plain_at .later [] [.data, .data, .data, .data, .pinned] true (true, "b63f2f92baa42f5091e235388c6ae0d54991875acb84ccae606eb7f7e9e6d94e") true
    over (fun _ h => by cases h) (by kernel_rfl) (fun _ h => by cases h) pathReads_row_tie rfl ⟨rfl, rfl⟩ (by kernel_rfl) rfl
    (fun f fn hf hfn => by
      obtain rfl : f = 5 := Option.some.inj ((show Tryd.prog.funcNamed "squelch/squelchlaw05.PathReads" = some 5 by kernel_rfl).symm.trans hf) |>.symm
      obtain rfl : fn = Tryd.f5 := (Option.some.inj (Tryd.func5.symm.trans hfn)).symm
      exact ⟨by kernel_rfl, fun j t ht => by
        rw [Tryd.params5] at ht
        have hm := Array.mem_of_getElem? ht
        simp at hm
        rcases hm with rfl
        · exact (show Tryd.prog.wantsStandIn 9 = false by kernel_rfl)
      ⟩)
    (by kernel_rfl)
end Go.Proofs.YtpmieapgbdbabaaDoor.pathReadsRow
namespace Go.Proofs.YtpmieapgbdbabaaDoor
theorem pathReads_holds : Rows.PathReadsCardSaid := pathReadsRow.card
#print axioms pathReads_holds
end Go.Proofs.YtpmieapgbdbabaaDoor
end
