/- call.Get, walked by hand: the call of seven bytes, its marks, or none, for every text. -/
import Derived.Test.YtpmieapgbdbabaaDoorHPut
import Derived.Test.YtpmieapgbdbabaaDoorHParse
import Derived.Test.YtpmieapgbdbabaaDoorHShelf
set_option linter.unusedVariables false
set_option linter.unusedSimpArgs false
namespace Go.Proofs.YtpmieapgbdbabaaDoor.QAll
open Go.RowKit Go.Proofs.YtpmieapgbdbabaaDoorW.PrintWords Go.Proofs.YtpmieapgbdbabaaDoorW.PrintLast Go.Proofs.YtpmieapgbdbabaaDoorW.PrintMore

def halfL (s : ByteArray) (k : Nat) : List Int := (List.range k).map fun j : Nat => bt s (j : Int) / 2
def getBase (s : ByteArray) : ByteArray := ⟨(Lib.trimRightB (strOfNums (halfL s 6)).data.toList 32).toArray⟩
/-- What Get tells. -/
def getS (s : ByteArray) : ByteArray × Int × Bool × Bool × Int :=
  if s.size < 7 then (⟨#[]⟩, 0, false, false, 4) else if 7 < s.size then (⟨#[]⟩, 0, false, false, 5)
  else if rightB (getBase s) (bt s 6 / 2 % 16) = true ∧ strOfNums (putL (getBase s) (bt s 6 / 2 % 16) (decide (128 ≤ bt s 6)) (decide (bt s 6 % 2 = 1))) = s
    then (getBase s, bt s 6 / 2 % 16, decide (128 ≤ bt s 6), decide (bt s 6 % 2 = 1), 0)
  else (⟨#[]⟩, 0, false, false, 2)
def call_Get.f (a0 : ByteArray) : Option (ByteArray × Int × Bool × Bool × Int) := if a0.size ≤ 9223372036854775807 then some (getS a0) else none

theorem results_cttt {P : Program} {fn : Func} {p u v x : Tmp} {ty : TypeId} (h : fn.results = #[.cell p ty, .tmp u, .tmp v, .tmp x]) (tmps : Array Value) (w : World) (g : Nat) (t : TypeId) (cs : Array Value) (fr : Nat × Nat) (d : TypeDesc)
    (hp : tmps.getD p undef = .pointer (some ⟨g, 0, none⟩)) (hg : w.heap[g]? = some (.cells cs t fr))
    (hu : P.underlying ty = some d) (hd : (match d with | .struct _ | .array _ _ => true | _ => false) = true) (hi : (P.info? ty).map (·.size) = some cs.size) :
    (results fn tmps).run P w = .ok (.tuple #[.agg cs, tmps.getD u undef, tmps.getD v undef, tmps.getD x undef]) w := by
  have hp' : tmps[p]?.getD undef = .pointer (some ⟨g, 0, none⟩) := by simpa using hp
  simp [results, h, hp', asAddr, run_loadVar_row w g t ty cs fr d hg hu hd hi]
theorem halfL_step (s : ByteArray) (k : Nat) : halfL s (k + 1) = halfL s k ++ [bt s k / 2] := by
  unfold halfL
  rw [List.range_succ, List.map_append]
  rfl
theorem halfL_len (s : ByteArray) (k : Nat) : (halfL s k).length = k := by simp [halfL]
theorem mark_bit (c : Int) (h : 0 ≤ c ∧ c ≤ 255) : (Go.bits .and .u8 c 128 != 0) = decide (128 ≤ c) := by
  have h1 : ∀ c : Fin 256, (Go.bits .and .u8 (c.val : Int) 128 != 0) = decide (128 ≤ (c.val : Int)) := by decide +kernel
  have := h1 ⟨c.toNat, by omega⟩
  rw [show ((⟨c.toNat, by omega⟩ : Fin 256).val : Int) = c by simp; omega] at this
  exact this
theorem last_bit (c : Int) (h : 0 ≤ c ∧ c ≤ 255) : (Go.bits .and .u8 c 1 != 0) = decide (c % 2 = 1) := by
  have h1 : ∀ c : Fin 256, (Go.bits .and .u8 (c.val : Int) 1 != 0) = decide ((c.val : Int) % 2 = 1) := by decide +kernel
  have := h1 ⟨c.toNat, by omega⟩
  rw [show ((⟨c.toNat, by omega⟩ : Fin 256).val : Int) = c by simp; omega] at this
  exact this
set_option maxHeartbeats 1000000 in
set_option maxRecDepth 100000 in
theorem call_Get.calls (a0 : ByteArray) (r1 : ByteArray) (r2 : Int) (r3 r4 : Bool) (r5 : Int) (w : World) (h : call_Get.f a0 = some (r1, r2, r3, r4, r5)) :
    Calls Tryd.prog 54 #[.string a0] w fun e w' => e = .returned (.tuple #[.agg #[.string r1, .int .i64 r2], .bool r3, .bool r4, .int .i64 r5]) ∧ Below w.heap.size w w' := by
  unfold call_Get.f at h
  split at h
  case isFalse => exact absurd h (by simp)
  rename_i hs
  have HR := Aside0.mk (Option.some.inj h)
  clear h
  have hu23 := Tryd.underlying23
  by_cases h1 : a0.size < 7
  · have hpr := HR.out
    rw [show getS a0 = (⟨#[]⟩, 0, false, false, 4) by unfold getS; rw [if_pos h1]] at hpr
    simp only [Prod.mk.injEq] at hpr
    obtain ⟨rfl, rfl, rfl, rfl, rfl⟩ := hpr
    clear HR
    go_enter Tryd.func54, Tryd.ntmps54
    go_wp2
    refine bodyPost_ret (results_cttt rfl _ _ w.heap.size 23 #[.string ⟨#[]⟩, .int .i64 0] (0, 0) _ rfl (heap_alloc_new w _) Tryd.underlying23 rfl (by kernel_rfl)) rfl ?_
    exact ⟨rfl, (Below.refl _ _).alloc (Nat.le_refl _) _⟩
  · by_cases h2 : 7 < a0.size
    · have hpr := HR.out
      rw [show getS a0 = (⟨#[]⟩, 0, false, false, 5) by unfold getS; rw [if_neg h1, if_pos h2]] at hpr
      simp only [Prod.mk.injEq] at hpr
      obtain ⟨rfl, rfl, rfl, rfl, rfl⟩ := hpr
      clear HR
      go_enter Tryd.func54, Tryd.ntmps54
      go_wp2
      refine bodyPost_ret (results_cttt rfl _ _ w.heap.size 23 #[.string ⟨#[]⟩, .int .i64 0] (0, 0) _ rfl (heap_alloc_new w _) Tryd.underlying23 rfl (by kernel_rfl)) rfl ?_
      exact ⟨rfl, (Below.refl _ _).alloc (Nat.le_refl _) _⟩
    · have h7 : a0.size = 7 := by omega
      have hb6 := bt_range a0 6
      have HB6 := Aside0.mk hb6
      have kb := fun W => print_bytes (P := Tryd.prog) 9 104 5 Tryd.underlying9 Tryd.underlying104 Tryd.underlying5 (a0.extract 0 6) W
      have hx6 : ∀ h : 6 < a0.size, ((a0[6]'h).toNat : Int) = bt a0 6 := fun h => bt_at a0 6 h
      go_enter Tryd.func54, Tryd.ntmps54
      go_wp2
      have hW2 : ∃ W2, W2 = Lib.bytesWorld (w.alloc (Obj.cells #[Value.string { data := #[] }, Value.int IntKind.i64 0] 23)) 5 (a0.extract 0 6) := ⟨_, rfl⟩
      obtain ⟨W2, hW2⟩ := hW2
      have hsz6 : (a0.extract 0 6).size = 6 := by simp [ByteArray.size_extract]; omega
      have HB2 := Aside0.mk (show Below w.heap.size w W2 by rw [hW2]; exact bytes_below ((Below.refl _ _).alloc (Nat.le_refl _) _) (by simp) _ _)
      have HR2 := Aside0.mk (show W2.heap[w.heap.size]? = some (.cells #[.string ⟨#[]⟩, .int .i64 0] 23 (0, 0)) by
        rw [hW2, (bytes_below (Below.refl _ (w.alloc (Obj.cells #[Value.string { data := #[] }, Value.int IntKind.i64 0] 23))) (Nat.le_refl _) 5 (a0.extract 0 6)).block w.heap.size (by simp)]
        exact heap_alloc_new w _)
      have HC2 := Aside0.mk (show ∀ j : Nat, j < 6 → W2.cell? ⟨w.heap.size + 1, j, none⟩ = some (.int .u8 (bt a0 j)) by
        intro j hj
        have z := Lib.bytesWorld_cell (w.alloc (Obj.cells #[Value.string { data := #[] }, Value.int IntKind.i64 0] 23)) 5 (a0.extract 0 6) j (by omega)
        have e : (w.alloc (Obj.cells #[Value.string { data := #[] }, Value.int IntKind.i64 0] 23)).heap.size = w.heap.size + 1 := by simp
        rw [e] at z
        rw [hW2, z, bt_data a0 j (by omega)]
        congr 3
        simp [ByteArray.data_extract, List.getD_eq_getElem?_getD, hj, show j < a0.size by omega])
      rw [← hW2]
      have HS2 := Aside0.mk (show w.heap.size + 2 ≤ W2.heap.size from World.block_lt_of_cell? _ _ (HC2.out 0 (by omega)))
      clear hW2 kb
      go_loopw [7, 31] (fun v7 v31 wr => ∃ k : Nat, k ≤ 6 ∧ v31 = .int .i64 k ∧ Aside0 (Kd.R (Kd.int .u8) 5 wr W2.heap.size (fun _ => True) v7 (halfL a0 k)) ∧ Aside0 (Below W2.heap.size W2 wr)) (fun v7 v31 _ => 6 - (intOf v31).toNat)
      case atStart => exact ⟨0, by omega, rfl, ⟨Kd.R_nil _ _ _ _ _⟩, ⟨Below.refl _ _⟩⟩
      case round =>
        obtain ⟨k, hk, rfl, HO, HB⟩ := hrel
        by_cases hlt : k < 6
        · have hcell := (HB.out.cell (World.block_lt_of_cell? _ _ (HC2.out k hlt))).trans (HC2.out k hlt)
          have hbk := bt_range a0 k
          have HBK := Aside0.mk hbk
          obtain ⟨y1, hy1⟩ : ∃ y, y = halfL a0 (k + 1) := ⟨_, rfl⟩
          have Ny := Aside0.mk (show y1 = halfL a0 k ++ [bt a0 k / 2] by rw [hy1, halfL_step])
          have HL := Aside0.mk (halfL_len a0 k)
          go_wp2_with (first | ((with_reducible refine gate_builtin (b := .append) (xs := #[.tmp 35, .tmp 38]) rfl ?_); at_builtin; refine Kd.R_append (Kd.int .u8) (w0 := W2) W2.heap.size rfl (.tmp 35) (.tmp 38) 104 5 (.int .u8 0) 1 rfl Tryd.underlying104 info5 rfl (by decide) (by omega) u7 (halfL a0 k) (bt a0 k / 2) [.int .u8 (bt a0 k / 2)] (fun _ => True) (fun _ => False) rfl rfl ?aP (fun _ hk => hk.elim) ?aF ?aO ?aB ?aS ?aL ?_; (case aP => exact rfl); (case aB => exact (by repeat (first | (with_reducible first | exact HB.out | apply below_alloc | apply pw_below_drewN | apply below_drew1) | exact HB.out))); (case aF => exact (fun _ _ => trivial)); (case aO => exact (by (with_reducible repeat (first | apply Kd.R_alloc | apply Kd.R_drewN | apply Kd.R_drew)); exact HO.out)); (case aS => exact (below_size (by repeat (first | (with_reducible first | exact HB.out | apply below_alloc | apply pw_below_drewN | apply below_drew1) | exact HB.out)))); (case aL => have := HL.out; omega); intro v357 w9 ho hb hg hat; rw [← Ny.out] at ho; have n0_ := Aside0.mk (hb); have n1_ := Aside0.mk (ho); clear HB; clear HO; have HB := n0_; have HO358 := n1_; clear n0_ n1_; clear ho hb hg hat))
          refine ⟨⟨k + 1, by omega, by go_num, ⟨by rw [← hy1]; exact HO358.out⟩, HB⟩, by simp [intOf]; omega⟩
        · obtain rfl : k = 6 := by omega
          have hcv10 := own_string (P := Tryd.prog) Tryd.underlying104 Tryd.underlying5 Tryd.underlying9 (Kd.own_of_R HO.out)
          have hT : (strOfNums (halfL a0 6)).size ≤ 9223372036854775807 := by show (List.toArray _).size ≤ _; simp [halfL]
          have HT := Aside0.mk hT
          clear hT
          have HSZ := Aside0.mk (show W2.heap.size ≤ wr.heap.size from HB.out.size)
          have HRr := Aside0.mk ((HB.out.block w.heap.size (by have := HS2.out; omega)).trans HR2.out)
          have HBw := Aside0.mk (below_then HB2.out (by have := HS2.out; omega) HB.out)
          have HSw := Aside0.mk (show w.heap.size + 2 ≤ wr.heap.size by have := HS2.out; have := HSZ.out; omega)
          go_wp2_with (go_at_call 84; (with_reducible refine (Tryd.strings_TrimRight_one (strOfNums (halfL a0 6)) 32 (by decide) _ HT.out).mono ?_); rintro e w' ⟨rfl, hw'⟩; subst hw')
          have HM := Aside0.mk (mark_bit (bt a0 6) HB6.out)
          have HLb := Aside0.mk (last_bit (bt a0 6) HB6.out)
          rw [HM.out, HLb.out]
          have hgb : (⟨(Lib.trimRightB (strOfNums (halfL a0 6)).data.toList 32).toArray⟩ : ByteArray) = getBase a0 := rfl
          simp only [hgb]
          have HG7 := Aside0.mk (show getS a0 = if rightB (getBase a0) (bt a0 6 / 2 % 16) = true ∧ strOfNums (putL (getBase a0) (bt a0 6 / 2 % 16) (decide (128 ≤ bt a0 6)) (decide (bt a0 6 % 2 = 1))) = a0
            then (getBase a0, bt a0 6 / 2 % 16, decide (128 ≤ bt a0 6), decide (bt a0 6 % 2 = 1), 0) else (⟨#[]⟩, 0, false, false, 2) by unfold getS; rw [if_neg h1, if_neg h2])
          have HBs := Aside0.mk (show (getBase a0).size ≤ 9223372036854775807 by
            show (List.toArray _).size ≤ _
            rw [List.size_toArray]
            unfold Lib.trimRightB
            rw [List.length_reverse]
            have h1 := (List.dropWhile_sublist (fun x => x == (32 : UInt8)) (l := (strOfNums (halfL a0 6)).data.toList.reverse)).length_le
            have h2 : (strOfNums (halfL a0 6)).data.toList.length = 6 := by simp [strOfNums, halfL]
            rw [List.length_reverse, h2] at h1
            omega)
          have HSw' := HSw.out
          cases hr : rightB (getBase a0) (bt a0 6 / 2 % 16) with
          | false =>
            have hpr := HR.out
            rw [HG7.out, hr, if_neg (by simp)] at hpr
            simp only [Prod.mk.injEq] at hpr
            obtain ⟨rfl, rfl, rfl, rfl, rfl⟩ := hpr
            refine (call_Put.calls (getBase a0) (bt a0 6 / 2 % 16) _ _ ⟨#[]⟩ 12 _ (by unfold call_Put.f; rw [if_pos HBs.out, hr]; rfl)).mono ?_
            rintro e w3 ⟨rfl, hb3⟩
            clear HR HG7 hr HBs
            have HR3 := Aside0.mk ((hb3.block w.heap.size (by simp; omega)).trans ((Below.heap_alloc _ _ _ (by omega)).trans HRr.out))
            have HB3 := Aside0.mk (below_then (HBw.out.alloc HBw.out.size _) (by simp; omega) hb3)
            clear hb3
            obtain ⟨k0, k1, k2, k3⟩ := two_cell HR3.out
            go_wp2_with (fail)
            refine bodyPost_ret (results_cttt rfl _ _ w.heap.size 23 #[.string ⟨#[]⟩, .int .i64 0] (0, 0) _ rfl (two_set HR3.out) Tryd.underlying23 rfl (by kernel_rfl)) rfl ?_
            exact ⟨rfl, (HB3.out.setCell (Nat.le_refl _) _).setCell (Nat.le_refl _) _⟩
          | true =>
            refine (call_Put.calls (getBase a0) (bt a0 6 / 2 % 16) _ _ (strOfNums (putL (getBase a0) (bt a0 6 / 2 % 16) (decide (128 ≤ bt a0 6)) (decide (bt a0 6 % 2 = 1)))) 0 _ (by unfold call_Put.f; rw [if_pos HBs.out, hr]; rfl)).mono ?_
            rintro e w3 ⟨rfl, hb3⟩
            have HR3 := Aside0.mk ((hb3.block w.heap.size (by simp; omega)).trans ((Below.heap_alloc _ _ _ (by omega)).trans HRr.out))
            have HC3 := Aside0.mk ((hb3.block w'.heap.size (by simp)).trans (heap_alloc_new w' _))
            have HB3 := Aside0.mk (below_then (HBw.out.alloc HBw.out.size _) (by simp; omega) hb3)
            clear hb3
            obtain ⟨k0, k1, k2, k3⟩ := two_cell HR3.out
            obtain ⟨d0, d1, d2, d3⟩ := two_cell HC3.out
            by_cases heq : strOfNums (putL (getBase a0) (bt a0 6 / 2 % 16) (decide (128 ≤ bt a0 6)) (decide (bt a0 6 % 2 = 1))) = a0
            · have hpr := HR.out
              rw [HG7.out, if_pos ⟨hr, heq⟩] at hpr
              simp only [Prod.mk.injEq] at hpr
              obtain ⟨rfl, rfl, rfl, rfl, rfl⟩ := hpr
              have hne : (!(strOfNums (putL (getBase a0) (bt a0 6 / 2 % 16) (decide (128 ≤ bt a0 6)) (decide (bt a0 6 % 2 = 1)))).toList == a0.toList) = false := by rw [heq]; simp
              clear HR HG7 hr HBs heq
              go_wp2_with (fail)
              refine bodyPost_ret (results_cttt rfl _ _ w.heap.size 23 #[.string (getBase a0), .int .i64 (bt a0 6 / 2 % 16)] (0, 0) _ rfl (two_set HR3.out) Tryd.underlying23 rfl (by kernel_rfl)) rfl ?_
              exact ⟨rfl, (HB3.out.setCell (Nat.le_refl _) _).setCell (Nat.le_refl _) _⟩
            · have hpr := HR.out
              rw [HG7.out, if_neg (fun h => heq h.2)] at hpr
              simp only [Prod.mk.injEq] at hpr
              obtain ⟨rfl, rfl, rfl, rfl, rfl⟩ := hpr
              have hne : (!(strOfNums (putL (getBase a0) (bt a0 6 / 2 % 16) (decide (128 ≤ bt a0 6)) (decide (bt a0 6 % 2 = 1)))).toList == a0.toList) = true := by
                rw [Bool.not_eq_true', beq_eq_false_iff_ne]
                intro h
                apply heq
                rw [Go.ByteArray.toList_eq, Go.ByteArray.toList_eq] at h
                generalize strOfNums _ = t at h ⊢
                cases t; cases a0
                congr 1
                exact Array.ext' h
              clear HR HG7 hr HBs heq
              go_wp2_with (fail)
              refine bodyPost_ret (results_cttt rfl _ _ w.heap.size 23 #[.string ⟨#[]⟩, .int .i64 0] (0, 0) _ rfl (two_set HR3.out) Tryd.underlying23 rfl (by kernel_rfl)) rfl ?_
              exact ⟨rfl, (HB3.out.setCell (Nat.le_refl _) _).setCell (Nat.le_refl _) _⟩
end Go.Proofs.YtpmieapgbdbabaaDoor.QAll
