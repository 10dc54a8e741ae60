/- The row of the law PathBytes, out of its walks and its plain law. -/
import Derived.Test.YtpmieapgbdbabaaDoorMPathBytes0
import Derived.Lib.SliceRun
import Derived.Test.YtpmieapgbdbabaaDoorMPathBytes1
import Derived.Test.YtpmieapgbdbabaaDoorMPathBytes2
import Derived.Test.YtpmieapgbdbabaaDoorRows
import Derived.Test.YtpmieapgbdbabaaDoorTie
import Derived.Test.YtpmieapgbdbabaaDoorCards
import Derived.WalkKit
import Derived.ProofKit
import Derived.OpenShut
import Derived.ShutString
import Derived.ChangeOld
import Derived.Below
import Derived.SizedLaws
import Derived.Lib.SmallJoins
import Derived.Deep.Slices
import Derived.Deep.Fields
import Derived.ChangeSame
section
/- slices.Clone of digipeaters, walked by hand: the same ones, in new memory. -/
set_option linter.unusedVariables false
set_option linter.unusedSimpArgs false
namespace Go.Proofs.YtpmieapgbdbabaaDoor.QAll
open Go.RowKit Go.Proofs.YtpmieapgbdbabaaDoorW.PrintWords Go.Proofs.YtpmieapgbdbabaaDoorW.PrintLast Go.Proofs.YtpmieapgbdbabaaDoorW.PrintMore
def path_Digi_59.f (l0 : List S93) : Option (List S93) := if l0.length ≤ 1000000 then some l0 else none
set_option maxHeartbeats 1000000 in
set_option maxRecDepth 100000 in
theorem path_Digi_59.calls (A0 : Option Addr) (c0 : Nat) (l0 : List (S93)) (r : List S93) (w : World) (hr0 : Kd.C k93 w A0 l0.length l0) (hc0 : l0.length ≤ c0) (h : path_Digi_59.f l0 = some r) :
    Calls Tryd.prog 59 #[.slice A0 l0.length c0] w fun e w' => ∃ v0_ : Value, e = .returned (v0_) ∧ Kd.R k93 93 w' w.heap.size (fun _ => True) v0_ r ∧ Below w.heap.size w w' := by
  unfold path_Digi_59.f at h
  split at h
  case isFalse => cases h
  rename_i hl
  obtain rfl := Option.some.inj h
  have HR := Aside0.mk hr0
  clear hr0 h
  have hu93 := Tryd.underlying93
  have hu23 := Tryd.underlying23
  have hA : ∀ a l c W, (binOp .eql 24 (.slice a l c) (.slice none 0 0)).run Tryd.prog W = .ok (.bool a.isNone) W := fun a l c W => Lib.run_eql_slice_nil W 24 93 a l c 0 0 Tryd.underlying24
  cases A0 with
  | none =>
    have hnil : l0 = [] := by
      cases l0 with
      | nil => rfl
      | cons x r => obtain ⟨ad, e, _⟩ := at_T93 HR.out 0 (Int.le_refl _) (by simp); cases e
    subst hnil
    go_enter Tryd.func59, Tryd.ntmps59
    go_wp2_with (fail)
    go_ret
    exact ⟨_, rfl, Kd.R_nil _ _ _ _ _, Below.refl _ _⟩
  | some ad =>
    have HB := Aside0.mk (Below.refl w.heap.size w)
    have HL := Aside0.mk hl
    go_enter Tryd.func59, Tryd.ntmps59
    go_wp2_with (first | ((with_reducible refine gate_dst (N := 5) rfl ?_); refine Kd.R_lit k93 _ 93 ?hg (N := 5) ?hd (xs := ([] : List (S93))) (inner := []) (ok := fun _ => True) (okp := fun _ => True) ?hr ?hp (fun _ hk => hk) trivial (Below.refl _ _) (Nat.le_refl _) (by simp) ?_; (case hd => rfl); (case hg => rfl); (case hr => first | (go_simp; done) | (go_simp; rfl)); (case hp => exact (Reps.none _ _)); intro v242 w5 ho6 hb hg_ hnew_; have n0_ := Aside0.mk (Kd.R_lower ho6 (below_size HB.out)); have n2_ := Aside0.mk (below_step HB.out hb); clear HB; have HO := n0_; have HB := n2_; clear n0_ n2_; clear hb hg_ hnew_ ho6) | ((with_reducible refine gate_builtin (b := .append) (xs := #[.tmp 5, .tmp 6]) rfl ?_); at_builtin; refine Kd.R_append_rows k93 (w0 := w) w.heap.size rfl (.tmp 5) (.tmp 6) 24 93 (.agg #[(.string ⟨#[]⟩), (.int .i64 0), (.bool false)]) 32 rfl Tryd.underlying24 info93 rfl (by decide) (by omega) v242 [] l0 _ _ _ (fun _ => True) (fun _ => False) rfl rfl ?aO ?aR (fun _ _ h => h) (fun _ h => h.elim) ?aF ?aB ?aS ?aL ?_; (case aR => exact Kd.C_below HR.out HB.out); (case aB => exact HB.out); (case aF => exact (fun _ _ => trivial)); (case aO => exact HO.out); (case aS => exact (below_size HB.out)); (case aL => have := HL.out; simp; omega); intro v245 w8 ho hb hg hat))
    go_ret
    exact ⟨_, rfl, ho, hb⟩
end Go.Proofs.YtpmieapgbdbabaaDoor.QAll
end

section
/- Walks, written by a program of this session (wip/pp): a Go function comes to what the Lean function beside it tells. -/
namespace Go.Proofs.YtpmieapgbdbabaaDoor.QAll
open Go.RowKit Go.Proofs.YtpmieapgbdbabaaDoorW.PrintWords Go.Proofs.YtpmieapgbdbabaaDoorW.PrintLast Go.Proofs.YtpmieapgbdbabaaDoorW.PrintMore
attribute [local go_sem] max2_int min2_int max_two min_two max_three min_three max_four min_four
set_option linter.unusedVariables false
set_option linter.unusedSimpArgs false

def path_Sent.f (a0_0 : ByteArray) (a0_1 : Int) (a0_2 : ByteArray) (a0_3 : Int) (a0_4 : Bool) (a0_5 : Bool) (l0_6 : List (S93)) : Option (ByteArray × Int × ByteArray × Int × Bool × Bool × (List (S93)) × Bool) := (path_next.f a0_0 a0_1 a0_2 a0_3 a0_4 a0_5 l0_6).bind fun t107 => ((path_Digi_59.f l0_6).bind fun t108 => (if t107 < 0 then (some (a0_0, a0_1, a0_2, a0_3, a0_4, a0_5, t108, false)) else (if 0 ≤ t107 then (if t107 < (t108.length : Int) then (some (a0_0, a0_1, a0_2, a0_3, a0_4, a0_5, (t108.set (t107 : Int).toNat (⟨(⟨(rd_T93 t108 t107).f0.f0, (rd_T93 t108 t107).f0.f1⟩ : S23), true⟩ : S93)), true)) else (none)) else (none))))
set_option maxHeartbeats 8000000 in
set_option maxRecDepth 100000 in
theorem path_Sent.calls (a0_0 : ByteArray) (a0_1 : Int) (a0_2 : ByteArray) (a0_3 : Int) (a0_4 : Bool) (a0_5 : Bool) (A0_6 : Option Addr) (c0_6 : Nat) (l0_6 : List (S93)) (r1 : ByteArray) (r2 : Int) (r3 : ByteArray) (r4 : Int) (r5 : Bool) (r6 : Bool) (r7 : List (S93)) (r8 : Bool) (w : World) (hr0_6 : Kd.C k93 w A0_6 l0_6.length l0_6) (hc0_6 : l0_6.length ≤ c0_6) (h : path_Sent.f a0_0 a0_1 a0_2 a0_3 a0_4 a0_5 l0_6 = some (r1, r2, r3, r4, r5, r6, r7, r8)) :
  Calls Tryd.prog 20 #[.agg #[.string a0_0, .int .i64 a0_1, .string a0_2, .int .i64 a0_3, .bool a0_4, .bool a0_5, .slice A0_6 l0_6.length c0_6]] w fun e w' => ∃ v6_ : Value, e = .returned (.tuple #[.agg #[.string r1, .int .i64 r2, .string r3, .int .i64 r4, .bool r5, .bool r6, v6_], .bool r8]) ∧ Kd.R k93 93 w' w.heap.size (fun _ => True) v6_ r7 ∧ Below w.heap.size w w' := by
 have hu26 := Tryd.underlying26
 have HR0_6 := Aside0.mk hr0_6
 have HC0_6 := Aside0.mk hc0_6
 clear hr0_6 hc0_6
 have HB := Aside0.mk (Below.refl w.heap.size w)
 have H : ((path_next.f a0_0 a0_1 a0_2 a0_3 a0_4 a0_5 l0_6).bind fun t107 => ((path_Digi_59.f l0_6).bind fun t108 => (if t107 < 0 then (some (a0_0, a0_1, a0_2, a0_3, a0_4, a0_5, t108, false)) else (if 0 ≤ t107 then (if t107 < (t108.length : Int) then (some (a0_0, a0_1, a0_2, a0_3, a0_4, a0_5, (t108.set (t107 : Int).toNat (⟨(⟨(rd_T93 t108 t107).f0.f0, (rd_T93 t108 t107).f0.f1⟩ : S23), true⟩ : S93)), true)) else (none)) else (none))))) = some (r1, r2, r3, r4, r5, r6, r7, r8) := h
 clear h
 replace H := Option.bind_eq_some_iff.mp H
 obtain ⟨t107, A20, H⟩ := H
 replace H : ((path_Digi_59.f l0_6).bind fun t108 => (if t107 < 0 then (some (a0_0, a0_1, a0_2, a0_3, a0_4, a0_5, t108, false)) else (if 0 ≤ t107 then (if t107 < (t108.length : Int) then (some (a0_0, a0_1, a0_2, a0_3, a0_4, a0_5, (t108.set (t107 : Int).toNat (⟨(⟨(rd_T93 t108 t107).f0.f0, (rd_T93 t108 t107).f0.f1⟩ : S23), true⟩ : S93)), true)) else (none)) else (none)))) = some (r1, r2, r3, r4, r5, r6, r7, r8) := H
 have A2 := Aside0.mk A20
 clear A20
 replace H := Option.bind_eq_some_iff.mp H
 obtain ⟨t108, A30, H⟩ := H
 replace H : (if t107 < 0 then (some (a0_0, a0_1, a0_2, a0_3, a0_4, a0_5, t108, false)) else (if 0 ≤ t107 then (if t107 < (t108.length : Int) then (some (a0_0, a0_1, a0_2, a0_3, a0_4, a0_5, (t108.set (t107 : Int).toNat (⟨(⟨(rd_T93 t108 t107).f0.f0, (rd_T93 t108 t107).f0.f1⟩ : S23), true⟩ : S93)), true)) else (none)) else (none))) = some (r1, r2, r3, r4, r5, r6, r7, r8) := H
 have A3 := Aside0.mk A30
 clear A30
 by_cases c4 : t107 < 0
 ·rw [if_pos c4] at H
  have c4b0 : decide (t107 < 0) = true := decide_eq_true c4
  clear c4
  simp only [Option.some.injEq, Prod.mk.injEq] at H
  obtain ⟨rfl, rfl, rfl, rfl, rfl, rfl, rfl, rfl⟩ := H
  go_enter Tryd.func20, Tryd.ntmps20
  go_wp2_with (first | ((with_reducible refine gate_dst (N := 1) rfl ?_); refine box_event ?hg (N := 1) ?hd (cs := #[.string a0_0, .int .i64 a0_1, .string a0_2, .int .i64 a0_3, .bool a0_4, .bool a0_5, .slice A0_6 l0_6.length c0_6]) (t := 26) ?hr ?_; (case hd => rfl); (case hg => rfl); (case hr => first | (go_simp; done) | (go_simp; rfl)); intro gb105 hg w5 hbox hb; have n0_ := Aside0.mk (below_step (by repeat (first | (with_reducible first | exact HB.out | apply below_alloc | apply pw_below_drewN | apply below_drew1) | exact HB.out)) hb); have n1_ := Aside0.mk (hbox); have n2_ := Aside0.mk ((by rw [hg]; exact (below_size (by repeat (first | (with_reducible first | exact HB.out | apply below_alloc | apply pw_below_drewN | apply below_drew1) | exact HB.out))) : w.heap.size ≤ gb105)); have n3_ := Aside0.mk ((by rw [hg]; exact (below_size (by repeat (first | (with_reducible first | exact HB.out | apply below_alloc | apply pw_below_drewN | apply below_drew1) | exact HB.out))) : w.heap.size ≤ gb105)); clear HB; have HB := n0_; have BK105 := n1_; have GW105 := n2_; have GE105 := n3_; clear n0_ n1_ n2_ n3_; clear hb hbox hg) | ((with_reducible refine gate_dst (N := 2) rfl ?_); refine box_event ?hg (N := 2) ?hd (cs := #[.string (⟨#[]⟩ : ByteArray), .int .i64 0, .string (⟨#[]⟩ : ByteArray), .int .i64 0, .bool false, .bool false, .slice none 0 0]) (t := 26) ?hr ?_; (case hd => rfl); (case hg => rfl); (case hr => first | (go_simp; done) | (go_simp; rfl)); intro gb106 hg w6 hbox hb; have n0_ := Aside0.mk (blk_below (g := gb105) (o := .cells #[.string a0_0, .int .i64 a0_1, .string a0_2, .int .i64 a0_3, .bool a0_4, .bool a0_5, .slice A0_6 l0_6.length c0_6] 26 (0, 0)) (by (with_reducible repeat (first | refine blk_drewN ?_ _ | refine blk_drew ?_ | refine blk_alloc ?_ _)); exact BK105.out) hb); have n1_ := Aside0.mk (below_step (by repeat (first | (with_reducible first | exact HB.out | apply below_alloc | apply pw_below_drewN | apply below_drew1 | refine below_set ?_ GE105.out) | exact HB.out)) hb); have n2_ := Aside0.mk (hbox); have n3_ := Aside0.mk ((by rw [hg]; exact (below_size (by repeat (first | (with_reducible first | exact HB.out | apply below_alloc | apply pw_below_drewN | apply below_drew1 | refine below_set ?_ GE105.out) | exact HB.out))) : w.heap.size ≤ gb106)); have n4_ := Aside0.mk ((by rw [hg]; exact (below_size (by repeat (first | (with_reducible first | exact HB.out | apply below_alloc | apply pw_below_drewN | apply below_drew1 | refine below_set ?_ GE105.out) | exact HB.out))) : w.heap.size ≤ gb106)); have n5_ := Aside0.mk ((by rw [hg]; exact Nat.ne_of_lt (blk_lt (g := gb105) (o := .cells #[.string a0_0, .int .i64 a0_1, .string a0_2, .int .i64 a0_3, .bool a0_4, .bool a0_5, .slice A0_6 l0_6.length c0_6] 26 (0, 0)) (by (with_reducible repeat (first | refine blk_drewN ?_ _ | refine blk_drew ?_ | refine blk_alloc ?_ _)); exact BK105.out)) : gb105 ≠ gb106)); have n6_ := Aside0.mk ((by rw [hg]; exact Nat.ne_of_gt (blk_lt (g := gb105) (o := .cells #[.string a0_0, .int .i64 a0_1, .string a0_2, .int .i64 a0_3, .bool a0_4, .bool a0_5, .slice A0_6 l0_6.length c0_6] 26 (0, 0)) (by (with_reducible repeat (first | refine blk_drewN ?_ _ | refine blk_drew ?_ | refine blk_alloc ?_ _)); exact BK105.out)) : gb106 ≠ gb105)); clear BK105; clear HB; have BK105 := n0_; have HB := n1_; have BK106 := n2_; have GW106 := n3_; have GE106 := n4_; have NB105_106 := n5_; have NB106_105 := n6_; clear n0_ n1_ n2_ n3_ n4_ n5_ n6_; clear hb hbox hg; have hnb7 := NB105_106.out; have hnc7 := NB106_105.out; have hcz8_0 : w6.cell? ⟨gb105, 0, none⟩ = some (.string a0_0) := (blk_cell BK105.out 0).trans rfl; have hcz8_1 : w6.cell? ⟨gb105, 1, none⟩ = some (.int .i64 a0_1) := (blk_cell BK105.out 1).trans rfl; have hcz8_2 : w6.cell? ⟨gb105, 2, none⟩ = some (.string a0_2) := (blk_cell BK105.out 2).trans rfl; have hcz8_3 : w6.cell? ⟨gb105, 3, none⟩ = some (.int .i64 a0_3) := (blk_cell BK105.out 3).trans rfl; have hcz8_4 : w6.cell? ⟨gb105, 4, none⟩ = some (.bool a0_4) := (blk_cell BK105.out 4).trans rfl; have hcz8_5 : w6.cell? ⟨gb105, 5, none⟩ = some (.bool a0_5) := (blk_cell BK105.out 5).trans rfl; have hcz8_6 : w6.cell? ⟨gb105, 6, none⟩ = some (.slice A0_6 l0_6.length c0_6) := (blk_cell BK105.out 6).trans rfl; have hfz8_0 := blk_frozen BK105.out 0; have hfz8_1 := blk_frozen BK105.out 1; have hfz8_2 := blk_frozen BK105.out 2; have hfz8_3 := blk_frozen BK105.out 3; have hfz8_4 := blk_frozen BK105.out 4; have hfz8_5 := blk_frozen BK105.out 5; have hfz8_6 := blk_frozen BK105.out 6) | ((with_reducible refine gate_callee (f := 58) rfl ?_); refine goesL_ (some 6) rfl rfl Tryd.func58 (by kernel_rfl) rfl #[.agg #[.string a0_0, .int .i64 a0_1, .string a0_2, .int .i64 a0_3, .bool a0_4, .bool a0_5, .slice A0_6 l0_6.length c0_6]] rfl (by (try simp only [List.map_toArray, List.map_cons, List.map_nil]); first | done | rfl | (simp only [List.length_drop, List.length_take]; rfl)) ?_; (with_reducible refine (path_next.calls a0_0 a0_1 a0_2 a0_3 a0_4 a0_5 _ _ l0_6 t107 _ ?side1 ?side2 A2.out).mono ?_); (case side1 => repeat (first | exact (Kd.C_below HR0_6.out HB.out) | (with_reducible refine Kd.C_alloc ?_ _) | (with_reducible refine Kd.C_drewN ?_ _) | (with_reducible refine Kd.C_drew ?_))); (case side2 => exact HC0_6.out); rintro e w9 ⟨rfl, hb⟩; refine ⟨_, rfl, ?_⟩; have n0_ := Aside0.mk (blk_below (g := gb105) (o := .cells #[.string a0_0, .int .i64 a0_1, .string a0_2, .int .i64 a0_3, .bool a0_4, .bool a0_5, .slice A0_6 l0_6.length c0_6] 26 (0, 0)) (by (with_reducible repeat (first | refine blk_drewN ?_ _ | refine blk_drew ?_ | refine blk_alloc ?_ _)); exact BK105.out) hb); have n1_ := Aside0.mk (blk_below (g := gb106) (o := .cells #[.string (⟨#[]⟩ : ByteArray), .int .i64 0, .string (⟨#[]⟩ : ByteArray), .int .i64 0, .bool false, .bool false, .slice none 0 0] 26 (0, 0)) (by (with_reducible repeat (first | refine blk_drewN ?_ _ | refine blk_drew ?_ | refine blk_alloc ?_ _)); exact BK106.out) hb); have n2_ := Aside0.mk (below_step (by repeat (first | (with_reducible first | exact HB.out | apply below_alloc | apply pw_below_drewN | apply below_drew1 | refine below_set ?_ GE105.out | refine below_set ?_ GE106.out) | exact HB.out)) hb); clear BK105; clear BK106; clear HB; have BK105 := n0_; have BK106 := n1_; have HB := n2_; clear n0_ n1_ n2_; (try clear hb); (try clear hb2); (try clear hk); (try clear hi); have hcz10_0 : w9.cell? ⟨gb105, 0, none⟩ = some (.string a0_0) := (blk_cell BK105.out 0).trans rfl; have hcz10_1 : w9.cell? ⟨gb105, 1, none⟩ = some (.int .i64 a0_1) := (blk_cell BK105.out 1).trans rfl; have hcz10_2 : w9.cell? ⟨gb105, 2, none⟩ = some (.string a0_2) := (blk_cell BK105.out 2).trans rfl; have hcz10_3 : w9.cell? ⟨gb105, 3, none⟩ = some (.int .i64 a0_3) := (blk_cell BK105.out 3).trans rfl; have hcz10_4 : w9.cell? ⟨gb105, 4, none⟩ = some (.bool a0_4) := (blk_cell BK105.out 4).trans rfl; have hcz10_5 : w9.cell? ⟨gb105, 5, none⟩ = some (.bool a0_5) := (blk_cell BK105.out 5).trans rfl; have hcz10_6 : w9.cell? ⟨gb105, 6, none⟩ = some (.slice A0_6 l0_6.length c0_6) := (blk_cell BK105.out 6).trans rfl; have hfz10_0 := blk_frozen BK105.out 0; have hfz10_1 := blk_frozen BK105.out 1; have hfz10_2 := blk_frozen BK105.out 2; have hfz10_3 := blk_frozen BK105.out 3; have hfz10_4 := blk_frozen BK105.out 4; have hfz10_5 := blk_frozen BK105.out 5; have hfz10_6 := blk_frozen BK105.out 6) | ((with_reducible refine gate_callee (f := 59) rfl ?_); refine goesL_ (some 9) rfl rfl Tryd.func59 (by kernel_rfl) rfl #[.slice A0_6 l0_6.length c0_6] rfl (by (try simp only [List.map_toArray, List.map_cons, List.map_nil]); first | done | rfl | (simp only [List.length_drop, List.length_take]; rfl)) ?_; (with_reducible refine (path_Digi_59.calls _ _ l0_6 t108 _ ?side1 ?side2 A3.out).mono ?_); (case side1 => repeat (first | exact (Kd.C_below HR0_6.out HB.out) | (with_reducible refine Kd.C_alloc ?_ _) | (with_reducible refine Kd.C_drewN ?_ _) | (with_reducible refine Kd.C_drew ?_))); (case side2 => exact HC0_6.out); rintro e w11 ⟨v109, rfl, ho0, hb⟩; refine ⟨_, rfl, ?_⟩; have n0_ := Aside0.mk (Kd.R_lower ho0 (below_size (by repeat (first | (with_reducible first | exact HB.out | apply below_alloc | apply pw_below_drewN | apply below_drew1 | refine below_set ?_ GE105.out | refine below_set ?_ GE106.out) | exact HB.out)))); have n1_ := Aside0.mk (blk_below (g := gb105) (o := .cells #[.string a0_0, .int .i64 a0_1, .string a0_2, .int .i64 a0_3, .bool a0_4, .bool a0_5, .slice A0_6 l0_6.length c0_6] 26 (0, 0)) (by (with_reducible repeat (first | refine blk_drewN ?_ _ | refine blk_drew ?_ | refine blk_alloc ?_ _)); exact BK105.out) hb); have n2_ := Aside0.mk (blk_below (g := gb106) (o := .cells #[.string (⟨#[]⟩ : ByteArray), .int .i64 0, .string (⟨#[]⟩ : ByteArray), .int .i64 0, .bool false, .bool false, .slice none 0 0] 26 (0, 0)) (by (with_reducible repeat (first | refine blk_drewN ?_ _ | refine blk_drew ?_ | refine blk_alloc ?_ _)); exact BK106.out) hb); have n3_ := Aside0.mk (below_step (by repeat (first | (with_reducible first | exact HB.out | apply below_alloc | apply pw_below_drewN | apply below_drew1 | refine below_set ?_ GE105.out | refine below_set ?_ GE106.out) | exact HB.out)) hb); clear BK105; clear BK106; clear HB; have HO110 := n0_; have BK105 := n1_; have BK106 := n2_; have HB := n3_; clear n0_ n1_ n2_ n3_; (try clear hb); (try clear hb2); (try clear hk); (try clear hi); (try clear ho0); obtain ⟨Ao12, co12, eo12⟩ := Kd.R_slice HO110.out; subst eo12; have hcz13_0 : w11.cell? ⟨gb105, 0, none⟩ = some (.string a0_0) := (blk_cell BK105.out 0).trans rfl; have hcz13_1 : w11.cell? ⟨gb105, 1, none⟩ = some (.int .i64 a0_1) := (blk_cell BK105.out 1).trans rfl; have hcz13_2 : w11.cell? ⟨gb105, 2, none⟩ = some (.string a0_2) := (blk_cell BK105.out 2).trans rfl; have hcz13_3 : w11.cell? ⟨gb105, 3, none⟩ = some (.int .i64 a0_3) := (blk_cell BK105.out 3).trans rfl; have hcz13_4 : w11.cell? ⟨gb105, 4, none⟩ = some (.bool a0_4) := (blk_cell BK105.out 4).trans rfl; have hcz13_5 : w11.cell? ⟨gb105, 5, none⟩ = some (.bool a0_5) := (blk_cell BK105.out 5).trans rfl; have hcz13_6 : w11.cell? ⟨gb105, 6, none⟩ = some (.slice A0_6 l0_6.length c0_6) := (blk_cell BK105.out 6).trans rfl; have hfz13_0 := blk_frozen BK105.out 0; have hfz13_1 := blk_frozen BK105.out 1; have hfz13_2 := blk_frozen BK105.out 2; have hfz13_3 := blk_frozen BK105.out 3; have hfz13_4 := blk_frozen BK105.out 4; have hfz13_5 := blk_frozen BK105.out 5; have hfz13_6 := blk_frozen BK105.out 6; have hcz14_0 : w11.cell? ⟨gb106, 0, none⟩ = some (.string (⟨#[]⟩ : ByteArray)) := (blk_cell BK106.out 0).trans rfl; have hcz14_1 : w11.cell? ⟨gb106, 1, none⟩ = some (.int .i64 0) := (blk_cell BK106.out 1).trans rfl; have hcz14_2 : w11.cell? ⟨gb106, 2, none⟩ = some (.string (⟨#[]⟩ : ByteArray)) := (blk_cell BK106.out 2).trans rfl; have hcz14_3 : w11.cell? ⟨gb106, 3, none⟩ = some (.int .i64 0) := (blk_cell BK106.out 3).trans rfl; have hcz14_4 : w11.cell? ⟨gb106, 4, none⟩ = some (.bool false) := (blk_cell BK106.out 4).trans rfl; have hcz14_5 : w11.cell? ⟨gb106, 5, none⟩ = some (.bool false) := (blk_cell BK106.out 5).trans rfl; have hcz14_6 : w11.cell? ⟨gb106, 6, none⟩ = some (.slice none 0 0) := (blk_cell BK106.out 6).trans rfl; have hfz14_0 := blk_frozen BK106.out 0; have hfz14_1 := blk_frozen BK106.out 1; have hfz14_2 := blk_frozen BK106.out 2; have hfz14_3 := blk_frozen BK106.out 3; have hfz14_4 := blk_frozen BK106.out 4; have hfz14_5 := blk_frozen BK106.out 5; have hfz14_6 := blk_frozen BK106.out 6))
  refine bodyPost_ret (results_ct rfl _ _ gb106 26 #[.string a0_0, .int .i64 a0_1, .string a0_2, .int .i64 a0_3, .bool a0_4, .bool a0_5, .slice Ao12 t108.length co12] (0, 0) _ rfl (by (with_reducible repeat (first | refine blk_drewN ?_ _ | refine blk_drew ?_ | refine blk_alloc ?_ _)); refine blk_put (cs := #[.string a0_0, .int .i64 a0_1, .string a0_2, .int .i64 a0_3, .bool a0_4, .bool a0_5, .slice none 0 0]) ?_ 6 _ rfl; (with_reducible repeat (first | refine blk_drewN ?_ _ | refine blk_drew ?_ | refine blk_alloc ?_ _)); refine blk_put (cs := #[.string a0_0, .int .i64 a0_1, .string a0_2, .int .i64 a0_3, .bool a0_4, .bool false, .slice none 0 0]) ?_ 5 _ rfl; (with_reducible repeat (first | refine blk_drewN ?_ _ | refine blk_drew ?_ | refine blk_alloc ?_ _)); refine blk_put (cs := #[.string a0_0, .int .i64 a0_1, .string a0_2, .int .i64 a0_3, .bool false, .bool false, .slice none 0 0]) ?_ 4 _ rfl; (with_reducible repeat (first | refine blk_drewN ?_ _ | refine blk_drew ?_ | refine blk_alloc ?_ _)); refine blk_put (cs := #[.string a0_0, .int .i64 a0_1, .string a0_2, .int .i64 0, .bool false, .bool false, .slice none 0 0]) ?_ 3 _ rfl; (with_reducible repeat (first | refine blk_drewN ?_ _ | refine blk_drew ?_ | refine blk_alloc ?_ _)); refine blk_put (cs := #[.string a0_0, .int .i64 a0_1, .string (⟨#[]⟩ : ByteArray), .int .i64 0, .bool false, .bool false, .slice none 0 0]) ?_ 2 _ rfl; (with_reducible repeat (first | refine blk_drewN ?_ _ | refine blk_drew ?_ | refine blk_alloc ?_ _)); refine blk_put (cs := #[.string a0_0, .int .i64 0, .string (⟨#[]⟩ : ByteArray), .int .i64 0, .bool false, .bool false, .slice none 0 0]) ?_ 1 _ rfl; (with_reducible repeat (first | refine blk_drewN ?_ _ | refine blk_drew ?_ | refine blk_alloc ?_ _)); refine blk_put (cs := #[.string (⟨#[]⟩ : ByteArray), .int .i64 0, .string (⟨#[]⟩ : ByteArray), .int .i64 0, .bool false, .bool false, .slice none 0 0]) ?_ 0 _ rfl; (with_reducible repeat (first | refine blk_drewN ?_ _ | refine blk_drew ?_ | refine blk_alloc ?_ _)); refine blk_far ?_ NB106_105.out _; (with_reducible repeat (first | refine blk_drewN ?_ _ | refine blk_drew ?_ | refine blk_alloc ?_ _)); exact BK106.out) Tryd.underlying26 rfl (by kernel_rfl)) rfl ?_
  exact ⟨_, by first | rfl | (simp [errW_none, errW_some] <;> rfl) | (simp [*, errW_none, errW_some] <;> rfl), by (with_reducible repeat (first | apply Kd.R_alloc | apply Kd.R_drewN | apply Kd.R_drew)); exact Kd.R_mono (Kd.R_far (p := ⟨gb106, 6, none⟩) (Kd.R_far (p := ⟨gb106, 5, none⟩) (Kd.R_far (p := ⟨gb106, 4, none⟩) (Kd.R_far (p := ⟨gb106, 3, none⟩) (Kd.R_far (p := ⟨gb106, 2, none⟩) (Kd.R_far (p := ⟨gb106, 1, none⟩) (Kd.R_far (p := ⟨gb106, 0, none⟩) (Kd.R_far (p := ⟨gb105, 6, none⟩) (Kd.R_types (Kd.R_types HO110.out BK105.out (by decide)) BK106.out (by decide)) (fun _ hk => hk.1.2) (.slice Ao12 t108.length co12)) (fun _ hk => hk.2) (.string a0_0)) (fun _ hk => hk.2) (.int .i64 a0_1)) (fun _ hk => hk.2) (.string a0_2)) (fun _ hk => hk.2) (.int .i64 a0_3)) (fun _ hk => hk.2) (.bool a0_4)) (fun _ hk => hk.2) (.bool a0_5)) (fun _ hk => hk.2) (.slice Ao12 t108.length co12)) (fun _ hk => trivial), by repeat (first | (with_reducible first | exact HB.out | apply below_alloc | apply pw_below_drewN | apply below_drew1 | refine below_set ?_ GE105.out | refine below_set ?_ GE106.out) | exact HB.out)⟩
 ·rw [if_neg c4] at H
  have c4b0 : decide (t107 < 0) = false := decide_eq_false c4
  clear c4
  by_cases c15 : 0 ≤ t107
  ·rw [if_pos c15] at H
   have c15b0 : decide (0 ≤ t107) = true := decide_eq_true c15
   clear c15
   by_cases c16 : t107 < (t108.length : Int)
   ·rw [if_pos c16] at H
    have c16b0 : decide (t107 < (t108.length : Int)) = true := decide_eq_true c16
    clear c16
    obtain ⟨y111, hy111⟩ : ∃ y_ : List (S93), y_ = (t108.set (t107 : Int).toNat (⟨(⟨(rd_T93 t108 t107).f0.f0, (rd_T93 t108 t107).f0.f1⟩ : S23), true⟩ : S93)) := ⟨_, rfl⟩
    replace H : (some (a0_0, a0_1, a0_2, a0_3, a0_4, a0_5, y111, true)) = some (r1, r2, r3, r4, r5, r6, r7, r8) := by first | (rw [hy111]; with_reducible exact H) | (have H2_ := (Option.bind_some _ _).symm.trans H; rw [hy111]; with_reducible exact H2_) | (have H2_ := (Option.bind_some _ _).symm.trans H; with_reducible exact H2_) | with_reducible exact H | (rw [hy111]; exact H) | exact H
    have Ny111 := Aside0.mk hy111
    clear hy111
    simp only [Option.some.injEq, Prod.mk.injEq] at H
    obtain ⟨rfl, rfl, rfl, rfl, rfl, rfl, rfl, rfl⟩ := H
    go_enter Tryd.func20, Tryd.ntmps20
    go_wp2_with (first | ((with_reducible refine gate_dst (N := 1) rfl ?_); refine box_event ?hg (N := 1) ?hd (cs := #[.string a0_0, .int .i64 a0_1, .string a0_2, .int .i64 a0_3, .bool a0_4, .bool a0_5, .slice A0_6 l0_6.length c0_6]) (t := 26) ?hr ?_; (case hd => rfl); (case hg => rfl); (case hr => first | (go_simp; done) | (go_simp; rfl)); intro gb105 hg w18 hbox hb; have n0_ := Aside0.mk (below_step (by repeat (first | (with_reducible first | exact HB.out | apply below_alloc | apply pw_below_drewN | apply below_drew1) | exact HB.out)) hb); have n1_ := Aside0.mk (hbox); have n2_ := Aside0.mk ((by rw [hg]; exact (below_size (by repeat (first | (with_reducible first | exact HB.out | apply below_alloc | apply pw_below_drewN | apply below_drew1) | exact HB.out))) : w.heap.size ≤ gb105)); have n3_ := Aside0.mk ((by rw [hg]; exact (below_size (by repeat (first | (with_reducible first | exact HB.out | apply below_alloc | apply pw_below_drewN | apply below_drew1) | exact HB.out))) : w.heap.size ≤ gb105)); clear HB; have HB := n0_; have BK105 := n1_; have GW105 := n2_; have GE105 := n3_; clear n0_ n1_ n2_ n3_; clear hb hbox hg) | ((with_reducible refine gate_dst (N := 2) rfl ?_); refine box_event ?hg (N := 2) ?hd (cs := #[.string (⟨#[]⟩ : ByteArray), .int .i64 0, .string (⟨#[]⟩ : ByteArray), .int .i64 0, .bool false, .bool false, .slice none 0 0]) (t := 26) ?hr ?_; (case hd => rfl); (case hg => rfl); (case hr => first | (go_simp; done) | (go_simp; rfl)); intro gb106 hg w19 hbox hb; have n0_ := Aside0.mk (blk_below (g := gb105) (o := .cells #[.string a0_0, .int .i64 a0_1, .string a0_2, .int .i64 a0_3, .bool a0_4, .bool a0_5, .slice A0_6 l0_6.length c0_6] 26 (0, 0)) (by (with_reducible repeat (first | refine blk_drewN ?_ _ | refine blk_drew ?_ | refine blk_alloc ?_ _)); exact BK105.out) hb); have n1_ := Aside0.mk (below_step (by repeat (first | (with_reducible first | exact HB.out | apply below_alloc | apply pw_below_drewN | apply below_drew1 | refine below_set ?_ GE105.out) | exact HB.out)) hb); have n2_ := Aside0.mk (hbox); have n3_ := Aside0.mk ((by rw [hg]; exact (below_size (by repeat (first | (with_reducible first | exact HB.out | apply below_alloc | apply pw_below_drewN | apply below_drew1 | refine below_set ?_ GE105.out) | exact HB.out))) : w.heap.size ≤ gb106)); have n4_ := Aside0.mk ((by rw [hg]; exact (below_size (by repeat (first | (with_reducible first | exact HB.out | apply below_alloc | apply pw_below_drewN | apply below_drew1 | refine below_set ?_ GE105.out) | exact HB.out))) : w.heap.size ≤ gb106)); have n5_ := Aside0.mk ((by rw [hg]; exact Nat.ne_of_lt (blk_lt (g := gb105) (o := .cells #[.string a0_0, .int .i64 a0_1, .string a0_2, .int .i64 a0_3, .bool a0_4, .bool a0_5, .slice A0_6 l0_6.length c0_6] 26 (0, 0)) (by (with_reducible repeat (first | refine blk_drewN ?_ _ | refine blk_drew ?_ | refine blk_alloc ?_ _)); exact BK105.out)) : gb105 ≠ gb106)); have n6_ := Aside0.mk ((by rw [hg]; exact Nat.ne_of_gt (blk_lt (g := gb105) (o := .cells #[.string a0_0, .int .i64 a0_1, .string a0_2, .int .i64 a0_3, .bool a0_4, .bool a0_5, .slice A0_6 l0_6.length c0_6] 26 (0, 0)) (by (with_reducible repeat (first | refine blk_drewN ?_ _ | refine blk_drew ?_ | refine blk_alloc ?_ _)); exact BK105.out)) : gb106 ≠ gb105)); clear BK105; clear HB; have BK105 := n0_; have HB := n1_; have BK106 := n2_; have GW106 := n3_; have GE106 := n4_; have NB105_106 := n5_; have NB106_105 := n6_; clear n0_ n1_ n2_ n3_ n4_ n5_ n6_; clear hb hbox hg; have hnb20 := NB105_106.out; have hnc20 := NB106_105.out; have hcz21_0 : w19.cell? ⟨gb105, 0, none⟩ = some (.string a0_0) := (blk_cell BK105.out 0).trans rfl; have hcz21_1 : w19.cell? ⟨gb105, 1, none⟩ = some (.int .i64 a0_1) := (blk_cell BK105.out 1).trans rfl; have hcz21_2 : w19.cell? ⟨gb105, 2, none⟩ = some (.string a0_2) := (blk_cell BK105.out 2).trans rfl; have hcz21_3 : w19.cell? ⟨gb105, 3, none⟩ = some (.int .i64 a0_3) := (blk_cell BK105.out 3).trans rfl; have hcz21_4 : w19.cell? ⟨gb105, 4, none⟩ = some (.bool a0_4) := (blk_cell BK105.out 4).trans rfl; have hcz21_5 : w19.cell? ⟨gb105, 5, none⟩ = some (.bool a0_5) := (blk_cell BK105.out 5).trans rfl; have hcz21_6 : w19.cell? ⟨gb105, 6, none⟩ = some (.slice A0_6 l0_6.length c0_6) := (blk_cell BK105.out 6).trans rfl; have hfz21_0 := blk_frozen BK105.out 0; have hfz21_1 := blk_frozen BK105.out 1; have hfz21_2 := blk_frozen BK105.out 2; have hfz21_3 := blk_frozen BK105.out 3; have hfz21_4 := blk_frozen BK105.out 4; have hfz21_5 := blk_frozen BK105.out 5; have hfz21_6 := blk_frozen BK105.out 6) | ((with_reducible refine gate_callee (f := 58) rfl ?_); refine goesL_ (some 6) rfl rfl Tryd.func58 (by kernel_rfl) rfl #[.agg #[.string a0_0, .int .i64 a0_1, .string a0_2, .int .i64 a0_3, .bool a0_4, .bool a0_5, .slice A0_6 l0_6.length c0_6]] rfl (by (try simp only [List.map_toArray, List.map_cons, List.map_nil]); first | done | rfl | (simp only [List.length_drop, List.length_take]; rfl)) ?_; (with_reducible refine (path_next.calls a0_0 a0_1 a0_2 a0_3 a0_4 a0_5 _ _ l0_6 t107 _ ?side1 ?side2 A2.out).mono ?_); (case side1 => repeat (first | exact (Kd.C_below HR0_6.out HB.out) | (with_reducible refine Kd.C_alloc ?_ _) | (with_reducible refine Kd.C_drewN ?_ _) | (with_reducible refine Kd.C_drew ?_))); (case side2 => exact HC0_6.out); rintro e w22 ⟨rfl, hb⟩; refine ⟨_, rfl, ?_⟩; have n0_ := Aside0.mk (blk_below (g := gb105) (o := .cells #[.string a0_0, .int .i64 a0_1, .string a0_2, .int .i64 a0_3, .bool a0_4, .bool a0_5, .slice A0_6 l0_6.length c0_6] 26 (0, 0)) (by (with_reducible repeat (first | refine blk_drewN ?_ _ | refine blk_drew ?_ | refine blk_alloc ?_ _)); exact BK105.out) hb); have n1_ := Aside0.mk (blk_below (g := gb106) (o := .cells #[.string (⟨#[]⟩ : ByteArray), .int .i64 0, .string (⟨#[]⟩ : ByteArray), .int .i64 0, .bool false, .bool false, .slice none 0 0] 26 (0, 0)) (by (with_reducible repeat (first | refine blk_drewN ?_ _ | refine blk_drew ?_ | refine blk_alloc ?_ _)); exact BK106.out) hb); have n2_ := Aside0.mk (below_step (by repeat (first | (with_reducible first | exact HB.out | apply below_alloc | apply pw_below_drewN | apply below_drew1 | refine below_set ?_ GE105.out | refine below_set ?_ GE106.out) | exact HB.out)) hb); clear BK105; clear BK106; clear HB; have BK105 := n0_; have BK106 := n1_; have HB := n2_; clear n0_ n1_ n2_; (try clear hb); (try clear hb2); (try clear hk); (try clear hi); have hcz23_0 : w22.cell? ⟨gb105, 0, none⟩ = some (.string a0_0) := (blk_cell BK105.out 0).trans rfl; have hcz23_1 : w22.cell? ⟨gb105, 1, none⟩ = some (.int .i64 a0_1) := (blk_cell BK105.out 1).trans rfl; have hcz23_2 : w22.cell? ⟨gb105, 2, none⟩ = some (.string a0_2) := (blk_cell BK105.out 2).trans rfl; have hcz23_3 : w22.cell? ⟨gb105, 3, none⟩ = some (.int .i64 a0_3) := (blk_cell BK105.out 3).trans rfl; have hcz23_4 : w22.cell? ⟨gb105, 4, none⟩ = some (.bool a0_4) := (blk_cell BK105.out 4).trans rfl; have hcz23_5 : w22.cell? ⟨gb105, 5, none⟩ = some (.bool a0_5) := (blk_cell BK105.out 5).trans rfl; have hcz23_6 : w22.cell? ⟨gb105, 6, none⟩ = some (.slice A0_6 l0_6.length c0_6) := (blk_cell BK105.out 6).trans rfl; have hfz23_0 := blk_frozen BK105.out 0; have hfz23_1 := blk_frozen BK105.out 1; have hfz23_2 := blk_frozen BK105.out 2; have hfz23_3 := blk_frozen BK105.out 3; have hfz23_4 := blk_frozen BK105.out 4; have hfz23_5 := blk_frozen BK105.out 5; have hfz23_6 := blk_frozen BK105.out 6) | ((with_reducible refine gate_callee (f := 59) rfl ?_); refine goesL_ (some 9) rfl rfl Tryd.func59 (by kernel_rfl) rfl #[.slice A0_6 l0_6.length c0_6] rfl (by (try simp only [List.map_toArray, List.map_cons, List.map_nil]); first | done | rfl | (simp only [List.length_drop, List.length_take]; rfl)) ?_; (with_reducible refine (path_Digi_59.calls _ _ l0_6 t108 _ ?side1 ?side2 A3.out).mono ?_); (case side1 => repeat (first | exact (Kd.C_below HR0_6.out HB.out) | (with_reducible refine Kd.C_alloc ?_ _) | (with_reducible refine Kd.C_drewN ?_ _) | (with_reducible refine Kd.C_drew ?_))); (case side2 => exact HC0_6.out); rintro e w24 ⟨v109, rfl, ho0, hb⟩; refine ⟨_, rfl, ?_⟩; have n0_ := Aside0.mk (Kd.R_lower ho0 (below_size (by repeat (first | (with_reducible first | exact HB.out | apply below_alloc | apply pw_below_drewN | apply below_drew1 | refine below_set ?_ GE105.out | refine below_set ?_ GE106.out) | exact HB.out)))); have n1_ := Aside0.mk (blk_below (g := gb105) (o := .cells #[.string a0_0, .int .i64 a0_1, .string a0_2, .int .i64 a0_3, .bool a0_4, .bool a0_5, .slice A0_6 l0_6.length c0_6] 26 (0, 0)) (by (with_reducible repeat (first | refine blk_drewN ?_ _ | refine blk_drew ?_ | refine blk_alloc ?_ _)); exact BK105.out) hb); have n2_ := Aside0.mk (blk_below (g := gb106) (o := .cells #[.string (⟨#[]⟩ : ByteArray), .int .i64 0, .string (⟨#[]⟩ : ByteArray), .int .i64 0, .bool false, .bool false, .slice none 0 0] 26 (0, 0)) (by (with_reducible repeat (first | refine blk_drewN ?_ _ | refine blk_drew ?_ | refine blk_alloc ?_ _)); exact BK106.out) hb); have n3_ := Aside0.mk (below_step (by repeat (first | (with_reducible first | exact HB.out | apply below_alloc | apply pw_below_drewN | apply below_drew1 | refine below_set ?_ GE105.out | refine below_set ?_ GE106.out) | exact HB.out)) hb); clear BK105; clear BK106; clear HB; have HO110 := n0_; have BK105 := n1_; have BK106 := n2_; have HB := n3_; clear n0_ n1_ n2_ n3_; (try clear hb); (try clear hb2); (try clear hk); (try clear hi); (try clear ho0); obtain ⟨Ao25, co25, eo25⟩ := Kd.R_slice HO110.out; subst eo25; have hcz26_0 : w24.cell? ⟨gb105, 0, none⟩ = some (.string a0_0) := (blk_cell BK105.out 0).trans rfl; have hcz26_1 : w24.cell? ⟨gb105, 1, none⟩ = some (.int .i64 a0_1) := (blk_cell BK105.out 1).trans rfl; have hcz26_2 : w24.cell? ⟨gb105, 2, none⟩ = some (.string a0_2) := (blk_cell BK105.out 2).trans rfl; have hcz26_3 : w24.cell? ⟨gb105, 3, none⟩ = some (.int .i64 a0_3) := (blk_cell BK105.out 3).trans rfl; have hcz26_4 : w24.cell? ⟨gb105, 4, none⟩ = some (.bool a0_4) := (blk_cell BK105.out 4).trans rfl; have hcz26_5 : w24.cell? ⟨gb105, 5, none⟩ = some (.bool a0_5) := (blk_cell BK105.out 5).trans rfl; have hcz26_6 : w24.cell? ⟨gb105, 6, none⟩ = some (.slice A0_6 l0_6.length c0_6) := (blk_cell BK105.out 6).trans rfl; have hfz26_0 := blk_frozen BK105.out 0; have hfz26_1 := blk_frozen BK105.out 1; have hfz26_2 := blk_frozen BK105.out 2; have hfz26_3 := blk_frozen BK105.out 3; have hfz26_4 := blk_frozen BK105.out 4; have hfz26_5 := blk_frozen BK105.out 5; have hfz26_6 := blk_frozen BK105.out 6) | ((with_reducible refine gate_store (t := 24) (p := 10) rfl ?_); refine store_event (t := 24) (p := 10) (v := ?vo_w27) (w1 := (w24.setCell ⟨gb105, 6, none⟩ (.slice Ao25 t108.length co25))) ?hg ?ho ?hn ?hr ?_; (case ho => rfl); (case hg => rfl); (case hn => rfl); (case hr => first | (go_simp; done) | (go_simp; rfl)); intro w27 hw; have n0_ : Aside0 (Kd.R k93 93 w27 w.heap.size (fun _ => True) (.slice Ao25 t108.length co25) t108) := ⟨(by rw [hw]; exact (by (with_reducible repeat (first | apply Kd.R_alloc | apply Kd.R_drewN | apply Kd.R_drew)); exact Kd.R_mono (Kd.R_far (p := ⟨gb105, 6, none⟩) (Kd.R_types HO110.out BK105.out (by decide)) (fun _ hk => hk.2) (.slice Ao25 t108.length co25)) (fun _ hk => trivial)))⟩; have n1_ : Aside0 (w27.heap[gb105]? = some (.cells #[.string a0_0, .int .i64 a0_1, .string a0_2, .int .i64 a0_3, .bool a0_4, .bool a0_5, .slice Ao25 t108.length co25] 26 (0, 0))) := ⟨(by rw [hw]; exact (by (with_reducible repeat (first | refine blk_drewN ?_ _ | refine blk_drew ?_ | refine blk_alloc ?_ _)); refine blk_put (cs := #[.string a0_0, .int .i64 a0_1, .string a0_2, .int .i64 a0_3, .bool a0_4, .bool a0_5, .slice A0_6 l0_6.length c0_6]) ?_ 6 _ rfl; (with_reducible repeat (first | refine blk_drewN ?_ _ | refine blk_drew ?_ | refine blk_alloc ?_ _)); exact BK105.out))⟩; have n2_ : Aside0 (w27.heap[gb106]? = some (.cells #[.string (⟨#[]⟩ : ByteArray), .int .i64 0, .string (⟨#[]⟩ : ByteArray), .int .i64 0, .bool false, .bool false, .slice none 0 0] 26 (0, 0))) := ⟨(by rw [hw]; exact (by (with_reducible repeat (first | refine blk_drewN ?_ _ | refine blk_drew ?_ | refine blk_alloc ?_ _)); refine blk_far ?_ NB106_105.out _; (with_reducible repeat (first | refine blk_drewN ?_ _ | refine blk_drew ?_ | refine blk_alloc ?_ _)); exact BK106.out))⟩; have n3_ : Aside0 (Below w.heap.size w w27) := ⟨(by rw [hw]; exact (by repeat (first | (with_reducible first | exact HB.out | apply below_alloc | apply pw_below_drewN | apply below_drew1 | refine below_set ?_ GE105.out | refine below_set ?_ GE106.out) | exact HB.out)))⟩; clear hw; clear HO110; clear BK105; clear BK106; clear HB; have HO110 := n0_; have BK105 := n1_; have BK106 := n2_; have HB := n3_; clear n0_ n1_ n2_ n3_; have hcz28_0 : w27.cell? ⟨gb105, 0, none⟩ = some (.string a0_0) := (blk_cell BK105.out 0).trans rfl; have hcz28_1 : w27.cell? ⟨gb105, 1, none⟩ = some (.int .i64 a0_1) := (blk_cell BK105.out 1).trans rfl; have hcz28_2 : w27.cell? ⟨gb105, 2, none⟩ = some (.string a0_2) := (blk_cell BK105.out 2).trans rfl; have hcz28_3 : w27.cell? ⟨gb105, 3, none⟩ = some (.int .i64 a0_3) := (blk_cell BK105.out 3).trans rfl; have hcz28_4 : w27.cell? ⟨gb105, 4, none⟩ = some (.bool a0_4) := (blk_cell BK105.out 4).trans rfl; have hcz28_5 : w27.cell? ⟨gb105, 5, none⟩ = some (.bool a0_5) := (blk_cell BK105.out 5).trans rfl; have hcz28_6 : w27.cell? ⟨gb105, 6, none⟩ = some (.slice Ao25 t108.length co25) := (blk_cell BK105.out 6).trans rfl; have hfz28_0 := blk_frozen BK105.out 0; have hfz28_1 := blk_frozen BK105.out 1; have hfz28_2 := blk_frozen BK105.out 2; have hfz28_3 := blk_frozen BK105.out 3; have hfz28_4 := blk_frozen BK105.out 4; have hfz28_5 := blk_frozen BK105.out 5; have hfz28_6 := blk_frozen BK105.out 6; have p17 : 0 ≤ (t107 : Int) := of_decide_eq_true (by first | (with_reducible assumption) | assumption); have q17 : (t107 : Int) < ((t108.length : Int) : Int) := of_decide_eq_true (by first | (with_reducible assumption) | assumption); obtain ⟨go17, co17, eo17, gb17, gl17, cl17, HG17⟩ := Kd.R_form HO110.out (by omega); (first | cases eo17 | (injection eo17 with ea_ en_ ec_; (first | subst ea_ | (injection ea_ with ea_; subst ea_)); subst ec_; clear en_)); have GB17 := Aside0.mk gb17; have GG17 := Aside0.mk HG17; clear gb17 gl17 HG17; obtain ⟨ce17, hcl17, hM17, hcc17, hfr17⟩ := Kd.R_elem HO110.out z93 (t107 : Int) p17 q17; obtain rfl := k93_openM hM17; have hx17_0 : w27.cell? ⟨go17, (t107 : Int).toNat * 3, none⟩ = some (.string ((rd_T93 t108 t107).f0.f0)) := hcc17 0 _ rfl; have hx17_1 : w27.cell? ⟨go17, (t107 : Int).toNat * 3 + 1, none⟩ = some (.int .i64 ((rd_T93 t108 t107).f0.f1)) := hcc17 1 _ rfl; have hx17_2 : w27.cell? ⟨go17, (t107 : Int).toNat * 3 + 2, none⟩ = some (.bool ((rd_T93 t108 t107).f1)) := hcc17 2 _ rfl; have hf17_0 : w27.frozen? ⟨go17, (t107 : Int).toNat * 3, none⟩ = false := hfr17 0; have hf17_1 : w27.frozen? ⟨go17, (t107 : Int).toNat * 3 + 1, none⟩ = false := hfr17 1; have hf17_2 : w27.frozen? ⟨go17, (t107 : Int).toNat * 3 + 2, none⟩ = false := hfr17 2; clear hcl17 hcc17 hfr17 hM17; replace p17 := eq_true p17; replace q17 := eq_true q17; have HX29 := Aside0.mk (show Kd.R k93 93 w27 w.heap.size (fun _ => True) (.slice (some ⟨go17, 0, none⟩) t108.length co25) t108 from (by (with_reducible repeat (first | apply Kd.R_alloc | apply Kd.R_drewN | apply Kd.R_drew)); exact HO110.out)); obtain ⟨ce29, hcl29, hM29, hcc29, hfr29⟩ := Kd.R_elem HX29.out z93 (t107 : Int) (of_decide_eq_true (by first | (with_reducible assumption) | assumption)) (by have h_ : (t107 : Int) < ((t108.length : Int) : Int) := of_decide_eq_true (by first | (with_reducible assumption) | assumption); first | exact h_ | (have e_ := (Kd.R_reads' HO110.out).1; omega) | simpa using h_); obtain rfl := k93_openM hM29; have HP29 := Kd.R_seg HX29.out (t107 : Int) (of_decide_eq_true (by first | (with_reducible assumption) | assumption)) (by have h_ : (t107 : Int) < ((t108.length : Int) : Int) := of_decide_eq_true (by first | (with_reducible assumption) | assumption); first | exact h_ | (have e_ := (Kd.R_reads' HO110.out).1; omega) | simpa using h_) (seg := [.bool true]) (j := 2) hcl29 hcc29 (show 3 ≤ 3 from by decide) (x' := (⟨(⟨(rd_T93 t108 t107).f0.f0, (rd_T93 t108 t107).f0.f1⟩ : S23), true⟩ : S93)) (k93_mkM _ _ _ (⟨(⟨(rd_T93 t108 t107).f0.f0, (rd_T93 t108 t107).f0.f1⟩ : S23), true⟩ : S93) ) (fun _ hk => hk); have hx29_2 := hcc29 2 _ rfl; (try simp only [show (k93).sz = 3 from rfl, Nat.mul_one, Nat.add_zero] at hx29_2); have hf29_2 := hfr29 2; (try simp only [show (k93).sz = 3 from rfl, Nat.mul_one, Nat.add_zero] at hf29_2); clear hcl29 hcc29 hfr29 hM29) | ((with_reducible refine gate_store (t := 4) (p := 18) rfl ?_); refine store_event (t := 4) (p := 18) (v := ?vo_w30) (w1 := (w27.setCell ⟨go17, (t107 : Int).toNat * 3 + 2, none⟩ (.bool true))) ?hg ?ho ?hn ?hr ?_; (case ho => rfl); (case hg => rfl); (case hn => rfl); (case hr => first | (go_simp; done) | (go_simp; rfl)); intro w30 hw; have hg : w27.grownBy w30 (some go17) := (by rw [hw]; exact HP29.2); have hp_ : Kd.R k93 93 w30 w.heap.size (fun _ => True) (.slice (some ⟨go17, 0, none⟩) t108.length co25) y111 := (by rw [hw, Ny111.out]; exact HP29.1); clear HP29; have n0_ := Aside0.mk (blk_grown (g := gb105) (o := .cells #[.string a0_0, .int .i64 a0_1, .string a0_2, .int .i64 a0_3, .bool a0_4, .bool a0_5, .slice (some ⟨go17, 0, none⟩) t108.length co25] 26 (0, 0)) (by (with_reducible repeat (first | refine blk_drewN ?_ _ | refine blk_drew ?_ | refine blk_alloc ?_ _)); exact BK105.out) hg (Kd.R_ne HO110.out BK105.out (by decide))); have n1_ := Aside0.mk (blk_grown (g := gb106) (o := .cells #[.string (⟨#[]⟩ : ByteArray), .int .i64 0, .string (⟨#[]⟩ : ByteArray), .int .i64 0, .bool false, .bool false, .slice none 0 0] 26 (0, 0)) (by (with_reducible repeat (first | refine blk_drewN ?_ _ | refine blk_drew ?_ | refine blk_alloc ?_ _)); exact BK106.out) hg (Kd.R_ne HO110.out BK106.out (by decide))); have n2_ := Aside0.mk (hp_); have n3_ := Aside0.mk ((by rw [hw]; exact below_set (HB.out) GB17.out : Below w.heap.size w w30)); clear BK105; clear BK106; clear HO110; clear HB; have BK105 := n0_; have BK106 := n1_; have HO110 := n2_; have HB := n3_; clear n0_ n1_ n2_ n3_; clear hg hw hp_; have hcz31_0 : w30.cell? ⟨gb105, 0, none⟩ = some (.string a0_0) := (blk_cell BK105.out 0).trans rfl; have hcz31_1 : w30.cell? ⟨gb105, 1, none⟩ = some (.int .i64 a0_1) := (blk_cell BK105.out 1).trans rfl; have hcz31_2 : w30.cell? ⟨gb105, 2, none⟩ = some (.string a0_2) := (blk_cell BK105.out 2).trans rfl; have hcz31_3 : w30.cell? ⟨gb105, 3, none⟩ = some (.int .i64 a0_3) := (blk_cell BK105.out 3).trans rfl; have hcz31_4 : w30.cell? ⟨gb105, 4, none⟩ = some (.bool a0_4) := (blk_cell BK105.out 4).trans rfl; have hcz31_5 : w30.cell? ⟨gb105, 5, none⟩ = some (.bool a0_5) := (blk_cell BK105.out 5).trans rfl; have hcz31_6 : w30.cell? ⟨gb105, 6, none⟩ = some (.slice (some ⟨go17, 0, none⟩) t108.length co25) := (blk_cell BK105.out 6).trans rfl; have hfz31_0 := blk_frozen BK105.out 0; have hfz31_1 := blk_frozen BK105.out 1; have hfz31_2 := blk_frozen BK105.out 2; have hfz31_3 := blk_frozen BK105.out 3; have hfz31_4 := blk_frozen BK105.out 4; have hfz31_5 := blk_frozen BK105.out 5; have hfz31_6 := blk_frozen BK105.out 6; have hcz32_0 : w30.cell? ⟨gb106, 0, none⟩ = some (.string (⟨#[]⟩ : ByteArray)) := (blk_cell BK106.out 0).trans rfl; have hcz32_1 : w30.cell? ⟨gb106, 1, none⟩ = some (.int .i64 0) := (blk_cell BK106.out 1).trans rfl; have hcz32_2 : w30.cell? ⟨gb106, 2, none⟩ = some (.string (⟨#[]⟩ : ByteArray)) := (blk_cell BK106.out 2).trans rfl; have hcz32_3 : w30.cell? ⟨gb106, 3, none⟩ = some (.int .i64 0) := (blk_cell BK106.out 3).trans rfl; have hcz32_4 : w30.cell? ⟨gb106, 4, none⟩ = some (.bool false) := (blk_cell BK106.out 4).trans rfl; have hcz32_5 : w30.cell? ⟨gb106, 5, none⟩ = some (.bool false) := (blk_cell BK106.out 5).trans rfl; have hcz32_6 : w30.cell? ⟨gb106, 6, none⟩ = some (.slice none 0 0) := (blk_cell BK106.out 6).trans rfl; have hfz32_0 := blk_frozen BK106.out 0; have hfz32_1 := blk_frozen BK106.out 1; have hfz32_2 := blk_frozen BK106.out 2; have hfz32_3 := blk_frozen BK106.out 3; have hfz32_4 := blk_frozen BK106.out 4; have hfz32_5 := blk_frozen BK106.out 5; have hfz32_6 := blk_frozen BK106.out 6))
    refine bodyPost_ret (results_ct rfl _ _ gb106 26 #[.string a0_0, .int .i64 a0_1, .string a0_2, .int .i64 a0_3, .bool a0_4, .bool a0_5, .slice (some ⟨go17, 0, none⟩) t108.length co25] (0, 0) _ rfl (by (with_reducible repeat (first | refine blk_drewN ?_ _ | refine blk_drew ?_ | refine blk_alloc ?_ _)); refine blk_put (cs := #[.string a0_0, .int .i64 a0_1, .string a0_2, .int .i64 a0_3, .bool a0_4, .bool a0_5, .slice none 0 0]) ?_ 6 _ rfl; (with_reducible repeat (first | refine blk_drewN ?_ _ | refine blk_drew ?_ | refine blk_alloc ?_ _)); refine blk_put (cs := #[.string a0_0, .int .i64 a0_1, .string a0_2, .int .i64 a0_3, .bool a0_4, .bool false, .slice none 0 0]) ?_ 5 _ rfl; (with_reducible repeat (first | refine blk_drewN ?_ _ | refine blk_drew ?_ | refine blk_alloc ?_ _)); refine blk_put (cs := #[.string a0_0, .int .i64 a0_1, .string a0_2, .int .i64 a0_3, .bool false, .bool false, .slice none 0 0]) ?_ 4 _ rfl; (with_reducible repeat (first | refine blk_drewN ?_ _ | refine blk_drew ?_ | refine blk_alloc ?_ _)); refine blk_put (cs := #[.string a0_0, .int .i64 a0_1, .string a0_2, .int .i64 0, .bool false, .bool false, .slice none 0 0]) ?_ 3 _ rfl; (with_reducible repeat (first | refine blk_drewN ?_ _ | refine blk_drew ?_ | refine blk_alloc ?_ _)); refine blk_put (cs := #[.string a0_0, .int .i64 a0_1, .string (⟨#[]⟩ : ByteArray), .int .i64 0, .bool false, .bool false, .slice none 0 0]) ?_ 2 _ rfl; (with_reducible repeat (first | refine blk_drewN ?_ _ | refine blk_drew ?_ | refine blk_alloc ?_ _)); refine blk_put (cs := #[.string a0_0, .int .i64 0, .string (⟨#[]⟩ : ByteArray), .int .i64 0, .bool false, .bool false, .slice none 0 0]) ?_ 1 _ rfl; (with_reducible repeat (first | refine blk_drewN ?_ _ | refine blk_drew ?_ | refine blk_alloc ?_ _)); refine blk_put (cs := #[.string (⟨#[]⟩ : ByteArray), .int .i64 0, .string (⟨#[]⟩ : ByteArray), .int .i64 0, .bool false, .bool false, .slice none 0 0]) ?_ 0 _ rfl; (with_reducible repeat (first | refine blk_drewN ?_ _ | refine blk_drew ?_ | refine blk_alloc ?_ _)); exact BK106.out) Tryd.underlying26 rfl (by kernel_rfl)) rfl ?_
    exact ⟨_, by first | rfl | (simp [errW_none, errW_some] <;> rfl) | (simp [*, errW_none, errW_some] <;> rfl), by (with_reducible repeat (first | apply Kd.R_alloc | apply Kd.R_drewN | apply Kd.R_drew)); exact Kd.R_mono (Kd.R_far (p := ⟨gb106, 6, none⟩) (Kd.R_far (p := ⟨gb106, 5, none⟩) (Kd.R_far (p := ⟨gb106, 4, none⟩) (Kd.R_far (p := ⟨gb106, 3, none⟩) (Kd.R_far (p := ⟨gb106, 2, none⟩) (Kd.R_far (p := ⟨gb106, 1, none⟩) (Kd.R_far (p := ⟨gb106, 0, none⟩) (Kd.R_types HO110.out BK106.out (by decide)) (fun _ hk => hk.2) (.string a0_0)) (fun _ hk => hk.2) (.int .i64 a0_1)) (fun _ hk => hk.2) (.string a0_2)) (fun _ hk => hk.2) (.int .i64 a0_3)) (fun _ hk => hk.2) (.bool a0_4)) (fun _ hk => hk.2) (.bool a0_5)) (fun _ hk => hk.2) (.slice (some ⟨go17, 0, none⟩) t108.length co25)) (fun _ hk => trivial), by repeat (first | (with_reducible first | exact HB.out | apply below_alloc | apply pw_below_drewN | apply below_drew1 | refine below_set ?_ GE105.out | refine below_set ?_ GE106.out) | exact HB.out)⟩
   ·rw [if_neg c16] at H
    exact absurd H (by simp)
  ·rw [if_neg c15] at H
   exact absurd H (by simp)

end Go.Proofs.YtpmieapgbdbabaaDoor.QAll
end

section
/- squelchlaw05.awake, walked by hand: the document's example comes out as it says. -/
set_option linter.unusedVariables false
set_option linter.unusedSimpArgs false
namespace Go.Proofs.YtpmieapgbdbabaaDoor.QAll
open Go.RowKit Go.Shelf Go.Proofs.YtpmieapgbdbabaaDoorW.PrintWords Go.Proofs.YtpmieapgbdbabaaDoorW.PrintLast Go.Proofs.YtpmieapgbdbabaaDoorW.PrintMore

def exC : S93 := ⟨⟨⟨#[67]⟩, 0⟩, false⟩
def exD : S93 := ⟨⟨⟨#[68]⟩, 0⟩, false⟩
def exC1 : S93 := ⟨⟨⟨#[67]⟩, 0⟩, true⟩
theorem via_ex : path_Via.f 10 ⟨#[65]⟩ 0 ⟨#[66]⟩ 0 true [⟨⟨#[67]⟩, 0⟩, ⟨⟨#[68]⟩, 0⟩] = some (⟨#[66]⟩, 0, ⟨#[65]⟩, 0, true, false, [exC, exD], 0) := by kernel_rfl
theorem sent_ex : path_Sent.f ⟨#[66]⟩ 0 ⟨#[65]⟩ 0 true false [exC, exD] = some (⟨#[66]⟩, 0, ⟨#[65]⟩, 0, true, false, [exC1, exD], true) := by kernel_rfl
theorem next_ex : path_Next.f ⟨#[66]⟩ 0 ⟨#[65]⟩ 0 true false [exC1, exD] = some (⟨#[68]⟩, 0, true) := by kernel_rfl
theorem text_ex : path_Text.f ⟨#[66]⟩ 0 ⟨#[65]⟩ 0 true false [exC1, exD] = some ⟨#[65, 62, 66, 44, 67, 42, 44, 68]⟩ := by kernel_rfl
theorem command_ex : path_Command.f ⟨#[66]⟩ 0 ⟨#[65]⟩ 0 true false [exC1, exD] = some true := by kernel_rfl
def squelchlaw05_awake.f : Option Bool := some true
set_option maxHeartbeats 1000000 in
set_option maxRecDepth 100000 in
theorem squelchlaw05_awake.calls (r : Bool) (w : World) (h : squelchlaw05_awake.f = some r) :
    Calls Tryd.prog 15 #[] w fun e w' => e = .returned (.bool r) ∧ Below w.heap.size w w' := by
  obtain rfl := Option.some.inj h
  have hu26 := Tryd.underlying26
  have hu23 := Tryd.underlying23
  have HB := Aside0.mk (Below.refl w.heap.size w)
  go_enter Tryd.func15, Tryd.ntmps15
  go_wp2_with (fail)
  generalize hW4 : (((w.alloc (Obj.cells #[Value.string ⟨#[65]⟩, Value.int IntKind.i64 0] 23)).alloc (Obj.cells #[Value.string ⟨#[66]⟩, Value.int IntKind.i64 0] 23)).alloc (Obj.cells #[Value.string ⟨#[67]⟩, Value.int IntKind.i64 0] 23)).alloc (Obj.cells #[Value.string ⟨#[68]⟩, Value.int IntKind.i64 0] 23) = W4
  have hs4 : W4.heap.size = w.heap.size + 1 + 1 + 1 + 1 := by rw [← hW4]; simp
  have HD4 := Aside0.mk (show W4.heap[w.heap.size + 1 + 1 + 1]? = some (.cells #[.string ⟨#[68]⟩, .int .i64 0] 23 (0, 0)) by
    rw [← hW4]
    have := heap_alloc_new (((w.alloc (Obj.cells #[Value.string ⟨#[65]⟩, Value.int IntKind.i64 0] 23)).alloc (Obj.cells #[Value.string ⟨#[66]⟩, Value.int IntKind.i64 0] 23)).alloc (Obj.cells #[Value.string ⟨#[67]⟩, Value.int IntKind.i64 0] 23)) (Obj.cells #[Value.string ⟨#[68]⟩, Value.int IntKind.i64 0] 23)
    simpa using this)
  have HB4 := Aside0.mk (show Below w.heap.size w W4 by
    rw [← hW4]
    exact ((((Below.refl _ _).alloc (Nat.le_refl _) _).alloc (by simp) _).alloc (by simp; omega) _).alloc (by simp; omega) _)
  rw [← hs4]
  clear hW4
  have hR : Kd.R k23 23 (W4.alloc (.cells #[.string ⟨#[67]⟩, .int .i64 0, .string ⟨#[68]⟩, .int .i64 0] 23)) W4.heap.size (fun _ => True) (.slice (some ⟨W4.heap.size, 0, none⟩) 2 2) [⟨⟨#[67]⟩, 0⟩, ⟨⟨#[68]⟩, 0⟩] :=
    ⟨fun _ _ => trivial, OwnRow.lit W4 W4.heap.size (inner := [.string ⟨#[67]⟩, .int .i64 0, .string ⟨#[68]⟩, .int .i64 0]) (Reps.c2 (k23_mkM _ _ _ (⟨⟨#[67]⟩, 0⟩ : S23)) (Reps.c2 (k23_mkM _ _ _ (⟨⟨#[68]⟩, 0⟩ : S23)) (Reps.none _ _))) (Nat.le_refl _) (by decide)⟩
  obtain ⟨A, c, hv, hle, hC⟩ := Kd.R_reads hR
  cases hv
  refine (path_Via.calls 10 ⟨#[65]⟩ 0 ⟨#[66]⟩ 0 true (some ⟨W4.heap.size, 0, none⟩) 2 [⟨⟨#[67]⟩, 0⟩, ⟨⟨#[68]⟩, 0⟩] _ _ _ _ _ _ _ _ _ hC hle via_ex).mono ?_
  rintro e w5 ⟨v6, rfl, ho, hb⟩
  obtain ⟨A1, c1, rfl, hle1, hC1⟩ := Kd.R_reads ho
  have HC1 := Aside0.mk hC1
  have hz4 := hs4
  have HD5 := Aside0.mk ((hb.block (w.heap.size + 1 + 1 + 1) (by simp; omega)).trans ((Below.heap_alloc W4 _ _ (by omega)).trans HD4.out))
  have HB5 := Aside0.mk (below_then (HB4.out.alloc HB4.out.size _) (by simp; omega) hb)
  have hz5 : w.heap.size + 5 ≤ w5.heap.size := by have := hb.size; simp at this; omega
  clear hb ho hC1 hC hR HD4 HB4 hle HB
  go_wp2_with (fail)
  refine (path_Sent.calls ⟨#[66]⟩ 0 ⟨#[65]⟩ 0 true false A1 c1 [exC, exD] _ _ _ _ _ _ _ _ _ (Kd.C_below HC1.out ((Below.refl _ _).alloc (Nat.le_refl _) _)) hle1 sent_ex).mono ?_
  rintro e w6 ⟨v6, rfl, ho, hb⟩
  obtain ⟨A2, c2, rfl, hle2, hC2⟩ := Kd.R_reads ho
  have HC2 := Aside0.mk hC2
  have HD6 := Aside0.mk ((hb.block (w.heap.size + 1 + 1 + 1) (by simp; omega)).trans ((Below.heap_alloc w5 _ _ (by omega)).trans HD5.out))
  have HB6 := Aside0.mk (below_then (HB5.out.alloc HB5.out.size _) (by simp; omega) hb)
  have hz6 : w5.heap.size + 1 ≤ w6.heap.size := by have := hb.size; simpa using this
  clear hb ho hC2 HD5 HB5 HC1
  go_wp2_with (fail)
  refine (path_Next.calls ⟨#[66]⟩ 0 ⟨#[65]⟩ 0 true false A2 c2 [exC1, exD] _ _ _ _ (Kd.C_below HC2.out ((Below.refl _ _).alloc (Nat.le_refl _) _)) hle2 next_ex).mono ?_
  rintro e w7 ⟨rfl, hb⟩
  have HD7 := Aside0.mk ((hb.block (w.heap.size + 1 + 1 + 1) (by simp; omega)).trans ((Below.heap_alloc w6 _ _ (by omega)).trans HD6.out))
  have HQ7 := Aside0.mk ((hb.block w6.heap.size (by simp)).trans (heap_alloc_new w6 _))
  have HB7 := Aside0.mk (below_then (HB6.out.alloc HB6.out.size _) (by simp; omega) hb)
  have HC7 := Aside0.mk (Kd.C_below (Kd.C_below HC2.out ((Below.refl _ _).alloc (Nat.le_refl _) _)) hb)
  have hz7 : w6.heap.size + 1 ≤ w7.heap.size := by have := hb.size; simpa using this
  clear hb HD6 HB6 HC2
  have HQ8 := Aside0.mk ((Below.heap_alloc w7 (Obj.cells #[Value.string ⟨#[68]⟩, Value.int IntKind.i64 0] 23) w6.heap.size (by omega)).trans HQ7.out)
  have HD8 := Aside0.mk ((Below.heap_alloc w7 (Obj.cells #[Value.string ⟨#[68]⟩, Value.int IntKind.i64 0] 23) (w.heap.size + 1 + 1 + 1) (by omega)).trans HD7.out)
  have q0 := blk_cell HQ8.out 0
  have q1 := blk_cell HQ8.out 1
  have q2 := blk_cell HQ8.out 2
  have q3 := blk_cell HQ8.out 3
  have q4 := blk_cell HQ8.out 4
  have q5 := blk_cell HQ8.out 5
  have q6 := blk_cell HQ8.out 6
  replace q0 : (w7.alloc (Obj.cells #[Value.string ⟨#[68]⟩, Value.int IntKind.i64 0] 23)).cell? ⟨w6.heap.size, 0, none⟩ = some (.string ⟨#[66]⟩) := q0
  replace q1 : (w7.alloc (Obj.cells #[Value.string ⟨#[68]⟩, Value.int IntKind.i64 0] 23)).cell? ⟨w6.heap.size, 1, none⟩ = some (.int .i64 0) := q1
  replace q2 : (w7.alloc (Obj.cells #[Value.string ⟨#[68]⟩, Value.int IntKind.i64 0] 23)).cell? ⟨w6.heap.size, 2, none⟩ = some (.string ⟨#[65]⟩) := q2
  replace q3 : (w7.alloc (Obj.cells #[Value.string ⟨#[68]⟩, Value.int IntKind.i64 0] 23)).cell? ⟨w6.heap.size, 3, none⟩ = some (.int .i64 0) := q3
  replace q4 : (w7.alloc (Obj.cells #[Value.string ⟨#[68]⟩, Value.int IntKind.i64 0] 23)).cell? ⟨w6.heap.size, 4, none⟩ = some (.bool true) := q4
  replace q5 : (w7.alloc (Obj.cells #[Value.string ⟨#[68]⟩, Value.int IntKind.i64 0] 23)).cell? ⟨w6.heap.size, 5, none⟩ = some (.bool false) := q5
  replace q6 : (w7.alloc (Obj.cells #[Value.string ⟨#[68]⟩, Value.int IntKind.i64 0] 23)).cell? ⟨w6.heap.size, 6, none⟩ = some (.slice A2 2 c2) := q6
  have d0 : (w7.alloc (Obj.cells #[Value.string ⟨#[68]⟩, Value.int IntKind.i64 0] 23)).cell? ⟨w.heap.size + 1 + 1 + 1, 0, none⟩ = some (.string ⟨#[68]⟩) := blk_cell HD8.out 0
  have d1 : (w7.alloc (Obj.cells #[Value.string ⟨#[68]⟩, Value.int IntKind.i64 0] 23)).cell? ⟨w.heap.size + 1 + 1 + 1, 1, none⟩ = some (.int .i64 0) := blk_cell HD8.out 1
  go_wp2_with (fail)
  refine (path_Text.calls ⟨#[66]⟩ 0 ⟨#[65]⟩ 0 true false A2 c2 [exC1, exD] _ _ (Kd.C_below HC7.out ((Below.refl _ _).alloc (Nat.le_refl _) _)) hle2 text_ex).mono ?_
  rintro e w9 ⟨rfl, hb⟩
  have HQ9 := Aside0.mk ((hb.block w6.heap.size (by simp; omega)).trans HQ8.out)
  have HD9 := Aside0.mk ((hb.block (w.heap.size + 1 + 1 + 1) (by simp; omega)).trans HD8.out)
  have HN9 := Aside0.mk ((hb.block w7.heap.size (by simp)).trans (heap_alloc_new w7 _))
  have HB9 := Aside0.mk (below_then (HB7.out.alloc HB7.out.size _) (by simp; omega) hb)
  have HC9 := Aside0.mk (Kd.C_below (Kd.C_below HC7.out ((Below.refl _ _).alloc (Nat.le_refl _) _)) hb)
  clear hb q0 q1 q2 q3 q4 q5 q6 d0 d1
  have q0 := blk_cell HQ9.out 0
  have q1 := blk_cell HQ9.out 1
  have q2 := blk_cell HQ9.out 2
  have q3 := blk_cell HQ9.out 3
  have q4 := blk_cell HQ9.out 4
  have q5 := blk_cell HQ9.out 5
  have q6 := blk_cell HQ9.out 6
  replace q0 : w9.cell? ⟨w6.heap.size, 0, none⟩ = some (.string ⟨#[66]⟩) := q0
  replace q1 : w9.cell? ⟨w6.heap.size, 1, none⟩ = some (.int .i64 0) := q1
  replace q2 : w9.cell? ⟨w6.heap.size, 2, none⟩ = some (.string ⟨#[65]⟩) := q2
  replace q3 : w9.cell? ⟨w6.heap.size, 3, none⟩ = some (.int .i64 0) := q3
  replace q4 : w9.cell? ⟨w6.heap.size, 4, none⟩ = some (.bool true) := q4
  replace q5 : w9.cell? ⟨w6.heap.size, 5, none⟩ = some (.bool false) := q5
  replace q6 : w9.cell? ⟨w6.heap.size, 6, none⟩ = some (.slice A2 2 c2) := q6
  have d0 : w9.cell? ⟨w.heap.size + 1 + 1 + 1, 0, none⟩ = some (.string ⟨#[68]⟩) := blk_cell HD9.out 0
  have d1 : w9.cell? ⟨w.heap.size + 1 + 1 + 1, 1, none⟩ = some (.int .i64 0) := blk_cell HD9.out 1
  have n0 : w9.cell? ⟨w7.heap.size, 0, none⟩ = some (.string ⟨#[68]⟩) := blk_cell HN9.out 0
  have n1 : w9.cell? ⟨w7.heap.size, 1, none⟩ = some (.int .i64 0) := blk_cell HN9.out 1
  go_wp2_with (fail)
  refine (path_Command.calls ⟨#[66]⟩ 0 ⟨#[65]⟩ 0 true false A2 c2 [exC1, exD] _ _ HC9.out hle2 command_ex).mono ?_
  rintro e w10 ⟨rfl, hb⟩
  go_wp2_with (fail)
  go_ret
  exact ⟨rfl, below_then HB9.out HB9.out.size hb⟩
end Go.Proofs.YtpmieapgbdbabaaDoor.QAll
end

section
/- Walks, written by a program of this session (wip/pp): a Go function comes to what the Lean function beside it tells. -/
namespace Go.Proofs.YtpmieapgbdbabaaDoor.QAll
open Go.RowKit Go.Proofs.YtpmieapgbdbabaaDoorW.PrintWords Go.Proofs.YtpmieapgbdbabaaDoorW.PrintLast Go.Proofs.YtpmieapgbdbabaaDoorW.PrintMore
attribute [local go_sem] max2_int min2_int max_two min_two max_three min_three max_four min_four
set_option linter.unusedVariables false
set_option linter.unusedSimpArgs false

def squelchlaw05_PathBytes.j0 : Nat → ByteArray → Bool → ByteArray → Int → ByteArray → Int → Bool → Bool → List (S93) → Option (Bool)
 | 0, _, _, _, _, _, _, _, _, _ => none
 | k + 1, x1, x20, x347000, x347001, x347002, x347003, x347004, x347005, x347006 => if x20 = true then (some true) else ((squelchlaw05_Plain.f k x347000 x347001 x347002 x347003 x347004 x347005 x347006).bind fun t349 => ((squelchref05_Right.f k t349).bind fun t353 => ((path_Put.f x347000 x347001 x347002 x347003 x347004 x347005 x347006).bind fun bt354 => ((path_Right.f x347000 x347001 x347002 x347003 x347004 x347005 x347006).bind fun t356 => (if (t356 != t353) = true then (some false) else (if t353 = true then (if bt354.1.size + x1.size ≤ 9223372036854775807 then ((path_Get.f (bt354.1 ++ x1)).bind fun bt358 => (if bt354.2 = 0 then ((squelchref05_Put.f k t349).bind fun t370 => (if bt354.1.toList = t370.toList then (if bt358.2.2.2.2.2.2.2.2 = 0 then (if bt358.2.2.2.2.2.2.2.1 = (bt354.1.size : Int) then ((squelchlaw05_Plain.f k bt358.1 bt358.2.1 bt358.2.2.1 bt358.2.2.2.1 bt358.2.2.2.2.1 bt358.2.2.2.2.2.1 bt358.2.2.2.2.2.2.1).bind fun t371 => ((squelchref05_Same.f k t371 t349).bind fun t374 => (if t374 = true then ((path_Text.f x347000 x347001 x347002 x347003 x347004 x347005 x347006).bind fun t375 => ((squelchref05_Text.f t349).bind fun t376 => (some (t375.toList == t376.toList)))) else (some false)))) else (some false)) else (some false)) else (some false))) else (some false))) else (none)) else (if bt354.1.toList = ([] : List UInt8) then (if bt354.2 = 11 then ((path_Text.f x347000 x347001 x347002 x347003 x347004 x347005 x347006).bind fun t357 => (some (t357.toList == ([] : List UInt8)))) else (some false)) else (some false))))))))
def squelchlaw05_PathBytes.f (k : Nat) (a0_0 : ByteArray) (a0_1 : Int) (a0_2 : ByteArray) (a0_3 : Int) (a0_4 : Bool) (a0_5 : Bool) (l0_6 : List (S93)) (a1 : ByteArray) : Option (Bool) := (squelchlaw05_awake.f).bind fun t347 => (if t347 = true then ((squelchlaw05_great.f a0_0 a0_1 a0_2 a0_3 a0_4 a0_5 l0_6).bind fun t348 => (if t348 = true then (squelchlaw05_PathBytes.j0 k a1 true a0_0 a0_1 a0_2 a0_3 a0_4 a0_5 l0_6) else (squelchlaw05_PathBytes.j0 k a1 (decide ((a1.size : Int) > 300)) a0_0 a0_1 a0_2 a0_3 a0_4 a0_5 l0_6))) else (some false))
def squelchlaw05_PathBytes.T13 : Bool × List (List Nat × List Nat) := (true, [([], []), ([0], [0]), ([1], [1]), ([2], [2]), ([2], [2]), ([4, 2, 2], [2, 4]), ([3, 5, 2], [2, 3, 5]), ([2, 6], [2, 6]), ([7, 5], [7]), ([8], [8]), ([9, 8], [8, 9]), ([8, 10], [8, 10]), ([11, 8], [11]), ([12], [12]), ([12], [12]), ([14, 12], [12, 14]), ([13, 15, 12], [12, 13, 15]), ([12, 16], [12, 16]), ([17, 12], [17]), ([18], [18]), ([19, 18, 18], [18, 19]), ([18], [18]), ([20, 21, 20, 18], [18, 20, 21]), ([18, 22], [18, 22]), ([23, 22], [23]), ([24], [24]), ([25, 24, 24], [24, 25]), ([24], [24]), ([27, 26, 24], [24, 27]), ([26, 28, 24], [24, 26, 28]), ([24, 29], [24, 29]), ([30, 28, 0, 1, 2, 3, 4, 5, 6, 7, 8, 9, 10, 11, 12, 13, 14, 15, 16, 17, 18, 19, 20, 21, 22, 23, 24, 25, 26, 27, 28, 29, 30], [30])])
def squelchlaw05_PathBytes.B13 : List Nat := [0, 1, 3, 7, 7, 23, 63, 127, 255, 511, 1023, 2047, 4095, 8191, 8191, 24575, 65535, 131071, 262143, 524287, 1048575, 524287, 4194303, 8388607, 16777215, 33554431, 67108863, 33554431, 268435455, 536870911, 1073741823, 2147483647]
theorem squelchlaw05_PathBytes.tab13 : rtab .any (opsOf Tryd.f6 13) = squelchlaw05_PathBytes.T13 := by kernel_rfl
theorem squelchlaw05_PathBytes.bits13 : waitsOk squelchlaw05_PathBytes.T13.2 squelchlaw05_PathBytes.B13 = true := by kernel_rfl
set_option maxHeartbeats 8000000 in
set_option maxRecDepth 100000 in
theorem squelchlaw05_PathBytes.calls (k : Nat) (a0_0 : ByteArray) (a0_1 : Int) (a0_2 : ByteArray) (a0_3 : Int) (a0_4 : Bool) (a0_5 : Bool) (A0_6 : Option Addr) (c0_6 : Nat) (l0_6 : List (S93)) (a1 : ByteArray) (r : Bool) (w : World) (hT_ : r = true) (hr0_6 : Kd.C k93 w A0_6 l0_6.length l0_6) (hc0_6 : l0_6.length ≤ c0_6) (h : squelchlaw05_PathBytes.f k a0_0 a0_1 a0_2 a0_3 a0_4 a0_5 l0_6 a1 = some r) :
  Calls Tryd.prog 6 #[.agg #[.string a0_0, .int .i64 a0_1, .string a0_2, .int .i64 a0_3, .bool a0_4, .bool a0_5, .slice A0_6 l0_6.length c0_6], .string a1] w fun e w' => e = .returned (.bool r) ∧ Below w.heap.size w w' := by
 have hu26 := Tryd.underlying26
 have hu31 := Tryd.underlying31
 have HR0_6 := Aside0.mk hr0_6
 have HC0_6 := Aside0.mk hc0_6
 clear hr0_6 hc0_6
 have HB := Aside0.mk (Below.refl w.heap.size w)
 have HT_ := Aside0.mk hT_
 clear hT_
 have H : ((squelchlaw05_awake.f).bind fun t347 => (if t347 = true then ((squelchlaw05_great.f a0_0 a0_1 a0_2 a0_3 a0_4 a0_5 l0_6).bind fun t348 => (if t348 = true then (squelchlaw05_PathBytes.j0 k a1 true a0_0 a0_1 a0_2 a0_3 a0_4 a0_5 l0_6) else (squelchlaw05_PathBytes.j0 k a1 (decide ((a1.size : Int) > 300)) a0_0 a0_1 a0_2 a0_3 a0_4 a0_5 l0_6))) else (some false))) = some r := h
 clear h
 replace H := Option.bind_eq_some_iff.mp H
 obtain ⟨t347, A30, H⟩ := H
 replace H : (if t347 = true then ((squelchlaw05_great.f a0_0 a0_1 a0_2 a0_3 a0_4 a0_5 l0_6).bind fun t348 => (if t348 = true then (squelchlaw05_PathBytes.j0 k a1 true a0_0 a0_1 a0_2 a0_3 a0_4 a0_5 l0_6) else (squelchlaw05_PathBytes.j0 k a1 (decide ((a1.size : Int) > 300)) a0_0 a0_1 a0_2 a0_3 a0_4 a0_5 l0_6))) else (some false)) = some r := H
 have A3 := Aside0.mk A30
 clear A30
 by_cases c4 : t347 = true
 ·subst c4
  have H1 : ((squelchlaw05_great.f a0_0 a0_1 a0_2 a0_3 a0_4 a0_5 l0_6).bind fun t348 => (if t348 = true then (squelchlaw05_PathBytes.j0 k a1 true a0_0 a0_1 a0_2 a0_3 a0_4 a0_5 l0_6) else (squelchlaw05_PathBytes.j0 k a1 (decide ((a1.size : Int) > 300)) a0_0 a0_1 a0_2 a0_3 a0_4 a0_5 l0_6))) = some r := by rw [if_pos rfl] at H; exact H
  clear H
  have H := H1
  clear H1
  have HC5 := Aside0.mk H
  clear H
  go_enter Tryd.func6, Tryd.ntmps6
  go_upto_region 3 with (first | ((with_reducible refine gate_dst (N := 2) rfl ?_); (try (refine gate_guard (by rfl) ?_; dsimp only)); refine box_event ?hg (N := 2) ?hd (cs := #[.string a0_0, .int .i64 a0_1, .string a0_2, .int .i64 a0_3, .bool a0_4, .bool a0_5, .slice A0_6 l0_6.length c0_6]) (t := 26) ?hr ?_; (case hd => rfl); (case hg => rfl); (case hr => first | (go_simp; done) | (go_simp; rfl)); intro gb346 hg w6 hbox hb; have n0_ := Aside0.mk (below_step (by repeat (first | (with_reducible first | exact HB.out | apply below_alloc | apply pw_below_drewN | apply below_drew1) | exact HB.out)) hb); have n1_ := Aside0.mk (hbox); have n2_ := Aside0.mk ((by rw [hg]; exact (below_size (by repeat (first | (with_reducible first | exact HB.out | apply below_alloc | apply pw_below_drewN | apply below_drew1) | exact HB.out))) : w.heap.size ≤ gb346)); have n3_ := Aside0.mk ((by rw [hg]; exact (below_size (by repeat (first | (with_reducible first | exact HB.out | apply below_alloc | apply pw_below_drewN | apply below_drew1) | exact HB.out))) : w.heap.size ≤ gb346)); clear HB; have HB := n0_; have BK346 := n1_; have GW346 := n2_; have GE346 := n3_; clear n0_ n1_ n2_ n3_; clear hb hbox hg) | ((with_reducible refine gate_callee (f := 15) rfl ?_); refine goesL_ (some 12) rfl rfl Tryd.func15 (by kernel_rfl) rfl #[] rfl (by (try simp only [List.map_toArray, List.map_cons, List.map_nil]); first | done | rfl | (simp only [List.length_drop, List.length_take]; rfl)) ?_; (with_reducible refine (squelchlaw05_awake.calls  true _ A3.out).mono ?_); rintro e w7 ⟨rfl, hb⟩; refine ⟨_, rfl, ?_⟩; have n0_ := Aside0.mk (blk_below (g := gb346) (o := .cells #[.string a0_0, .int .i64 a0_1, .string a0_2, .int .i64 a0_3, .bool a0_4, .bool a0_5, .slice A0_6 l0_6.length c0_6] 26 (0, 0)) (by (with_reducible repeat (first | refine blk_drewN ?_ _ | refine blk_drew ?_ | refine blk_alloc ?_ _)); exact BK346.out) hb); have n1_ := Aside0.mk (below_step (by repeat (first | (with_reducible first | exact HB.out | apply below_alloc | apply pw_below_drewN | apply below_drew1 | refine below_set ?_ GE346.out) | exact HB.out)) hb); clear BK346; clear HB; have BK346 := n0_; have HB := n1_; clear n0_ n1_; (try clear hb); (try clear hb2); (try clear hk); (try clear hi)))
  (try simp only [Act.put, List.setIfInBounds_toArray, List.set_cons_zero, List.set_cons_succ])
  go_cut [20] (fun v20 wc => ∃ (kq : Nat) (x20_4 : Bool), v20 = .bool x20_4 ∧ Aside0 (squelchlaw05_PathBytes.j0 kq a1 x20_4 a0_0 a0_1 a0_2 a0_3 a0_4 a0_5 l0_6 = some r) ∧ Aside0 (kq ≤ k) ∧ Aside0 (wc.heap[gb346]? = some (.cells #[.string a0_0, .int .i64 a0_1, .string a0_2, .int .i64 a0_3, .bool a0_4, .bool a0_5, (.slice A0_6 l0_6.length c0_6)] 26 (0, 0))) ∧ Aside0 (Below w.heap.size w wc))
  case first =>
   have H := HC5.out
   clear HC5
   replace H := Option.bind_eq_some_iff.mp H
   obtain ⟨t348, A80, H⟩ := H
   replace H : (if t348 = true then (squelchlaw05_PathBytes.j0 k a1 true a0_0 a0_1 a0_2 a0_3 a0_4 a0_5 l0_6) else (squelchlaw05_PathBytes.j0 k a1 (decide ((a1.size : Int) > 300)) a0_0 a0_1 a0_2 a0_3 a0_4 a0_5 l0_6)) = some r := H
   have A8 := Aside0.mk A80
   clear A80
   by_cases c9 : t348 = true
   ·subst c9
    have H1 : (squelchlaw05_PathBytes.j0 k a1 true a0_0 a0_1 a0_2 a0_3 a0_4 a0_5 l0_6) = some r := by rw [if_pos rfl] at H; exact H
    clear H
    have H := H1
    clear H1
    have H' := Aside0.mk H
    clear H
    have hcz10_0 : w7.cell? ⟨gb346, 0, none⟩ = some (.string a0_0) := (blk_cell BK346.out 0).trans rfl
    have hcz10_1 : w7.cell? ⟨gb346, 1, none⟩ = some (.int .i64 a0_1) := (blk_cell BK346.out 1).trans rfl
    have hcz10_2 : w7.cell? ⟨gb346, 2, none⟩ = some (.string a0_2) := (blk_cell BK346.out 2).trans rfl
    have hcz10_3 : w7.cell? ⟨gb346, 3, none⟩ = some (.int .i64 a0_3) := (blk_cell BK346.out 3).trans rfl
    have hcz10_4 : w7.cell? ⟨gb346, 4, none⟩ = some (.bool a0_4) := (blk_cell BK346.out 4).trans rfl
    have hcz10_5 : w7.cell? ⟨gb346, 5, none⟩ = some (.bool a0_5) := (blk_cell BK346.out 5).trans rfl
    have hcz10_6 : w7.cell? ⟨gb346, 6, none⟩ = some (.slice A0_6 l0_6.length c0_6) := (blk_cell BK346.out 6).trans rfl
    have hfz10_0 := blk_frozen BK346.out 0
    have hfz10_1 := blk_frozen BK346.out 1
    have hfz10_2 := blk_frozen BK346.out 2
    have hfz10_3 := blk_frozen BK346.out 3
    have hfz10_4 := blk_frozen BK346.out 4
    have hfz10_5 := blk_frozen BK346.out 5
    have hfz10_6 := blk_frozen BK346.out 6
    go_wp2_with (first | ((with_reducible refine gate_callee (f := 16) rfl ?_); refine goesL_ (some 15) rfl rfl Tryd.func16 (by kernel_rfl) rfl #[.agg #[.string a0_0, .int .i64 a0_1, .string a0_2, .int .i64 a0_3, .bool a0_4, .bool a0_5, .slice A0_6 l0_6.length c0_6]] rfl (by (try simp only [List.map_toArray, List.map_cons, List.map_nil]); first | done | rfl | (simp only [List.length_drop, List.length_take]; rfl)) ?_; (with_reducible refine (squelchlaw05_great.calls a0_0 a0_1 a0_2 a0_3 a0_4 a0_5 _ _ l0_6 true _ ?side1 ?side2 A8.out).mono ?_); (case side1 => repeat (first | exact (Kd.C_below HR0_6.out HB.out) | (with_reducible refine Kd.C_alloc ?_ _) | (with_reducible refine Kd.C_drewN ?_ _) | (with_reducible refine Kd.C_drew ?_))); (case side2 => exact HC0_6.out); rintro e w11 ⟨rfl, hb⟩; refine ⟨_, rfl, ?_⟩; have n0_ := Aside0.mk (blk_below (g := gb346) (o := .cells #[.string a0_0, .int .i64 a0_1, .string a0_2, .int .i64 a0_3, .bool a0_4, .bool a0_5, .slice A0_6 l0_6.length c0_6] 26 (0, 0)) (by (with_reducible repeat (first | refine blk_drewN ?_ _ | refine blk_drew ?_ | refine blk_alloc ?_ _)); exact BK346.out) hb); have n1_ := Aside0.mk (below_step (by repeat (first | (with_reducible first | exact HB.out | apply below_alloc | apply pw_below_drewN | apply below_drew1 | refine below_set ?_ GE346.out) | exact HB.out)) hb); clear BK346; clear HB; have BK346 := n0_; have HB := n1_; clear n0_ n1_; (try clear hb); (try clear hb2); (try clear hk); (try clear hi)))
    go_meet
    case rel => exact ⟨_, (true), (by first | rfl | (simp; done) | (simp [*]; done) | (simp; exact (fun l : List UInt8 => (by cases l <;> rfl : l.isEmpty = !(l != []))) _)), H', ⟨by first | omega | exact Nat.le_refl _⟩, ⟨by (with_reducible repeat (first | refine blk_drewN ?_ _ | refine blk_drew ?_ | refine blk_alloc ?_ _)); exact BK346.out⟩, ⟨by repeat (first | (with_reducible first | exact HB.out | apply below_alloc | apply pw_below_drewN | apply below_drew1 | refine below_set ?_ GE346.out) | exact HB.out)⟩⟩
   ·replace c9 := Bool.eq_false_iff.mpr c9
    subst c9
    have H1 : (squelchlaw05_PathBytes.j0 k a1 (decide ((a1.size : Int) > 300)) a0_0 a0_1 a0_2 a0_3 a0_4 a0_5 l0_6) = some r := by rw [if_neg (show ¬ (false = true) by decide)] at H; exact H
    clear H
    have H := H1
    clear H1
    have H' := Aside0.mk H
    clear H
    have hcz12_0 : w7.cell? ⟨gb346, 0, none⟩ = some (.string a0_0) := (blk_cell BK346.out 0).trans rfl
    have hcz12_1 : w7.cell? ⟨gb346, 1, none⟩ = some (.int .i64 a0_1) := (blk_cell BK346.out 1).trans rfl
    have hcz12_2 : w7.cell? ⟨gb346, 2, none⟩ = some (.string a0_2) := (blk_cell BK346.out 2).trans rfl
    have hcz12_3 : w7.cell? ⟨gb346, 3, none⟩ = some (.int .i64 a0_3) := (blk_cell BK346.out 3).trans rfl
    have hcz12_4 : w7.cell? ⟨gb346, 4, none⟩ = some (.bool a0_4) := (blk_cell BK346.out 4).trans rfl
    have hcz12_5 : w7.cell? ⟨gb346, 5, none⟩ = some (.bool a0_5) := (blk_cell BK346.out 5).trans rfl
    have hcz12_6 : w7.cell? ⟨gb346, 6, none⟩ = some (.slice A0_6 l0_6.length c0_6) := (blk_cell BK346.out 6).trans rfl
    have hfz12_0 := blk_frozen BK346.out 0
    have hfz12_1 := blk_frozen BK346.out 1
    have hfz12_2 := blk_frozen BK346.out 2
    have hfz12_3 := blk_frozen BK346.out 3
    have hfz12_4 := blk_frozen BK346.out 4
    have hfz12_5 := blk_frozen BK346.out 5
    have hfz12_6 := blk_frozen BK346.out 6
    go_wp2_with (first | ((with_reducible refine gate_callee (f := 16) rfl ?_); refine goesL_ (some 15) rfl rfl Tryd.func16 (by kernel_rfl) rfl #[.agg #[.string a0_0, .int .i64 a0_1, .string a0_2, .int .i64 a0_3, .bool a0_4, .bool a0_5, .slice A0_6 l0_6.length c0_6]] rfl (by (try simp only [List.map_toArray, List.map_cons, List.map_nil]); first | done | rfl | (simp only [List.length_drop, List.length_take]; rfl)) ?_; (with_reducible refine (squelchlaw05_great.calls a0_0 a0_1 a0_2 a0_3 a0_4 a0_5 _ _ l0_6 false _ ?side1 ?side2 A8.out).mono ?_); (case side1 => repeat (first | exact (Kd.C_below HR0_6.out HB.out) | (with_reducible refine Kd.C_alloc ?_ _) | (with_reducible refine Kd.C_drewN ?_ _) | (with_reducible refine Kd.C_drew ?_))); (case side2 => exact HC0_6.out); rintro e w13 ⟨rfl, hb⟩; refine ⟨_, rfl, ?_⟩; have n0_ := Aside0.mk (blk_below (g := gb346) (o := .cells #[.string a0_0, .int .i64 a0_1, .string a0_2, .int .i64 a0_3, .bool a0_4, .bool a0_5, .slice A0_6 l0_6.length c0_6] 26 (0, 0)) (by (with_reducible repeat (first | refine blk_drewN ?_ _ | refine blk_drew ?_ | refine blk_alloc ?_ _)); exact BK346.out) hb); have n1_ := Aside0.mk (below_step (by repeat (first | (with_reducible first | exact HB.out | apply below_alloc | apply pw_below_drewN | apply below_drew1 | refine below_set ?_ GE346.out) | exact HB.out)) hb); clear BK346; clear HB; have BK346 := n0_; have HB := n1_; clear n0_ n1_; (try clear hb); (try clear hb2); (try clear hk); (try clear hi)))
    go_meet
    case rel => exact ⟨_, (decide ((a1.size : Int) > 300)), (by first | rfl | (simp; done) | (simp [*]; done) | (simp; exact (fun l : List UInt8 => (by cases l <;> rfl : l.isEmpty = !(l != []))) _)), H', ⟨by first | omega | exact Nat.le_refl _⟩, ⟨by (with_reducible repeat (first | refine blk_drewN ?_ _ | refine blk_drew ?_ | refine blk_alloc ?_ _)); exact BK346.out⟩, ⟨by repeat (first | (with_reducible first | exact HB.out | apply below_alloc | apply pw_below_drewN | apply below_drew1 | refine below_set ?_ GE346.out) | exact HB.out)⟩⟩
  case rest =>
   clear HC5
   try clear c1
   try clear p2
   try clear c4
   try clear c6
   try clear c9
   try clear hcz10_0
   try clear hcz10_1
   try clear hcz10_2
   try clear hcz10_3
   try clear hcz10_4
   try clear hcz10_5
   try clear hcz10_6
   try clear hcz12_0
   try clear hcz12_1
   try clear hcz12_2
   try clear hcz12_3
   try clear hcz12_4
   try clear hcz12_5
   try clear hcz12_6
   try clear hfz10_0
   try clear hfz10_1
   try clear hfz10_2
   try clear hfz10_3
   try clear hfz10_4
   try clear hfz10_5
   try clear hfz10_6
   try clear hfz12_0
   try clear hfz12_1
   try clear hfz12_2
   try clear hfz12_3
   try clear hfz12_4
   try clear hfz12_5
   try clear hfz12_6
   obtain ⟨kq, x20_4, rfl, HA, HJ4, BK346, HB⟩ := hcut
   cases kq with
   | zero => exact absurd HA.out (by simp [squelchlaw05_PathBytes.j0])
   | succ kj4 =>
    have H := HA.out
    clear HA
    simp only [squelchlaw05_PathBytes.j0] at H
    by_cases c14 : x20_4 = true
    ·subst c14
     have H1 : (some true) = some r := by rw [if_pos rfl] at H; exact H
     clear H
     have H := H1
     clear H1
     obtain rfl := Option.some.inj H
     go_wp2
     go_ret
     exact ⟨by first | rfl | (simp [errW_none, errW_some] <;> rfl) | (simp [*, errW_none, errW_some] <;> rfl), by repeat (first | (with_reducible first | exact HB.out | apply below_alloc | apply pw_below_drewN | apply below_drew1 | refine below_set ?_ GE346.out) | exact HB.out)⟩
    ·replace c14 := Bool.eq_false_iff.mpr c14
     subst c14
     have H1 : ((squelchlaw05_Plain.f kj4 a0_0 a0_1 a0_2 a0_3 a0_4 a0_5 l0_6).bind fun t349 => ((squelchref05_Right.f kj4 t349).bind fun t353 => ((path_Put.f a0_0 a0_1 a0_2 a0_3 a0_4 a0_5 l0_6).bind fun bt354 => ((path_Right.f a0_0 a0_1 a0_2 a0_3 a0_4 a0_5 l0_6).bind fun t356 => (if (t356 != t353) = true then (some false) else (if t353 = true then (if bt354.1.size + a1.size ≤ 9223372036854775807 then ((path_Get.f (bt354.1 ++ a1)).bind fun bt358 => (if bt354.2 = 0 then ((squelchref05_Put.f kj4 t349).bind fun t370 => (if bt354.1.toList = t370.toList then (if bt358.2.2.2.2.2.2.2.2 = 0 then (if bt358.2.2.2.2.2.2.2.1 = (bt354.1.size : Int) then ((squelchlaw05_Plain.f kj4 bt358.1 bt358.2.1 bt358.2.2.1 bt358.2.2.2.1 bt358.2.2.2.2.1 bt358.2.2.2.2.2.1 bt358.2.2.2.2.2.2.1).bind fun t371 => ((squelchref05_Same.f kj4 t371 t349).bind fun t374 => (if t374 = true then ((path_Text.f a0_0 a0_1 a0_2 a0_3 a0_4 a0_5 l0_6).bind fun t375 => ((squelchref05_Text.f t349).bind fun t376 => (some (t375.toList == t376.toList)))) else (some false)))) else (some false)) else (some false)) else (some false))) else (some false))) else (none)) else (if bt354.1.toList = ([] : List UInt8) then (if bt354.2 = 11 then ((path_Text.f a0_0 a0_1 a0_2 a0_3 a0_4 a0_5 l0_6).bind fun t357 => (some (t357.toList == ([] : List UInt8)))) else (some false)) else (some false)))))))) = some r := by rw [if_neg (show ¬ (false = true) by decide)] at H; exact H
     clear H
     have H := H1
     clear H1
     replace H := Option.bind_eq_some_iff.mp H
     obtain ⟨t349, A150, H⟩ := H
     replace H : ((squelchref05_Right.f kj4 t349).bind fun t353 => ((path_Put.f a0_0 a0_1 a0_2 a0_3 a0_4 a0_5 l0_6).bind fun bt354 => ((path_Right.f a0_0 a0_1 a0_2 a0_3 a0_4 a0_5 l0_6).bind fun t356 => (if (t356 != t353) = true then (some false) else (if t353 = true then (if bt354.1.size + a1.size ≤ 9223372036854775807 then ((path_Get.f (bt354.1 ++ a1)).bind fun bt358 => (if bt354.2 = 0 then ((squelchref05_Put.f kj4 t349).bind fun t370 => (if bt354.1.toList = t370.toList then (if bt358.2.2.2.2.2.2.2.2 = 0 then (if bt358.2.2.2.2.2.2.2.1 = (bt354.1.size : Int) then ((squelchlaw05_Plain.f kj4 bt358.1 bt358.2.1 bt358.2.2.1 bt358.2.2.2.1 bt358.2.2.2.2.1 bt358.2.2.2.2.2.1 bt358.2.2.2.2.2.2.1).bind fun t371 => ((squelchref05_Same.f kj4 t371 t349).bind fun t374 => (if t374 = true then ((path_Text.f a0_0 a0_1 a0_2 a0_3 a0_4 a0_5 l0_6).bind fun t375 => ((squelchref05_Text.f t349).bind fun t376 => (some (t375.toList == t376.toList)))) else (some false)))) else (some false)) else (some false)) else (some false))) else (some false))) else (none)) else (if bt354.1.toList = ([] : List UInt8) then (if bt354.2 = 11 then ((path_Text.f a0_0 a0_1 a0_2 a0_3 a0_4 a0_5 l0_6).bind fun t357 => (some (t357.toList == ([] : List UInt8)))) else (some false)) else (some false))))))) = some r := H
     have A15 := Aside0.mk A150
     clear A150
     replace H := Option.bind_eq_some_iff.mp H
     obtain ⟨t353, A160, H⟩ := H
     replace H : ((path_Put.f a0_0 a0_1 a0_2 a0_3 a0_4 a0_5 l0_6).bind fun bt354 => ((path_Right.f a0_0 a0_1 a0_2 a0_3 a0_4 a0_5 l0_6).bind fun t356 => (if (t356 != t353) = true then (some false) else (if t353 = true then (if bt354.1.size + a1.size ≤ 9223372036854775807 then ((path_Get.f (bt354.1 ++ a1)).bind fun bt358 => (if bt354.2 = 0 then ((squelchref05_Put.f kj4 t349).bind fun t370 => (if bt354.1.toList = t370.toList then (if bt358.2.2.2.2.2.2.2.2 = 0 then (if bt358.2.2.2.2.2.2.2.1 = (bt354.1.size : Int) then ((squelchlaw05_Plain.f kj4 bt358.1 bt358.2.1 bt358.2.2.1 bt358.2.2.2.1 bt358.2.2.2.2.1 bt358.2.2.2.2.2.1 bt358.2.2.2.2.2.2.1).bind fun t371 => ((squelchref05_Same.f kj4 t371 t349).bind fun t374 => (if t374 = true then ((path_Text.f a0_0 a0_1 a0_2 a0_3 a0_4 a0_5 l0_6).bind fun t375 => ((squelchref05_Text.f t349).bind fun t376 => (some (t375.toList == t376.toList)))) else (some false)))) else (some false)) else (some false)) else (some false))) else (some false))) else (none)) else (if bt354.1.toList = ([] : List UInt8) then (if bt354.2 = 11 then ((path_Text.f a0_0 a0_1 a0_2 a0_3 a0_4 a0_5 l0_6).bind fun t357 => (some (t357.toList == ([] : List UInt8)))) else (some false)) else (some false)))))) = some r := H
     have A16 := Aside0.mk A160
     clear A160
     replace H := Option.bind_eq_some_iff.mp H
     obtain ⟨⟨t354, t355⟩, A170, H⟩ := H
     replace H : ((path_Right.f a0_0 a0_1 a0_2 a0_3 a0_4 a0_5 l0_6).bind fun t356 => (if (t356 != t353) = true then (some false) else (if t353 = true then (if t354.size + a1.size ≤ 9223372036854775807 then ((path_Get.f (t354 ++ a1)).bind fun bt358 => (if t355 = 0 then ((squelchref05_Put.f kj4 t349).bind fun t370 => (if t354.toList = t370.toList then (if bt358.2.2.2.2.2.2.2.2 = 0 then (if bt358.2.2.2.2.2.2.2.1 = (t354.size : Int) then ((squelchlaw05_Plain.f kj4 bt358.1 bt358.2.1 bt358.2.2.1 bt358.2.2.2.1 bt358.2.2.2.2.1 bt358.2.2.2.2.2.1 bt358.2.2.2.2.2.2.1).bind fun t371 => ((squelchref05_Same.f kj4 t371 t349).bind fun t374 => (if t374 = true then ((path_Text.f a0_0 a0_1 a0_2 a0_3 a0_4 a0_5 l0_6).bind fun t375 => ((squelchref05_Text.f t349).bind fun t376 => (some (t375.toList == t376.toList)))) else (some false)))) else (some false)) else (some false)) else (some false))) else (some false))) else (none)) else (if t354.toList = ([] : List UInt8) then (if t355 = 11 then ((path_Text.f a0_0 a0_1 a0_2 a0_3 a0_4 a0_5 l0_6).bind fun t357 => (some (t357.toList == ([] : List UInt8)))) else (some false)) else (some false))))) = some r := H
     have A17 := Aside0.mk A170
     clear A170
     replace H := Option.bind_eq_some_iff.mp H
     obtain ⟨t356, A180, H⟩ := H
     replace H : (if (t356 != t353) = true then (some false) else (if t353 = true then (if t354.size + a1.size ≤ 9223372036854775807 then ((path_Get.f (t354 ++ a1)).bind fun bt358 => (if t355 = 0 then ((squelchref05_Put.f kj4 t349).bind fun t370 => (if t354.toList = t370.toList then (if bt358.2.2.2.2.2.2.2.2 = 0 then (if bt358.2.2.2.2.2.2.2.1 = (t354.size : Int) then ((squelchlaw05_Plain.f kj4 bt358.1 bt358.2.1 bt358.2.2.1 bt358.2.2.2.1 bt358.2.2.2.2.1 bt358.2.2.2.2.2.1 bt358.2.2.2.2.2.2.1).bind fun t371 => ((squelchref05_Same.f kj4 t371 t349).bind fun t374 => (if t374 = true then ((path_Text.f a0_0 a0_1 a0_2 a0_3 a0_4 a0_5 l0_6).bind fun t375 => ((squelchref05_Text.f t349).bind fun t376 => (some (t375.toList == t376.toList)))) else (some false)))) else (some false)) else (some false)) else (some false))) else (some false))) else (none)) else (if t354.toList = ([] : List UInt8) then (if t355 = 11 then ((path_Text.f a0_0 a0_1 a0_2 a0_3 a0_4 a0_5 l0_6).bind fun t357 => (some (t357.toList == ([] : List UInt8)))) else (some false)) else (some false)))) = some r := H
     have A18 := Aside0.mk A180
     clear A180
     by_cases c19 : (t356 != t353) = true
     ·rw [if_pos c19] at H
      have c19b0 : (t356 != t353) = true := c19
      (try (have c19b1 : decide (t356 = t353) = false := by simpa using c19))
      (try (have c19b2 : (t356 == t353) = false := by simpa using c19))
      (try (have c19b3 : ¬ (t356 = t353) := by simpa using c19))
      clear c19
      exact absurd ((Option.some.inj H).trans HT_.out) (by decide)
     ·rw [if_neg c19] at H
      have c19b0 : (t356 != t353) = false := by simpa using c19
      (try (have c19b1 : decide (t356 = t353) = true := by simpa using c19))
      (try (have c19b2 : (t356 == t353) = true := by simpa using c19))
      clear c19
      by_cases c20 : t353 = true
      ·subst c20
       (try simp only [Bool.true_beq, Bool.false_beq, beq_true, beq_false] at c19b0)
       have H1 : (if t354.size + a1.size ≤ 9223372036854775807 then ((path_Get.f (t354 ++ a1)).bind fun bt358 => (if t355 = 0 then ((squelchref05_Put.f kj4 t349).bind fun t370 => (if t354.toList = t370.toList then (if bt358.2.2.2.2.2.2.2.2 = 0 then (if bt358.2.2.2.2.2.2.2.1 = (t354.size : Int) then ((squelchlaw05_Plain.f kj4 bt358.1 bt358.2.1 bt358.2.2.1 bt358.2.2.2.1 bt358.2.2.2.2.1 bt358.2.2.2.2.2.1 bt358.2.2.2.2.2.2.1).bind fun t371 => ((squelchref05_Same.f kj4 t371 t349).bind fun t374 => (if t374 = true then ((path_Text.f a0_0 a0_1 a0_2 a0_3 a0_4 a0_5 l0_6).bind fun t375 => ((squelchref05_Text.f t349).bind fun t376 => (some (t375.toList == t376.toList)))) else (some false)))) else (some false)) else (some false)) else (some false))) else (some false))) else (none)) = some r := by rw [if_pos rfl] at H; exact H
       clear H
       have H := H1
       clear H1
       by_cases c21 : t354.size + a1.size ≤ 9223372036854775807
       ·rw [if_pos c21] at H
        have c21b0 := eq_true c21
        have c21b1 : decide (t354.size + a1.size ≤ 9223372036854775807) = true := decide_eq_true c21
        try have c21b2 : (9223372036854775807 < t354.size + a1.size) = False := eq_false (Nat.not_lt.2 c21)
        replace H := Option.bind_eq_some_iff.mp H
        obtain ⟨⟨t358, t359, t360, t361, t362, t363, t364, t367, t368⟩, A220, H⟩ := H
        replace H : (if t355 = 0 then ((squelchref05_Put.f kj4 t349).bind fun t370 => (if t354.toList = t370.toList then (if t368 = 0 then (if t367 = (t354.size : Int) then ((squelchlaw05_Plain.f kj4 t358 t359 t360 t361 t362 t363 t364).bind fun t371 => ((squelchref05_Same.f kj4 t371 t349).bind fun t374 => (if t374 = true then ((path_Text.f a0_0 a0_1 a0_2 a0_3 a0_4 a0_5 l0_6).bind fun t375 => ((squelchref05_Text.f t349).bind fun t376 => (some (t375.toList == t376.toList)))) else (some false)))) else (some false)) else (some false)) else (some false))) else (some false)) = some r := H
        have A22 := Aside0.mk A220
        clear A220
        by_cases c23 : t355 = 0
        ·rw [if_pos c23] at H
         have c23b0 : (t355 == 0) = true := beq_iff_eq.mpr c23
         have c23b1 : (t355 != 0) = false := bne_eq_false_iff_eq.mpr c23
         clear c23
         replace H := Option.bind_eq_some_iff.mp H
         obtain ⟨t370, A240, H⟩ := H
         replace H : (if t354.toList = t370.toList then (if t368 = 0 then (if t367 = (t354.size : Int) then ((squelchlaw05_Plain.f kj4 t358 t359 t360 t361 t362 t363 t364).bind fun t371 => ((squelchref05_Same.f kj4 t371 t349).bind fun t374 => (if t374 = true then ((path_Text.f a0_0 a0_1 a0_2 a0_3 a0_4 a0_5 l0_6).bind fun t375 => ((squelchref05_Text.f t349).bind fun t376 => (some (t375.toList == t376.toList)))) else (some false)))) else (some false)) else (some false)) else (some false)) = some r := H
         have A24 := Aside0.mk A240
         clear A240
         by_cases c25 : t354.toList = t370.toList
         ·rw [if_pos c25] at H
          have c25b0 : (t354.toList == t370.toList) = true := beq_iff_eq.mpr c25
          have c25b1 : (t354.toList != t370.toList) = false := bne_eq_false_iff_eq.mpr c25
          clear c25
          by_cases c26 : t368 = 0
          ·rw [if_pos c26] at H
           have c26b0 : (t368 == 0) = true := beq_iff_eq.mpr c26
           have c26b1 : (t368 != 0) = false := bne_eq_false_iff_eq.mpr c26
           clear c26
           by_cases c27 : t367 = (t354.size : Int)
           ·rw [if_pos c27] at H
            have c27b0 : (t367 == (t354.size : Int)) = true := beq_iff_eq.mpr c27
            have c27b1 : (t367 != (t354.size : Int)) = false := bne_eq_false_iff_eq.mpr c27
            clear c27
            replace H := Option.bind_eq_some_iff.mp H
            obtain ⟨t371, A280, H⟩ := H
            replace H : ((squelchref05_Same.f kj4 t371 t349).bind fun t374 => (if t374 = true then ((path_Text.f a0_0 a0_1 a0_2 a0_3 a0_4 a0_5 l0_6).bind fun t375 => ((squelchref05_Text.f t349).bind fun t376 => (some (t375.toList == t376.toList)))) else (some false))) = some r := H
            have A28 := Aside0.mk A280
            clear A280
            replace H := Option.bind_eq_some_iff.mp H
            obtain ⟨t374, A290, H⟩ := H
            replace H : (if t374 = true then ((path_Text.f a0_0 a0_1 a0_2 a0_3 a0_4 a0_5 l0_6).bind fun t375 => ((squelchref05_Text.f t349).bind fun t376 => (some (t375.toList == t376.toList)))) else (some false)) = some r := H
            have A29 := Aside0.mk A290
            clear A290
            by_cases c30 : t374 = true
            ·subst c30
             have H1 : ((path_Text.f a0_0 a0_1 a0_2 a0_3 a0_4 a0_5 l0_6).bind fun t375 => ((squelchref05_Text.f t349).bind fun t376 => (some (t375.toList == t376.toList)))) = some r := by rw [if_pos rfl] at H; exact H
             clear H
             have H := H1
             clear H1
             replace H := Option.bind_eq_some_iff.mp H
             obtain ⟨t375, A310, H⟩ := H
             replace H : ((squelchref05_Text.f t349).bind fun t376 => (some (t375.toList == t376.toList))) = some r := H
             have A31 := Aside0.mk A310
             clear A310
             replace H := Option.bind_eq_some_iff.mp H
             obtain ⟨t376, A320, H⟩ := H
             replace H : (some (t375.toList == t376.toList)) = some r := H
             have A32 := Aside0.mk A320
             clear A320
             obtain rfl := Option.some.inj H
             have hcz33_0 : wc.cell? ⟨gb346, 0, none⟩ = some (.string a0_0) := (blk_cell BK346.out 0).trans rfl
             have hcz33_1 : wc.cell? ⟨gb346, 1, none⟩ = some (.int .i64 a0_1) := (blk_cell BK346.out 1).trans rfl
             have hcz33_2 : wc.cell? ⟨gb346, 2, none⟩ = some (.string a0_2) := (blk_cell BK346.out 2).trans rfl
             have hcz33_3 : wc.cell? ⟨gb346, 3, none⟩ = some (.int .i64 a0_3) := (blk_cell BK346.out 3).trans rfl
             have hcz33_4 : wc.cell? ⟨gb346, 4, none⟩ = some (.bool a0_4) := (blk_cell BK346.out 4).trans rfl
             have hcz33_5 : wc.cell? ⟨gb346, 5, none⟩ = some (.bool a0_5) := (blk_cell BK346.out 5).trans rfl
             have hcz33_6 : wc.cell? ⟨gb346, 6, none⟩ = some (.slice A0_6 l0_6.length c0_6) := (blk_cell BK346.out 6).trans rfl
             have hfz33_0 := blk_frozen BK346.out 0
             have hfz33_1 := blk_frozen BK346.out 1
             have hfz33_2 := blk_frozen BK346.out 2
             have hfz33_3 := blk_frozen BK346.out 3
             have hfz33_4 := blk_frozen BK346.out 4
             have hfz33_5 := blk_frozen BK346.out 5
             have hfz33_6 := blk_frozen BK346.out 6
             try go_wp2_with (first | ((with_reducible refine gate_callee (f := 17) rfl ?_); refine goesL_ (some 22) rfl rfl Tryd.func17 (by kernel_rfl) rfl #[.agg #[.string a0_0, .int .i64 a0_1, .string a0_2, .int .i64 a0_3, .bool a0_4, .bool a0_5, .slice A0_6 l0_6.length c0_6]] rfl (by (try simp only [List.map_toArray, List.map_cons, List.map_nil]); first | done | rfl | (simp only [List.length_drop, List.length_take]; rfl)) ?_; (with_reducible refine (squelchlaw05_Plain.calls kj4 a0_0 a0_1 a0_2 a0_3 a0_4 a0_5 _ _ l0_6 t349 _ ?side1 ?side2 A15.out).mono ?_); (case side1 => repeat (first | exact (Kd.C_below HR0_6.out HB.out) | (with_reducible refine Kd.C_alloc ?_ _) | (with_reducible refine Kd.C_drewN ?_ _) | (with_reducible refine Kd.C_drew ?_))); (case side2 => exact HC0_6.out); rintro e w34 ⟨v350, rfl, ho0, hb⟩; refine ⟨_, rfl, ?_⟩; have n0_ := Aside0.mk (Kd.R_lower ho0 (below_size (by repeat (first | (with_reducible first | exact HB.out | apply below_alloc | apply pw_below_drewN | apply below_drew1 | refine below_set ?_ GE346.out) | exact HB.out)))); have n1_ := Aside0.mk (blk_below (g := gb346) (o := .cells #[.string a0_0, .int .i64 a0_1, .string a0_2, .int .i64 a0_3, .bool a0_4, .bool a0_5, .slice A0_6 l0_6.length c0_6] 26 (0, 0)) (by (with_reducible repeat (first | refine blk_drewN ?_ _ | refine blk_drew ?_ | refine blk_alloc ?_ _)); exact BK346.out) hb); have n2_ := Aside0.mk (below_step (by repeat (first | (with_reducible first | exact HB.out | apply below_alloc | apply pw_below_drewN | apply below_drew1 | refine below_set ?_ GE346.out) | exact HB.out)) hb); clear BK346; clear HB; have HO351 := n0_; have BK346 := n1_; have HB := n2_; clear n0_ n1_ n2_; (try clear hb); (try clear hb2); (try clear hk); (try clear hi); (try clear ho0)) | ((with_reducible refine gate_dst (N := 5) rfl ?_); (try (refine gate_guard (by rfl) ?_; dsimp only)); refine box_event ?hg (N := 5) ?hd (cs := #[.slice none 0 0]) (t := 31) ?hr ?_; (case hd => rfl); (case hg => rfl); (case hr => first | (go_simp; done) | (go_simp; rfl)); intro gb352 hg w35 hbox hb; have n0_ := Aside0.mk (Kd.R_below (by (with_reducible repeat (first | apply Kd.R_alloc | apply Kd.R_drewN | apply Kd.R_drew)); exact HO351.out) hb); have n1_ := Aside0.mk (blk_below (g := gb346) (o := .cells #[.string a0_0, .int .i64 a0_1, .string a0_2, .int .i64 a0_3, .bool a0_4, .bool a0_5, .slice A0_6 l0_6.length c0_6] 26 (0, 0)) (by (with_reducible repeat (first | refine blk_drewN ?_ _ | refine blk_drew ?_ | refine blk_alloc ?_ _)); exact BK346.out) hb); have n2_ := Aside0.mk (below_step (by repeat (first | (with_reducible first | exact HB.out | apply below_alloc | apply pw_below_drewN | apply below_drew1 | refine below_set ?_ GE346.out) | exact HB.out)) hb); have n3_ := Aside0.mk (hbox); have n4_ := Aside0.mk ((by rw [hg]; exact (below_size (by repeat (first | (with_reducible first | exact HB.out | apply below_alloc | apply pw_below_drewN | apply below_drew1 | refine below_set ?_ GE346.out) | exact HB.out))) : w.heap.size ≤ gb352)); have n5_ := Aside0.mk ((by rw [hg]; exact (below_size (by repeat (first | (with_reducible first | exact HB.out | apply below_alloc | apply pw_below_drewN | apply below_drew1 | refine below_set ?_ GE346.out) | exact HB.out))) : w.heap.size ≤ gb352)); have n6_ := Aside0.mk ((by rw [hg]; exact Nat.ne_of_lt (blk_lt (g := gb346) (o := .cells #[.string a0_0, .int .i64 a0_1, .string a0_2, .int .i64 a0_3, .bool a0_4, .bool a0_5, .slice A0_6 l0_6.length c0_6] 26 (0, 0)) (by (with_reducible repeat (first | refine blk_drewN ?_ _ | refine blk_drew ?_ | refine blk_alloc ?_ _)); exact BK346.out)) : gb346 ≠ gb352)); have n7_ := Aside0.mk ((by rw [hg]; exact Nat.ne_of_gt (blk_lt (g := gb346) (o := .cells #[.string a0_0, .int .i64 a0_1, .string a0_2, .int .i64 a0_3, .bool a0_4, .bool a0_5, .slice A0_6 l0_6.length c0_6] 26 (0, 0)) (by (with_reducible repeat (first | refine blk_drewN ?_ _ | refine blk_drew ?_ | refine blk_alloc ?_ _)); exact BK346.out)) : gb352 ≠ gb346)); clear HO351; clear BK346; clear HB; have HO351 := n0_; have BK346 := n1_; have HB := n2_; have BK352 := n3_; have GW352 := n4_; have GE352 := n5_; have NB346_352 := n6_; have NB352_346 := n7_; clear n0_ n1_ n2_ n3_ n4_ n5_ n6_ n7_; clear hb hbox hg; obtain ⟨Ao36, co36, eo36⟩ := Kd.R_slice HO351.out; subst eo36; have hnb37 := NB352_346.out; have hnc37 := NB346_352.out; have hcz38_0 : w35.cell? ⟨gb352, 0, none⟩ = some (.slice none 0 0) := (blk_cell BK352.out 0).trans rfl; have hfz38_0 := blk_frozen BK352.out 0) | ((with_reducible refine gate_callee (f := 31) rfl ?_); refine goesL_ (some 24) rfl rfl Tryd.func31 (by kernel_rfl) rfl #[.agg #[.slice Ao36 t349.length co36]] rfl (by (try simp only [List.map_toArray, List.map_cons, List.map_nil]); first | done | rfl | (simp only [List.length_drop, List.length_take]; rfl)) ?_; (with_reducible refine (squelchref05_Right.calls kj4 _ _ t349 true _ ?side1 ?side2 A16.out).mono ?_); (case side1 => refine (Kd.R_reads' (e := 37) (base := w.heap.size) (ok := fun k_ => True) (n := t349.length) (c := co36) ?_).2.2; exact (by (with_reducible repeat (first | apply Kd.R_alloc | apply Kd.R_drewN | apply Kd.R_drew)); exact (Kd.R_mono (Kd.R_far (p := ⟨gb352, 0, none⟩) (Kd.R_types HO351.out BK352.out (by decide)) (fun _ hk => hk.2) (.slice Ao36 t349.length co36)) (fun _ h_ => h_.1)))); (case side2 => exact (Kd.R_reads' HO351.out).2.1); rintro e w39 ⟨rfl, hb⟩; refine ⟨_, rfl, ?_⟩; have n0_ := Aside0.mk (Kd.R_below (by (with_reducible repeat (first | apply Kd.R_alloc | apply Kd.R_drewN | apply Kd.R_drew)); exact (Kd.R_mono (Kd.R_far (p := ⟨gb352, 0, none⟩) (Kd.R_types HO351.out BK352.out (by decide)) (fun _ hk => hk.2) (.slice Ao36 t349.length co36)) (fun _ h_ => h_.1))) hb); have n1_ := Aside0.mk (blk_below (g := gb346) (o := .cells #[.string a0_0, .int .i64 a0_1, .string a0_2, .int .i64 a0_3, .bool a0_4, .bool a0_5, .slice A0_6 l0_6.length c0_6] 26 (0, 0)) (by (with_reducible repeat (first | refine blk_drewN ?_ _ | refine blk_drew ?_ | refine blk_alloc ?_ _)); refine blk_far ?_ NB346_352.out _; (with_reducible repeat (first | refine blk_drewN ?_ _ | refine blk_drew ?_ | refine blk_alloc ?_ _)); exact BK346.out) hb); have n2_ := Aside0.mk (blk_below (g := gb352) (o := .cells #[.slice Ao36 t349.length co36] 31 (0, 0)) (by (with_reducible repeat (first | refine blk_drewN ?_ _ | refine blk_drew ?_ | refine blk_alloc ?_ _)); refine blk_put (cs := #[.slice none 0 0]) ?_ 0 _ rfl; (with_reducible repeat (first | refine blk_drewN ?_ _ | refine blk_drew ?_ | refine blk_alloc ?_ _)); exact BK352.out) hb); have n3_ := Aside0.mk (below_step (by repeat (first | (with_reducible first | exact HB.out | apply below_alloc | apply pw_below_drewN | apply below_drew1 | refine below_set ?_ GE346.out | refine below_set ?_ GE352.out) | exact HB.out)) hb); clear HO351; clear BK346; clear BK352; clear HB; have HO351 := n0_; have BK346 := n1_; have BK352 := n2_; have HB := n3_; clear n0_ n1_ n2_ n3_; (try clear hb); (try clear hb2); (try clear hk); (try clear hi); have hcz40_0 : w39.cell? ⟨gb346, 0, none⟩ = some (.string a0_0) := (blk_cell BK346.out 0).trans rfl; have hcz40_1 : w39.cell? ⟨gb346, 1, none⟩ = some (.int .i64 a0_1) := (blk_cell BK346.out 1).trans rfl; have hcz40_2 : w39.cell? ⟨gb346, 2, none⟩ = some (.string a0_2) := (blk_cell BK346.out 2).trans rfl; have hcz40_3 : w39.cell? ⟨gb346, 3, none⟩ = some (.int .i64 a0_3) := (blk_cell BK346.out 3).trans rfl; have hcz40_4 : w39.cell? ⟨gb346, 4, none⟩ = some (.bool a0_4) := (blk_cell BK346.out 4).trans rfl; have hcz40_5 : w39.cell? ⟨gb346, 5, none⟩ = some (.bool a0_5) := (blk_cell BK346.out 5).trans rfl; have hcz40_6 : w39.cell? ⟨gb346, 6, none⟩ = some (.slice A0_6 l0_6.length c0_6) := (blk_cell BK346.out 6).trans rfl; have hfz40_0 := blk_frozen BK346.out 0; have hfz40_1 := blk_frozen BK346.out 1; have hfz40_2 := blk_frozen BK346.out 2; have hfz40_3 := blk_frozen BK346.out 3; have hfz40_4 := blk_frozen BK346.out 4; have hfz40_5 := blk_frozen BK346.out 5; have hfz40_6 := blk_frozen BK346.out 6) | ((with_reducible refine gate_callee (f := 32) rfl ?_); refine goesL_ (some 27) rfl rfl Tryd.func32 (by kernel_rfl) rfl #[.agg #[.string a0_0, .int .i64 a0_1, .string a0_2, .int .i64 a0_3, .bool a0_4, .bool a0_5, .slice A0_6 l0_6.length c0_6]] rfl (by (try simp only [List.map_toArray, List.map_cons, List.map_nil]); first | done | rfl | (simp only [List.length_drop, List.length_take]; rfl)) ?_; (with_reducible refine (path_Put.calls a0_0 a0_1 a0_2 a0_3 a0_4 a0_5 _ _ l0_6 t354 t355 _ ?side1 ?side2 A17.out).mono ?_); (case side1 => repeat (first | exact (Kd.C_below HR0_6.out HB.out) | (with_reducible refine Kd.C_alloc ?_ _) | (with_reducible refine Kd.C_drewN ?_ _) | (with_reducible refine Kd.C_drew ?_))); (case side2 => exact HC0_6.out); rintro e w41 ⟨rfl, hb⟩; refine ⟨_, rfl, ?_⟩; have n0_ := Aside0.mk (Kd.R_below (by (with_reducible repeat (first | apply Kd.R_alloc | apply Kd.R_drewN | apply Kd.R_drew)); exact HO351.out) hb); have n1_ := Aside0.mk (blk_below (g := gb346) (o := .cells #[.string a0_0, .int .i64 a0_1, .string a0_2, .int .i64 a0_3, .bool a0_4, .bool a0_5, .slice A0_6 l0_6.length c0_6] 26 (0, 0)) (by (with_reducible repeat (first | refine blk_drewN ?_ _ | refine blk_drew ?_ | refine blk_alloc ?_ _)); exact BK346.out) hb); have n2_ := Aside0.mk (blk_below (g := gb352) (o := .cells #[.slice Ao36 t349.length co36] 31 (0, 0)) (by (with_reducible repeat (first | refine blk_drewN ?_ _ | refine blk_drew ?_ | refine blk_alloc ?_ _)); exact BK352.out) hb); have n3_ := Aside0.mk (below_step (by repeat (first | (with_reducible first | exact HB.out | apply below_alloc | apply pw_below_drewN | apply below_drew1 | refine below_set ?_ GE346.out | refine below_set ?_ GE352.out) | exact HB.out)) hb); clear HO351; clear BK346; clear BK352; clear HB; have HO351 := n0_; have BK346 := n1_; have BK352 := n2_; have HB := n3_; clear n0_ n1_ n2_ n3_; (try clear hb); (try clear hb2); (try clear hk); (try clear hi); have hcz42_0 : w41.cell? ⟨gb346, 0, none⟩ = some (.string a0_0) := (blk_cell BK346.out 0).trans rfl; have hcz42_1 : w41.cell? ⟨gb346, 1, none⟩ = some (.int .i64 a0_1) := (blk_cell BK346.out 1).trans rfl; have hcz42_2 : w41.cell? ⟨gb346, 2, none⟩ = some (.string a0_2) := (blk_cell BK346.out 2).trans rfl; have hcz42_3 : w41.cell? ⟨gb346, 3, none⟩ = some (.int .i64 a0_3) := (blk_cell BK346.out 3).trans rfl; have hcz42_4 : w41.cell? ⟨gb346, 4, none⟩ = some (.bool a0_4) := (blk_cell BK346.out 4).trans rfl; have hcz42_5 : w41.cell? ⟨gb346, 5, none⟩ = some (.bool a0_5) := (blk_cell BK346.out 5).trans rfl; have hcz42_6 : w41.cell? ⟨gb346, 6, none⟩ = some (.slice A0_6 l0_6.length c0_6) := (blk_cell BK346.out 6).trans rfl; have hfz42_0 := blk_frozen BK346.out 0; have hfz42_1 := blk_frozen BK346.out 1; have hfz42_2 := blk_frozen BK346.out 2; have hfz42_3 := blk_frozen BK346.out 3; have hfz42_4 := blk_frozen BK346.out 4; have hfz42_5 := blk_frozen BK346.out 5; have hfz42_6 := blk_frozen BK346.out 6) | ((with_reducible refine gate_callee (f := 28) rfl ?_); refine goesL_ (some 31) rfl rfl Tryd.func28 (by kernel_rfl) rfl #[.agg #[.string a0_0, .int .i64 a0_1, .string a0_2, .int .i64 a0_3, .bool a0_4, .bool a0_5, .slice A0_6 l0_6.length c0_6]] rfl (by (try simp only [List.map_toArray, List.map_cons, List.map_nil]); first | done | rfl | (simp only [List.length_drop, List.length_take]; rfl)) ?_; (with_reducible refine (path_Right.calls a0_0 a0_1 a0_2 a0_3 a0_4 a0_5 _ _ l0_6 t356 _ ?side1 ?side2 A18.out).mono ?_); (case side1 => repeat (first | exact (Kd.C_below HR0_6.out HB.out) | (with_reducible refine Kd.C_alloc ?_ _) | (with_reducible refine Kd.C_drewN ?_ _) | (with_reducible refine Kd.C_drew ?_))); (case side2 => exact HC0_6.out); rintro e w43 ⟨rfl, hb⟩; refine ⟨_, rfl, ?_⟩; have n0_ := Aside0.mk (Kd.R_below (by (with_reducible repeat (first | apply Kd.R_alloc | apply Kd.R_drewN | apply Kd.R_drew)); exact HO351.out) hb); have n1_ := Aside0.mk (blk_below (g := gb346) (o := .cells #[.string a0_0, .int .i64 a0_1, .string a0_2, .int .i64 a0_3, .bool a0_4, .bool a0_5, .slice A0_6 l0_6.length c0_6] 26 (0, 0)) (by (with_reducible repeat (first | refine blk_drewN ?_ _ | refine blk_drew ?_ | refine blk_alloc ?_ _)); exact BK346.out) hb); have n2_ := Aside0.mk (blk_below (g := gb352) (o := .cells #[.slice Ao36 t349.length co36] 31 (0, 0)) (by (with_reducible repeat (first | refine blk_drewN ?_ _ | refine blk_drew ?_ | refine blk_alloc ?_ _)); exact BK352.out) hb); have n3_ := Aside0.mk (below_step (by repeat (first | (with_reducible first | exact HB.out | apply below_alloc | apply pw_below_drewN | apply below_drew1 | refine below_set ?_ GE346.out | refine below_set ?_ GE352.out) | exact HB.out)) hb); clear HO351; clear BK346; clear BK352; clear HB; have HO351 := n0_; have BK346 := n1_; have BK352 := n2_; have HB := n3_; clear n0_ n1_ n2_ n3_; (try clear hb); (try clear hb2); (try clear hk); (try clear hi)) | ((with_reducible refine gate_callee (f := 29) rfl ?_); refine goesL_ (some 51) rfl rfl Tryd.func29 (by kernel_rfl) rfl #[.string (t354 ++ a1)] rfl (by (try simp only [List.map_toArray, List.map_cons, List.map_nil]); first | done | rfl | (simp only [List.length_drop, List.length_take]; rfl)) ?_; (with_reducible refine (path_Get.calls (t354 ++ a1) t358 t359 t360 t361 t362 t363 t364 t367 t368 _ A22.out).mono ?_); rintro e w44 ⟨v365, rfl, ho0, hb⟩; refine ⟨_, rfl, ?_⟩; have n0_ := Aside0.mk (Kd.R_below (by (with_reducible repeat (first | apply Kd.R_alloc | apply Kd.R_drewN | apply Kd.R_drew)); exact HO351.out) hb); have n1_ := Aside0.mk (Kd.Q_lower ho0 (below_size (by repeat (first | (with_reducible first | exact HB.out | apply below_alloc | apply pw_below_drewN | apply below_drew1 | refine below_set ?_ GE346.out | refine below_set ?_ GE352.out) | exact HB.out)))); have n2_ := Aside0.mk (blk_below (g := gb346) (o := .cells #[.string a0_0, .int .i64 a0_1, .string a0_2, .int .i64 a0_3, .bool a0_4, .bool a0_5, .slice A0_6 l0_6.length c0_6] 26 (0, 0)) (by (with_reducible repeat (first | refine blk_drewN ?_ _ | refine blk_drew ?_ | refine blk_alloc ?_ _)); exact BK346.out) hb); have n3_ := Aside0.mk (blk_below (g := gb352) (o := .cells #[.slice Ao36 t349.length co36] 31 (0, 0)) (by (with_reducible repeat (first | refine blk_drewN ?_ _ | refine blk_drew ?_ | refine blk_alloc ?_ _)); exact BK352.out) hb); have n4_ := Aside0.mk (below_step (by repeat (first | (with_reducible first | exact HB.out | apply below_alloc | apply pw_below_drewN | apply below_drew1 | refine below_set ?_ GE346.out | refine below_set ?_ GE352.out) | exact HB.out)) hb); clear HO351; clear BK346; clear BK352; clear HB; have HO351 := n0_; have HO366 := n1_; have BK346 := n2_; have BK352 := n3_; have HB := n4_; clear n0_ n1_ n2_ n3_ n4_; (try clear hb); (try clear hb2); (try clear hk); (try clear hi); (try clear ho0)) | ((with_reducible refine gate_dst (N := 9) rfl ?_); (try (refine gate_guard (by rfl) ?_; dsimp only)); refine box_event ?hg (N := 9) ?hd (cs := #[.string (⟨#[]⟩ : ByteArray), .int .i64 0, .string (⟨#[]⟩ : ByteArray), .int .i64 0, .bool false, .bool false, .slice none 0 0]) (t := 26) ?hr ?_; (case hd => rfl); (case hg => rfl); (case hr => first | (go_simp; done) | (go_simp; rfl)); intro gb369 hg w45 hbox hb; have n0_ := Aside0.mk (Kd.R_below (by (with_reducible repeat (first | apply Kd.R_alloc | apply Kd.R_drewN | apply Kd.R_drew)); exact HO351.out) hb); have n1_ := Aside0.mk (Kd.Q_below (by (with_reducible repeat (first | apply Kd.Q_alloc | apply Kd.Q_drewN | apply Kd.Q_drew)); exact HO366.out) hb); have n2_ := Aside0.mk (blk_below (g := gb346) (o := .cells #[.string a0_0, .int .i64 a0_1, .string a0_2, .int .i64 a0_3, .bool a0_4, .bool a0_5, .slice A0_6 l0_6.length c0_6] 26 (0, 0)) (by (with_reducible repeat (first | refine blk_drewN ?_ _ | refine blk_drew ?_ | refine blk_alloc ?_ _)); exact BK346.out) hb); have n3_ := Aside0.mk (blk_below (g := gb352) (o := .cells #[.slice Ao36 t349.length co36] 31 (0, 0)) (by (with_reducible repeat (first | refine blk_drewN ?_ _ | refine blk_drew ?_ | refine blk_alloc ?_ _)); exact BK352.out) hb); have n4_ := Aside0.mk (below_step (by repeat (first | (with_reducible first | exact HB.out | apply below_alloc | apply pw_below_drewN | apply below_drew1 | refine below_set ?_ GE346.out | refine below_set ?_ GE352.out) | exact HB.out)) hb); have n5_ := Aside0.mk (hbox); have n6_ := Aside0.mk ((by rw [hg]; exact (below_size (by repeat (first | (with_reducible first | exact HB.out | apply below_alloc | apply pw_below_drewN | apply below_drew1 | refine below_set ?_ GE346.out | refine below_set ?_ GE352.out) | exact HB.out))) : w.heap.size ≤ gb369)); have n7_ := Aside0.mk ((by rw [hg]; exact (below_size (by repeat (first | (with_reducible first | exact HB.out | apply below_alloc | apply pw_below_drewN | apply below_drew1 | refine below_set ?_ GE346.out | refine below_set ?_ GE352.out) | exact HB.out))) : w.heap.size ≤ gb369)); have n8_ := Aside0.mk ((by rw [hg]; exact Nat.ne_of_lt (blk_lt (g := gb346) (o := .cells #[.string a0_0, .int .i64 a0_1, .string a0_2, .int .i64 a0_3, .bool a0_4, .bool a0_5, .slice A0_6 l0_6.length c0_6] 26 (0, 0)) (by (with_reducible repeat (first | refine blk_drewN ?_ _ | refine blk_drew ?_ | refine blk_alloc ?_ _)); exact BK346.out)) : gb346 ≠ gb369)); have n9_ := Aside0.mk ((by rw [hg]; exact Nat.ne_of_gt (blk_lt (g := gb346) (o := .cells #[.string a0_0, .int .i64 a0_1, .string a0_2, .int .i64 a0_3, .bool a0_4, .bool a0_5, .slice A0_6 l0_6.length c0_6] 26 (0, 0)) (by (with_reducible repeat (first | refine blk_drewN ?_ _ | refine blk_drew ?_ | refine blk_alloc ?_ _)); exact BK346.out)) : gb369 ≠ gb346)); have n10_ := Aside0.mk ((by rw [hg]; exact Nat.ne_of_lt (blk_lt (g := gb352) (o := .cells #[.slice Ao36 t349.length co36] 31 (0, 0)) (by (with_reducible repeat (first | refine blk_drewN ?_ _ | refine blk_drew ?_ | refine blk_alloc ?_ _)); exact BK352.out)) : gb352 ≠ gb369)); have n11_ := Aside0.mk ((by rw [hg]; exact Nat.ne_of_gt (blk_lt (g := gb352) (o := .cells #[.slice Ao36 t349.length co36] 31 (0, 0)) (by (with_reducible repeat (first | refine blk_drewN ?_ _ | refine blk_drew ?_ | refine blk_alloc ?_ _)); exact BK352.out)) : gb369 ≠ gb352)); clear HO351; clear HO366; clear BK346; clear BK352; clear HB; have HO351 := n0_; have HO366 := n1_; have BK346 := n2_; have BK352 := n3_; have HB := n4_; have BK369 := n5_; have GW369 := n6_; have GE369 := n7_; have NB346_369 := n8_; have NB369_346 := n9_; have NB352_369 := n10_; have NB369_352 := n11_; clear n0_ n1_ n2_ n3_ n4_ n5_ n6_ n7_ n8_ n9_ n10_ n11_; clear hb hbox hg; have hnb46 := NB369_346.out; have hnc46 := NB346_369.out; have hnb47 := NB369_352.out; have hnc47 := NB352_369.out; have hcz48_0 : w45.cell? ⟨gb369, 0, none⟩ = some (.string (⟨#[]⟩ : ByteArray)) := (blk_cell BK369.out 0).trans rfl; have hcz48_1 : w45.cell? ⟨gb369, 1, none⟩ = some (.int .i64 0) := (blk_cell BK369.out 1).trans rfl; have hcz48_2 : w45.cell? ⟨gb369, 2, none⟩ = some (.string (⟨#[]⟩ : ByteArray)) := (blk_cell BK369.out 2).trans rfl; have hcz48_3 : w45.cell? ⟨gb369, 3, none⟩ = some (.int .i64 0) := (blk_cell BK369.out 3).trans rfl; have hcz48_4 : w45.cell? ⟨gb369, 4, none⟩ = some (.bool false) := (blk_cell BK369.out 4).trans rfl; have hcz48_5 : w45.cell? ⟨gb369, 5, none⟩ = some (.bool false) := (blk_cell BK369.out 5).trans rfl; have hcz48_6 : w45.cell? ⟨gb369, 6, none⟩ = some (.slice none 0 0) := (blk_cell BK369.out 6).trans rfl; have hfz48_0 := blk_frozen BK369.out 0; have hfz48_1 := blk_frozen BK369.out 1; have hfz48_2 := blk_frozen BK369.out 2; have hfz48_3 := blk_frozen BK369.out 3; have hfz48_4 := blk_frozen BK369.out 4; have hfz48_5 := blk_frozen BK369.out 5; have hfz48_6 := blk_frozen BK369.out 6; obtain ⟨Ao49, co49, eo49, _⟩ := Kd.Q_slice HO366.out; subst eo49))
             have n0_ : Aside0 (Kd.R k37 37 (((((((w45.setCell ⟨gb369, 0, none⟩ (.string t358)).setCell ⟨gb369, 1, none⟩ (.int .i64 t359)).setCell ⟨gb369, 2, none⟩ (.string t360)).setCell ⟨gb369, 3, none⟩ (.int .i64 t361)).setCell ⟨gb369, 4, none⟩ (.bool t362)).setCell ⟨gb369, 5, none⟩ (.bool t363)).setCell ⟨gb369, 6, none⟩ (.slice Ao49 t364.length co49)) w.heap.size (fun _ => True) (.slice Ao36 t349.length co36) t349) := ⟨by (with_reducible repeat (first | apply Kd.R_alloc | apply Kd.R_drewN | apply Kd.R_drew)); exact Kd.R_mono (Kd.R_far (p := ⟨gb369, 6, none⟩) (Kd.R_far (p := ⟨gb369, 5, none⟩) (Kd.R_far (p := ⟨gb369, 4, none⟩) (Kd.R_far (p := ⟨gb369, 3, none⟩) (Kd.R_far (p := ⟨gb369, 2, none⟩) (Kd.R_far (p := ⟨gb369, 1, none⟩) (Kd.R_far (p := ⟨gb369, 0, none⟩) (Kd.R_types HO351.out BK369.out (by decide)) (fun _ hk => hk.2) (.string t358)) (fun _ hk => hk.2) (.int .i64 t359)) (fun _ hk => hk.2) (.string t360)) (fun _ hk => hk.2) (.int .i64 t361)) (fun _ hk => hk.2) (.bool t362)) (fun _ hk => hk.2) (.bool t363)) (fun _ hk => hk.2) (.slice Ao49 t364.length co49)) (fun _ hk => trivial)⟩
             have n1_ : Aside0 (Kd.Q k93 93 (((((((w45.setCell ⟨gb369, 0, none⟩ (.string t358)).setCell ⟨gb369, 1, none⟩ (.int .i64 t359)).setCell ⟨gb369, 2, none⟩ (.string t360)).setCell ⟨gb369, 3, none⟩ (.int .i64 t361)).setCell ⟨gb369, 4, none⟩ (.bool t362)).setCell ⟨gb369, 5, none⟩ (.bool t363)).setCell ⟨gb369, 6, none⟩ (.slice Ao49 t364.length co49)) w.heap.size (fun _ => True) (.slice Ao49 t364.length co49) t364) := ⟨by (with_reducible repeat (first | apply Kd.Q_alloc | apply Kd.Q_drewN | apply Kd.Q_drew)); exact Kd.Q_mono (Kd.Q_far (p := ⟨gb369, 6, none⟩) (Kd.Q_far (p := ⟨gb369, 5, none⟩) (Kd.Q_far (p := ⟨gb369, 4, none⟩) (Kd.Q_far (p := ⟨gb369, 3, none⟩) (Kd.Q_far (p := ⟨gb369, 2, none⟩) (Kd.Q_far (p := ⟨gb369, 1, none⟩) (Kd.Q_far (p := ⟨gb369, 0, none⟩) (Kd.Q_types HO366.out BK369.out (by decide)) (fun _ hk => hk.2) (.string t358)) (fun _ hk => hk.2) (.int .i64 t359)) (fun _ hk => hk.2) (.string t360)) (fun _ hk => hk.2) (.int .i64 t361)) (fun _ hk => hk.2) (.bool t362)) (fun _ hk => hk.2) (.bool t363)) (fun _ hk => hk.2) (.slice Ao49 t364.length co49)) (fun _ hk => trivial)⟩
             have n2_ : Aside0 ((((((((w45.setCell ⟨gb369, 0, none⟩ (.string t358)).setCell ⟨gb369, 1, none⟩ (.int .i64 t359)).setCell ⟨gb369, 2, none⟩ (.string t360)).setCell ⟨gb369, 3, none⟩ (.int .i64 t361)).setCell ⟨gb369, 4, none⟩ (.bool t362)).setCell ⟨gb369, 5, none⟩ (.bool t363)).setCell ⟨gb369, 6, none⟩ (.slice Ao49 t364.length co49)).heap[gb346]? = some (.cells #[.string a0_0, .int .i64 a0_1, .string a0_2, .int .i64 a0_3, .bool a0_4, .bool a0_5, .slice A0_6 l0_6.length c0_6] 26 (0, 0))) := ⟨by (with_reducible repeat (first | refine blk_drewN ?_ _ | refine blk_drew ?_ | refine blk_alloc ?_ _)); refine blk_far ?_ NB346_369.out _; (with_reducible repeat (first | refine blk_drewN ?_ _ | refine blk_drew ?_ | refine blk_alloc ?_ _)); refine blk_far ?_ NB346_369.out _; (with_reducible repeat (first | refine blk_drewN ?_ _ | refine blk_drew ?_ | refine blk_alloc ?_ _)); refine blk_far ?_ NB346_369.out _; (with_reducible repeat (first | refine blk_drewN ?_ _ | refine blk_drew ?_ | refine blk_alloc ?_ _)); refine blk_far ?_ NB346_369.out _; (with_reducible repeat (first | refine blk_drewN ?_ _ | refine blk_drew ?_ | refine blk_alloc ?_ _)); refine blk_far ?_ NB346_369.out _; (with_reducible repeat (first | refine blk_drewN ?_ _ | refine blk_drew ?_ | refine blk_alloc ?_ _)); refine blk_far ?_ NB346_369.out _; (with_reducible repeat (first | refine blk_drewN ?_ _ | refine blk_drew ?_ | refine blk_alloc ?_ _)); refine blk_far ?_ NB346_369.out _; (with_reducible repeat (first | refine blk_drewN ?_ _ | refine blk_drew ?_ | refine blk_alloc ?_ _)); exact BK346.out⟩
             have n3_ : Aside0 ((((((((w45.setCell ⟨gb369, 0, none⟩ (.string t358)).setCell ⟨gb369, 1, none⟩ (.int .i64 t359)).setCell ⟨gb369, 2, none⟩ (.string t360)).setCell ⟨gb369, 3, none⟩ (.int .i64 t361)).setCell ⟨gb369, 4, none⟩ (.bool t362)).setCell ⟨gb369, 5, none⟩ (.bool t363)).setCell ⟨gb369, 6, none⟩ (.slice Ao49 t364.length co49)).heap[gb352]? = some (.cells #[.slice Ao36 t349.length co36] 31 (0, 0))) := ⟨by (with_reducible repeat (first | refine blk_drewN ?_ _ | refine blk_drew ?_ | refine blk_alloc ?_ _)); refine blk_far ?_ NB352_369.out _; (with_reducible repeat (first | refine blk_drewN ?_ _ | refine blk_drew ?_ | refine blk_alloc ?_ _)); refine blk_far ?_ NB352_369.out _; (with_reducible repeat (first | refine blk_drewN ?_ _ | refine blk_drew ?_ | refine blk_alloc ?_ _)); refine blk_far ?_ NB352_369.out _; (with_reducible repeat (first | refine blk_drewN ?_ _ | refine blk_drew ?_ | refine blk_alloc ?_ _)); refine blk_far ?_ NB352_369.out _; (with_reducible repeat (first | refine blk_drewN ?_ _ | refine blk_drew ?_ | refine blk_alloc ?_ _)); refine blk_far ?_ NB352_369.out _; (with_reducible repeat (first | refine blk_drewN ?_ _ | refine blk_drew ?_ | refine blk_alloc ?_ _)); refine blk_far ?_ NB352_369.out _; (with_reducible repeat (first | refine blk_drewN ?_ _ | refine blk_drew ?_ | refine blk_alloc ?_ _)); refine blk_far ?_ NB352_369.out _; (with_reducible repeat (first | refine blk_drewN ?_ _ | refine blk_drew ?_ | refine blk_alloc ?_ _)); exact BK352.out⟩
             have n4_ : Aside0 ((((((((w45.setCell ⟨gb369, 0, none⟩ (.string t358)).setCell ⟨gb369, 1, none⟩ (.int .i64 t359)).setCell ⟨gb369, 2, none⟩ (.string t360)).setCell ⟨gb369, 3, none⟩ (.int .i64 t361)).setCell ⟨gb369, 4, none⟩ (.bool t362)).setCell ⟨gb369, 5, none⟩ (.bool t363)).setCell ⟨gb369, 6, none⟩ (.slice Ao49 t364.length co49)).heap[gb369]? = some (.cells #[.string t358, .int .i64 t359, .string t360, .int .i64 t361, .bool t362, .bool t363, .slice Ao49 t364.length co49] 26 (0, 0))) := ⟨by (with_reducible repeat (first | refine blk_drewN ?_ _ | refine blk_drew ?_ | refine blk_alloc ?_ _)); refine blk_put (cs := #[.string t358, .int .i64 t359, .string t360, .int .i64 t361, .bool t362, .bool t363, .slice none 0 0]) ?_ 6 _ rfl; (with_reducible repeat (first | refine blk_drewN ?_ _ | refine blk_drew ?_ | refine blk_alloc ?_ _)); refine blk_put (cs := #[.string t358, .int .i64 t359, .string t360, .int .i64 t361, .bool t362, .bool false, .slice none 0 0]) ?_ 5 _ rfl; (with_reducible repeat (first | refine blk_drewN ?_ _ | refine blk_drew ?_ | refine blk_alloc ?_ _)); refine blk_put (cs := #[.string t358, .int .i64 t359, .string t360, .int .i64 t361, .bool false, .bool false, .slice none 0 0]) ?_ 4 _ rfl; (with_reducible repeat (first | refine blk_drewN ?_ _ | refine blk_drew ?_ | refine blk_alloc ?_ _)); refine blk_put (cs := #[.string t358, .int .i64 t359, .string t360, .int .i64 0, .bool false, .bool false, .slice none 0 0]) ?_ 3 _ rfl; (with_reducible repeat (first | refine blk_drewN ?_ _ | refine blk_drew ?_ | refine blk_alloc ?_ _)); refine blk_put (cs := #[.string t358, .int .i64 t359, .string (⟨#[]⟩ : ByteArray), .int .i64 0, .bool false, .bool false, .slice none 0 0]) ?_ 2 _ rfl; (with_reducible repeat (first | refine blk_drewN ?_ _ | refine blk_drew ?_ | refine blk_alloc ?_ _)); refine blk_put (cs := #[.string t358, .int .i64 0, .string (⟨#[]⟩ : ByteArray), .int .i64 0, .bool false, .bool false, .slice none 0 0]) ?_ 1 _ rfl; (with_reducible repeat (first | refine blk_drewN ?_ _ | refine blk_drew ?_ | refine blk_alloc ?_ _)); refine blk_put (cs := #[.string (⟨#[]⟩ : ByteArray), .int .i64 0, .string (⟨#[]⟩ : ByteArray), .int .i64 0, .bool false, .bool false, .slice none 0 0]) ?_ 0 _ rfl; (with_reducible repeat (first | refine blk_drewN ?_ _ | refine blk_drew ?_ | refine blk_alloc ?_ _)); exact BK369.out⟩
             have n5_ : Aside0 (Below w.heap.size w (((((((w45.setCell ⟨gb369, 0, none⟩ (.string t358)).setCell ⟨gb369, 1, none⟩ (.int .i64 t359)).setCell ⟨gb369, 2, none⟩ (.string t360)).setCell ⟨gb369, 3, none⟩ (.int .i64 t361)).setCell ⟨gb369, 4, none⟩ (.bool t362)).setCell ⟨gb369, 5, none⟩ (.bool t363)).setCell ⟨gb369, 6, none⟩ (.slice Ao49 t364.length co49))) := ⟨by repeat (first | (with_reducible first | exact HB.out | apply below_alloc | apply pw_below_drewN | apply below_drew1 | refine below_set ?_ GE346.out | refine below_set ?_ GE352.out | refine below_set ?_ GE369.out) | exact HB.out)⟩
             (try clear HO351)
             (try clear HO366)
             (try clear BK346)
             (try clear BK352)
             (try clear BK369)
             (try clear HB)
             generalize (((((((w45.setCell ⟨gb369, 0, none⟩ (.string t358)).setCell ⟨gb369, 1, none⟩ (.int .i64 t359)).setCell ⟨gb369, 2, none⟩ (.string t360)).setCell ⟨gb369, 3, none⟩ (.int .i64 t361)).setCell ⟨gb369, 4, none⟩ (.bool t362)).setCell ⟨gb369, 5, none⟩ (.bool t363)).setCell ⟨gb369, 6, none⟩ (.slice Ao49 t364.length co49)) = w50 at n0_ n1_ n2_ n3_ n4_ n5_ ⊢
             have HO351 := n0_
             have HO366 := n1_
             have BK346 := n2_
             have BK352 := n3_
             have BK369 := n4_
             have HB := n5_
             clear n0_ n1_ n2_ n3_ n4_ n5_
             have n0_ := Aside0.mk (Kd.R_drew HO351.out)
             have n1_ := Aside0.mk (Kd.Q_drew HO366.out)
             have n2_ := Aside0.mk (blk_drew BK346.out)
             have n3_ := Aside0.mk (blk_drew BK352.out)
             have n4_ := Aside0.mk (blk_drew BK369.out)
             have n5_ := Aside0.mk (below_drew1 HB.out)
             clear HO351
             clear HO366
             clear BK346
             clear BK352
             clear BK369
             clear HB
             have HO351 := n0_
             have HO366 := n1_
             have BK346 := n2_
             have BK352 := n3_
             have BK369 := n4_
             have HB := n5_
             clear n0_ n1_ n2_ n3_ n4_ n5_
             refine start_ (n := 32) (S := fun w' => w'.cell? ⟨gb352, 0, none⟩ = some (.slice Ao36 t349.length co36) ∧ w'.cell? ⟨gb369, 0, none⟩ = some (.string t358) ∧ w'.cell? ⟨gb369, 1, none⟩ = some (.int .i64 t359) ∧ w'.cell? ⟨gb369, 2, none⟩ = some (.string t360) ∧ w'.cell? ⟨gb369, 3, none⟩ = some (.int .i64 t361) ∧ w'.cell? ⟨gb369, 4, none⟩ = some (.bool t362) ∧ w'.cell? ⟨gb369, 5, none⟩ = some (.bool t363) ∧ w'.cell? ⟨gb369, 6, none⟩ = some (.slice Ao49 t364.length co49) ∧ w'.cell? ⟨gb346, 0, none⟩ = some (.string a0_0) ∧ w'.cell? ⟨gb346, 1, none⟩ = some (.int .i64 a0_1) ∧ w'.cell? ⟨gb346, 2, none⟩ = some (.string a0_2) ∧ w'.cell? ⟨gb346, 3, none⟩ = some (.int .i64 a0_3) ∧ w'.cell? ⟨gb346, 4, none⟩ = some (.bool a0_4) ∧ w'.cell? ⟨gb346, 5, none⟩ = some (.bool a0_5) ∧ w'.cell? ⟨gb346, 6, none⟩ = some (.slice A0_6 l0_6.length c0_6)) (ds := []) #[false, false, false, false, false, false, false, false, false, false, false, false, false, false, false, false, false, false, false, false, false, false, false, false, false, false, false, false, false, false, false, false] (by kernel_rfl) rfl rfl ⟨(blk_cell BK352.out 0).trans rfl, (blk_cell BK369.out 0).trans rfl, (blk_cell BK369.out 1).trans rfl, (blk_cell BK369.out 2).trans rfl, (blk_cell BK369.out 3).trans rfl, (blk_cell BK369.out 4).trans rfl, (blk_cell BK369.out 5).trans rfl, (blk_cell BK369.out 6).trans rfl, (blk_cell BK346.out 0).trans rfl, (blk_cell BK346.out 1).trans rfl, (blk_cell BK346.out 2).trans rfl, (blk_cell BK346.out 3).trans rfl, (blk_cell BK346.out 4).trans rfl, (blk_cell BK346.out 5).trans rfl, (blk_cell BK346.out 6).trans rfl⟩ (fun hHeld => ?_); refine with_tabW squelchlaw05_PathBytes.tab13 squelchlaw05_PathBytes.bits13 (fun HT_ HW_ => ?_)
             generalize w50.drew = w51 at HO351 HO366 BK346 BK352 BK369 HB hHeld ⊢
             refine pure_ (i := 0) (N := some 55) (v := ?_) (a' := ?_) #[true, false, false, false, false, false, false, false, false, false, false, false, false, false, false, false, false, false, false, false, false, false, false, false, false, false, false, false, false, false, false, false] rfl rfl (any_of HT_.out (by kernel_rfl)) (fun _ _ _ h => h) (Or.inl ⟨by rfl, ?_⟩) ?_ ?_
             rotate_left
             ·intro w'
              go_simp
              with_reducible rfl
             rotate_left
             ·simp only [Act.put, List.setIfInBounds_toArray, List.set_cons_zero, List.set_cons_succ, i64_w, i32_w]
              rfl
             refine pure_ (i := 1) (N := some 56) (v := ?_) (a' := ?_) #[true, true, false, false, false, false, false, false, false, false, false, false, false, false, false, false, false, false, false, false, false, false, false, false, false, false, false, false, false, false, false, false] rfl rfl (any_of HT_.out (by kernel_rfl)) (fun _ _ _ h => h) (Or.inl ⟨by rfl, ?_⟩) ?_ ?_
             rotate_left
             ·intro w'
              go_simp
              with_reducible rfl
             rotate_left
             ·simp only [Act.put, List.setIfInBounds_toArray, List.set_cons_zero, List.set_cons_succ, i64_w, i32_w]
              rfl
             refine pure_ (i := 2) (N := some 57) (v := ?_) (a' := ?_) #[true, true, true, false, false, false, false, false, false, false, false, false, false, false, false, false, false, false, false, false, false, false, false, false, false, false, false, false, false, false, false, false] rfl rfl (any_of HT_.out (by kernel_rfl)) (fun _ _ _ h => h) (Or.inl ⟨by rfl, ?_⟩) ?_ ?_
             rotate_left
             ·intro w'
              go_simp
              with_reducible rfl
             rotate_left
             ·simp only [Act.put, List.setIfInBounds_toArray, List.set_cons_zero, List.set_cons_succ, i64_w, i32_w]
              rfl
             refine pure_ (i := 3) (N := some 58) (v := ?_) (a' := ?_) #[true, true, true, true, false, false, false, false, false, false, false, false, false, false, false, false, false, false, false, false, false, false, false, false, false, false, false, false, false, false, false, false] rfl rfl (any_of HT_.out (by kernel_rfl)) (fun _ _ _ h => h) (Or.inl ⟨by rfl, ?_⟩) ?_ ?_
             rotate_left
             ·intro w'
              go_simp
              with_reducible rfl
             rotate_left
             ·simp only [Act.put, List.setIfInBounds_toArray, List.set_cons_zero, List.set_cons_succ, i64_w, i32_w]
              rfl
             refine take_ (i := 4) (N := some 59) (v := ?_) (a' := ?_) #[true, true, true, true, true, false, false, false, false, false, false, false, false, false, false, false, false, false, false, false, false, false, false, false, false, false, false, false, false, false, false, false] rfl rfl (take_ofW HT_.out HW_.out (by kernel_rfl)) (fun _ _ _ h => h) (Or.inl ⟨by rfl, ?_⟩) hHeld ?_ ?_
             rotate_left
             ·rintro w' ⟨s0, s1, s2, s3, s4, s5, s6, s7, s8, s9, s10, s11, s12, s13, s14⟩
              go_simp
              with_reducible rfl
             rotate_left
             ·simp only [Act.put, List.setIfInBounds_toArray, List.set_cons_zero, List.set_cons_succ, i64_w, i32_w]
              rfl
             refine one_ (i := 5) (N := some 60) #[true, true, true, true, true, true, false, false, false, false, false, false, false, false, false, false, false, false, false, false, false, false, false, false, false, false, false, false, false, false, false, false] rfl rfl (one_of HT_.out (by kernel_rfl)) (by decide) (fun K hK => ?_)
             refine goes_ Tryd.func34 (by kernel_rfl) rfl #[.agg #[.slice Ao36 t349.length co36]] (by rfl) rfl rfl (by (try simp only [List.map_toArray, List.map_cons, List.map_nil]); first | done | rfl | (simp only [List.length_drop, List.length_take]; rfl)) ?_
             with_reducible refine (squelchref05_Put.calls kj4 _ _ t349 t370 _ ?side1 ?side2 A24.out).mono ?_
             (case side1 => repeat (first | exact (Kd.R_reads' HO351.out).2.2 | (with_reducible refine Kd.C_alloc ?_ _) | (with_reducible refine Kd.C_drewN ?_ _) | (with_reducible refine Kd.C_drew ?_)))
             (case side2 => exact (Kd.R_reads' HO351.out).2.1)
             rintro e w52 ⟨rfl, hb⟩
             refine ⟨_, rfl, ?_⟩
             have n0_ := Aside0.mk (Kd.R_below (by (with_reducible repeat (first | apply Kd.R_alloc | apply Kd.R_drewN | apply Kd.R_drew)); exact HO351.out) hb)
             have n1_ := Aside0.mk (Kd.Q_below (by (with_reducible repeat (first | apply Kd.Q_alloc | apply Kd.Q_drewN | apply Kd.Q_drew)); exact HO366.out) hb)
             have n2_ := Aside0.mk (blk_below (g := gb346) (o := .cells #[.string a0_0, .int .i64 a0_1, .string a0_2, .int .i64 a0_3, .bool a0_4, .bool a0_5, .slice A0_6 l0_6.length c0_6] 26 (0, 0)) (by (with_reducible repeat (first | refine blk_drewN ?_ _ | refine blk_drew ?_ | refine blk_alloc ?_ _)); exact BK346.out) hb)
             have n3_ := Aside0.mk (blk_below (g := gb352) (o := .cells #[.slice Ao36 t349.length co36] 31 (0, 0)) (by (with_reducible repeat (first | refine blk_drewN ?_ _ | refine blk_drew ?_ | refine blk_alloc ?_ _)); exact BK352.out) hb)
             have n4_ := Aside0.mk (blk_below (g := gb369) (o := .cells #[.string t358, .int .i64 t359, .string t360, .int .i64 t361, .bool t362, .bool t363, .slice Ao49 t364.length co49] 26 (0, 0)) (by (with_reducible repeat (first | refine blk_drewN ?_ _ | refine blk_drew ?_ | refine blk_alloc ?_ _)); exact BK369.out) hb)
             have n5_ := Aside0.mk (below_step (by repeat (first | (with_reducible first | exact HB.out | apply below_alloc | apply pw_below_drewN | apply below_drew1 | refine below_set ?_ GE346.out | refine below_set ?_ GE352.out | refine below_set ?_ GE369.out) | exact HB.out)) hb)
             clear HO351
             clear HO366
             clear BK346
             clear BK352
             clear BK369
             clear HB
             have HO351 := n0_
             have HO366 := n1_
             have BK346 := n2_
             have BK352 := n3_
             have BK369 := n4_
             have HB := n5_
             clear n0_ n1_ n2_ n3_ n4_ n5_
             (try clear hb)
             (try clear hb2)
             (try clear hk)
             (try clear hi)
             refine hK.out _ _ ⟨(blk_cell BK352.out 0).trans rfl, (blk_cell BK369.out 0).trans rfl, (blk_cell BK369.out 1).trans rfl, (blk_cell BK369.out 2).trans rfl, (blk_cell BK369.out 3).trans rfl, (blk_cell BK369.out 4).trans rfl, (blk_cell BK369.out 5).trans rfl, (blk_cell BK369.out 6).trans rfl, (blk_cell BK346.out 0).trans rfl, (blk_cell BK346.out 1).trans rfl, (blk_cell BK346.out 2).trans rfl, (blk_cell BK346.out 3).trans rfl, (blk_cell BK346.out 4).trans rfl, (blk_cell BK346.out 5).trans rfl, (blk_cell BK346.out 6).trans rfl⟩ (fun hHeld => ?_)
             clear hK K
             refine norm_ (a' := ?_) ?_ ?_
             rotate_left
             ·show Act.put _ (some 60) _ = _
              simp only [Act.put, List.setIfInBounds_toArray, List.set_cons_zero, List.set_cons_succ, i64_w, i32_w]
              rfl
             refine pure_ (i := 6) (N := some 61) (v := ?_) (a' := ?_) #[true, true, true, true, true, true, true, false, false, false, false, false, false, false, false, false, false, false, false, false, false, false, false, false, false, false, false, false, false, false, false, false] rfl rfl (any_of HT_.out (by kernel_rfl)) (fun _ _ _ h => h) (Or.inl ⟨by rfl, ?_⟩) ?_ ?_
             rotate_left
             ·intro w'
              go_simp
              with_reducible rfl
             rotate_left
             ·simp only [Act.put, List.setIfInBounds_toArray, List.set_cons_zero, List.set_cons_succ, i64_w, i32_w]
              rfl
             refine pure_ (i := 7) (N := some 62) (v := ?_) (a' := ?_) #[true, true, true, true, true, true, true, true, false, false, false, false, false, false, false, false, false, false, false, false, false, false, false, false, false, false, false, false, false, false, false, false] rfl rfl (any_of HT_.out (by kernel_rfl)) (fun _ _ _ h => h) (Or.inl ⟨by rfl, ?_⟩) ?_ ?_
             rotate_left
             ·intro w'
              go_simp
              with_reducible rfl
             rotate_left
             ·simp only [Act.put, List.setIfInBounds_toArray, List.set_cons_zero, List.set_cons_succ, i64_w, i32_w]
              rfl
             refine pure_ (i := 8) (N := some 63) (v := ?_) (a' := ?_) #[true, true, true, true, true, true, true, true, true, false, false, false, false, false, false, false, false, false, false, false, false, false, false, false, false, false, false, false, false, false, false, false] rfl rfl (any_of HT_.out (by kernel_rfl)) (fun _ _ _ h => h) (Or.inl ⟨by rfl, ?_⟩) ?_ ?_
             rotate_left
             ·intro w'
              go_simp
              with_reducible rfl
             rotate_left
             ·simp only [Act.put, List.setIfInBounds_toArray, List.set_cons_zero, List.set_cons_succ, i64_w, i32_w]
              rfl
             refine pure_ (i := 9) (N := some 64) (v := ?_) (a' := ?_) #[true, true, true, true, true, true, true, true, true, true, false, false, false, false, false, false, false, false, false, false, false, false, false, false, false, false, false, false, false, false, false, false] rfl rfl (any_of HT_.out (by kernel_rfl)) (fun _ _ _ h => h) (Or.inl ⟨by rfl, ?_⟩) ?_ ?_
             rotate_left
             ·intro w'
              go_simp
              with_reducible rfl
             rotate_left
             ·simp only [Act.put, List.setIfInBounds_toArray, List.set_cons_zero, List.set_cons_succ, i64_w, i32_w]
              rfl
             refine pure_ (i := 10) (N := some 65) (v := ?_) (a' := ?_) #[true, true, true, true, true, true, true, true, true, true, true, false, false, false, false, false, false, false, false, false, false, false, false, false, false, false, false, false, false, false, false, false] rfl rfl (any_of HT_.out (by kernel_rfl)) (fun _ _ _ h => h) (Or.inl ⟨by rfl, ?_⟩) ?_ ?_
             rotate_left
             ·intro w'
              go_simp
              with_reducible rfl
             rotate_left
             ·simp only [Act.put, List.setIfInBounds_toArray, List.set_cons_zero, List.set_cons_succ, i64_w, i32_w]
              rfl
             refine pure_ (i := 11) (N := some 66) (v := ?_) (a' := ?_) #[true, true, true, true, true, true, true, true, true, true, true, true, false, false, false, false, false, false, false, false, false, false, false, false, false, false, false, false, false, false, false, false] rfl rfl (any_of HT_.out (by kernel_rfl)) (fun _ _ _ h => h) (Or.inl ⟨by rfl, ?_⟩) ?_ ?_
             rotate_left
             ·intro w'
              go_simp
              with_reducible rfl
             rotate_left
             ·simp only [Act.put, List.setIfInBounds_toArray, List.set_cons_zero, List.set_cons_succ, i64_w, i32_w]
              rfl
             refine pure_ (i := 12) (N := some 67) (v := ?_) (a' := ?_) #[true, true, true, true, true, true, true, true, true, true, true, true, true, false, false, false, false, false, false, false, false, false, false, false, false, false, false, false, false, false, false, false] rfl rfl (any_of HT_.out (by kernel_rfl)) (fun _ _ _ h => h) (Or.inl ⟨by rfl, ?_⟩) ?_ ?_
             rotate_left
             ·intro w'
              go_simp
              with_reducible rfl
             rotate_left
             ·simp only [Act.put, List.setIfInBounds_toArray, List.set_cons_zero, List.set_cons_succ, i64_w, i32_w]
              rfl
             refine pure_ (i := 13) (N := some 68) (v := ?_) (a' := ?_) #[true, true, true, true, true, true, true, true, true, true, true, true, true, true, false, false, false, false, false, false, false, false, false, false, false, false, false, false, false, false, false, false] rfl rfl (any_of HT_.out (by kernel_rfl)) (fun _ _ _ h => h) (Or.inl ⟨by rfl, ?_⟩) ?_ ?_
             rotate_left
             ·intro w'
              go_simp
              with_reducible rfl
             rotate_left
             ·simp only [Act.put, List.setIfInBounds_toArray, List.set_cons_zero, List.set_cons_succ, i64_w, i32_w]
              rfl
             refine pure_ (i := 14) (N := some 69) (v := ?_) (a' := ?_) #[true, true, true, true, true, true, true, true, true, true, true, true, true, true, true, false, false, false, false, false, false, false, false, false, false, false, false, false, false, false, false, false] rfl rfl (any_of HT_.out (by kernel_rfl)) (fun _ _ _ h => h) (Or.inl ⟨by rfl, ?_⟩) ?_ ?_
             rotate_left
             ·intro w'
              go_simp
              with_reducible rfl
             rotate_left
             ·simp only [Act.put, List.setIfInBounds_toArray, List.set_cons_zero, List.set_cons_succ, i64_w, i32_w]
              rfl
             refine pure_ (i := 15) (N := some 70) (v := ?_) (a' := ?_) #[true, true, true, true, true, true, true, true, true, true, true, true, true, true, true, true, false, false, false, false, false, false, false, false, false, false, false, false, false, false, false, false] rfl rfl (any_of HT_.out (by kernel_rfl)) (fun _ _ _ h => h) (Or.inl ⟨by rfl, ?_⟩) ?_ ?_
             rotate_left
             ·intro w'
              go_simp
              with_reducible rfl
             rotate_left
             ·simp only [Act.put, List.setIfInBounds_toArray, List.set_cons_zero, List.set_cons_succ, i64_w, i32_w]
              rfl
             refine pure_ (i := 16) (N := some 71) (v := ?_) (a' := ?_) #[true, true, true, true, true, true, true, true, true, true, true, true, true, true, true, true, true, false, false, false, false, false, false, false, false, false, false, false, false, false, false, false] rfl rfl (any_of HT_.out (by kernel_rfl)) (fun _ _ _ h => h) (Or.inl ⟨by rfl, ?_⟩) ?_ ?_
             rotate_left
             ·intro w'
              go_simp
              with_reducible rfl
             rotate_left
             ·simp only [Act.put, List.setIfInBounds_toArray, List.set_cons_zero, List.set_cons_succ, i64_w, i32_w]
              rfl
             refine pure_ (i := 17) (N := some 72) (v := ?_) (a' := ?_) #[true, true, true, true, true, true, true, true, true, true, true, true, true, true, true, true, true, true, false, false, false, false, false, false, false, false, false, false, false, false, false, false] rfl rfl (any_of HT_.out (by kernel_rfl)) (fun _ _ _ h => h) (Or.inl ⟨by rfl, ?_⟩) ?_ ?_
             rotate_left
             ·intro w'
              go_simp
              with_reducible rfl
             rotate_left
             ·simp only [Act.put, List.setIfInBounds_toArray, List.set_cons_zero, List.set_cons_succ, i64_w, i32_w]
              rfl
             refine pure_ (i := 18) (N := some 73) (v := ?_) (a' := ?_) #[true, true, true, true, true, true, true, true, true, true, true, true, true, true, true, true, true, true, true, false, false, false, false, false, false, false, false, false, false, false, false, false] rfl rfl (any_of HT_.out (by kernel_rfl)) (fun _ _ _ h => h) (Or.inl ⟨by rfl, ?_⟩) ?_ ?_
             rotate_left
             ·intro w'
              go_simp
              with_reducible rfl
             rotate_left
             ·simp only [Act.put, List.setIfInBounds_toArray, List.set_cons_zero, List.set_cons_succ, i64_w, i32_w]
              rfl
             refine take_ (i := 19) (N := some 74) (v := ?_) (a' := ?_) #[true, true, true, true, true, true, true, true, true, true, true, true, true, true, true, true, true, true, true, true, false, false, false, false, false, false, false, false, false, false, false, false] rfl rfl (take_ofW HT_.out HW_.out (by kernel_rfl)) (fun _ _ _ h => h) (Or.inl ⟨by rfl, ?_⟩) hHeld ?_ ?_
             rotate_left
             ·rintro w' ⟨s0, s1, s2, s3, s4, s5, s6, s7, s8, s9, s10, s11, s12, s13, s14⟩
              go_simp
              with_reducible rfl
             rotate_left
             ·simp only [Act.put, List.setIfInBounds_toArray, List.set_cons_zero, List.set_cons_succ, i64_w, i32_w]
              rfl
             refine take_ (i := 21) (N := some 76) (v := ?_) (a' := ?_) #[true, true, true, true, true, true, true, true, true, true, true, true, true, true, true, true, true, true, true, true, false, true, false, false, false, false, false, false, false, false, false, false] rfl rfl (take_ofW HT_.out HW_.out (by kernel_rfl)) (fun _ _ _ h => h) (Or.inl ⟨by rfl, ?_⟩) hHeld ?_ ?_
             rotate_left
             ·rintro w' ⟨s0, s1, s2, s3, s4, s5, s6, s7, s8, s9, s10, s11, s12, s13, s14⟩
              go_simp
              with_reducible rfl
             rotate_left
             ·simp only [Act.put, List.setIfInBounds_toArray, List.set_cons_zero, List.set_cons_succ, i64_w, i32_w]
              rfl
             refine one_ (i := 20) (N := some 75) #[true, true, true, true, true, true, true, true, true, true, true, true, true, true, true, true, true, true, true, true, true, true, false, false, false, false, false, false, false, false, false, false] rfl rfl (one_of HT_.out (by kernel_rfl)) (by decide) (fun K hK => ?_)
             refine goes_ Tryd.func17 (by kernel_rfl) rfl #[.agg #[.string t358, .int .i64 t359, .string t360, .int .i64 t361, .bool t362, .bool t363, .slice Ao49 t364.length co49]] (by rfl) rfl rfl (by (try simp only [List.map_toArray, List.map_cons, List.map_nil]); first | done | rfl | (simp only [List.length_drop, List.length_take]; rfl)) ?_
             with_reducible refine (squelchlaw05_Plain.calls kj4 t358 t359 t360 t361 t362 t363 _ _ t364 t371 _ ?side1 ?side2 A28.out).mono ?_
             (case side1 => repeat (first | exact (Kd.Q_reads' HO366.out).2.2 | (with_reducible refine Kd.C_alloc ?_ _) | (with_reducible refine Kd.C_drewN ?_ _) | (with_reducible refine Kd.C_drew ?_)))
             (case side2 => exact (Kd.Q_reads' HO366.out).2.1)
             rintro e w53 ⟨v372, rfl, ho0, hb⟩
             refine ⟨_, rfl, ?_⟩
             have n0_ := Aside0.mk (Kd.R_elder' (by (with_reducible repeat (first | apply Kd.R_alloc | apply Kd.R_drewN | apply Kd.R_drew)); exact HO351.out) (Kd.R_base ho0) hb)
             have n1_ := Aside0.mk (Kd.Q_below (by (with_reducible repeat (first | apply Kd.Q_alloc | apply Kd.Q_drewN | apply Kd.Q_drew)); exact HO366.out) hb)
             have n2_ := Aside0.mk (Kd.R_lower (Kd.R_new' ho0 (Kd.R_lt (by (with_reducible repeat (first | apply Kd.R_alloc | apply Kd.R_drewN | apply Kd.R_drew)); exact HO351.out))) (below_size (by repeat (first | (with_reducible first | exact HB.out | apply below_alloc | apply pw_below_drewN | apply below_drew1 | refine below_set ?_ GE346.out | refine below_set ?_ GE352.out | refine below_set ?_ GE369.out) | exact HB.out))))
             have n3_ := Aside0.mk (blk_below (g := gb346) (o := .cells #[.string a0_0, .int .i64 a0_1, .string a0_2, .int .i64 a0_3, .bool a0_4, .bool a0_5, .slice A0_6 l0_6.length c0_6] 26 (0, 0)) (by (with_reducible repeat (first | refine blk_drewN ?_ _ | refine blk_drew ?_ | refine blk_alloc ?_ _)); exact BK346.out) hb)
             have n4_ := Aside0.mk (blk_below (g := gb352) (o := .cells #[.slice Ao36 t349.length co36] 31 (0, 0)) (by (with_reducible repeat (first | refine blk_drewN ?_ _ | refine blk_drew ?_ | refine blk_alloc ?_ _)); exact BK352.out) hb)
             have n5_ := Aside0.mk (blk_below (g := gb369) (o := .cells #[.string t358, .int .i64 t359, .string t360, .int .i64 t361, .bool t362, .bool t363, .slice Ao49 t364.length co49] 26 (0, 0)) (by (with_reducible repeat (first | refine blk_drewN ?_ _ | refine blk_drew ?_ | refine blk_alloc ?_ _)); exact BK369.out) hb)
             have n6_ := Aside0.mk (below_step (by repeat (first | (with_reducible first | exact HB.out | apply below_alloc | apply pw_below_drewN | apply below_drew1 | refine below_set ?_ GE346.out | refine below_set ?_ GE352.out | refine below_set ?_ GE369.out) | exact HB.out)) hb)
             clear HO351
             clear HO366
             clear BK346
             clear BK352
             clear BK369
             clear HB
             have HO351 := n0_
             have HO366 := n1_
             have HO373 := n2_
             have BK346 := n3_
             have BK352 := n4_
             have BK369 := n5_
             have HB := n6_
             clear n0_ n1_ n2_ n3_ n4_ n5_ n6_
             (try clear hb)
             (try clear hb2)
             (try clear hk)
             (try clear hi)
             (try clear ho0)
             obtain ⟨Ao54, co54, eo54⟩ := Kd.R_slice HO373.out
             (first | subst eo54 | (injection eo54 with f1_ f2_ f3_; have f4_ := f1_.symm; have f5_ := f3_.symm; clear f1_ f2_ f3_; subst f4_; subst f5_))
             refine hK.out _ _ ⟨(blk_cell BK352.out 0).trans rfl, (blk_cell BK369.out 0).trans rfl, (blk_cell BK369.out 1).trans rfl, (blk_cell BK369.out 2).trans rfl, (blk_cell BK369.out 3).trans rfl, (blk_cell BK369.out 4).trans rfl, (blk_cell BK369.out 5).trans rfl, (blk_cell BK369.out 6).trans rfl, (blk_cell BK346.out 0).trans rfl, (blk_cell BK346.out 1).trans rfl, (blk_cell BK346.out 2).trans rfl, (blk_cell BK346.out 3).trans rfl, (blk_cell BK346.out 4).trans rfl, (blk_cell BK346.out 5).trans rfl, (blk_cell BK346.out 6).trans rfl⟩ (fun hHeld => ?_)
             clear hK K
             refine norm_ (a' := ?_) ?_ ?_
             rotate_left
             ·show Act.put _ (some 75) _ = _
              simp only [Act.put, List.setIfInBounds_toArray, List.set_cons_zero, List.set_cons_succ, i64_w, i32_w]
              rfl
             refine one_ (i := 22) (N := some 77) #[true, true, true, true, true, true, true, true, true, true, true, true, true, true, true, true, true, true, true, true, true, true, true, false, false, false, false, false, false, false, false, false] rfl rfl (one_of HT_.out (by kernel_rfl)) (by decide) (fun K hK => ?_)
             refine goes_ Tryd.func23 (by kernel_rfl) rfl #[.agg #[.slice Ao54 t371.length co54], .agg #[.slice Ao36 t349.length co36]] (by rfl) rfl rfl (by (try simp only [List.map_toArray, List.map_cons, List.map_nil]); first | done | rfl | (simp only [List.length_drop, List.length_take]; rfl)) ?_
             with_reducible refine (squelchref05_Same.calls kj4 _ _ t371 _ _ t349 true _ ?side1 ?side2 ?side3 ?side4 A29.out).mono ?_
             (case side1 => repeat (first | exact (Kd.R_reads' HO373.out).2.2 | (with_reducible refine Kd.C_alloc ?_ _) | (with_reducible refine Kd.C_drewN ?_ _) | (with_reducible refine Kd.C_drew ?_)))
             (case side2 => exact (Kd.R_reads' HO373.out).2.1)
             (case side3 => repeat (first | exact (Kd.R_reads' HO351.out).2.2 | (with_reducible refine Kd.C_alloc ?_ _) | (with_reducible refine Kd.C_drewN ?_ _) | (with_reducible refine Kd.C_drew ?_)))
             (case side4 => exact (Kd.R_reads' HO351.out).2.1)
             rintro e w55 ⟨rfl, hb⟩
             refine ⟨_, rfl, ?_⟩
             have n0_ := Aside0.mk (Kd.R_below (by (with_reducible repeat (first | apply Kd.R_alloc | apply Kd.R_drewN | apply Kd.R_drew)); exact HO351.out) hb)
             have n1_ := Aside0.mk (Kd.Q_below (by (with_reducible repeat (first | apply Kd.Q_alloc | apply Kd.Q_drewN | apply Kd.Q_drew)); exact HO366.out) hb)
             have n2_ := Aside0.mk (Kd.R_below (by (with_reducible repeat (first | apply Kd.R_alloc | apply Kd.R_drewN | apply Kd.R_drew)); exact HO373.out) hb)
             have n3_ := Aside0.mk (blk_below (g := gb346) (o := .cells #[.string a0_0, .int .i64 a0_1, .string a0_2, .int .i64 a0_3, .bool a0_4, .bool a0_5, .slice A0_6 l0_6.length c0_6] 26 (0, 0)) (by (with_reducible repeat (first | refine blk_drewN ?_ _ | refine blk_drew ?_ | refine blk_alloc ?_ _)); exact BK346.out) hb)
             have n4_ := Aside0.mk (blk_below (g := gb352) (o := .cells #[.slice Ao36 t349.length co36] 31 (0, 0)) (by (with_reducible repeat (first | refine blk_drewN ?_ _ | refine blk_drew ?_ | refine blk_alloc ?_ _)); exact BK352.out) hb)
             have n5_ := Aside0.mk (blk_below (g := gb369) (o := .cells #[.string t358, .int .i64 t359, .string t360, .int .i64 t361, .bool t362, .bool t363, .slice Ao49 t364.length co49] 26 (0, 0)) (by (with_reducible repeat (first | refine blk_drewN ?_ _ | refine blk_drew ?_ | refine blk_alloc ?_ _)); exact BK369.out) hb)
             have n6_ := Aside0.mk (below_step (by repeat (first | (with_reducible first | exact HB.out | apply below_alloc | apply pw_below_drewN | apply below_drew1 | refine below_set ?_ GE346.out | refine below_set ?_ GE352.out | refine below_set ?_ GE369.out) | exact HB.out)) hb)
             clear HO351
             clear HO366
             clear HO373
             clear BK346
             clear BK352
             clear BK369
             clear HB
             have HO351 := n0_
             have HO366 := n1_
             have HO373 := n2_
             have BK346 := n3_
             have BK352 := n4_
             have BK369 := n5_
             have HB := n6_
             clear n0_ n1_ n2_ n3_ n4_ n5_ n6_
             (try clear hb)
             (try clear hb2)
             (try clear hk)
             (try clear hi)
             refine hK.out _ _ ⟨(blk_cell BK352.out 0).trans rfl, (blk_cell BK369.out 0).trans rfl, (blk_cell BK369.out 1).trans rfl, (blk_cell BK369.out 2).trans rfl, (blk_cell BK369.out 3).trans rfl, (blk_cell BK369.out 4).trans rfl, (blk_cell BK369.out 5).trans rfl, (blk_cell BK369.out 6).trans rfl, (blk_cell BK346.out 0).trans rfl, (blk_cell BK346.out 1).trans rfl, (blk_cell BK346.out 2).trans rfl, (blk_cell BK346.out 3).trans rfl, (blk_cell BK346.out 4).trans rfl, (blk_cell BK346.out 5).trans rfl, (blk_cell BK346.out 6).trans rfl⟩ (fun hHeld => ?_)
             clear hK K
             refine norm_ (a' := ?_) ?_ ?_
             rotate_left
             ·show Act.put _ (some 77) _ = _
              simp only [Act.put, List.setIfInBounds_toArray, List.set_cons_zero, List.set_cons_succ, i64_w, i32_w]
              rfl
             refine pure_ (i := 23) (N := some 78) (v := ?_) (a' := ?_) #[true, true, true, true, true, true, true, true, true, true, true, true, true, true, true, true, true, true, true, true, true, true, true, true, false, false, false, false, false, false, false, false] rfl rfl (any_of HT_.out (by kernel_rfl)) (fun _ _ _ h => h) (Or.inl ⟨by rfl, ?_⟩) ?_ ?_
             rotate_left
             ·intro w'
              go_simp
              with_reducible rfl
             rotate_left
             ·simp only [Act.put, List.setIfInBounds_toArray, List.set_cons_zero, List.set_cons_succ, i64_w, i32_w]
              rfl
             refine pure_ (i := 24) (N := some 79) (v := ?_) (a' := ?_) #[true, true, true, true, true, true, true, true, true, true, true, true, true, true, true, true, true, true, true, true, true, true, true, true, true, false, false, false, false, false, false, false] rfl rfl (any_of HT_.out (by kernel_rfl)) (fun _ _ _ h => h) (Or.inl ⟨by rfl, ?_⟩) ?_ ?_
             rotate_left
             ·intro w'
              go_simp
              with_reducible rfl
             rotate_left
             ·simp only [Act.put, List.setIfInBounds_toArray, List.set_cons_zero, List.set_cons_succ, i64_w, i32_w]
              rfl
             refine take_ (i := 25) (N := some 80) (v := ?_) (a' := ?_) #[true, true, true, true, true, true, true, true, true, true, true, true, true, true, true, true, true, true, true, true, true, true, true, true, true, true, false, false, false, false, false, false] rfl rfl (take_ofW HT_.out HW_.out (by kernel_rfl)) (fun _ _ _ h => h) (Or.inl ⟨by rfl, ?_⟩) hHeld ?_ ?_
             rotate_left
             ·rintro w' ⟨s0, s1, s2, s3, s4, s5, s6, s7, s8, s9, s10, s11, s12, s13, s14⟩
              go_simp
              with_reducible rfl
             rotate_left
             ·simp only [Act.put, List.setIfInBounds_toArray, List.set_cons_zero, List.set_cons_succ, i64_w, i32_w]
              rfl
             refine take_ (i := 27) (N := some 82) (v := ?_) (a' := ?_) #[true, true, true, true, true, true, true, true, true, true, true, true, true, true, true, true, true, true, true, true, true, true, true, true, true, true, false, true, false, false, false, false] rfl rfl (take_ofW HT_.out HW_.out (by kernel_rfl)) (fun _ _ _ h => h) (Or.inl ⟨by rfl, ?_⟩) hHeld ?_ ?_
             rotate_left
             ·rintro w' ⟨s0, s1, s2, s3, s4, s5, s6, s7, s8, s9, s10, s11, s12, s13, s14⟩
              go_simp
              with_reducible rfl
             rotate_left
             ·simp only [Act.put, List.setIfInBounds_toArray, List.set_cons_zero, List.set_cons_succ, i64_w, i32_w]
              rfl
             refine one_ (i := 26) (N := some 81) #[true, true, true, true, true, true, true, true, true, true, true, true, true, true, true, true, true, true, true, true, true, true, true, true, true, true, true, true, false, false, false, false] rfl rfl (one_of HT_.out (by kernel_rfl)) (by decide) (fun K hK => ?_)
             refine goes_ Tryd.func33 (by kernel_rfl) rfl #[.agg #[.string a0_0, .int .i64 a0_1, .string a0_2, .int .i64 a0_3, .bool a0_4, .bool a0_5, .slice A0_6 l0_6.length c0_6]] (by rfl) rfl rfl (by (try simp only [List.map_toArray, List.map_cons, List.map_nil]); first | done | rfl | (simp only [List.length_drop, List.length_take]; rfl)) ?_
             with_reducible refine (path_Text.calls a0_0 a0_1 a0_2 a0_3 a0_4 a0_5 _ _ l0_6 t375 _ ?side1 ?side2 A31.out).mono ?_
             (case side1 => repeat (first | exact (Kd.C_below HR0_6.out HB.out) | (with_reducible refine Kd.C_alloc ?_ _) | (with_reducible refine Kd.C_drewN ?_ _) | (with_reducible refine Kd.C_drew ?_)))
             (case side2 => exact HC0_6.out)
             rintro e w56 ⟨rfl, hb⟩
             refine ⟨_, rfl, ?_⟩
             have n0_ := Aside0.mk (Kd.R_below (by (with_reducible repeat (first | apply Kd.R_alloc | apply Kd.R_drewN | apply Kd.R_drew)); exact HO351.out) hb)
             have n1_ := Aside0.mk (Kd.Q_below (by (with_reducible repeat (first | apply Kd.Q_alloc | apply Kd.Q_drewN | apply Kd.Q_drew)); exact HO366.out) hb)
             have n2_ := Aside0.mk (Kd.R_below (by (with_reducible repeat (first | apply Kd.R_alloc | apply Kd.R_drewN | apply Kd.R_drew)); exact HO373.out) hb)
             have n3_ := Aside0.mk (blk_below (g := gb346) (o := .cells #[.string a0_0, .int .i64 a0_1, .string a0_2, .int .i64 a0_3, .bool a0_4, .bool a0_5, .slice A0_6 l0_6.length c0_6] 26 (0, 0)) (by (with_reducible repeat (first | refine blk_drewN ?_ _ | refine blk_drew ?_ | refine blk_alloc ?_ _)); exact BK346.out) hb)
             have n4_ := Aside0.mk (blk_below (g := gb352) (o := .cells #[.slice Ao36 t349.length co36] 31 (0, 0)) (by (with_reducible repeat (first | refine blk_drewN ?_ _ | refine blk_drew ?_ | refine blk_alloc ?_ _)); exact BK352.out) hb)
             have n5_ := Aside0.mk (blk_below (g := gb369) (o := .cells #[.string t358, .int .i64 t359, .string t360, .int .i64 t361, .bool t362, .bool t363, .slice Ao49 t364.length co49] 26 (0, 0)) (by (with_reducible repeat (first | refine blk_drewN ?_ _ | refine blk_drew ?_ | refine blk_alloc ?_ _)); exact BK369.out) hb)
             have n6_ := Aside0.mk (below_step (by repeat (first | (with_reducible first | exact HB.out | apply below_alloc | apply pw_below_drewN | apply below_drew1 | refine below_set ?_ GE346.out | refine below_set ?_ GE352.out | refine below_set ?_ GE369.out) | exact HB.out)) hb)
             clear HO351
             clear HO366
             clear HO373
             clear BK346
             clear BK352
             clear BK369
             clear HB
             have HO351 := n0_
             have HO366 := n1_
             have HO373 := n2_
             have BK346 := n3_
             have BK352 := n4_
             have BK369 := n5_
             have HB := n6_
             clear n0_ n1_ n2_ n3_ n4_ n5_ n6_
             (try clear hb)
             (try clear hb2)
             (try clear hk)
             (try clear hi)
             refine hK.out _ _ ⟨(blk_cell BK352.out 0).trans rfl, (blk_cell BK369.out 0).trans rfl, (blk_cell BK369.out 1).trans rfl, (blk_cell BK369.out 2).trans rfl, (blk_cell BK369.out 3).trans rfl, (blk_cell BK369.out 4).trans rfl, (blk_cell BK369.out 5).trans rfl, (blk_cell BK369.out 6).trans rfl, (blk_cell BK346.out 0).trans rfl, (blk_cell BK346.out 1).trans rfl, (blk_cell BK346.out 2).trans rfl, (blk_cell BK346.out 3).trans rfl, (blk_cell BK346.out 4).trans rfl, (blk_cell BK346.out 5).trans rfl, (blk_cell BK346.out 6).trans rfl⟩ (fun hHeld => ?_)
             clear hK K
             refine norm_ (a' := ?_) ?_ ?_
             rotate_left
             ·show Act.put _ (some 81) _ = _
              simp only [Act.put, List.setIfInBounds_toArray, List.set_cons_zero, List.set_cons_succ, i64_w, i32_w]
              rfl
             refine one_ (i := 28) (N := some 83) #[true, true, true, true, true, true, true, true, true, true, true, true, true, true, true, true, true, true, true, true, true, true, true, true, true, true, true, true, true, false, false, false] rfl rfl (one_of HT_.out (by kernel_rfl)) (by decide) (fun K hK => ?_)
             refine goes_ Tryd.func35 (by kernel_rfl) rfl #[.agg #[.slice Ao36 t349.length co36]] (by rfl) rfl rfl (by (try simp only [List.map_toArray, List.map_cons, List.map_nil]); first | done | rfl | (simp only [List.length_drop, List.length_take]; rfl)) ?_
             with_reducible refine (squelchref05_Text.calls _ _ t349 t376 _ ?side1 ?side2 A32.out).mono ?_
             (case side1 => repeat (first | exact (Kd.R_reads' HO351.out).2.2 | (with_reducible refine Kd.C_alloc ?_ _) | (with_reducible refine Kd.C_drewN ?_ _) | (with_reducible refine Kd.C_drew ?_)))
             (case side2 => exact (Kd.R_reads' HO351.out).2.1)
             rintro e w57 ⟨rfl, hb⟩
             refine ⟨_, rfl, ?_⟩
             have n0_ := Aside0.mk (Kd.R_below (by (with_reducible repeat (first | apply Kd.R_alloc | apply Kd.R_drewN | apply Kd.R_drew)); exact HO351.out) hb)
             have n1_ := Aside0.mk (Kd.Q_below (by (with_reducible repeat (first | apply Kd.Q_alloc | apply Kd.Q_drewN | apply Kd.Q_drew)); exact HO366.out) hb)
             have n2_ := Aside0.mk (Kd.R_below (by (with_reducible repeat (first | apply Kd.R_alloc | apply Kd.R_drewN | apply Kd.R_drew)); exact HO373.out) hb)
             have n3_ := Aside0.mk (blk_below (g := gb346) (o := .cells #[.string a0_0, .int .i64 a0_1, .string a0_2, .int .i64 a0_3, .bool a0_4, .bool a0_5, .slice A0_6 l0_6.length c0_6] 26 (0, 0)) (by (with_reducible repeat (first | refine blk_drewN ?_ _ | refine blk_drew ?_ | refine blk_alloc ?_ _)); exact BK346.out) hb)
             have n4_ := Aside0.mk (blk_below (g := gb352) (o := .cells #[.slice Ao36 t349.length co36] 31 (0, 0)) (by (with_reducible repeat (first | refine blk_drewN ?_ _ | refine blk_drew ?_ | refine blk_alloc ?_ _)); exact BK352.out) hb)
             have n5_ := Aside0.mk (blk_below (g := gb369) (o := .cells #[.string t358, .int .i64 t359, .string t360, .int .i64 t361, .bool t362, .bool t363, .slice Ao49 t364.length co49] 26 (0, 0)) (by (with_reducible repeat (first | refine blk_drewN ?_ _ | refine blk_drew ?_ | refine blk_alloc ?_ _)); exact BK369.out) hb)
             have n6_ := Aside0.mk (below_step (by repeat (first | (with_reducible first | exact HB.out | apply below_alloc | apply pw_below_drewN | apply below_drew1 | refine below_set ?_ GE346.out | refine below_set ?_ GE352.out | refine below_set ?_ GE369.out) | exact HB.out)) hb)
             clear HO351
             clear HO366
             clear HO373
             clear BK346
             clear BK352
             clear BK369
             clear HB
             have HO351 := n0_
             have HO366 := n1_
             have HO373 := n2_
             have BK346 := n3_
             have BK352 := n4_
             have BK369 := n5_
             have HB := n6_
             clear n0_ n1_ n2_ n3_ n4_ n5_ n6_
             (try clear hb)
             (try clear hb2)
             (try clear hk)
             (try clear hi)
             refine hK.out _ _ ⟨(blk_cell BK352.out 0).trans rfl, (blk_cell BK369.out 0).trans rfl, (blk_cell BK369.out 1).trans rfl, (blk_cell BK369.out 2).trans rfl, (blk_cell BK369.out 3).trans rfl, (blk_cell BK369.out 4).trans rfl, (blk_cell BK369.out 5).trans rfl, (blk_cell BK369.out 6).trans rfl, (blk_cell BK346.out 0).trans rfl, (blk_cell BK346.out 1).trans rfl, (blk_cell BK346.out 2).trans rfl, (blk_cell BK346.out 3).trans rfl, (blk_cell BK346.out 4).trans rfl, (blk_cell BK346.out 5).trans rfl, (blk_cell BK346.out 6).trans rfl⟩ (fun hHeld => ?_)
             clear hK K
             refine norm_ (a' := ?_) ?_ ?_
             rotate_left
             ·show Act.put _ (some 83) _ = _
              simp only [Act.put, List.setIfInBounds_toArray, List.set_cons_zero, List.set_cons_succ, i64_w, i32_w]
              rfl
             refine pure_ (i := 29) (N := some 84) (v := ?_) (a' := ?_) #[true, true, true, true, true, true, true, true, true, true, true, true, true, true, true, true, true, true, true, true, true, true, true, true, true, true, true, true, true, true, false, false] rfl rfl (any_of HT_.out (by kernel_rfl)) (fun _ _ _ h => h) (Or.inl ⟨by rfl, ?_⟩) ?_ ?_
             rotate_left
             ·intro w'
              go_simp
              with_reducible rfl
             rotate_left
             ·simp only [Act.put, List.setIfInBounds_toArray, List.set_cons_zero, List.set_cons_succ, i64_w, i32_w]
              rfl
             refine pure_ (i := 30) (N := some 85) (v := ?_) (a' := ?_) #[true, true, true, true, true, true, true, true, true, true, true, true, true, true, true, true, true, true, true, true, true, true, true, true, true, true, true, true, true, true, true, false] rfl rfl (any_of HT_.out (by kernel_rfl)) (fun _ _ _ h => h) (Or.inl ⟨by rfl, ?_⟩) ?_ ?_
             rotate_left
             ·intro w'
              go_simp
              with_reducible rfl
             rotate_left
             ·simp only [Act.put, List.setIfInBounds_toArray, List.set_cons_zero, List.set_cons_succ, i64_w, i32_w]
              rfl
             refine pure_ (i := 31) (N := some 4) (v := ?_) (a' := ?_) #[true, true, true, true, true, true, true, true, true, true, true, true, true, true, true, true, true, true, true, true, true, true, true, true, true, true, true, true, true, true, true, true] rfl rfl (any_of HT_.out (by kernel_rfl)) (fun _ _ _ h => h) (Or.inl ⟨by rfl, ?_⟩) ?_ ?_
             rotate_left
             ·intro w'
              go_simp
              with_reducible rfl
             rotate_left
             ·simp only [Act.put, List.setIfInBounds_toArray, List.set_cons_zero, List.set_cons_succ, i64_w, i32_w]
              rfl
             refine done_ (done_of HT_.out (by kernel_rfl)) ?_
             try go_wp2
             go_ret
             exact ⟨by first | rfl | (simp [errW_none, errW_some] <;> rfl) | (simp [*, errW_none, errW_some] <;> rfl), by repeat (first | (with_reducible first | exact HB.out | apply below_alloc | apply pw_below_drewN | apply below_drew1 | refine below_set ?_ GE346.out | refine below_set ?_ GE352.out | refine below_set ?_ GE369.out) | exact HB.out)⟩
            ·replace c30 := Bool.eq_false_iff.mpr c30
             subst c30
             have H1 : (some false) = some r := by rw [if_neg (show ¬ (false = true) by decide)] at H; exact H
             clear H
             have H := H1
             clear H1
             exact absurd ((Option.some.inj H).trans HT_.out) (by decide)
           ·rw [if_neg c27] at H
            have c27b0 : (t367 == (t354.size : Int)) = false := beq_eq_false_iff_ne.mpr c27
            have c27b1 : (t367 != (t354.size : Int)) = true := bne_iff_ne.mpr c27
            exact absurd ((Option.some.inj H).trans HT_.out) (by decide)
          ·rw [if_neg c26] at H
           have c26b0 : (t368 == 0) = false := beq_eq_false_iff_ne.mpr c26
           have c26b1 : (t368 != 0) = true := bne_iff_ne.mpr c26
           exact absurd ((Option.some.inj H).trans HT_.out) (by decide)
         ·rw [if_neg c25] at H
          have c25b0 : (t354.toList == t370.toList) = false := beq_eq_false_iff_ne.mpr c25
          have c25b1 : (t354.toList != t370.toList) = true := bne_iff_ne.mpr c25
          exact absurd ((Option.some.inj H).trans HT_.out) (by decide)
        ·rw [if_neg c23] at H
         have c23b0 : (t355 == 0) = false := beq_eq_false_iff_ne.mpr c23
         have c23b1 : (t355 != 0) = true := bne_iff_ne.mpr c23
         exact absurd ((Option.some.inj H).trans HT_.out) (by decide)
       ·rw [if_neg c21] at H
        exact absurd H (by simp)
      ·replace c20 := Bool.eq_false_iff.mpr c20
       subst c20
       (try simp only [Bool.true_beq, Bool.false_beq, beq_true, beq_false] at c19b0)
       have H1 : (if t354.toList = ([] : List UInt8) then (if t355 = 11 then ((path_Text.f a0_0 a0_1 a0_2 a0_3 a0_4 a0_5 l0_6).bind fun t357 => (some (t357.toList == ([] : List UInt8)))) else (some false)) else (some false)) = some r := by rw [if_neg (show ¬ (false = true) by decide)] at H; exact H
       clear H
       have H := H1
       clear H1
       by_cases c58 : t354.toList = ([] : List UInt8)
       ·rw [if_pos c58] at H
        have c58b0 : (t354.toList == ([] : List UInt8)) = true := beq_iff_eq.mpr c58
        (try (have c58b0e : (t354.toList.isEmpty) = true := by simpa using c58b0))
        have c58b1 : (t354.toList != ([] : List UInt8)) = false := bne_eq_false_iff_eq.mpr c58
        clear c58
        by_cases c59 : t355 = 11
        ·rw [if_pos c59] at H
         have c59b0 : (t355 == 11) = true := beq_iff_eq.mpr c59
         have c59b1 : (t355 != 11) = false := bne_eq_false_iff_eq.mpr c59
         clear c59
         replace H := Option.bind_eq_some_iff.mp H
         obtain ⟨t357, A600, H⟩ := H
         replace H : (some (t357.toList == ([] : List UInt8))) = some r := H
         have A60 := Aside0.mk A600
         clear A600
         obtain rfl := Option.some.inj H
         have hcz61_0 : wc.cell? ⟨gb346, 0, none⟩ = some (.string a0_0) := (blk_cell BK346.out 0).trans rfl
         have hcz61_1 : wc.cell? ⟨gb346, 1, none⟩ = some (.int .i64 a0_1) := (blk_cell BK346.out 1).trans rfl
         have hcz61_2 : wc.cell? ⟨gb346, 2, none⟩ = some (.string a0_2) := (blk_cell BK346.out 2).trans rfl
         have hcz61_3 : wc.cell? ⟨gb346, 3, none⟩ = some (.int .i64 a0_3) := (blk_cell BK346.out 3).trans rfl
         have hcz61_4 : wc.cell? ⟨gb346, 4, none⟩ = some (.bool a0_4) := (blk_cell BK346.out 4).trans rfl
         have hcz61_5 : wc.cell? ⟨gb346, 5, none⟩ = some (.bool a0_5) := (blk_cell BK346.out 5).trans rfl
         have hcz61_6 : wc.cell? ⟨gb346, 6, none⟩ = some (.slice A0_6 l0_6.length c0_6) := (blk_cell BK346.out 6).trans rfl
         have hfz61_0 := blk_frozen BK346.out 0
         have hfz61_1 := blk_frozen BK346.out 1
         have hfz61_2 := blk_frozen BK346.out 2
         have hfz61_3 := blk_frozen BK346.out 3
         have hfz61_4 := blk_frozen BK346.out 4
         have hfz61_5 := blk_frozen BK346.out 5
         have hfz61_6 := blk_frozen BK346.out 6
         go_wp2_with (first | ((with_reducible refine gate_callee (f := 17) rfl ?_); refine goesL_ (some 22) rfl rfl Tryd.func17 (by kernel_rfl) rfl #[.agg #[.string a0_0, .int .i64 a0_1, .string a0_2, .int .i64 a0_3, .bool a0_4, .bool a0_5, .slice A0_6 l0_6.length c0_6]] rfl (by (try simp only [List.map_toArray, List.map_cons, List.map_nil]); first | done | rfl | (simp only [List.length_drop, List.length_take]; rfl)) ?_; (with_reducible refine (squelchlaw05_Plain.calls kj4 a0_0 a0_1 a0_2 a0_3 a0_4 a0_5 _ _ l0_6 t349 _ ?side1 ?side2 A15.out).mono ?_); (case side1 => repeat (first | exact (Kd.C_below HR0_6.out HB.out) | (with_reducible refine Kd.C_alloc ?_ _) | (with_reducible refine Kd.C_drewN ?_ _) | (with_reducible refine Kd.C_drew ?_))); (case side2 => exact HC0_6.out); rintro e w62 ⟨v350, rfl, ho0, hb⟩; refine ⟨_, rfl, ?_⟩; have n0_ := Aside0.mk (Kd.R_lower ho0 (below_size (by repeat (first | (with_reducible first | exact HB.out | apply below_alloc | apply pw_below_drewN | apply below_drew1 | refine below_set ?_ GE346.out) | exact HB.out)))); have n1_ := Aside0.mk (blk_below (g := gb346) (o := .cells #[.string a0_0, .int .i64 a0_1, .string a0_2, .int .i64 a0_3, .bool a0_4, .bool a0_5, .slice A0_6 l0_6.length c0_6] 26 (0, 0)) (by (with_reducible repeat (first | refine blk_drewN ?_ _ | refine blk_drew ?_ | refine blk_alloc ?_ _)); exact BK346.out) hb); have n2_ := Aside0.mk (below_step (by repeat (first | (with_reducible first | exact HB.out | apply below_alloc | apply pw_below_drewN | apply below_drew1 | refine below_set ?_ GE346.out) | exact HB.out)) hb); clear BK346; clear HB; have HO351 := n0_; have BK346 := n1_; have HB := n2_; clear n0_ n1_ n2_; (try clear hb); (try clear hb2); (try clear hk); (try clear hi); (try clear ho0)) | ((with_reducible refine gate_dst (N := 5) rfl ?_); (try (refine gate_guard (by rfl) ?_; dsimp only)); refine box_event ?hg (N := 5) ?hd (cs := #[.slice none 0 0]) (t := 31) ?hr ?_; (case hd => rfl); (case hg => rfl); (case hr => first | (go_simp; done) | (go_simp; rfl)); intro gb352 hg w63 hbox hb; have n0_ := Aside0.mk (Kd.R_below (by (with_reducible repeat (first | apply Kd.R_alloc | apply Kd.R_drewN | apply Kd.R_drew)); exact HO351.out) hb); have n1_ := Aside0.mk (blk_below (g := gb346) (o := .cells #[.string a0_0, .int .i64 a0_1, .string a0_2, .int .i64 a0_3, .bool a0_4, .bool a0_5, .slice A0_6 l0_6.length c0_6] 26 (0, 0)) (by (with_reducible repeat (first | refine blk_drewN ?_ _ | refine blk_drew ?_ | refine blk_alloc ?_ _)); exact BK346.out) hb); have n2_ := Aside0.mk (below_step (by repeat (first | (with_reducible first | exact HB.out | apply below_alloc | apply pw_below_drewN | apply below_drew1 | refine below_set ?_ GE346.out) | exact HB.out)) hb); have n3_ := Aside0.mk (hbox); have n4_ := Aside0.mk ((by rw [hg]; exact (below_size (by repeat (first | (with_reducible first | exact HB.out | apply below_alloc | apply pw_below_drewN | apply below_drew1 | refine below_set ?_ GE346.out) | exact HB.out))) : w.heap.size ≤ gb352)); have n5_ := Aside0.mk ((by rw [hg]; exact (below_size (by repeat (first | (with_reducible first | exact HB.out | apply below_alloc | apply pw_below_drewN | apply below_drew1 | refine below_set ?_ GE346.out) | exact HB.out))) : w.heap.size ≤ gb352)); have n6_ := Aside0.mk ((by rw [hg]; exact Nat.ne_of_lt (blk_lt (g := gb346) (o := .cells #[.string a0_0, .int .i64 a0_1, .string a0_2, .int .i64 a0_3, .bool a0_4, .bool a0_5, .slice A0_6 l0_6.length c0_6] 26 (0, 0)) (by (with_reducible repeat (first | refine blk_drewN ?_ _ | refine blk_drew ?_ | refine blk_alloc ?_ _)); exact BK346.out)) : gb346 ≠ gb352)); have n7_ := Aside0.mk ((by rw [hg]; exact Nat.ne_of_gt (blk_lt (g := gb346) (o := .cells #[.string a0_0, .int .i64 a0_1, .string a0_2, .int .i64 a0_3, .bool a0_4, .bool a0_5, .slice A0_6 l0_6.length c0_6] 26 (0, 0)) (by (with_reducible repeat (first | refine blk_drewN ?_ _ | refine blk_drew ?_ | refine blk_alloc ?_ _)); exact BK346.out)) : gb352 ≠ gb346)); clear HO351; clear BK346; clear HB; have HO351 := n0_; have BK346 := n1_; have HB := n2_; have BK352 := n3_; have GW352 := n4_; have GE352 := n5_; have NB346_352 := n6_; have NB352_346 := n7_; clear n0_ n1_ n2_ n3_ n4_ n5_ n6_ n7_; clear hb hbox hg; obtain ⟨Ao64, co64, eo64⟩ := Kd.R_slice HO351.out; subst eo64; have hnb65 := NB352_346.out; have hnc65 := NB346_352.out; have hcz66_0 : w63.cell? ⟨gb352, 0, none⟩ = some (.slice none 0 0) := (blk_cell BK352.out 0).trans rfl; have hfz66_0 := blk_frozen BK352.out 0) | ((with_reducible refine gate_callee (f := 31) rfl ?_); refine goesL_ (some 24) rfl rfl Tryd.func31 (by kernel_rfl) rfl #[.agg #[.slice Ao64 t349.length co64]] rfl (by (try simp only [List.map_toArray, List.map_cons, List.map_nil]); first | done | rfl | (simp only [List.length_drop, List.length_take]; rfl)) ?_; (with_reducible refine (squelchref05_Right.calls kj4 _ _ t349 false _ ?side1 ?side2 A16.out).mono ?_); (case side1 => refine (Kd.R_reads' (e := 37) (base := w.heap.size) (ok := fun k_ => True) (n := t349.length) (c := co64) ?_).2.2; exact (by (with_reducible repeat (first | apply Kd.R_alloc | apply Kd.R_drewN | apply Kd.R_drew)); exact (Kd.R_mono (Kd.R_far (p := ⟨gb352, 0, none⟩) (Kd.R_types HO351.out BK352.out (by decide)) (fun _ hk => hk.2) (.slice Ao64 t349.length co64)) (fun _ h_ => h_.1)))); (case side2 => exact (Kd.R_reads' HO351.out).2.1); rintro e w67 ⟨rfl, hb⟩; refine ⟨_, rfl, ?_⟩; have n0_ := Aside0.mk (Kd.R_below (by (with_reducible repeat (first | apply Kd.R_alloc | apply Kd.R_drewN | apply Kd.R_drew)); exact (Kd.R_mono (Kd.R_far (p := ⟨gb352, 0, none⟩) (Kd.R_types HO351.out BK352.out (by decide)) (fun _ hk => hk.2) (.slice Ao64 t349.length co64)) (fun _ h_ => h_.1))) hb); have n1_ := Aside0.mk (blk_below (g := gb346) (o := .cells #[.string a0_0, .int .i64 a0_1, .string a0_2, .int .i64 a0_3, .bool a0_4, .bool a0_5, .slice A0_6 l0_6.length c0_6] 26 (0, 0)) (by (with_reducible repeat (first | refine blk_drewN ?_ _ | refine blk_drew ?_ | refine blk_alloc ?_ _)); refine blk_far ?_ NB346_352.out _; (with_reducible repeat (first | refine blk_drewN ?_ _ | refine blk_drew ?_ | refine blk_alloc ?_ _)); exact BK346.out) hb); have n2_ := Aside0.mk (blk_below (g := gb352) (o := .cells #[.slice Ao64 t349.length co64] 31 (0, 0)) (by (with_reducible repeat (first | refine blk_drewN ?_ _ | refine blk_drew ?_ | refine blk_alloc ?_ _)); refine blk_put (cs := #[.slice none 0 0]) ?_ 0 _ rfl; (with_reducible repeat (first | refine blk_drewN ?_ _ | refine blk_drew ?_ | refine blk_alloc ?_ _)); exact BK352.out) hb); have n3_ := Aside0.mk (below_step (by repeat (first | (with_reducible first | exact HB.out | apply below_alloc | apply pw_below_drewN | apply below_drew1 | refine below_set ?_ GE346.out | refine below_set ?_ GE352.out) | exact HB.out)) hb); clear HO351; clear BK346; clear BK352; clear HB; have HO351 := n0_; have BK346 := n1_; have BK352 := n2_; have HB := n3_; clear n0_ n1_ n2_ n3_; (try clear hb); (try clear hb2); (try clear hk); (try clear hi); have hcz68_0 : w67.cell? ⟨gb346, 0, none⟩ = some (.string a0_0) := (blk_cell BK346.out 0).trans rfl; have hcz68_1 : w67.cell? ⟨gb346, 1, none⟩ = some (.int .i64 a0_1) := (blk_cell BK346.out 1).trans rfl; have hcz68_2 : w67.cell? ⟨gb346, 2, none⟩ = some (.string a0_2) := (blk_cell BK346.out 2).trans rfl; have hcz68_3 : w67.cell? ⟨gb346, 3, none⟩ = some (.int .i64 a0_3) := (blk_cell BK346.out 3).trans rfl; have hcz68_4 : w67.cell? ⟨gb346, 4, none⟩ = some (.bool a0_4) := (blk_cell BK346.out 4).trans rfl; have hcz68_5 : w67.cell? ⟨gb346, 5, none⟩ = some (.bool a0_5) := (blk_cell BK346.out 5).trans rfl; have hcz68_6 : w67.cell? ⟨gb346, 6, none⟩ = some (.slice A0_6 l0_6.length c0_6) := (blk_cell BK346.out 6).trans rfl; have hfz68_0 := blk_frozen BK346.out 0; have hfz68_1 := blk_frozen BK346.out 1; have hfz68_2 := blk_frozen BK346.out 2; have hfz68_3 := blk_frozen BK346.out 3; have hfz68_4 := blk_frozen BK346.out 4; have hfz68_5 := blk_frozen BK346.out 5; have hfz68_6 := blk_frozen BK346.out 6) | ((with_reducible refine gate_callee (f := 32) rfl ?_); refine goesL_ (some 27) rfl rfl Tryd.func32 (by kernel_rfl) rfl #[.agg #[.string a0_0, .int .i64 a0_1, .string a0_2, .int .i64 a0_3, .bool a0_4, .bool a0_5, .slice A0_6 l0_6.length c0_6]] rfl (by (try simp only [List.map_toArray, List.map_cons, List.map_nil]); first | done | rfl | (simp only [List.length_drop, List.length_take]; rfl)) ?_; (with_reducible refine (path_Put.calls a0_0 a0_1 a0_2 a0_3 a0_4 a0_5 _ _ l0_6 t354 t355 _ ?side1 ?side2 A17.out).mono ?_); (case side1 => repeat (first | exact (Kd.C_below HR0_6.out HB.out) | (with_reducible refine Kd.C_alloc ?_ _) | (with_reducible refine Kd.C_drewN ?_ _) | (with_reducible refine Kd.C_drew ?_))); (case side2 => exact HC0_6.out); rintro e w69 ⟨rfl, hb⟩; refine ⟨_, rfl, ?_⟩; have n0_ := Aside0.mk (Kd.R_below (by (with_reducible repeat (first | apply Kd.R_alloc | apply Kd.R_drewN | apply Kd.R_drew)); exact HO351.out) hb); have n1_ := Aside0.mk (blk_below (g := gb346) (o := .cells #[.string a0_0, .int .i64 a0_1, .string a0_2, .int .i64 a0_3, .bool a0_4, .bool a0_5, .slice A0_6 l0_6.length c0_6] 26 (0, 0)) (by (with_reducible repeat (first | refine blk_drewN ?_ _ | refine blk_drew ?_ | refine blk_alloc ?_ _)); exact BK346.out) hb); have n2_ := Aside0.mk (blk_below (g := gb352) (o := .cells #[.slice Ao64 t349.length co64] 31 (0, 0)) (by (with_reducible repeat (first | refine blk_drewN ?_ _ | refine blk_drew ?_ | refine blk_alloc ?_ _)); exact BK352.out) hb); have n3_ := Aside0.mk (below_step (by repeat (first | (with_reducible first | exact HB.out | apply below_alloc | apply pw_below_drewN | apply below_drew1 | refine below_set ?_ GE346.out | refine below_set ?_ GE352.out) | exact HB.out)) hb); clear HO351; clear BK346; clear BK352; clear HB; have HO351 := n0_; have BK346 := n1_; have BK352 := n2_; have HB := n3_; clear n0_ n1_ n2_ n3_; (try clear hb); (try clear hb2); (try clear hk); (try clear hi); have hcz70_0 : w69.cell? ⟨gb346, 0, none⟩ = some (.string a0_0) := (blk_cell BK346.out 0).trans rfl; have hcz70_1 : w69.cell? ⟨gb346, 1, none⟩ = some (.int .i64 a0_1) := (blk_cell BK346.out 1).trans rfl; have hcz70_2 : w69.cell? ⟨gb346, 2, none⟩ = some (.string a0_2) := (blk_cell BK346.out 2).trans rfl; have hcz70_3 : w69.cell? ⟨gb346, 3, none⟩ = some (.int .i64 a0_3) := (blk_cell BK346.out 3).trans rfl; have hcz70_4 : w69.cell? ⟨gb346, 4, none⟩ = some (.bool a0_4) := (blk_cell BK346.out 4).trans rfl; have hcz70_5 : w69.cell? ⟨gb346, 5, none⟩ = some (.bool a0_5) := (blk_cell BK346.out 5).trans rfl; have hcz70_6 : w69.cell? ⟨gb346, 6, none⟩ = some (.slice A0_6 l0_6.length c0_6) := (blk_cell BK346.out 6).trans rfl; have hfz70_0 := blk_frozen BK346.out 0; have hfz70_1 := blk_frozen BK346.out 1; have hfz70_2 := blk_frozen BK346.out 2; have hfz70_3 := blk_frozen BK346.out 3; have hfz70_4 := blk_frozen BK346.out 4; have hfz70_5 := blk_frozen BK346.out 5; have hfz70_6 := blk_frozen BK346.out 6) | ((with_reducible refine gate_callee (f := 28) rfl ?_); refine goesL_ (some 31) rfl rfl Tryd.func28 (by kernel_rfl) rfl #[.agg #[.string a0_0, .int .i64 a0_1, .string a0_2, .int .i64 a0_3, .bool a0_4, .bool a0_5, .slice A0_6 l0_6.length c0_6]] rfl (by (try simp only [List.map_toArray, List.map_cons, List.map_nil]); first | done | rfl | (simp only [List.length_drop, List.length_take]; rfl)) ?_; (with_reducible refine (path_Right.calls a0_0 a0_1 a0_2 a0_3 a0_4 a0_5 _ _ l0_6 t356 _ ?side1 ?side2 A18.out).mono ?_); (case side1 => repeat (first | exact (Kd.C_below HR0_6.out HB.out) | (with_reducible refine Kd.C_alloc ?_ _) | (with_reducible refine Kd.C_drewN ?_ _) | (with_reducible refine Kd.C_drew ?_))); (case side2 => exact HC0_6.out); rintro e w71 ⟨rfl, hb⟩; refine ⟨_, rfl, ?_⟩; have n0_ := Aside0.mk (Kd.R_below (by (with_reducible repeat (first | apply Kd.R_alloc | apply Kd.R_drewN | apply Kd.R_drew)); exact HO351.out) hb); have n1_ := Aside0.mk (blk_below (g := gb346) (o := .cells #[.string a0_0, .int .i64 a0_1, .string a0_2, .int .i64 a0_3, .bool a0_4, .bool a0_5, .slice A0_6 l0_6.length c0_6] 26 (0, 0)) (by (with_reducible repeat (first | refine blk_drewN ?_ _ | refine blk_drew ?_ | refine blk_alloc ?_ _)); exact BK346.out) hb); have n2_ := Aside0.mk (blk_below (g := gb352) (o := .cells #[.slice Ao64 t349.length co64] 31 (0, 0)) (by (with_reducible repeat (first | refine blk_drewN ?_ _ | refine blk_drew ?_ | refine blk_alloc ?_ _)); exact BK352.out) hb); have n3_ := Aside0.mk (below_step (by repeat (first | (with_reducible first | exact HB.out | apply below_alloc | apply pw_below_drewN | apply below_drew1 | refine below_set ?_ GE346.out | refine below_set ?_ GE352.out) | exact HB.out)) hb); clear HO351; clear BK346; clear BK352; clear HB; have HO351 := n0_; have BK346 := n1_; have BK352 := n2_; have HB := n3_; clear n0_ n1_ n2_ n3_; (try clear hb); (try clear hb2); (try clear hk); (try clear hi); have hcz72_0 : w71.cell? ⟨gb346, 0, none⟩ = some (.string a0_0) := (blk_cell BK346.out 0).trans rfl; have hcz72_1 : w71.cell? ⟨gb346, 1, none⟩ = some (.int .i64 a0_1) := (blk_cell BK346.out 1).trans rfl; have hcz72_2 : w71.cell? ⟨gb346, 2, none⟩ = some (.string a0_2) := (blk_cell BK346.out 2).trans rfl; have hcz72_3 : w71.cell? ⟨gb346, 3, none⟩ = some (.int .i64 a0_3) := (blk_cell BK346.out 3).trans rfl; have hcz72_4 : w71.cell? ⟨gb346, 4, none⟩ = some (.bool a0_4) := (blk_cell BK346.out 4).trans rfl; have hcz72_5 : w71.cell? ⟨gb346, 5, none⟩ = some (.bool a0_5) := (blk_cell BK346.out 5).trans rfl; have hcz72_6 : w71.cell? ⟨gb346, 6, none⟩ = some (.slice A0_6 l0_6.length c0_6) := (blk_cell BK346.out 6).trans rfl; have hfz72_0 := blk_frozen BK346.out 0; have hfz72_1 := blk_frozen BK346.out 1; have hfz72_2 := blk_frozen BK346.out 2; have hfz72_3 := blk_frozen BK346.out 3; have hfz72_4 := blk_frozen BK346.out 4; have hfz72_5 := blk_frozen BK346.out 5; have hfz72_6 := blk_frozen BK346.out 6) | (go_at_call 33; (with_reducible refine (path_Text.calls a0_0 a0_1 a0_2 a0_3 a0_4 a0_5 _ _ l0_6 t357 _ ?side1 ?side2 A60.out).mono ?_); (case side1 => repeat (first | exact (Kd.C_below HR0_6.out HB.out) | (with_reducible refine Kd.C_alloc ?_ _) | (with_reducible refine Kd.C_drewN ?_ _) | (with_reducible refine Kd.C_drew ?_))); (case side2 => exact HC0_6.out); rintro e w73 ⟨rfl, hb⟩; have n0_ := Aside0.mk (Kd.R_below (by (with_reducible repeat (first | apply Kd.R_alloc | apply Kd.R_drewN | apply Kd.R_drew)); exact HO351.out) hb); have n1_ := Aside0.mk (blk_below (g := gb346) (o := .cells #[.string a0_0, .int .i64 a0_1, .string a0_2, .int .i64 a0_3, .bool a0_4, .bool a0_5, .slice A0_6 l0_6.length c0_6] 26 (0, 0)) (by (with_reducible repeat (first | refine blk_drewN ?_ _ | refine blk_drew ?_ | refine blk_alloc ?_ _)); exact BK346.out) hb); have n2_ := Aside0.mk (blk_below (g := gb352) (o := .cells #[.slice Ao64 t349.length co64] 31 (0, 0)) (by (with_reducible repeat (first | refine blk_drewN ?_ _ | refine blk_drew ?_ | refine blk_alloc ?_ _)); exact BK352.out) hb); have n3_ := Aside0.mk (below_step (by repeat (first | (with_reducible first | exact HB.out | apply below_alloc | apply pw_below_drewN | apply below_drew1 | refine below_set ?_ GE346.out | refine below_set ?_ GE352.out) | exact HB.out)) hb); clear HO351; clear BK346; clear BK352; clear HB; have HO351 := n0_; have BK346 := n1_; have BK352 := n2_; have HB := n3_; clear n0_ n1_ n2_ n3_; (try clear hb); (try clear hb2); (try clear hk); (try clear hi)))
         go_ret
         exact ⟨by first | rfl | (simp [errW_none, errW_some] <;> rfl) | (simp [*, errW_none, errW_some] <;> rfl), by repeat (first | (with_reducible first | exact HB.out | apply below_alloc | apply pw_below_drewN | apply below_drew1 | refine below_set ?_ GE346.out | refine below_set ?_ GE352.out) | exact HB.out)⟩
        ·rw [if_neg c59] at H
         have c59b0 : (t355 == 11) = false := beq_eq_false_iff_ne.mpr c59
         have c59b1 : (t355 != 11) = true := bne_iff_ne.mpr c59
         exact absurd ((Option.some.inj H).trans HT_.out) (by decide)
       ·rw [if_neg c58] at H
        have c58b0 : (t354.toList == ([] : List UInt8)) = false := beq_eq_false_iff_ne.mpr c58
        (try (have c58b0e : (t354.toList.isEmpty) = false := by simpa using c58b0))
        have c58b1 : (t354.toList != ([] : List UInt8)) = true := bne_iff_ne.mpr c58
        exact absurd ((Option.some.inj H).trans HT_.out) (by decide)
 ·replace c4 := Bool.eq_false_iff.mpr c4
  subst c4
  have H1 : (some false) = some r := by rw [if_neg (show ¬ (false = true) by decide)] at H; exact H
  clear H
  have H := H1
  clear H1
  exact absurd ((Option.some.inj H).trans HT_.out) (by decide)

end Go.Proofs.YtpmieapgbdbabaaDoor.QAll
end

section
/- The plain law of PathBytes: the bytes and the word of any path are what the reference says, and it comes back of its bytes; over plain strings and lists. -/
set_option linter.unusedVariables false
set_option linter.unusedSimpArgs false
namespace Go.Proofs.YtpmieapgbdbabaaDoor.Pure
open Go.RowKit Go.Proofs.YtpmieapgbdbabaaDoor.QAll Go.Proofs.YtpmieapgbdbabaaDoorW.PrintWords Go.Proofs.YtpmieapgbdbabaaDoorW.PrintLast

theorem ref_right_l' (s : ByteArray) (n : Int) (hs : s.size ≤ 9223372036854775807) : ∀ (d k i : Nat), s.size - i ≤ d → d + 1 ≤ k → i ≤ s.size →
    squelchref04_Right.l0 k (i : Int) s n = some ((s.toList.drop i).all fun c => letB c.toNat)
  | d, 0, i, _, hk, _ => absurd hk (by omega)
  | d, k + 1, i, hd, hk, hi => by
    rw [squelchref04_Right.l0]
    by_cases h : i < s.size
    · obtain ⟨c, r, e1, e2, e3⟩ := bt_at s i h
      obtain ⟨d', rfl⟩ : ∃ d', d = d' + 1 := ⟨d - 1, by omega⟩
      have ih := ref_right_l' s n hs d' k (i + 1) (by omega) (by omega) (by omega)
      rw [if_pos (by omega), if_pos (by omega), e3, wrap_succ i (by omega), ih, e1, e2]
      simp only [List.all_cons]
      unfold letB
      by_cases h1 : (c.toNat : Int) ≥ 65
      · rw [if_pos h1]
        by_cases h2 : (c.toNat : Int) ≤ 90
        · rw [if_pos h2, decide_eq_true (by omega), Bool.true_and]
        · rw [if_neg h2, if_pos (by omega), if_neg (by omega), decide_eq_false (by omega), Bool.false_and]
      · rw [if_neg h1]
        by_cases h2 : (c.toNat : Int) ≥ 48
        · rw [if_pos h2]
          by_cases h3 : (c.toNat : Int) ≤ 57
          · rw [if_pos h3, decide_eq_true (by omega), Bool.true_and]
          · rw [if_neg h3, decide_eq_false (by omega), Bool.false_and]
        · rw [if_neg h2, decide_eq_false (by omega), Bool.false_and]
    · rw [if_neg (by omega), drop_all s i (by omega)]
      rfl
theorem ref_right' (s : ByteArray) (n : Int) (hs : s.size ≤ 9223372036854775807) (k : Nat) (hk : s.size + 2 ≤ k) : squelchref04_Right.f k s n = some (rightB s n) := by
  rcases Nat.lt_or_ge s.size 9223372036854775807 with h | h
  · exact ref_right s n h k hk
  · obtain ⟨k, rfl⟩ : ∃ k', k = k' + 1 := ⟨k - 1, by omega⟩
    unfold squelchref04_Right.f rightB
    have h0 := ref_right_l' s n hs s.size k 0 (by omega) (by omega) (by omega)
    simp only [squelchref04_Right.j0]
    rw [show ((0 : Nat) : Int) = 0 from rfl] at h0
    rw [h0, List.drop_zero]
    have hsz : ¬ s.size ≤ 6 := by omega
    rw [if_neg (show ¬ (s.size : Int) < 1 by omega), if_pos (show (s.size : Int) > 6 by omega), decide_eq_false hsz]
    simp
theorem ref_right_at (L : List S93) (hL : L.length ≤ 1000) (M : Nat) (hM : ∀ d ∈ L, d.f0.f0.size ≤ M ∧ d.f0.f0.size ≤ 9223372036854775807) : ∀ (d i K : Nat), L.length - i ≤ d → d + M + 1100 ≤ K → i ≤ L.length →
    squelchref05_Right.l0 K (i : Int) (L.map mk37) = (if (L.drop i).all rightD = true then (if 2 ≤ L.length ∧ L.length ≤ 10 then squelchref05_ordered.f (K - (L.length - i) - 1) (L.map mk37) else some false) else some false)
  | d, i, 0, _, hk, _ => absurd hk (by omega)
  | d, i, K + 1, hd, hk, hi => by
    rw [squelchref05_Right.l0, List.length_map]
    by_cases h : i < L.length
    · obtain ⟨d', rfl⟩ : ∃ d', d = d' + 1 := ⟨d - 1, by omega⟩
      have hrd : rd_T37 (L.map mk37) (i : Int) = mk37 (rd_T93 L (i : Int)) := by
        unfold rd_T37 rd_T93
        rw [Int.toNat_natCast, List.getD_eq_getElem?_getD, List.getD_eq_getElem?_getD]
        simp [h]
      have hmem : rd_T93 L (i : Int) ∈ L := by
        unfold rd_T93
        rw [Int.toNat_natCast, List.getD_eq_getElem?_getD, List.getElem?_eq_getElem h]
        exact List.getElem_mem h
      have hz := hM _ hmem
      have hr : squelchref04_Right.f K (mk37 (rd_T93 L (i : Int))).f0.f0 (mk37 (rd_T93 L (i : Int))).f0.f1 = some (rightD (rd_T93 L (i : Int))) := ref_right' (rd_T93 L (i : Int)).f0.f0 (rd_T93 L (i : Int)).f0.f1 hz.2 K (by omega)
      rw [if_pos (by omega), if_pos (by omega), hrd, hr, drop_T93 L i h, List.all_cons]
      simp only [Option.bind_some]
      cases hrr : rightD (rd_T93 L (i : Int)) with
      | true =>
        rw [if_pos rfl, wrap_succ i (by omega), ref_right_at L hL M hM d' (i + 1) K (by omega) (by omega) (by omega), Bool.true_and, show K - (L.length - (i + 1)) - 1 = K + 1 - (L.length - i) - 1 by omega]
      | false => rw [if_neg (by decide), Bool.false_and, if_neg (by decide)]
    · obtain rfl : i = L.length := by omega
      rw [if_neg (by omega), List.drop_length, if_pos (show ([] : List S93).all rightD = true from rfl)]
      by_cases h2 : 2 ≤ L.length
      · rw [if_pos (by omega)]
        by_cases h10 : L.length ≤ 10
        · rw [if_pos (by omega), if_pos ⟨h2, h10⟩, show K + 1 - (L.length - L.length) - 1 = K by omega]
          cases squelchref05_ordered.f K (L.map mk37) <;> rfl
        · rw [if_neg (by omega), if_neg (fun h => h10 h.2)]
      · rw [if_neg (by omega), if_neg (fun h => h2 h.1)]
theorem right05 (a b : ByteArray) (n m : Int) (x y : Bool) (D : List S93) (hD : D.length ≤ 30) (M : Nat) (ha : a.size ≤ M ∧ a.size ≤ 9223372036854775807) (hb : b.size ≤ M ∧ b.size ≤ 9223372036854775807) (hM : ∀ d ∈ D, d.f0.f0.size ≤ M ∧ d.f0.f0.size ≤ 9223372036854775807) (K : Nat) (hK : M + 2000 ≤ K) :
    squelchref05_Right.f K ((entS a n b m x y D).map mk37) = some (pathB a n b m D) := by
  have hl : (entS a n b m x y D).length = D.length + 2 := rfl
  have h := ref_right_at (entS a n b m x y D) (by omega) M (fun d hd => by
    rcases List.mem_cons.1 hd with rfl | hd
    · exact ha
    · rcases List.mem_cons.1 hd with rfl | hd
      · exact hb
      · exact hM d hd) 32 0 K (by omega) (by omega) (by omega)
  unfold squelchref05_Right.f
  rw [show ((0 : Nat) : Int) = 0 from rfl] at h
  rw [h, List.drop_zero, hl]
  have hall : (entS a n b m x y D).all rightD = (rightB a n && (rightB b m && D.all rightD)) := rfl
  rw [hall]
  unfold pathB ordB
  by_cases h10 : D.length ≤ 8
  · rw [if_pos (⟨by omega, by omega⟩ : 2 ≤ D.length + 2 ∧ D.length + 2 ≤ 10)]
    rw [show (entS a n b m x y D).map mk37 = mk37 ⟨⟨a, n⟩, x⟩ :: mk37 ⟨⟨b, m⟩, y⟩ :: D.map mk37 from rfl, ordered_f37 _ _ D (by omega) _ (by omega), decide_eq_true h10, Bool.and_true]
    cases rightB a n <;> cases rightB b m <;> cases D.all rightD <;> simp
  · rw [if_neg (show ¬ (2 ≤ D.length + 2 ∧ D.length + 2 ≤ 10) by omega), decide_eq_false h10, Bool.and_false]
    cases rightB a n <;> cases rightB b m <;> cases D.all rightD <;> simp

theorem putD_list (d : S93) (l : Bool) : (putD d l).toList.length = 7 := by rw [len_eq]; exact putD_size d l
theorem pput_drop : ∀ (k : Nat) (E : List S93), k ≤ E.length → (pputL E).drop (7 * k) = pputL (E.drop k) ∧ (pputL E).length = 7 * E.length
  | 0, [], _ => ⟨rfl, rfl⟩
  | 0, d :: r, _ => by
    have h := (pput_drop 0 r (by omega)).2
    have := putD_len d r.isEmpty
    refine ⟨rfl, ?_⟩
    unfold pputL
    rw [List.length_append, this, h, List.length_cons]
    omega
  | k + 1, [], h => absurd h (by simp)
  | k + 1, d :: r, h => by
    obtain ⟨h1, h2⟩ := pput_drop k r (by simpa using h)
    have hl := putD_len d r.isEmpty
    have e : pputL (d :: r) = (putD d r.isEmpty).data.toList ++ pputL r := rfl
    refine ⟨?_, by rw [e, List.length_append, hl, h2, List.length_cons]; omega⟩
    rw [e, List.drop_succ_cons, ← h1, List.drop_append, hl, show 7 * (k + 1) - 7 = 7 * k by omega, List.drop_eq_nil_of_le (by rw [hl]; omega), List.nil_append]
theorem pg_of_put (E : List S93) (B : ByteArray) (hE : ∀ d ∈ E, rightD d = true) (h2 : 2 ≤ E.length) (h10 : E.length ≤ 10) (ho : ordFrom true (E.drop 2) = true) (T : ByteArray) (hT : T.toList = pputL E ++ B.toList) : ∀ (f k : Nat), f = 11 - k → k < E.length →
    pgFrom T f k (E.take k) = (7 * E.length, E, 0)
  | 0, k, hf, hk => absurd hf (by omega)
  | f + 1, k, hf, hk => by
    have hlen := (pput_drop 0 E (by omega)).2
    have hsz : T.size = 7 * E.length + B.size := by rw [← len_eq, hT, List.length_append, hlen, len_eq]
    have hd := drop_T93 E k hk
    have hmem : rd_T93 E (k : Int) ∈ E := by
      unfold rd_T93
      rw [Int.toNat_natCast, List.getD_eq_getElem?_getD, List.getElem?_eq_getElem hk]
      exact List.getElem_mem hk
    have hr := hE _ hmem
    obtain ⟨lst, hl⟩ : ∃ b : Bool, b = (E.drop (k + 1)).isEmpty := ⟨_, rfl⟩
    have hpg : pgT T k = putD (rd_T93 E (k : Int)) lst := by
      apply ba_eq
      unfold pgT
      rw [toList_ext, List.drop_take, hT, List.drop_append_of_le_length (by rw [hlen]; omega), (pput_drop k E (by omega)).1, hd]
      have e : pputL (rd_T93 E (k : Int) :: E.drop (k + 1)) = (putD (rd_T93 E (k : Int)) lst).toList ++ pputL (E.drop (k + 1)) := by rw [hl, Go.ByteArray.toList_eq]; rfl
      rw [e, show 7 * k + 7 - 7 * k = 7 by omega, List.append_assoc, List.take_append_of_le_length (by rw [putD_list]; omega), List.take_of_length_le (by rw [putD_list]; omega)]
    have hg : getS (pgT T k) = ((rd_T93 E (k : Int)).f0.f0, (rd_T93 E (k : Int)).f0.f1, (rd_T93 E (k : Int)).f1, lst, 0) := by
      rw [hpg]
      exact get_put _ _ _ _ hr
    have hpe : pgE T k = rd_T93 E (k : Int) := by unfold pgE; rw [hg]
    have htk : E.take k ++ [rd_T93 E (k : Int)] = E.take (k + 1) := by
      rw [List.take_add_one]
      congr 1
      unfold rd_T93
      rw [Int.toNat_natCast, List.getD_eq_getElem?_getD, List.getElem?_eq_getElem hk]
      rfl
    rw [pgFrom, if_neg (by omega), hg, if_neg (by simp), if_neg (by omega), hpe, htk]
    by_cases hlast : k + 1 = E.length
    · have : lst = true := by rw [hl, List.drop_eq_nil_of_le (by omega)]; rfl
      have hob : ordB (E.drop 2) = true := by
        unfold ordB
        rw [ho, decide_eq_true (by rw [List.length_drop]; omega)]
        rfl
      rw [this, if_neg (by simp), if_neg (by omega), hlast, List.take_length, if_pos hob, show 7 * k + 7 = 7 * E.length by omega]
    · have : lst = false := by rw [hl, drop_T93 E (k + 1) (by omega)]; rfl
      rw [this, if_pos (by rfl)]
      exact pg_of_put E B hE h2 h10 ho T hT f (k + 1) (by omega) (by omega)
theorem ref_put_at (E : List S93) (hE : ∀ d ∈ E, rightD d = true) (hl : E.length ≤ 1000) : ∀ (d i K : Nat) (S : ByteArray), E.length - i ≤ d → d + 20 ≤ K → i ≤ E.length → S.size ≤ 7 * i →
    ∃ R, squelchref05_Put.l0 K S (i : Int) (E.map mk37) = some R ∧ R.toList = S.toList ++ pputL (E.drop i)
  | d, i, 0, _, _, hk, _, _ => absurd hk (by omega)
  | d, i, K + 1, S, hd, hk, hi, hS => by
    rw [squelchref05_Put.l0, List.length_map]
    by_cases h : i < E.length
    · obtain ⟨d', rfl⟩ : ∃ d', d = d' + 1 := ⟨d - 1, by omega⟩
      have hrd : rd_T37 (E.map mk37) (i : Int) = mk37 (rd_T93 E (i : Int)) := by
        unfold rd_T37 rd_T93
        rw [Int.toNat_natCast, List.getD_eq_getElem?_getD, List.getD_eq_getElem?_getD]
        simp [h]
      have hmem : rd_T93 E (i : Int) ∈ E := by
        unfold rd_T93
        rw [Int.toNat_natCast, List.getD_eq_getElem?_getD, List.getElem?_eq_getElem h]
        exact List.getElem_mem h
      obtain ⟨lst, hlst⟩ : ∃ b : Bool, b = (E.drop (i + 1)).isEmpty := ⟨_, rfl⟩
      have hcmp : ((i : Int) == wrap64 ((E.length : Int) - 1)) = lst := by
        rw [hlst, show wrap64 ((E.length : Int) - 1) = (E.length : Int) - 1 by unfold wrap64; omega]
        by_cases h1 : i + 1 = E.length
        · rw [List.drop_eq_nil_of_le (by omega), beq_iff_eq.2 (by omega)]; rfl
        · rw [drop_T93 E (i + 1) (by omega), beq_eq_false_iff_ne.2 (by omega)]; rfl
      have hp : squelchref04_Put.f K (mk37 (rd_T93 E (i : Int))).f0.f0 (mk37 (rd_T93 E (i : Int))).f0.f1 (mk37 (rd_T93 E (i : Int))).f1 lst = some (putD (rd_T93 E (i : Int)) lst) := ref_put _ _ (hE _ hmem) _ _ K (by omega)
      have hz : (putD (rd_T93 E (i : Int)) lst).size = 7 := putD_size _ _
      obtain ⟨R, hR, hRl⟩ := ref_put_at E hE hl d' (i + 1) K (S ++ putD (rd_T93 E (i : Int)) lst) (by omega) (by omega) (by omega) (by rw [ByteArray.size_append, hz]; omega)
      refine ⟨R, ?_, ?_⟩
      · rw [if_pos (by omega), if_pos (by omega), hrd, hcmp, hp]
        simp only [Option.bind_some]
        rw [if_pos (by rw [hz]; omega), wrap_succ i (by omega), hR]
      · rw [hRl, toList_app, drop_T93 E i h, List.append_assoc]
        congr 1
        rw [Go.ByteArray.toList_eq, hlst]
        rfl
    · refine ⟨S, by rw [if_neg (by omega)], ?_⟩
      rw [List.drop_eq_nil_of_le (by omega)]
      simp [pputL]

theorem word_text' {s : ByteArray} {n : Int} (h : rightB s n = true) : wordS s n = textS s n := by
  have h1 := (word_f s n h).1
  have h6 := right_parts h
  rw [call_text s n (by omega), if_pos h] at h1
  exact (Option.some.inj h1).symm
def starB (d : S93) (r : List S93) : Bool := d.f1 && (match r with | [] => true | e :: _ => !e.f1)
theorem digT_cons (d : S93) (r : List S93) : digT (d :: r) = 44 :: ((wordS d.f0.f0 d.f0.f1).data.toList ++ ((if starB d r = true then [42] else []) ++ digT r)) := by
  conv => lhs; unfold digT
  cases r with
  | nil => cases hf : d.f1 <;> simp [starB, hf]
  | cons e t => cases hf : d.f1 <;> cases hg : e.f1 <;> simp [starB, hf, hg]
theorem rtx_none (L : Int) : ∀ (i : Nat) (r : List S93), (∀ d ∈ r, rightD d = true) → (∀ d ∈ r, d.f1 = false) → L < i → digT r = rtx L i (r.map mk37)
  | i, [], _, _, _ => rfl
  | i, d :: r, hr, hf, hL => by
    have hd := hf d (by simp)
    have ih := rtx_none L (i + 1) r (fun e he => hr e (by simp [he])) (fun e he => hf e (by simp [he])) (by omega)
    rw [List.map_cons]
    have hs : starB d r = false := by unfold starB; rw [hd]; rfl
    rw [digT_cons, hs, word_text' (hr d (by simp))]
    unfold rtx
    rw [if_neg (show ¬ ((i : Int) = L) by omega), ← ih, ← Go.ByteArray.toList_eq]
    rfl
theorem un_of (p : Bool) : ∀ (r : List S93), p = false → ordFrom p r = true → ∀ d ∈ r, d.f1 = false
  | [], _, _, d, hd => by cases hd
  | e :: t, hp, h, d, hd => by
    subst hp
    rw [ordFrom_cons, Bool.and_eq_true] at h
    have he : e.f1 = false := by simpa using h.1
    rcases List.mem_cons.1 hd with rfl | hd
    · exact he
    · rw [he] at h
      exact un_of false t rfl h.2 d hd
def lastI (i : Nat) (r : List S93) : Int := if rnextFrom i (r.map mk37) = -1 then (i : Int) + r.length - 1 else rnextFrom i (r.map mk37) - 1
theorem digT_rtx : ∀ (i : Nat) (r : List S93), (∀ d ∈ r, rightD d = true) → ordFrom true r = true → digT r = rtx (lastI i r) i (r.map mk37) ∧ (i : Int) - 1 ≤ lastI i r
  | i, [], _, _ => ⟨rfl, by unfold lastI; rw [if_pos (by rfl)]; simp⟩
  | i, d :: r, hr, h => by
    have hd := hr d (by simp)
    rw [ordFrom_cons, Bool.and_eq_true] at h
    cases hf : d.f1 with
    | false =>
      have hL : lastI i (d :: r) = (i : Int) - 1 := by
        unfold lastI
        have e : rnextFrom i ((d :: r).map mk37) = i := by
          show (if (mk37 d).f1 = true then _ else _) = _
          rw [if_neg (by show ¬ d.f1 = true; rw [hf]; decide)]
        rw [e, if_neg (by omega)]
      rw [hL]
      refine ⟨rtx_none _ i (d :: r) hr (fun e he => ?_) (by omega), Int.le_refl _⟩
      rcases List.mem_cons.1 he with rfl | he
      · exact hf
      · rw [hf] at h
        exact un_of false r rfl h.2 e he
    | true =>
      rw [hf] at h
      obtain ⟨ih, ihl⟩ := digT_rtx (i + 1) r (fun e he => hr e (by simp [he])) h.2
      have hL : lastI i (d :: r) = lastI (i + 1) r := by
        unfold lastI
        have e : rnextFrom i ((d :: r).map mk37) = rnextFrom (i + 1) (r.map mk37) := by
          show (if (mk37 d).f1 = true then _ else _) = _
          rw [if_pos (by show d.f1 = true; exact hf)]
        rw [e, List.length_cons]
        split <;> omega
      rw [hL]
      refine ⟨?_, by omega⟩
      rw [List.map_cons]
      rw [digT_cons]
      conv => rhs; unfold rtx
      rw [← ih, word_text' hd, ← Go.ByteArray.toList_eq]
      have hstar : (starB d r = true) ↔ ((i : Int) = lastI (i + 1) r) := by
        clear ih hL
        cases r with
        | nil =>
          refine ⟨fun _ => ?_, fun _ => by unfold starB; rw [hf]; rfl⟩
          unfold lastI
          rw [if_pos (by rfl)]
          simp
        | cons e t =>
          have hre : rnextFrom (i + 1) ((e :: t).map mk37) = if e.f1 = true then rnextFrom (i + 1 + 1) (t.map mk37) else ((i + 1 : Nat) : Int) := rfl
          cases hg : e.f1 with
          | false =>
            refine ⟨fun _ => ?_, fun _ => by unfold starB; rw [hf]; simp [hg]⟩
            unfold lastI
            have hre2 : rnextFrom (i + 1) ((e :: t).map mk37) = ((i + 1 : Nat) : Int) := by rw [hre, hg]; rfl
            rw [hre2, if_neg (by omega)]
            omega
          | true =>
            refine ⟨fun hh => by unfold starB at hh; rw [hf] at hh; simp [hg] at hh, fun hh => ?_⟩
            exfalso
            unfold lastI at hh
            rw [hre, hg, if_pos rfl] at hh
            rcases rnext_ge (i + 1 + 1) (t.map mk37) with g | g
            · rw [if_pos g] at hh
              simp at hh
              omega
            · rw [if_neg (by omega)] at hh
              omega
      by_cases hs : (i : Int) = lastI (i + 1) r
      · rw [if_pos (hstar.2 hs), if_pos hs]; rfl
      · rw [if_neg (fun q => hs (hstar.1 q)), if_neg hs]; rfl
theorem path_rtext (a b : ByteArray) (n m : Int) (x y : Bool) (D : List S93) (h : pathB a n b m D = true) : pathT a n b m D = rtext ((entS a n b m x y D).map mk37) := by
  unfold pathB at h
  simp only [Bool.and_eq_true, List.all_eq_true] at h
  obtain ⟨ha, hb, hD, hO⟩ := h
  unfold ordB at hO
  rw [Bool.and_eq_true] at hO
  have hL : rlast ((entS a n b m x y D).map mk37) = lastI 2 D := by
    unfold rlast lastI
    rw [show ((entS a n b m x y D).map mk37).drop 2 = D.map mk37 from rfl, show ((entS a n b m x y D).map mk37).length = D.length + 2 by simp [entS]]
    split <;> omega
  unfold pathT rtext
  rw [hL, show ((entS a n b m x y D).map mk37).drop 2 = D.map mk37 from rfl, ← (digT_rtx 2 D hD hO.1).1]
  rw [show rd_T37 ((entS a n b m x y D).map mk37) 1 = mk37 ⟨⟨b, m⟩, y⟩ from rfl, show rd_T37 ((entS a n b m x y D).map mk37) 0 = mk37 ⟨⟨a, n⟩, x⟩ from rfl]
  rw [word_text' (s := b) (n := m) hb, word_text' (s := a) (n := n) ha, Go.ByteArray.toList_eq, Go.ByteArray.toList_eq]
  rfl
theorem bytes_main (a : ByteArray) (n : Int) (b : ByteArray) (m : Int) (x y : Bool) (D : List S93) (B : ByteArray) (hs : sizesOk a b D = true) (hD : D.length ≤ 30) (hB : B.size ≤ 300) (K M : Nat) (hK : M + 100000 ≤ K)
    (ha : a.size ≤ M ∧ a.size ≤ 9223372036854775807) (hb : b.size ≤ M ∧ b.size ≤ 9223372036854775807) (hM : ∀ d ∈ D, d.f0.f0.size ≤ M ∧ d.f0.f0.size ≤ 9223372036854775807) : squelchlaw05_PathBytes.j0 (K + 1) B false a n b m x y D = some true := by
  have hR : path_Right.f a n b m x y D = some (pathB a n b m D) := by unfold path_Right.f; rw [if_pos hs]
  have hP : path_Put.f a n b m x y D = some (if pathB a n b m D = true then (pputS a n b m x y D, 0) else (⟨#[]⟩, 11)) := by unfold path_Put.f; rw [if_pos hs]
  have hT : path_Text.f a n b m x y D = some (if pathB a n b m D = true then ⟨(pathT a n b m D).toArray⟩ else ⟨#[]⟩) := by unfold path_Text.f; rw [if_pos hs]
  have hW : (⟨⟨a, n⟩, x⟩ : S37) :: (⟨⟨b, m⟩, y⟩ : S37) :: D.map mk37 = (entS a n b m x y D).map mk37 := rfl
  have h05 := right05 a b n m x y D hD M ha hb hM K (by omega)
  rw [squelchlaw05_PathBytes.j0, if_neg (by decide), plain_f _ _ _ _ _ _ D (by omega) K (by omega), hW]
  simp only [Option.bind_some]
  rw [h05]
  simp only [Option.bind_some]
  rw [hP]
  simp only [Option.bind_some]
  rw [hR]
  simp only [Option.bind_some]
  rw [hT]
  cases hp : pathB a n b m D with
  | false =>
    simp only [Option.bind_some]
    have h0 : (⟨#[]⟩ : ByteArray).toList = [] := by rw [Go.ByteArray.toList_eq]
    simp [h0]
  | true =>
    simp only [↓reduceIte, bne_self_eq_false, Bool.false_eq_true]
    have hp' := hp
    unfold pathB at hp'
    simp only [Bool.and_eq_true, List.all_eq_true] at hp'
    obtain ⟨ra, rb, rD, rO⟩ := hp'
    unfold ordB at rO
    rw [Bool.and_eq_true, decide_eq_true_eq] at rO
    have hE : ∀ d ∈ entS a n b m x y D, rightD d = true := fun d hd => by
      rcases List.mem_cons.1 hd with rfl | hd
      · exact ra
      · rcases List.mem_cons.1 hd with rfl | hd
        · exact rb
        · exact rD d hd
    have hEl : (entS a n b m x y D).length = D.length + 2 := rfl
    have hSl : (pputS a n b m x y D).toList = pputL (entS a n b m x y D) := by rw [Go.ByteArray.toList_eq]; rfl
    have hSs : (pputS a n b m x y D).size = 7 * (entS a n b m x y D).length := by rw [← len_eq, hSl]; exact (pput_drop 0 _ (by omega)).2
    have hpg : pgS (pputS a n b m x y D ++ B) = (7 * (entS a n b m x y D).length, entS a n b m x y D, 0) :=
      pg_of_put (entS a n b m x y D) B hE (by omega) (by omega) rO.1 _ (by rw [toList_app, hSl]) 11 0 rfl (by omega)
    have hG : path_Get.f (pputS a n b m x y D ++ B) = some (a, n, b, m, x, y, D, ((7 * (entS a n b m x y D).length : Nat) : Int), 0) := by
      unfold path_Get.f
      rw [if_pos (by rw [ByteArray.size_append, hSs]; omega), hpg]
      rfl
    obtain ⟨R, hRp, hRl⟩ := ref_put_at (entS a n b m x y D) hE (by omega) 32 0 K ⟨#[]⟩ (by omega) (by omega) (by omega) (Nat.zero_le _)
    have hRS : R = pputS a n b m x y D := ba_eq (by rw [hRl, hSl, List.drop_zero, show (⟨#[]⟩ : ByteArray).toList = [] by rw [Go.ByteArray.toList_eq]]; rfl)
    have hPut : squelchref05_Put.f K ((entS a n b m x y D).map mk37) = some (pputS a n b m x y D) := by
      unfold squelchref05_Put.f
      rw [show ((0 : Nat) : Int) = 0 from rfl] at hRp
      rw [hRp, hRS]
    have hrt : squelchref05_Text.f ((entS a n b m x y D).map mk37) = some ⟨(rtext ((entS a n b m x y D).map mk37)).toArray⟩ := by
      unfold squelchref05_Text.f
      rw [if_pos]
      rw [Bool.and_eq_true, decide_eq_true_eq, List.all_eq_true]
      refine ⟨by rw [List.length_map, hEl]; omega, fun d hd => ?_⟩
      obtain ⟨e, he, rfl⟩ := List.mem_map.1 hd
      exact hE e he
    rw [if_pos (show (pputS a n b m x y D).size + B.size ≤ 9223372036854775807 by rw [hSs]; omega), hG]
    simp only [Option.bind_some, ↓reduceIte]
    rw [hPut]
    simp only [Option.bind_some, ↓reduceIte]
    rw [if_pos (show ((7 * (entS a n b m x y D).length : Nat) : Int) = ((pputS a n b m x y D).size : Int) by rw [hSs]), plain_f _ _ _ _ _ _ D (by omega) K (by omega), hW]
    simp only [Option.bind_some]
    rw [same_f _ (by rw [List.length_map, hEl]; omega) K (by rw [List.length_map, hEl]; omega)]
    simp only [Option.bind_some, ↓reduceIte]
    rw [hrt, ← path_rtext a b n m x y D hp]
    simp only [Option.bind_some]
    simp
theorem PathBytes : ∀ (a0_0 : ByteArray) (a0_1 : Int) (a0_2 : ByteArray) (a0_3 : Int) (a0_4 a0_5 : Bool) (l0_6 : List S93) (a1 : ByteArray), a0_0.size ≤ 140737488351232 → (Lit.int .i64 a0_1).wf = true → a0_2.size ≤ 140737488351232 → (Lit.int .i64 a0_3).wf = true →
    (∀ d ∈ l0_6, d.f0.f0.size ≤ maxLen ∧ (Lit.int .i64 d.f0.f1).wf = true) → a1.size ≤ 140737488351232 → ∃ k, squelchlaw05_PathBytes.f k a0_0 a0_1 a0_2 a0_3 a0_4 a0_5 l0_6 a1 = some true := by
  intro a n b m x y D B h1 _ h2 _ h3 _
  obtain ⟨M, hM⟩ : ∃ M : Nat, M = 9223372036854775807 := ⟨_, rfl⟩
  refine ⟨M + 100000 + 1, ?_⟩
  unfold squelchlaw05_PathBytes.f squelchlaw05_great.f
  rw [show squelchlaw05_awake.f = some true from rfl]
  simp only [Option.bind_some]
  rw [if_pos (by trivial)]
  by_cases hl : (D.length : Int) > 30
  · rw [if_pos (decide_eq_true hl), squelchlaw05_PathBytes.j0, if_pos (by trivial)]
  · rw [if_neg (by rw [decide_eq_false hl]; simp)]
    by_cases hB : (B.size : Int) > 300
    · rw [decide_eq_true hB, squelchlaw05_PathBytes.j0, if_pos (by trivial)]
    · rw [decide_eq_false hB]
      have hx : maxLen = 9223372036854775807 := rfl
      have hs : sizesOk a b D = true := by
        unfold sizesOk
        simp only [Bool.and_eq_true, decide_eq_true_eq, List.all_eq_true]
        exact ⟨by omega, by omega, fun d hd => by have h4 := (h3 d hd).1; omega, by omega⟩
      exact bytes_main a n b m x y D B hs (by omega) (by omega) (M + 100000) M (Nat.le_refl _) ⟨by omega, by omega⟩ ⟨by omega, by omega⟩ (fun d hd => by have h4 := (h3 d hd).1; exact ⟨by omega, by omega⟩)
end Go.Proofs.YtpmieapgbdbabaaDoor.Pure
end

section
/- The statement that the law squelchlaw05.PathBytes is true of every input, its arguments left as they were: the row, out of its walk and its plain law. Written by a program of this session (wip/pp/row.py). -/
namespace Go.Proofs.YtpmieapgbdbabaaDoor.pathBytesRow
open Go.ChangeShapes Go.WideShapes Go.ChangeAt Go.RowKit
open Go.ChangeMaps (open_string shut_string)
set_option linter.unusedVariables false
set_option linter.unusedSimpArgs false
theorem own : ownKnob Tryd.prog.godebug = none := by kernel_rfl
theorem laidOut : laidOutB Tryd.prog = true := by kernel_rfl
theorem cells3 : Tryd.prog.cellsOf 3 = 1 := by kernel_rfl
theorem cells4 : Tryd.prog.cellsOf 4 = 1 := by kernel_rfl
theorem cells9 : Tryd.prog.cellsOf 9 = 1 := by kernel_rfl
theorem cells23 : Tryd.prog.cellsOf 23 = 2 := by kernel_rfl
theorem cells24 : Tryd.prog.cellsOf 24 = 1 := by kernel_rfl
theorem cells26 : Tryd.prog.cellsOf 26 = 7 := by kernel_rfl
theorem cells93 : Tryd.prog.cellsOf 93 = 3 := by kernel_rfl
set_option maxRecDepth 100000 in
theorem open23 {H : Type} {enc : TypeId × Value → H} {w : World} {fuel : Nat} {cs : List Value} {x : DataW H × List MemPlace} (h : DataW.trod enc Tryd.prog w 0 (fun _ => true) true fuel 23 cs = some x) :
    ∃ (a_0 : ByteArray) (a_1 : Int), cs = [.string a_0, .int .i64 a_1] ∧ x.1 = (.agg [(.lit (.string a_0.data.toList)), (.lit (.int .i64 a_1))]) ∧ a_0.size ≤ maxLen ∧ (Lit.int .i64 a_1).wf = true := by
  obtain ⟨xs, n, -, rfl, hc, hl, hg⟩ := DataW.trod_struct Tryd.underlying23 h
  rw [cells23] at hc
  obtain ⟨c0, c1, rfl⟩ : ∃ c0 c1, cs = [c0, c1] := by
    match cs, hc with
    | [c0, c1], _ => exact ⟨_, _, rfl⟩
  obtain ⟨y0, y1, rfl⟩ : ∃ y0 y1, xs = [y0, y1] := by
    match xs, hl with
    | [y0, y1], _ => exact ⟨_, _, rfl⟩
  clear h hc hl
  have g0 : DataW.trod enc Tryd.prog w 0 (fun _ => true) true n 9 [c0] = some y0 := by
    have z := hg 0 _ rfl
    simp only [cells9, List.drop_zero, List.drop_succ_cons, List.take_succ_cons, List.take_zero, List.getElem?_cons_zero, List.getElem?_cons_succ] at z
    exact z
  have g1 : DataW.trod enc Tryd.prog w 0 (fun _ => true) true n 3 [c1] = some y1 := by
    have z := hg 1 _ rfl
    simp only [cells3, List.drop_zero, List.drop_succ_cons, List.take_succ_cons, List.take_zero, List.getElem?_cons_zero, List.getElem?_cons_succ] at z
    exact z
  clear hg
  obtain ⟨a_0, e0, rfl, wa_0⟩ := DataW.trod_string Tryd.underlying9 g0
  simp only [List.cons.injEq, and_true] at e0
  subst e0
  obtain ⟨a_1, e1, rfl, wa_1⟩ := DataW.trod_int Tryd.underlying3 g1
  simp only [List.cons.injEq, and_true] at e1
  subst e1
  exact ⟨a_0, a_1, rfl, by simp only [List.map_cons, List.map_nil], wa_0, wa_1⟩
set_option maxRecDepth 100000 in
theorem open93 {H : Type} {enc : TypeId × Value → H} {w : World} {fuel : Nat} {cs : List Value} {x : DataW H × List MemPlace} (h : DataW.trod enc Tryd.prog w 0 (fun _ => true) true fuel 93 cs = some x) :
    ∃ (a_0_0 : ByteArray) (a_0_1 : Int) (a_1 : Bool), cs = [.string a_0_0, .int .i64 a_0_1, .bool a_1] ∧ x.1 = (.agg [(.agg [(.lit (.string a_0_0.data.toList)), (.lit (.int .i64 a_0_1))]), (.lit (.bool a_1))]) ∧ a_0_0.size ≤ maxLen ∧ (Lit.int .i64 a_0_1).wf = true ∧ True := by
  obtain ⟨xs, n, -, rfl, hc, hl, hg⟩ := DataW.trod_struct Tryd.underlying93 h
  rw [cells93] at hc
  obtain ⟨c0, c1, c2, rfl⟩ : ∃ c0 c1 c2, cs = [c0, c1, c2] := by
    match cs, hc with
    | [c0, c1, c2], _ => exact ⟨_, _, _, rfl⟩
  obtain ⟨y0, y1, rfl⟩ : ∃ y0 y1, xs = [y0, y1] := by
    match xs, hl with
    | [y0, y1], _ => exact ⟨_, _, rfl⟩
  clear h hc hl
  have g0 : DataW.trod enc Tryd.prog w 0 (fun _ => true) true n 23 [c0, c1] = some y0 := by
    have z := hg 0 _ rfl
    simp only [cells23, List.drop_zero, List.drop_succ_cons, List.take_succ_cons, List.take_zero, List.getElem?_cons_zero, List.getElem?_cons_succ] at z
    exact z
  have g1 : DataW.trod enc Tryd.prog w 0 (fun _ => true) true n 4 [c2] = some y1 := by
    have z := hg 1 _ rfl
    simp only [cells4, List.drop_zero, List.drop_succ_cons, List.take_succ_cons, List.take_zero, List.getElem?_cons_zero, List.getElem?_cons_succ] at z
    exact z
  clear hg
  obtain ⟨a_0_0, a_0_1, e0, d0, wa_0_0, wa_0_1⟩ := open23 g0
  simp only [List.cons.injEq, and_true] at e0
  obtain ⟨rfl, rfl⟩ := e0
  obtain ⟨a_1, e1, rfl⟩ := DataW.trod_bool Tryd.underlying4 g1
  simp only [List.cons.injEq, and_true] at e1
  subst e1
  exact ⟨a_0_0, a_0_1, a_1, rfl, by simp only [List.map_cons, List.map_nil, d0], wa_0_0, wa_0_1, trivial⟩
set_option maxRecDepth 100000 in
theorem open26 {H : Type} {enc : TypeId × Value → H} {w : World} {fuel : Nat} {cs : List Value} {x : DataW H × List MemPlace} (h : DataW.trod enc Tryd.prog w 0 (fun _ => true) true fuel 26 cs = some x) :
    ∃ (a_0_0 : ByteArray) (a_0_1 : Int) (a_1_0 : ByteArray) (a_1_1 : Int) (a_2 : Bool) (a_3 : Bool) (Aa_4 : Option Addr) (ca_4 : Nat) (a_4 : List QAll.S93) (Da_4 : DataW H), cs = [.string a_0_0, .int .i64 a_0_1, .string a_1_0, .int .i64 a_1_1, .bool a_2, .bool a_3, .slice Aa_4 a_4.length ca_4] ∧ x.1 = (.agg [(.agg [(.lit (.string a_0_0.data.toList)), (.lit (.int .i64 a_0_1))]), (.agg [(.lit (.string a_1_0.data.toList)), (.lit (.int .i64 a_1_1))]), (.lit (.bool a_2)), (.lit (.bool a_3)), Da_4]) ∧ a_0_0.size ≤ maxLen ∧ (Lit.int .i64 a_0_1).wf = true ∧ a_1_0.size ≤ maxLen ∧ (Lit.int .i64 a_1_1).wf = true ∧ True ∧ True ∧ (QAll.k93.C w Aa_4 a_4.length a_4 ∧ a_4.length ≤ ca_4 ∧ ∀ d ∈ a_4, d.f0.f0.size ≤ maxLen ∧ (Lit.int .i64 d.f0.f1).wf = true) := by
  obtain ⟨xs, n, -, rfl, hc, hl, hg⟩ := DataW.trod_struct Tryd.underlying26 h
  rw [cells26] at hc
  obtain ⟨c0, c1, c2, c3, c4, c5, c6, rfl⟩ : ∃ c0 c1 c2 c3 c4 c5 c6, cs = [c0, c1, c2, c3, c4, c5, c6] := by
    match cs, hc with
    | [c0, c1, c2, c3, c4, c5, c6], _ => exact ⟨_, _, _, _, _, _, _, rfl⟩
  obtain ⟨y0, y1, y2, y3, y4, rfl⟩ : ∃ y0 y1 y2 y3 y4, xs = [y0, y1, y2, y3, y4] := by
    match xs, hl with
    | [y0, y1, y2, y3, y4], _ => exact ⟨_, _, _, _, _, rfl⟩
  clear h hc hl
  have g0 : DataW.trod enc Tryd.prog w 0 (fun _ => true) true n 23 [c0, c1] = some y0 := by
    have z := hg 0 _ rfl
    simp only [cells23, List.drop_zero, List.drop_succ_cons, List.take_succ_cons, List.take_zero, List.getElem?_cons_zero, List.getElem?_cons_succ] at z
    exact z
  have g1 : DataW.trod enc Tryd.prog w 0 (fun _ => true) true n 23 [c2, c3] = some y1 := by
    have z := hg 1 _ rfl
    simp only [cells23, List.drop_zero, List.drop_succ_cons, List.take_succ_cons, List.take_zero, List.getElem?_cons_zero, List.getElem?_cons_succ] at z
    exact z
  have g2 : DataW.trod enc Tryd.prog w 0 (fun _ => true) true n 4 [c4] = some y2 := by
    have z := hg 2 _ rfl
    simp only [cells4, List.drop_zero, List.drop_succ_cons, List.take_succ_cons, List.take_zero, List.getElem?_cons_zero, List.getElem?_cons_succ] at z
    exact z
  have g3 : DataW.trod enc Tryd.prog w 0 (fun _ => true) true n 4 [c5] = some y3 := by
    have z := hg 3 _ rfl
    simp only [cells4, List.drop_zero, List.drop_succ_cons, List.take_succ_cons, List.take_zero, List.getElem?_cons_zero, List.getElem?_cons_succ] at z
    exact z
  have g4 : DataW.trod enc Tryd.prog w 0 (fun _ => true) true n 24 [c6] = some y4 := by
    have z := hg 4 _ rfl
    simp only [cells24, List.drop_zero, List.drop_succ_cons, List.take_succ_cons, List.take_zero, List.getElem?_cons_zero, List.getElem?_cons_succ] at z
    exact z
  clear hg
  obtain ⟨a_0_0, a_0_1, e0, d0, wa_0_0, wa_0_1⟩ := open23 g0
  simp only [List.cons.injEq, and_true] at e0
  obtain ⟨rfl, rfl⟩ := e0
  obtain ⟨a_1_0, a_1_1, e1, d1, wa_1_0, wa_1_1⟩ := open23 g1
  simp only [List.cons.injEq, and_true] at e1
  obtain ⟨rfl, rfl⟩ := e1
  obtain ⟨a_2, e2, rfl⟩ := DataW.trod_bool Tryd.underlying4 g2
  simp only [List.cons.injEq, and_true] at e2
  subst e2
  obtain ⟨a_3, e3, rfl⟩ := DataW.trod_bool Tryd.underlying4 g3
  simp only [List.cons.injEq, and_true] at e3
  subst e3
  obtain ⟨Aa_4, ca_4, a_4, e4, wa_4⟩ := QAll.rows_of_trod QAll.k93 Tryd.underlying24 cells93 (fun d => d.f0.f0.size ≤ maxLen ∧ (Lit.int .i64 d.f0.f1).wf = true) (fun n cs' z hz => by
    obtain ⟨b_0_0, b_0_1, b_1, rfl, -, wb_0_0, wb_0_1, wb_1⟩ := open93 hz
    exact ⟨(⟨⟨b_0_0, b_0_1⟩, b_1⟩ : QAll.S93), QAll.k93_mk w _, rfl, wb_0_0, wb_0_1⟩) g4
  simp only [List.cons.injEq, and_true] at e4
  subst e4
  exact ⟨a_0_0, a_0_1, a_1_0, a_1_1, a_2, a_3, Aa_4, ca_4, a_4, y4.1, rfl, by simp only [List.map_cons, List.map_nil, d0, d1], wa_0_0, wa_0_1, wa_1_0, wa_1_1, trivial, trivial, wa_4⟩
theorem met (os : Os) (args : Array Value) : laidMetH Tryd.prog Rows.pathBytesRow.laid ((World.laidAll Tryd.prog os Rows.pathBytesRow.laid).forCall (fun _ _ => 0) ⟨#[], args, []⟩).memory :=
  (show laidMet Tryd.prog Rows.pathBytesRow.laid _ from laidMet_laidAll _ (by kernel_rfl) (by kernel_rfl))
set_option maxRecDepth 100000 in
theorem lifted (os : Os) (started : os.Started) (H : Type) (enc : TypeId × Value → H) :
    ReturnsInHanded {} Tryd.checked os 6 .any (fun w args => (Rows.pathBytesSpec.pre enc Tryd.prog Tryd.f6 Rows.pathBytesRow.domain false w args ∧ laidMetH Tryd.prog Rows.pathBytesRow.laid w) ∧ sizedMet enc Tryd.prog Tryd.f6 (OpenSpec.ofChange Rows.pathBytesSpec) false w args) (Rows.pathBytesSpec.post enc Tryd.prog Tryd.f6 false true false false) := by
  refine QAll.returns_laid_shaped (C := Tryd.checked) own started (by kernel_rfl) Tryd.func6
    (ChangeSpec.witness_at (enc := enc) (C := Tryd.checked) (os := os) (X := fun w _ => laidMetH Tryd.prog Rows.pathBytesRow.laid w) false (World.laidAll Tryd.prog os Rows.pathBytesRow.laid) #[.agg #[.string ByteArray.empty, .int .i64 0, .string ByteArray.empty, .int .i64 0, .bool false, .bool false, .slice none 0 0], .string ByteArray.empty] 8 (World.laidAll_os _ _ _) (by kernel_rfl) (by kernel_rfl) (by kernel_rfl) (by kernel_rfl) (by kernel_rfl) (met os _)) ?_
  intro W base args ds gs before hval0 hW hcnd hsz0 hL hsh
  have hsz : (DataW.weightsEach Tryd.prog (Tryd.f6.params.toList ++ Rows.pathBytesSpec.plain.varTypes Tryd.prog) (ds ++ gs)).all (· ≤ reachBytes) = true := hsz0
  have hval : ∀ (j : Nat) t v, Tryd.f6.params[j]? = some t → args[j]? = some v → Value.okWide Tryd.prog W .any base t v := hval0
  have hW' := hW
  obtain ⟨p, q, hA0, hV, rfl, hfz, hnd⟩ := hW
  have hA : DataW.TrodAll enc Tryd.prog W 0 (fun _ => true) true Tryd.f6.params.toList args.toList ds p := hA0
  rw [Tryd.params6] at hA hval hsz
  obtain ⟨v0, vs0, d0, ds0, p0, q0, hargs, rfl, rfl, h0, r0⟩ := trodAll_cons hA
  obtain ⟨v1, vs1, d1, ds1, p1, q1, rfl, rfl, rfl, h1, r1⟩ := trodAll_cons r0
  obtain ⟨rfl, rfl, rfl⟩ := trodAll_nil r1
  obtain rfl : args = #[v0, v1] := by cases args; simp_all
  obtain ⟨rfl, rfl⟩ := trodVars_none hV
  have k0 := h0
  have lt0 : ∀ x ∈ p0, x.block < W.heap.size := by obtain ⟨m, hm⟩ := k0; exact DataW.trod_lt m _ _ _ hm
  obtain ⟨cs0, rfl, -⟩ := okWide_struct Tryd.underlying26 (hval 0 26 v0 rfl rfl)
  obtain ⟨fu0, hf0⟩ := h0
  obtain ⟨a0_0_0, a0_0_1, a0_1_0, a0_1_1, a0_2, a0_3, Aa0_4, ca0_4, a0_4, Da0_4, e0, hd0, wa0_0_0, wa0_0_1, wa0_1_0, wa0_1_1, wa0_2, wa0_3, wa0_4⟩ := open26 hf0
  replace e0 : cs0 = #[.string a0_0_0, .int .i64 a0_0_1, .string a0_1_0, .int .i64 a0_1_1, .bool a0_2, .bool a0_3, .slice Aa0_4 a0_4.length ca0_4] := by apply Array.ext'; simpa [Value.cells] using e0
  subst e0
  replace hd0 : d0 = (.agg [(.agg [(.lit (.string a0_0_0.data.toList)), (.lit (.int .i64 a0_0_1))]), (.agg [(.lit (.string a0_1_0.data.toList)), (.lit (.int .i64 a0_1_1))]), (.lit (.bool a0_2)), (.lit (.bool a0_3)), Da0_4]) := hd0
  subst hd0
  have k1 := h1
  have lt1 : ∀ x ∈ p1, x.block < W.heap.size := by obtain ⟨m, hm⟩ := k1; exact DataW.trod_lt m _ _ _ hm
  obtain ⟨a1, rfl, rfl, rfl, ma1⟩ := open_string Tryd.underlying9 (hval 1 9 v1 rfl rfl) h1
  have hz : a0_0_0.size ≤ 140737488351232 ∧ a0_1_0.size ≤ 140737488351232 ∧ a1.size ≤ 140737488351232 := by
    have z := hsz
    skip
    simp [DataW.weightsEach, DataW.weights, reachBytes, Tryd.underlying3, Tryd.underlying4, Tryd.underlying9, Tryd.underlying23, Tryd.underlying24, Tryd.underlying26, Tryd.underlying93] at z
    first | omega | exact ⟨of_decide_eq_true z.1, of_decide_eq_true z.2.1, of_decide_eq_true z.2.2⟩ | exact ⟨of_decide_eq_true z.1, of_decide_eq_true z.2.1, of_decide_eq_true z.2.2.1⟩ | exact ⟨of_decide_eq_true z.1, of_decide_eq_true z.2.1, of_decide_eq_true z.2.2.2⟩ | exact ⟨of_decide_eq_true z.1, of_decide_eq_true z.2.1, of_decide_eq_true z.2.2.2.1⟩
  obtain ⟨za0_0_0, za0_1_0, za1⟩ := hz
  clear hA0 hval0 hsz0 hsz
  obtain ⟨k, hp⟩ := Pure.PathBytes a0_0_0 a0_0_1 a0_1_0 a0_1_1 a0_2 a0_3 a0_4 a1 za0_0_0 wa0_0_1 za0_1_0 wa0_1_1 wa0_4.2.2 za1
  refine (QAll.squelchlaw05_PathBytes.calls k a0_0_0 a0_0_1 a0_1_0 a0_1_1 a0_2 a0_3 Aa0_4 ca0_4 a0_4 a1 true W rfl wa0_4.1 wa0_4.2.1 hp).mono fun e W' ⟨he, bel⟩ => ?_
  subst he
  exact ⟨_, rfl, _, _, _, [], _, [], hW', trodAll_mk1 (shut_bool Tryd.underlying4 _), (trodAll_cons_mk (Below.trod laidOut (by kernel_rfl) (of_decide_eq_true (by kernel_rfl)) k0 bel lt0) (trodAll_cons_mk (Below.trod laidOut (by kernel_rfl) (of_decide_eq_true (by kernel_rfl)) k1 bel lt1) trodAll_mk0)), rfl, bel.frame _, fun h => by cases h⟩
theorem over : Rows.pathBytesRow.holds Tryd.pinned (OpenSpec.ofChange Rows.pathBytesSpec) :=
  OpenClaim.holds_of_wide 6 Tryd.f6 rfl rfl rfl rfl rfl rfl rfl ⟨rfl, rfl, rfl, rfl, rfl⟩ rfl rfl rfl rfl rfl (by kernel_rfl) Tryd.func6 (by kernel_rfl)
    (of_decide_eq_true (by kernel_rfl)) (by unfold Func.isWrapper; first | (rw [if_pos (by decide +kernel)]; kernel_rfl) | (rw [if_neg (by decide +kernel)]; exact ⟨rfl, rfl⟩))
    (fun os started H enc _ => lifted os started H enc)
theorem card : Rows.PathBytesCardSaid :=
  Claim7.holds_tied_plain_at .later [] [.data, .data, .data, .data, .pinned] true (true, "b63f2f92baa42f5091e235388c6ae0d54991875acb84ccae606eb7f7e9e6d94e") true
    over (fun _ h => by cases h) (by kernel_rfl) (fun _ h => by cases h) pathBytes_row_tie rfl ⟨rfl, rfl⟩ (by kernel_rfl) rfl
    (fun f fn hf hfn => by
      obtain rfl : f = 6 := Option.some.inj ((show Tryd.prog.funcNamed "squelch/squelchlaw05.PathBytes" = some 6 by kernel_rfl).symm.trans hf) |>.symm
      obtain rfl : fn = Tryd.f6 := (Option.some.inj (Tryd.func6.symm.trans hfn)).symm
      exact ⟨by kernel_rfl, fun j t ht => by
        rw [Tryd.params6] at ht
        have hm := Array.mem_of_getElem? ht
        simp at hm
        rcases hm with rfl | rfl
        · exact (show Tryd.prog.wantsStandIn 26 = false by kernel_rfl)
        · exact (show Tryd.prog.wantsStandIn 9 = false by kernel_rfl)
      ⟩)
    (by kernel_rfl)
end Go.Proofs.YtpmieapgbdbabaaDoor.pathBytesRow
namespace Go.Proofs.YtpmieapgbdbabaaDoor
theorem pathBytes_holds : Rows.PathBytesCardSaid := pathBytesRow.card
#print axioms pathBytes_holds
end Go.Proofs.YtpmieapgbdbabaaDoor
end
