/- The row of the law PathEight, out of its walks and its plain law. -/
import Derived.Test.YtpmieapgbdbabaaDoorMPathEight0
import Derived.Lib.SliceRun
import Derived.Test.YtpmieapgbdbabaaDoorMPathEight1
import Derived.Test.YtpmieapgbdbabaaDoorRows
import Derived.Test.YtpmieapgbdbabaaDoorTie
import Derived.Test.YtpmieapgbdbabaaDoorCards
import Derived.WalkKit
import Derived.ProofKit
import Derived.OpenShut
import Derived.ShutString
import Derived.ChangeOld
import Derived.Below
import Derived.SizedLaws
import Derived.Lib.SmallJoins
import Derived.Deep.Slices
import Derived.Deep.Fields
import Derived.ChangeSame
section
/- slices.Clone of digipeaters, walked by hand: the same ones, in new memory. -/
set_option linter.unusedVariables false
set_option linter.unusedSimpArgs false
namespace Go.Proofs.YtpmieapgbdbabaaDoor.QAll
open Go.RowKit Go.Proofs.YtpmieapgbdbabaaDoorW.PrintWords Go.Proofs.YtpmieapgbdbabaaDoorW.PrintLast Go.Proofs.YtpmieapgbdbabaaDoorW.PrintMore
def path_Digi_59.f (l0 : List S93) : Option (List S93) := if l0.length ≤ 1000000 then some l0 else none
set_option maxHeartbeats 1000000 in
set_option maxRecDepth 100000 in
theorem path_Digi_59.calls (A0 : Option Addr) (c0 : Nat) (l0 : List (S93)) (r : List S93) (w : World) (hr0 : Kd.C k93 w A0 l0.length l0) (hc0 : l0.length ≤ c0) (h : path_Digi_59.f l0 = some r) :
    Calls Tryd.prog 59 #[.slice A0 l0.length c0] w fun e w' => ∃ v0_ : Value, e = .returned (v0_) ∧ Kd.R k93 93 w' w.heap.size (fun _ => True) v0_ r ∧ Below w.heap.size w w' := by
  unfold path_Digi_59.f at h
  split at h
  case isFalse => cases h
  rename_i hl
  obtain rfl := Option.some.inj h
  have HR := Aside0.mk hr0
  clear hr0 h
  have hu93 := Tryd.underlying93
  have hu23 := Tryd.underlying23
  have hA : ∀ a l c W, (binOp .eql 24 (.slice a l c) (.slice none 0 0)).run Tryd.prog W = .ok (.bool a.isNone) W := fun a l c W => Lib.run_eql_slice_nil W 24 93 a l c 0 0 Tryd.underlying24
  cases A0 with
  | none =>
    have hnil : l0 = [] := by
      cases l0 with
      | nil => rfl
      | cons x r => obtain ⟨ad, e, _⟩ := at_T93 HR.out 0 (Int.le_refl _) (by simp); cases e
    subst hnil
    go_enter Tryd.func59, Tryd.ntmps59
    go_wp2_with (fail)
    go_ret
    exact ⟨_, rfl, Kd.R_nil _ _ _ _ _, Below.refl _ _⟩
  | some ad =>
    have HB := Aside0.mk (Below.refl w.heap.size w)
    have HL := Aside0.mk hl
    go_enter Tryd.func59, Tryd.ntmps59
    go_wp2_with (first | ((with_reducible refine gate_dst (N := 5) rfl ?_); refine Kd.R_lit k93 _ 93 ?hg (N := 5) ?hd (xs := ([] : List (S93))) (inner := []) (ok := fun _ => True) (okp := fun _ => True) ?hr ?hp (fun _ hk => hk) trivial (Below.refl _ _) (Nat.le_refl _) (by simp) ?_; (case hd => rfl); (case hg => rfl); (case hr => first | (go_simp; done) | (go_simp; rfl)); (case hp => exact (Reps.none _ _)); intro v242 w5 ho6 hb hg_ hnew_; have n0_ := Aside0.mk (Kd.R_lower ho6 (below_size HB.out)); have n2_ := Aside0.mk (below_step HB.out hb); clear HB; have HO := n0_; have HB := n2_; clear n0_ n2_; clear hb hg_ hnew_ ho6) | ((with_reducible refine gate_builtin (b := .append) (xs := #[.tmp 5, .tmp 6]) rfl ?_); at_builtin; refine Kd.R_append_rows k93 (w0 := w) w.heap.size rfl (.tmp 5) (.tmp 6) 24 93 (.agg #[(.string ⟨#[]⟩), (.int .i64 0), (.bool false)]) 32 rfl Tryd.underlying24 info93 rfl (by decide) (by omega) v242 [] l0 _ _ _ (fun _ => True) (fun _ => False) rfl rfl ?aO ?aR (fun _ _ h => h) (fun _ h => h.elim) ?aF ?aB ?aS ?aL ?_; (case aR => exact Kd.C_below HR.out HB.out); (case aB => exact HB.out); (case aF => exact (fun _ _ => trivial)); (case aO => exact HO.out); (case aS => exact (below_size HB.out)); (case aL => have := HL.out; simp; omega); intro v245 w8 ho hb hg hat))
    go_ret
    exact ⟨_, rfl, ho, hb⟩
end Go.Proofs.YtpmieapgbdbabaaDoor.QAll
end

section
/- Walks, written by a program of this session (wip/pp): a Go function comes to what the Lean function beside it tells. -/
namespace Go.Proofs.YtpmieapgbdbabaaDoor.QAll
open Go.RowKit Go.Proofs.YtpmieapgbdbabaaDoorW.PrintWords Go.Proofs.YtpmieapgbdbabaaDoorW.PrintLast Go.Proofs.YtpmieapgbdbabaaDoorW.PrintMore
attribute [local go_sem] max2_int min2_int max_two min_two max_three min_three max_four min_four
set_option linter.unusedVariables false
set_option linter.unusedSimpArgs false

def path_Sent.f (a0_0 : ByteArray) (a0_1 : Int) (a0_2 : ByteArray) (a0_3 : Int) (a0_4 : Bool) (a0_5 : Bool) (l0_6 : List (S93)) : Option (ByteArray × Int × ByteArray × Int × Bool × Bool × (List (S93)) × Bool) := (path_next.f a0_0 a0_1 a0_2 a0_3 a0_4 a0_5 l0_6).bind fun t107 => ((path_Digi_59.f l0_6).bind fun t108 => (if t107 < 0 then (some (a0_0, a0_1, a0_2, a0_3, a0_4, a0_5, t108, false)) else (if 0 ≤ t107 then (if t107 < (t108.length : Int) then (some (a0_0, a0_1, a0_2, a0_3, a0_4, a0_5, (t108.set (t107 : Int).toNat (⟨(⟨(rd_T93 t108 t107).f0.f0, (rd_T93 t108 t107).f0.f1⟩ : S23), true⟩ : S93)), true)) else (none)) else (none))))
set_option maxHeartbeats 8000000 in
set_option maxRecDepth 100000 in
theorem path_Sent.calls (a0_0 : ByteArray) (a0_1 : Int) (a0_2 : ByteArray) (a0_3 : Int) (a0_4 : Bool) (a0_5 : Bool) (A0_6 : Option Addr) (c0_6 : Nat) (l0_6 : List (S93)) (r1 : ByteArray) (r2 : Int) (r3 : ByteArray) (r4 : Int) (r5 : Bool) (r6 : Bool) (r7 : List (S93)) (r8 : Bool) (w : World) (hr0_6 : Kd.C k93 w A0_6 l0_6.length l0_6) (hc0_6 : l0_6.length ≤ c0_6) (h : path_Sent.f a0_0 a0_1 a0_2 a0_3 a0_4 a0_5 l0_6 = some (r1, r2, r3, r4, r5, r6, r7, r8)) :
  Calls Tryd.prog 20 #[.agg #[.string a0_0, .int .i64 a0_1, .string a0_2, .int .i64 a0_3, .bool a0_4, .bool a0_5, .slice A0_6 l0_6.length c0_6]] w fun e w' => ∃ v6_ : Value, e = .returned (.tuple #[.agg #[.string r1, .int .i64 r2, .string r3, .int .i64 r4, .bool r5, .bool r6, v6_], .bool r8]) ∧ Kd.R k93 93 w' w.heap.size (fun _ => True) v6_ r7 ∧ Below w.heap.size w w' := by
 have hu26 := Tryd.underlying26
 have HR0_6 := Aside0.mk hr0_6
 have HC0_6 := Aside0.mk hc0_6
 clear hr0_6 hc0_6
 have HB := Aside0.mk (Below.refl w.heap.size w)
 have H : ((path_next.f a0_0 a0_1 a0_2 a0_3 a0_4 a0_5 l0_6).bind fun t107 => ((path_Digi_59.f l0_6).bind fun t108 => (if t107 < 0 then (some (a0_0, a0_1, a0_2, a0_3, a0_4, a0_5, t108, false)) else (if 0 ≤ t107 then (if t107 < (t108.length : Int) then (some (a0_0, a0_1, a0_2, a0_3, a0_4, a0_5, (t108.set (t107 : Int).toNat (⟨(⟨(rd_T93 t108 t107).f0.f0, (rd_T93 t108 t107).f0.f1⟩ : S23), true⟩ : S93)), true)) else (none)) else (none))))) = some (r1, r2, r3, r4, r5, r6, r7, r8) := h
 clear h
 replace H := Option.bind_eq_some_iff.mp H
 obtain ⟨t107, A20, H⟩ := H
 replace H : ((path_Digi_59.f l0_6).bind fun t108 => (if t107 < 0 then (some (a0_0, a0_1, a0_2, a0_3, a0_4, a0_5, t108, false)) else (if 0 ≤ t107 then (if t107 < (t108.length : Int) then (some (a0_0, a0_1, a0_2, a0_3, a0_4, a0_5, (t108.set (t107 : Int).toNat (⟨(⟨(rd_T93 t108 t107).f0.f0, (rd_T93 t108 t107).f0.f1⟩ : S23), true⟩ : S93)), true)) else (none)) else (none)))) = some (r1, r2, r3, r4, r5, r6, r7, r8) := H
 have A2 := Aside0.mk A20
 clear A20
 replace H := Option.bind_eq_some_iff.mp H
 obtain ⟨t108, A30, H⟩ := H
 replace H : (if t107 < 0 then (some (a0_0, a0_1, a0_2, a0_3, a0_4, a0_5, t108, false)) else (if 0 ≤ t107 then (if t107 < (t108.length : Int) then (some (a0_0, a0_1, a0_2, a0_3, a0_4, a0_5, (t108.set (t107 : Int).toNat (⟨(⟨(rd_T93 t108 t107).f0.f0, (rd_T93 t108 t107).f0.f1⟩ : S23), true⟩ : S93)), true)) else (none)) else (none))) = some (r1, r2, r3, r4, r5, r6, r7, r8) := H
 have A3 := Aside0.mk A30
 clear A30
 by_cases c4 : t107 < 0
 ·rw [if_pos c4] at H
  have c4b0 : decide (t107 < 0) = true := decide_eq_true c4
  clear c4
  simp only [Option.some.injEq, Prod.mk.injEq] at H
  obtain ⟨rfl, rfl, rfl, rfl, rfl, rfl, rfl, rfl⟩ := H
  go_enter Tryd.func20, Tryd.ntmps20
  go_wp2_with (first | ((with_reducible refine gate_dst (N := 1) rfl ?_); refine box_event ?hg (N := 1) ?hd (cs := #[.string a0_0, .int .i64 a0_1, .string a0_2, .int .i64 a0_3, .bool a0_4, .bool a0_5, .slice A0_6 l0_6.length c0_6]) (t := 26) ?hr ?_; (case hd => rfl); (case hg => rfl); (case hr => first | (go_simp; done) | (go_simp; rfl)); intro gb105 hg w5 hbox hb; have n0_ := Aside0.mk (below_step (by repeat (first | (with_reducible first | exact HB.out | apply below_alloc | apply pw_below_drewN | apply below_drew1) | exact HB.out)) hb); have n1_ := Aside0.mk (hbox); have n2_ := Aside0.mk ((by rw [hg]; exact (below_size (by repeat (first | (with_reducible first | exact HB.out | apply below_alloc | apply pw_below_drewN | apply below_drew1) | exact HB.out))) : w.heap.size ≤ gb105)); have n3_ := Aside0.mk ((by rw [hg]; exact (below_size (by repeat (first | (with_reducible first | exact HB.out | apply below_alloc | apply pw_below_drewN | apply below_drew1) | exact HB.out))) : w.heap.size ≤ gb105)); clear HB; have HB := n0_; have BK105 := n1_; have GW105 := n2_; have GE105 := n3_; clear n0_ n1_ n2_ n3_; clear hb hbox hg) | ((with_reducible refine gate_dst (N := 2) rfl ?_); refine box_event ?hg (N := 2) ?hd (cs := #[.string (⟨#[]⟩ : ByteArray), .int .i64 0, .string (⟨#[]⟩ : ByteArray), .int .i64 0, .bool false, .bool false, .slice none 0 0]) (t := 26) ?hr ?_; (case hd => rfl); (case hg => rfl); (case hr => first | (go_simp; done) | (go_simp; rfl)); intro gb106 hg w6 hbox hb; have n0_ := Aside0.mk (blk_below (g := gb105) (o := .cells #[.string a0_0, .int .i64 a0_1, .string a0_2, .int .i64 a0_3, .bool a0_4, .bool a0_5, .slice A0_6 l0_6.length c0_6] 26 (0, 0)) (by (with_reducible repeat (first | refine blk_drewN ?_ _ | refine blk_drew ?_ | refine blk_alloc ?_ _)); exact BK105.out) hb); have n1_ := Aside0.mk (below_step (by repeat (first | (with_reducible first | exact HB.out | apply below_alloc | apply pw_below_drewN | apply below_drew1 | refine below_set ?_ GE105.out) | exact HB.out)) hb); have n2_ := Aside0.mk (hbox); have n3_ := Aside0.mk ((by rw [hg]; exact (below_size (by repeat (first | (with_reducible first | exact HB.out | apply below_alloc | apply pw_below_drewN | apply below_drew1 | refine below_set ?_ GE105.out) | exact HB.out))) : w.heap.size ≤ gb106)); have n4_ := Aside0.mk ((by rw [hg]; exact (below_size (by repeat (first | (with_reducible first | exact HB.out | apply below_alloc | apply pw_below_drewN | apply below_drew1 | refine below_set ?_ GE105.out) | exact HB.out))) : w.heap.size ≤ gb106)); have n5_ := Aside0.mk ((by rw [hg]; exact Nat.ne_of_lt (blk_lt (g := gb105) (o := .cells #[.string a0_0, .int .i64 a0_1, .string a0_2, .int .i64 a0_3, .bool a0_4, .bool a0_5, .slice A0_6 l0_6.length c0_6] 26 (0, 0)) (by (with_reducible repeat (first | refine blk_drewN ?_ _ | refine blk_drew ?_ | refine blk_alloc ?_ _)); exact BK105.out)) : gb105 ≠ gb106)); have n6_ := Aside0.mk ((by rw [hg]; exact Nat.ne_of_gt (blk_lt (g := gb105) (o := .cells #[.string a0_0, .int .i64 a0_1, .string a0_2, .int .i64 a0_3, .bool a0_4, .bool a0_5, .slice A0_6 l0_6.length c0_6] 26 (0, 0)) (by (with_reducible repeat (first | refine blk_drewN ?_ _ | refine blk_drew ?_ | refine blk_alloc ?_ _)); exact BK105.out)) : gb106 ≠ gb105)); clear BK105; clear HB; have BK105 := n0_; have HB := n1_; have BK106 := n2_; have GW106 := n3_; have GE106 := n4_; have NB105_106 := n5_; have NB106_105 := n6_; clear n0_ n1_ n2_ n3_ n4_ n5_ n6_; clear hb hbox hg; have hnb7 := NB105_106.out; have hnc7 := NB106_105.out; have hcz8_0 : w6.cell? ⟨gb105, 0, none⟩ = some (.string a0_0) := (blk_cell BK105.out 0).trans rfl; have hcz8_1 : w6.cell? ⟨gb105, 1, none⟩ = some (.int .i64 a0_1) := (blk_cell BK105.out 1).trans rfl; have hcz8_2 : w6.cell? ⟨gb105, 2, none⟩ = some (.string a0_2) := (blk_cell BK105.out 2).trans rfl; have hcz8_3 : w6.cell? ⟨gb105, 3, none⟩ = some (.int .i64 a0_3) := (blk_cell BK105.out 3).trans rfl; have hcz8_4 : w6.cell? ⟨gb105, 4, none⟩ = some (.bool a0_4) := (blk_cell BK105.out 4).trans rfl; have hcz8_5 : w6.cell? ⟨gb105, 5, none⟩ = some (.bool a0_5) := (blk_cell BK105.out 5).trans rfl; have hcz8_6 : w6.cell? ⟨gb105, 6, none⟩ = some (.slice A0_6 l0_6.length c0_6) := (blk_cell BK105.out 6).trans rfl; have hfz8_0 := blk_frozen BK105.out 0; have hfz8_1 := blk_frozen BK105.out 1; have hfz8_2 := blk_frozen BK105.out 2; have hfz8_3 := blk_frozen BK105.out 3; have hfz8_4 := blk_frozen BK105.out 4; have hfz8_5 := blk_frozen BK105.out 5; have hfz8_6 := blk_frozen BK105.out 6) | ((with_reducible refine gate_callee (f := 58) rfl ?_); refine goesL_ (some 6) rfl rfl Tryd.func58 (by kernel_rfl) rfl #[.agg #[.string a0_0, .int .i64 a0_1, .string a0_2, .int .i64 a0_3, .bool a0_4, .bool a0_5, .slice A0_6 l0_6.length c0_6]] rfl (by (try simp only [List.map_toArray, List.map_cons, List.map_nil]); first | done | rfl | (simp only [List.length_drop, List.length_take]; rfl)) ?_; (with_reducible refine (path_next.calls a0_0 a0_1 a0_2 a0_3 a0_4 a0_5 _ _ l0_6 t107 _ ?side1 ?side2 A2.out).mono ?_); (case side1 => repeat (first | exact (Kd.C_below HR0_6.out HB.out) | (with_reducible refine Kd.C_alloc ?_ _) | (with_reducible refine Kd.C_drewN ?_ _) | (with_reducible refine Kd.C_drew ?_))); (case side2 => exact HC0_6.out); rintro e w9 ⟨rfl, hb⟩; refine ⟨_, rfl, ?_⟩; have n0_ := Aside0.mk (blk_below (g := gb105) (o := .cells #[.string a0_0, .int .i64 a0_1, .string a0_2, .int .i64 a0_3, .bool a0_4, .bool a0_5, .slice A0_6 l0_6.length c0_6] 26 (0, 0)) (by (with_reducible repeat (first | refine blk_drewN ?_ _ | refine blk_drew ?_ | refine blk_alloc ?_ _)); exact BK105.out) hb); have n1_ := Aside0.mk (blk_below (g := gb106) (o := .cells #[.string (⟨#[]⟩ : ByteArray), .int .i64 0, .string (⟨#[]⟩ : ByteArray), .int .i64 0, .bool false, .bool false, .slice none 0 0] 26 (0, 0)) (by (with_reducible repeat (first | refine blk_drewN ?_ _ | refine blk_drew ?_ | refine blk_alloc ?_ _)); exact BK106.out) hb); have n2_ := Aside0.mk (below_step (by repeat (first | (with_reducible first | exact HB.out | apply below_alloc | apply pw_below_drewN | apply below_drew1 | refine below_set ?_ GE105.out | refine below_set ?_ GE106.out) | exact HB.out)) hb); clear BK105; clear BK106; clear HB; have BK105 := n0_; have BK106 := n1_; have HB := n2_; clear n0_ n1_ n2_; (try clear hb); (try clear hb2); (try clear hk); (try clear hi); have hcz10_0 : w9.cell? ⟨gb105, 0, none⟩ = some (.string a0_0) := (blk_cell BK105.out 0).trans rfl; have hcz10_1 : w9.cell? ⟨gb105, 1, none⟩ = some (.int .i64 a0_1) := (blk_cell BK105.out 1).trans rfl; have hcz10_2 : w9.cell? ⟨gb105, 2, none⟩ = some (.string a0_2) := (blk_cell BK105.out 2).trans rfl; have hcz10_3 : w9.cell? ⟨gb105, 3, none⟩ = some (.int .i64 a0_3) := (blk_cell BK105.out 3).trans rfl; have hcz10_4 : w9.cell? ⟨gb105, 4, none⟩ = some (.bool a0_4) := (blk_cell BK105.out 4).trans rfl; have hcz10_5 : w9.cell? ⟨gb105, 5, none⟩ = some (.bool a0_5) := (blk_cell BK105.out 5).trans rfl; have hcz10_6 : w9.cell? ⟨gb105, 6, none⟩ = some (.slice A0_6 l0_6.length c0_6) := (blk_cell BK105.out 6).trans rfl; have hfz10_0 := blk_frozen BK105.out 0; have hfz10_1 := blk_frozen BK105.out 1; have hfz10_2 := blk_frozen BK105.out 2; have hfz10_3 := blk_frozen BK105.out 3; have hfz10_4 := blk_frozen BK105.out 4; have hfz10_5 := blk_frozen BK105.out 5; have hfz10_6 := blk_frozen BK105.out 6) | ((with_reducible refine gate_callee (f := 59) rfl ?_); refine goesL_ (some 9) rfl rfl Tryd.func59 (by kernel_rfl) rfl #[.slice A0_6 l0_6.length c0_6] rfl (by (try simp only [List.map_toArray, List.map_cons, List.map_nil]); first | done | rfl | (simp only [List.length_drop, List.length_take]; rfl)) ?_; (with_reducible refine (path_Digi_59.calls _ _ l0_6 t108 _ ?side1 ?side2 A3.out).mono ?_); (case side1 => repeat (first | exact (Kd.C_below HR0_6.out HB.out) | (with_reducible refine Kd.C_alloc ?_ _) | (with_reducible refine Kd.C_drewN ?_ _) | (with_reducible refine Kd.C_drew ?_))); (case side2 => exact HC0_6.out); rintro e w11 ⟨v109, rfl, ho0, hb⟩; refine ⟨_, rfl, ?_⟩; have n0_ := Aside0.mk (Kd.R_lower ho0 (below_size (by repeat (first | (with_reducible first | exact HB.out | apply below_alloc | apply pw_below_drewN | apply below_drew1 | refine below_set ?_ GE105.out | refine below_set ?_ GE106.out) | exact HB.out)))); have n1_ := Aside0.mk (blk_below (g := gb105) (o := .cells #[.string a0_0, .int .i64 a0_1, .string a0_2, .int .i64 a0_3, .bool a0_4, .bool a0_5, .slice A0_6 l0_6.length c0_6] 26 (0, 0)) (by (with_reducible repeat (first | refine blk_drewN ?_ _ | refine blk_drew ?_ | refine blk_alloc ?_ _)); exact BK105.out) hb); have n2_ := Aside0.mk (blk_below (g := gb106) (o := .cells #[.string (⟨#[]⟩ : ByteArray), .int .i64 0, .string (⟨#[]⟩ : ByteArray), .int .i64 0, .bool false, .bool false, .slice none 0 0] 26 (0, 0)) (by (with_reducible repeat (first | refine blk_drewN ?_ _ | refine blk_drew ?_ | refine blk_alloc ?_ _)); exact BK106.out) hb); have n3_ := Aside0.mk (below_step (by repeat (first | (with_reducible first | exact HB.out | apply below_alloc | apply pw_below_drewN | apply below_drew1 | refine below_set ?_ GE105.out | refine below_set ?_ GE106.out) | exact HB.out)) hb); clear BK105; clear BK106; clear HB; have HO110 := n0_; have BK105 := n1_; have BK106 := n2_; have HB := n3_; clear n0_ n1_ n2_ n3_; (try clear hb); (try clear hb2); (try clear hk); (try clear hi); (try clear ho0); obtain ⟨Ao12, co12, eo12⟩ := Kd.R_slice HO110.out; subst eo12; have hcz13_0 : w11.cell? ⟨gb105, 0, none⟩ = some (.string a0_0) := (blk_cell BK105.out 0).trans rfl; have hcz13_1 : w11.cell? ⟨gb105, 1, none⟩ = some (.int .i64 a0_1) := (blk_cell BK105.out 1).trans rfl; have hcz13_2 : w11.cell? ⟨gb105, 2, none⟩ = some (.string a0_2) := (blk_cell BK105.out 2).trans rfl; have hcz13_3 : w11.cell? ⟨gb105, 3, none⟩ = some (.int .i64 a0_3) := (blk_cell BK105.out 3).trans rfl; have hcz13_4 : w11.cell? ⟨gb105, 4, none⟩ = some (.bool a0_4) := (blk_cell BK105.out 4).trans rfl; have hcz13_5 : w11.cell? ⟨gb105, 5, none⟩ = some (.bool a0_5) := (blk_cell BK105.out 5).trans rfl; have hcz13_6 : w11.cell? ⟨gb105, 6, none⟩ = some (.slice A0_6 l0_6.length c0_6) := (blk_cell BK105.out 6).trans rfl; have hfz13_0 := blk_frozen BK105.out 0; have hfz13_1 := blk_frozen BK105.out 1; have hfz13_2 := blk_frozen BK105.out 2; have hfz13_3 := blk_frozen BK105.out 3; have hfz13_4 := blk_frozen BK105.out 4; have hfz13_5 := blk_frozen BK105.out 5; have hfz13_6 := blk_frozen BK105.out 6; have hcz14_0 : w11.cell? ⟨gb106, 0, none⟩ = some (.string (⟨#[]⟩ : ByteArray)) := (blk_cell BK106.out 0).trans rfl; have hcz14_1 : w11.cell? ⟨gb106, 1, none⟩ = some (.int .i64 0) := (blk_cell BK106.out 1).trans rfl; have hcz14_2 : w11.cell? ⟨gb106, 2, none⟩ = some (.string (⟨#[]⟩ : ByteArray)) := (blk_cell BK106.out 2).trans rfl; have hcz14_3 : w11.cell? ⟨gb106, 3, none⟩ = some (.int .i64 0) := (blk_cell BK106.out 3).trans rfl; have hcz14_4 : w11.cell? ⟨gb106, 4, none⟩ = some (.bool false) := (blk_cell BK106.out 4).trans rfl; have hcz14_5 : w11.cell? ⟨gb106, 5, none⟩ = some (.bool false) := (blk_cell BK106.out 5).trans rfl; have hcz14_6 : w11.cell? ⟨gb106, 6, none⟩ = some (.slice none 0 0) := (blk_cell BK106.out 6).trans rfl; have hfz14_0 := blk_frozen BK106.out 0; have hfz14_1 := blk_frozen BK106.out 1; have hfz14_2 := blk_frozen BK106.out 2; have hfz14_3 := blk_frozen BK106.out 3; have hfz14_4 := blk_frozen BK106.out 4; have hfz14_5 := blk_frozen BK106.out 5; have hfz14_6 := blk_frozen BK106.out 6))
  refine bodyPost_ret (results_ct rfl _ _ gb106 26 #[.string a0_0, .int .i64 a0_1, .string a0_2, .int .i64 a0_3, .bool a0_4, .bool a0_5, .slice Ao12 t108.length co12] (0, 0) _ rfl (by (with_reducible repeat (first | refine blk_drewN ?_ _ | refine blk_drew ?_ | refine blk_alloc ?_ _)); refine blk_put (cs := #[.string a0_0, .int .i64 a0_1, .string a0_2, .int .i64 a0_3, .bool a0_4, .bool a0_5, .slice none 0 0]) ?_ 6 _ rfl; (with_reducible repeat (first | refine blk_drewN ?_ _ | refine blk_drew ?_ | refine blk_alloc ?_ _)); refine blk_put (cs := #[.string a0_0, .int .i64 a0_1, .string a0_2, .int .i64 a0_3, .bool a0_4, .bool false, .slice none 0 0]) ?_ 5 _ rfl; (with_reducible repeat (first | refine blk_drewN ?_ _ | refine blk_drew ?_ | refine blk_alloc ?_ _)); refine blk_put (cs := #[.string a0_0, .int .i64 a0_1, .string a0_2, .int .i64 a0_3, .bool false, .bool false, .slice none 0 0]) ?_ 4 _ rfl; (with_reducible repeat (first | refine blk_drewN ?_ _ | refine blk_drew ?_ | refine blk_alloc ?_ _)); refine blk_put (cs := #[.string a0_0, .int .i64 a0_1, .string a0_2, .int .i64 0, .bool false, .bool false, .slice none 0 0]) ?_ 3 _ rfl; (with_reducible repeat (first | refine blk_drewN ?_ _ | refine blk_drew ?_ | refine blk_alloc ?_ _)); refine blk_put (cs := #[.string a0_0, .int .i64 a0_1, .string (⟨#[]⟩ : ByteArray), .int .i64 0, .bool false, .bool false, .slice none 0 0]) ?_ 2 _ rfl; (with_reducible repeat (first | refine blk_drewN ?_ _ | refine blk_drew ?_ | refine blk_alloc ?_ _)); refine blk_put (cs := #[.string a0_0, .int .i64 0, .string (⟨#[]⟩ : ByteArray), .int .i64 0, .bool false, .bool false, .slice none 0 0]) ?_ 1 _ rfl; (with_reducible repeat (first | refine blk_drewN ?_ _ | refine blk_drew ?_ | refine blk_alloc ?_ _)); refine blk_put (cs := #[.string (⟨#[]⟩ : ByteArray), .int .i64 0, .string (⟨#[]⟩ : ByteArray), .int .i64 0, .bool false, .bool false, .slice none 0 0]) ?_ 0 _ rfl; (with_reducible repeat (first | refine blk_drewN ?_ _ | refine blk_drew ?_ | refine blk_alloc ?_ _)); refine blk_far ?_ NB106_105.out _; (with_reducible repeat (first | refine blk_drewN ?_ _ | refine blk_drew ?_ | refine blk_alloc ?_ _)); exact BK106.out) Tryd.underlying26 rfl (by kernel_rfl)) rfl ?_
  exact ⟨_, by first | rfl | (simp [errW_none, errW_some] <;> rfl) | (simp [*, errW_none, errW_some] <;> rfl), by (with_reducible repeat (first | apply Kd.R_alloc | apply Kd.R_drewN | apply Kd.R_drew)); exact Kd.R_mono (Kd.R_far (p := ⟨gb106, 6, none⟩) (Kd.R_far (p := ⟨gb106, 5, none⟩) (Kd.R_far (p := ⟨gb106, 4, none⟩) (Kd.R_far (p := ⟨gb106, 3, none⟩) (Kd.R_far (p := ⟨gb106, 2, none⟩) (Kd.R_far (p := ⟨gb106, 1, none⟩) (Kd.R_far (p := ⟨gb106, 0, none⟩) (Kd.R_far (p := ⟨gb105, 6, none⟩) (Kd.R_types (Kd.R_types HO110.out BK105.out (by decide)) BK106.out (by decide)) (fun _ hk => hk.1.2) (.slice Ao12 t108.length co12)) (fun _ hk => hk.2) (.string a0_0)) (fun _ hk => hk.2) (.int .i64 a0_1)) (fun _ hk => hk.2) (.string a0_2)) (fun _ hk => hk.2) (.int .i64 a0_3)) (fun _ hk => hk.2) (.bool a0_4)) (fun _ hk => hk.2) (.bool a0_5)) (fun _ hk => hk.2) (.slice Ao12 t108.length co12)) (fun _ hk => trivial), by repeat (first | (with_reducible first | exact HB.out | apply below_alloc | apply pw_below_drewN | apply below_drew1 | refine below_set ?_ GE105.out | refine below_set ?_ GE106.out) | exact HB.out)⟩
 ·rw [if_neg c4] at H
  have c4b0 : decide (t107 < 0) = false := decide_eq_false c4
  clear c4
  by_cases c15 : 0 ≤ t107
  ·rw [if_pos c15] at H
   have c15b0 : decide (0 ≤ t107) = true := decide_eq_true c15
   clear c15
   by_cases c16 : t107 < (t108.length : Int)
   ·rw [if_pos c16] at H
    have c16b0 : decide (t107 < (t108.length : Int)) = true := decide_eq_true c16
    clear c16
    obtain ⟨y111, hy111⟩ : ∃ y_ : List (S93), y_ = (t108.set (t107 : Int).toNat (⟨(⟨(rd_T93 t108 t107).f0.f0, (rd_T93 t108 t107).f0.f1⟩ : S23), true⟩ : S93)) := ⟨_, rfl⟩
    replace H : (some (a0_0, a0_1, a0_2, a0_3, a0_4, a0_5, y111, true)) = some (r1, r2, r3, r4, r5, r6, r7, r8) := by first | (rw [hy111]; with_reducible exact H) | (have H2_ := (Option.bind_some _ _).symm.trans H; rw [hy111]; with_reducible exact H2_) | (have H2_ := (Option.bind_some _ _).symm.trans H; with_reducible exact H2_) | with_reducible exact H | (rw [hy111]; exact H) | exact H
    have Ny111 := Aside0.mk hy111
    clear hy111
    simp only [Option.some.injEq, Prod.mk.injEq] at H
    obtain ⟨rfl, rfl, rfl, rfl, rfl, rfl, rfl, rfl⟩ := H
    go_enter Tryd.func20, Tryd.ntmps20
    go_wp2_with (first | ((with_reducible refine gate_dst (N := 1) rfl ?_); refine box_event ?hg (N := 1) ?hd (cs := #[.string a0_0, .int .i64 a0_1, .string a0_2, .int .i64 a0_3, .bool a0_4, .bool a0_5, .slice A0_6 l0_6.length c0_6]) (t := 26) ?hr ?_; (case hd => rfl); (case hg => rfl); (case hr => first | (go_simp; done) | (go_simp; rfl)); intro gb105 hg w18 hbox hb; have n0_ := Aside0.mk (below_step (by repeat (first | (with_reducible first | exact HB.out | apply below_alloc | apply pw_below_drewN | apply below_drew1) | exact HB.out)) hb); have n1_ := Aside0.mk (hbox); have n2_ := Aside0.mk ((by rw [hg]; exact (below_size (by repeat (first | (with_reducible first | exact HB.out | apply below_alloc | apply pw_below_drewN | apply below_drew1) | exact HB.out))) : w.heap.size ≤ gb105)); have n3_ := Aside0.mk ((by rw [hg]; exact (below_size (by repeat (first | (with_reducible first | exact HB.out | apply below_alloc | apply pw_below_drewN | apply below_drew1) | exact HB.out))) : w.heap.size ≤ gb105)); clear HB; have HB := n0_; have BK105 := n1_; have GW105 := n2_; have GE105 := n3_; clear n0_ n1_ n2_ n3_; clear hb hbox hg) | ((with_reducible refine gate_dst (N := 2) rfl ?_); refine box_event ?hg (N := 2) ?hd (cs := #[.string (⟨#[]⟩ : ByteArray), .int .i64 0, .string (⟨#[]⟩ : ByteArray), .int .i64 0, .bool false, .bool false, .slice none 0 0]) (t := 26) ?hr ?_; (case hd => rfl); (case hg => rfl); (case hr => first | (go_simp; done) | (go_simp; rfl)); intro gb106 hg w19 hbox hb; have n0_ := Aside0.mk (blk_below (g := gb105) (o := .cells #[.string a0_0, .int .i64 a0_1, .string a0_2, .int .i64 a0_3, .bool a0_4, .bool a0_5, .slice A0_6 l0_6.length c0_6] 26 (0, 0)) (by (with_reducible repeat (first | refine blk_drewN ?_ _ | refine blk_drew ?_ | refine blk_alloc ?_ _)); exact BK105.out) hb); have n1_ := Aside0.mk (below_step (by repeat (first | (with_reducible first | exact HB.out | apply below_alloc | apply pw_below_drewN | apply below_drew1 | refine below_set ?_ GE105.out) | exact HB.out)) hb); have n2_ := Aside0.mk (hbox); have n3_ := Aside0.mk ((by rw [hg]; exact (below_size (by repeat (first | (with_reducible first | exact HB.out | apply below_alloc | apply pw_below_drewN | apply below_drew1 | refine below_set ?_ GE105.out) | exact HB.out))) : w.heap.size ≤ gb106)); have n4_ := Aside0.mk ((by rw [hg]; exact (below_size (by repeat (first | (with_reducible first | exact HB.out | apply below_alloc | apply pw_below_drewN | apply below_drew1 | refine below_set ?_ GE105.out) | exact HB.out))) : w.heap.size ≤ gb106)); have n5_ := Aside0.mk ((by rw [hg]; exact Nat.ne_of_lt (blk_lt (g := gb105) (o := .cells #[.string a0_0, .int .i64 a0_1, .string a0_2, .int .i64 a0_3, .bool a0_4, .bool a0_5, .slice A0_6 l0_6.length c0_6] 26 (0, 0)) (by (with_reducible repeat (first | refine blk_drewN ?_ _ | refine blk_drew ?_ | refine blk_alloc ?_ _)); exact BK105.out)) : gb105 ≠ gb106)); have n6_ := Aside0.mk ((by rw [hg]; exact Nat.ne_of_gt (blk_lt (g := gb105) (o := .cells #[.string a0_0, .int .i64 a0_1, .string a0_2, .int .i64 a0_3, .bool a0_4, .bool a0_5, .slice A0_6 l0_6.length c0_6] 26 (0, 0)) (by (with_reducible repeat (first | refine blk_drewN ?_ _ | refine blk_drew ?_ | refine blk_alloc ?_ _)); exact BK105.out)) : gb106 ≠ gb105)); clear BK105; clear HB; have BK105 := n0_; have HB := n1_; have BK106 := n2_; have GW106 := n3_; have GE106 := n4_; have NB105_106 := n5_; have NB106_105 := n6_; clear n0_ n1_ n2_ n3_ n4_ n5_ n6_; clear hb hbox hg; have hnb20 := NB105_106.out; have hnc20 := NB106_105.out; have hcz21_0 : w19.cell? ⟨gb105, 0, none⟩ = some (.string a0_0) := (blk_cell BK105.out 0).trans rfl; have hcz21_1 : w19.cell? ⟨gb105, 1, none⟩ = some (.int .i64 a0_1) := (blk_cell BK105.out 1).trans rfl; have hcz21_2 : w19.cell? ⟨gb105, 2, none⟩ = some (.string a0_2) := (blk_cell BK105.out 2).trans rfl; have hcz21_3 : w19.cell? ⟨gb105, 3, none⟩ = some (.int .i64 a0_3) := (blk_cell BK105.out 3).trans rfl; have hcz21_4 : w19.cell? ⟨gb105, 4, none⟩ = some (.bool a0_4) := (blk_cell BK105.out 4).trans rfl; have hcz21_5 : w19.cell? ⟨gb105, 5, none⟩ = some (.bool a0_5) := (blk_cell BK105.out 5).trans rfl; have hcz21_6 : w19.cell? ⟨gb105, 6, none⟩ = some (.slice A0_6 l0_6.length c0_6) := (blk_cell BK105.out 6).trans rfl; have hfz21_0 := blk_frozen BK105.out 0; have hfz21_1 := blk_frozen BK105.out 1; have hfz21_2 := blk_frozen BK105.out 2; have hfz21_3 := blk_frozen BK105.out 3; have hfz21_4 := blk_frozen BK105.out 4; have hfz21_5 := blk_frozen BK105.out 5; have hfz21_6 := blk_frozen BK105.out 6) | ((with_reducible refine gate_callee (f := 58) rfl ?_); refine goesL_ (some 6) rfl rfl Tryd.func58 (by kernel_rfl) rfl #[.agg #[.string a0_0, .int .i64 a0_1, .string a0_2, .int .i64 a0_3, .bool a0_4, .bool a0_5, .slice A0_6 l0_6.length c0_6]] rfl (by (try simp only [List.map_toArray, List.map_cons, List.map_nil]); first | done | rfl | (simp only [List.length_drop, List.length_take]; rfl)) ?_; (with_reducible refine (path_next.calls a0_0 a0_1 a0_2 a0_3 a0_4 a0_5 _ _ l0_6 t107 _ ?side1 ?side2 A2.out).mono ?_); (case side1 => repeat (first | exact (Kd.C_below HR0_6.out HB.out) | (with_reducible refine Kd.C_alloc ?_ _) | (with_reducible refine Kd.C_drewN ?_ _) | (with_reducible refine Kd.C_drew ?_))); (case side2 => exact HC0_6.out); rintro e w22 ⟨rfl, hb⟩; refine ⟨_, rfl, ?_⟩; have n0_ := Aside0.mk (blk_below (g := gb105) (o := .cells #[.string a0_0, .int .i64 a0_1, .string a0_2, .int .i64 a0_3, .bool a0_4, .bool a0_5, .slice A0_6 l0_6.length c0_6] 26 (0, 0)) (by (with_reducible repeat (first | refine blk_drewN ?_ _ | refine blk_drew ?_ | refine blk_alloc ?_ _)); exact BK105.out) hb); have n1_ := Aside0.mk (blk_below (g := gb106) (o := .cells #[.string (⟨#[]⟩ : ByteArray), .int .i64 0, .string (⟨#[]⟩ : ByteArray), .int .i64 0, .bool false, .bool false, .slice none 0 0] 26 (0, 0)) (by (with_reducible repeat (first | refine blk_drewN ?_ _ | refine blk_drew ?_ | refine blk_alloc ?_ _)); exact BK106.out) hb); have n2_ := Aside0.mk (below_step (by repeat (first | (with_reducible first | exact HB.out | apply below_alloc | apply pw_below_drewN | apply below_drew1 | refine below_set ?_ GE105.out | refine below_set ?_ GE106.out) | exact HB.out)) hb); clear BK105; clear BK106; clear HB; have BK105 := n0_; have BK106 := n1_; have HB := n2_; clear n0_ n1_ n2_; (try clear hb); (try clear hb2); (try clear hk); (try clear hi); have hcz23_0 : w22.cell? ⟨gb105, 0, none⟩ = some (.string a0_0) := (blk_cell BK105.out 0).trans rfl; have hcz23_1 : w22.cell? ⟨gb105, 1, none⟩ = some (.int .i64 a0_1) := (blk_cell BK105.out 1).trans rfl; have hcz23_2 : w22.cell? ⟨gb105, 2, none⟩ = some (.string a0_2) := (blk_cell BK105.out 2).trans rfl; have hcz23_3 : w22.cell? ⟨gb105, 3, none⟩ = some (.int .i64 a0_3) := (blk_cell BK105.out 3).trans rfl; have hcz23_4 : w22.cell? ⟨gb105, 4, none⟩ = some (.bool a0_4) := (blk_cell BK105.out 4).trans rfl; have hcz23_5 : w22.cell? ⟨gb105, 5, none⟩ = some (.bool a0_5) := (blk_cell BK105.out 5).trans rfl; have hcz23_6 : w22.cell? ⟨gb105, 6, none⟩ = some (.slice A0_6 l0_6.length c0_6) := (blk_cell BK105.out 6).trans rfl; have hfz23_0 := blk_frozen BK105.out 0; have hfz23_1 := blk_frozen BK105.out 1; have hfz23_2 := blk_frozen BK105.out 2; have hfz23_3 := blk_frozen BK105.out 3; have hfz23_4 := blk_frozen BK105.out 4; have hfz23_5 := blk_frozen BK105.out 5; have hfz23_6 := blk_frozen BK105.out 6) | ((with_reducible refine gate_callee (f := 59) rfl ?_); refine goesL_ (some 9) rfl rfl Tryd.func59 (by kernel_rfl) rfl #[.slice A0_6 l0_6.length c0_6] rfl (by (try simp only [List.map_toArray, List.map_cons, List.map_nil]); first | done | rfl | (simp only [List.length_drop, List.length_take]; rfl)) ?_; (with_reducible refine (path_Digi_59.calls _ _ l0_6 t108 _ ?side1 ?side2 A3.out).mono ?_); (case side1 => repeat (first | exact (Kd.C_below HR0_6.out HB.out) | (with_reducible refine Kd.C_alloc ?_ _) | (with_reducible refine Kd.C_drewN ?_ _) | (with_reducible refine Kd.C_drew ?_))); (case side2 => exact HC0_6.out); rintro e w24 ⟨v109, rfl, ho0, hb⟩; refine ⟨_, rfl, ?_⟩; have n0_ := Aside0.mk (Kd.R_lower ho0 (below_size (by repeat (first | (with_reducible first | exact HB.out | apply below_alloc | apply pw_below_drewN | apply below_drew1 | refine below_set ?_ GE105.out | refine below_set ?_ GE106.out) | exact HB.out)))); have n1_ := Aside0.mk (blk_below (g := gb105) (o := .cells #[.string a0_0, .int .i64 a0_1, .string a0_2, .int .i64 a0_3, .bool a0_4, .bool a0_5, .slice A0_6 l0_6.length c0_6] 26 (0, 0)) (by (with_reducible repeat (first | refine blk_drewN ?_ _ | refine blk_drew ?_ | refine blk_alloc ?_ _)); exact BK105.out) hb); have n2_ := Aside0.mk (blk_below (g := gb106) (o := .cells #[.string (⟨#[]⟩ : ByteArray), .int .i64 0, .string (⟨#[]⟩ : ByteArray), .int .i64 0, .bool false, .bool false, .slice none 0 0] 26 (0, 0)) (by (with_reducible repeat (first | refine blk_drewN ?_ _ | refine blk_drew ?_ | refine blk_alloc ?_ _)); exact BK106.out) hb); have n3_ := Aside0.mk (below_step (by repeat (first | (with_reducible first | exact HB.out | apply below_alloc | apply pw_below_drewN | apply below_drew1 | refine below_set ?_ GE105.out | refine below_set ?_ GE106.out) | exact HB.out)) hb); clear BK105; clear BK106; clear HB; have HO110 := n0_; have BK105 := n1_; have BK106 := n2_; have HB := n3_; clear n0_ n1_ n2_ n3_; (try clear hb); (try clear hb2); (try clear hk); (try clear hi); (try clear ho0); obtain ⟨Ao25, co25, eo25⟩ := Kd.R_slice HO110.out; subst eo25; have hcz26_0 : w24.cell? ⟨gb105, 0, none⟩ = some (.string a0_0) := (blk_cell BK105.out 0).trans rfl; have hcz26_1 : w24.cell? ⟨gb105, 1, none⟩ = some (.int .i64 a0_1) := (blk_cell BK105.out 1).trans rfl; have hcz26_2 : w24.cell? ⟨gb105, 2, none⟩ = some (.string a0_2) := (blk_cell BK105.out 2).trans rfl; have hcz26_3 : w24.cell? ⟨gb105, 3, none⟩ = some (.int .i64 a0_3) := (blk_cell BK105.out 3).trans rfl; have hcz26_4 : w24.cell? ⟨gb105, 4, none⟩ = some (.bool a0_4) := (blk_cell BK105.out 4).trans rfl; have hcz26_5 : w24.cell? ⟨gb105, 5, none⟩ = some (.bool a0_5) := (blk_cell BK105.out 5).trans rfl; have hcz26_6 : w24.cell? ⟨gb105, 6, none⟩ = some (.slice A0_6 l0_6.length c0_6) := (blk_cell BK105.out 6).trans rfl; have hfz26_0 := blk_frozen BK105.out 0; have hfz26_1 := blk_frozen BK105.out 1; have hfz26_2 := blk_frozen BK105.out 2; have hfz26_3 := blk_frozen BK105.out 3; have hfz26_4 := blk_frozen BK105.out 4; have hfz26_5 := blk_frozen BK105.out 5; have hfz26_6 := blk_frozen BK105.out 6) | ((with_reducible refine gate_store (t := 24) (p := 10) rfl ?_); refine store_event (t := 24) (p := 10) (v := ?vo_w27) (w1 := (w24.setCell ⟨gb105, 6, none⟩ (.slice Ao25 t108.length co25))) ?hg ?ho ?hn ?hr ?_; (case ho => rfl); (case hg => rfl); (case hn => rfl); (case hr => first | (go_simp; done) | (go_simp; rfl)); intro w27 hw; have n0_ : Aside0 (Kd.R k93 93 w27 w.heap.size (fun _ => True) (.slice Ao25 t108.length co25) t108) := ⟨(by rw [hw]; exact (by (with_reducible repeat (first | apply Kd.R_alloc | apply Kd.R_drewN | apply Kd.R_drew)); exact Kd.R_mono (Kd.R_far (p := ⟨gb105, 6, none⟩) (Kd.R_types HO110.out BK105.out (by decide)) (fun _ hk => hk.2) (.slice Ao25 t108.length co25)) (fun _ hk => trivial)))⟩; have n1_ : Aside0 (w27.heap[gb105]? = some (.cells #[.string a0_0, .int .i64 a0_1, .string a0_2, .int .i64 a0_3, .bool a0_4, .bool a0_5, .slice Ao25 t108.length co25] 26 (0, 0))) := ⟨(by rw [hw]; exact (by (with_reducible repeat (first | refine blk_drewN ?_ _ | refine blk_drew ?_ | refine blk_alloc ?_ _)); refine blk_put (cs := #[.string a0_0, .int .i64 a0_1, .string a0_2, .int .i64 a0_3, .bool a0_4, .bool a0_5, .slice A0_6 l0_6.length c0_6]) ?_ 6 _ rfl; (with_reducible repeat (first | refine blk_drewN ?_ _ | refine blk_drew ?_ | refine blk_alloc ?_ _)); exact BK105.out))⟩; have n2_ : Aside0 (w27.heap[gb106]? = some (.cells #[.string (⟨#[]⟩ : ByteArray), .int .i64 0, .string (⟨#[]⟩ : ByteArray), .int .i64 0, .bool false, .bool false, .slice none 0 0] 26 (0, 0))) := ⟨(by rw [hw]; exact (by (with_reducible repeat (first | refine blk_drewN ?_ _ | refine blk_drew ?_ | refine blk_alloc ?_ _)); refine blk_far ?_ NB106_105.out _; (with_reducible repeat (first | refine blk_drewN ?_ _ | refine blk_drew ?_ | refine blk_alloc ?_ _)); exact BK106.out))⟩; have n3_ : Aside0 (Below w.heap.size w w27) := ⟨(by rw [hw]; exact (by repeat (first | (with_reducible first | exact HB.out | apply below_alloc | apply pw_below_drewN | apply below_drew1 | refine below_set ?_ GE105.out | refine below_set ?_ GE106.out) | exact HB.out)))⟩; clear hw; clear HO110; clear BK105; clear BK106; clear HB; have HO110 := n0_; have BK105 := n1_; have BK106 := n2_; have HB := n3_; clear n0_ n1_ n2_ n3_; have hcz28_0 : w27.cell? ⟨gb105, 0, none⟩ = some (.string a0_0) := (blk_cell BK105.out 0).trans rfl; have hcz28_1 : w27.cell? ⟨gb105, 1, none⟩ = some (.int .i64 a0_1) := (blk_cell BK105.out 1).trans rfl; have hcz28_2 : w27.cell? ⟨gb105, 2, none⟩ = some (.string a0_2) := (blk_cell BK105.out 2).trans rfl; have hcz28_3 : w27.cell? ⟨gb105, 3, none⟩ = some (.int .i64 a0_3) := (blk_cell BK105.out 3).trans rfl; have hcz28_4 : w27.cell? ⟨gb105, 4, none⟩ = some (.bool a0_4) := (blk_cell BK105.out 4).trans rfl; have hcz28_5 : w27.cell? ⟨gb105, 5, none⟩ = some (.bool a0_5) := (blk_cell BK105.out 5).trans rfl; have hcz28_6 : w27.cell? ⟨gb105, 6, none⟩ = some (.slice Ao25 t108.length co25) := (blk_cell BK105.out 6).trans rfl; have hfz28_0 := blk_frozen BK105.out 0; have hfz28_1 := blk_frozen BK105.out 1; have hfz28_2 := blk_frozen BK105.out 2; have hfz28_3 := blk_frozen BK105.out 3; have hfz28_4 := blk_frozen BK105.out 4; have hfz28_5 := blk_frozen BK105.out 5; have hfz28_6 := blk_frozen BK105.out 6; have p17 : 0 ≤ (t107 : Int) := of_decide_eq_true (by first | (with_reducible assumption) | assumption); have q17 : (t107 : Int) < ((t108.length : Int) : Int) := of_decide_eq_true (by first | (with_reducible assumption) | assumption); obtain ⟨go17, co17, eo17, gb17, gl17, cl17, HG17⟩ := Kd.R_form HO110.out (by omega); (first | cases eo17 | (injection eo17 with ea_ en_ ec_; (first | subst ea_ | (injection ea_ with ea_; subst ea_)); subst ec_; clear en_)); have GB17 := Aside0.mk gb17; have GG17 := Aside0.mk HG17; clear gb17 gl17 HG17; obtain ⟨ce17, hcl17, hM17, hcc17, hfr17⟩ := Kd.R_elem HO110.out z93 (t107 : Int) p17 q17; obtain rfl := k93_openM hM17; have hx17_0 : w27.cell? ⟨go17, (t107 : Int).toNat * 3, none⟩ = some (.string ((rd_T93 t108 t107).f0.f0)) := hcc17 0 _ rfl; have hx17_1 : w27.cell? ⟨go17, (t107 : Int).toNat * 3 + 1, none⟩ = some (.int .i64 ((rd_T93 t108 t107).f0.f1)) := hcc17 1 _ rfl; have hx17_2 : w27.cell? ⟨go17, (t107 : Int).toNat * 3 + 2, none⟩ = some (.bool ((rd_T93 t108 t107).f1)) := hcc17 2 _ rfl; have hf17_0 : w27.frozen? ⟨go17, (t107 : Int).toNat * 3, none⟩ = false := hfr17 0; have hf17_1 : w27.frozen? ⟨go17, (t107 : Int).toNat * 3 + 1, none⟩ = false := hfr17 1; have hf17_2 : w27.frozen? ⟨go17, (t107 : Int).toNat * 3 + 2, none⟩ = false := hfr17 2; clear hcl17 hcc17 hfr17 hM17; replace p17 := eq_true p17; replace q17 := eq_true q17; have HX29 := Aside0.mk (show Kd.R k93 93 w27 w.heap.size (fun _ => True) (.slice (some ⟨go17, 0, none⟩) t108.length co25) t108 from (by (with_reducible repeat (first | apply Kd.R_alloc | apply Kd.R_drewN | apply Kd.R_drew)); exact HO110.out)); obtain ⟨ce29, hcl29, hM29, hcc29, hfr29⟩ := Kd.R_elem HX29.out z93 (t107 : Int) (of_decide_eq_true (by first | (with_reducible assumption) | assumption)) (by have h_ : (t107 : Int) < ((t108.length : Int) : Int) := of_decide_eq_true (by first | (with_reducible assumption) | assumption); first | exact h_ | (have e_ := (Kd.R_reads' HO110.out).1; omega) | simpa using h_); obtain rfl := k93_openM hM29; have HP29 := Kd.R_seg HX29.out (t107 : Int) (of_decide_eq_true (by first | (with_reducible assumption) | assumption)) (by have h_ : (t107 : Int) < ((t108.length : Int) : Int) := of_decide_eq_true (by first | (with_reducible assumption) | assumption); first | exact h_ | (have e_ := (Kd.R_reads' HO110.out).1; omega) | simpa using h_) (seg := [.bool true]) (j := 2) hcl29 hcc29 (show 3 ≤ 3 from by decide) (x' := (⟨(⟨(rd_T93 t108 t107).f0.f0, (rd_T93 t108 t107).f0.f1⟩ : S23), true⟩ : S93)) (k93_mkM _ _ _ (⟨(⟨(rd_T93 t108 t107).f0.f0, (rd_T93 t108 t107).f0.f1⟩ : S23), true⟩ : S93) ) (fun _ hk => hk); have hx29_2 := hcc29 2 _ rfl; (try simp only [show (k93).sz = 3 from rfl, Nat.mul_one, Nat.add_zero] at hx29_2); have hf29_2 := hfr29 2; (try simp only [show (k93).sz = 3 from rfl, Nat.mul_one, Nat.add_zero] at hf29_2); clear hcl29 hcc29 hfr29 hM29) | ((with_reducible refine gate_store (t := 4) (p := 18) rfl ?_); refine store_event (t := 4) (p := 18) (v := ?vo_w30) (w1 := (w27.setCell ⟨go17, (t107 : Int).toNat * 3 + 2, none⟩ (.bool true))) ?hg ?ho ?hn ?hr ?_; (case ho => rfl); (case hg => rfl); (case hn => rfl); (case hr => first | (go_simp; done) | (go_simp; rfl)); intro w30 hw; have hg : w27.grownBy w30 (some go17) := (by rw [hw]; exact HP29.2); have hp_ : Kd.R k93 93 w30 w.heap.size (fun _ => True) (.slice (some ⟨go17, 0, none⟩) t108.length co25) y111 := (by rw [hw, Ny111.out]; exact HP29.1); clear HP29; have n0_ := Aside0.mk (blk_grown (g := gb105) (o := .cells #[.string a0_0, .int .i64 a0_1, .string a0_2, .int .i64 a0_3, .bool a0_4, .bool a0_5, .slice (some ⟨go17, 0, none⟩) t108.length co25] 26 (0, 0)) (by (with_reducible repeat (first | refine blk_drewN ?_ _ | refine blk_drew ?_ | refine blk_alloc ?_ _)); exact BK105.out) hg (Kd.R_ne HO110.out BK105.out (by decide))); have n1_ := Aside0.mk (blk_grown (g := gb106) (o := .cells #[.string (⟨#[]⟩ : ByteArray), .int .i64 0, .string (⟨#[]⟩ : ByteArray), .int .i64 0, .bool false, .bool false, .slice none 0 0] 26 (0, 0)) (by (with_reducible repeat (first | refine blk_drewN ?_ _ | refine blk_drew ?_ | refine blk_alloc ?_ _)); exact BK106.out) hg (Kd.R_ne HO110.out BK106.out (by decide))); have n2_ := Aside0.mk (hp_); have n3_ := Aside0.mk ((by rw [hw]; exact below_set (HB.out) GB17.out : Below w.heap.size w w30)); clear BK105; clear BK106; clear HO110; clear HB; have BK105 := n0_; have BK106 := n1_; have HO110 := n2_; have HB := n3_; clear n0_ n1_ n2_ n3_; clear hg hw hp_; have hcz31_0 : w30.cell? ⟨gb105, 0, none⟩ = some (.string a0_0) := (blk_cell BK105.out 0).trans rfl; have hcz31_1 : w30.cell? ⟨gb105, 1, none⟩ = some (.int .i64 a0_1) := (blk_cell BK105.out 1).trans rfl; have hcz31_2 : w30.cell? ⟨gb105, 2, none⟩ = some (.string a0_2) := (blk_cell BK105.out 2).trans rfl; have hcz31_3 : w30.cell? ⟨gb105, 3, none⟩ = some (.int .i64 a0_3) := (blk_cell BK105.out 3).trans rfl; have hcz31_4 : w30.cell? ⟨gb105, 4, none⟩ = some (.bool a0_4) := (blk_cell BK105.out 4).trans rfl; have hcz31_5 : w30.cell? ⟨gb105, 5, none⟩ = some (.bool a0_5) := (blk_cell BK105.out 5).trans rfl; have hcz31_6 : w30.cell? ⟨gb105, 6, none⟩ = some (.slice (some ⟨go17, 0, none⟩) t108.length co25) := (blk_cell BK105.out 6).trans rfl; have hfz31_0 := blk_frozen BK105.out 0; have hfz31_1 := blk_frozen BK105.out 1; have hfz31_2 := blk_frozen BK105.out 2; have hfz31_3 := blk_frozen BK105.out 3; have hfz31_4 := blk_frozen BK105.out 4; have hfz31_5 := blk_frozen BK105.out 5; have hfz31_6 := blk_frozen BK105.out 6; have hcz32_0 : w30.cell? ⟨gb106, 0, none⟩ = some (.string (⟨#[]⟩ : ByteArray)) := (blk_cell BK106.out 0).trans rfl; have hcz32_1 : w30.cell? ⟨gb106, 1, none⟩ = some (.int .i64 0) := (blk_cell BK106.out 1).trans rfl; have hcz32_2 : w30.cell? ⟨gb106, 2, none⟩ = some (.string (⟨#[]⟩ : ByteArray)) := (blk_cell BK106.out 2).trans rfl; have hcz32_3 : w30.cell? ⟨gb106, 3, none⟩ = some (.int .i64 0) := (blk_cell BK106.out 3).trans rfl; have hcz32_4 : w30.cell? ⟨gb106, 4, none⟩ = some (.bool false) := (blk_cell BK106.out 4).trans rfl; have hcz32_5 : w30.cell? ⟨gb106, 5, none⟩ = some (.bool false) := (blk_cell BK106.out 5).trans rfl; have hcz32_6 : w30.cell? ⟨gb106, 6, none⟩ = some (.slice none 0 0) := (blk_cell BK106.out 6).trans rfl; have hfz32_0 := blk_frozen BK106.out 0; have hfz32_1 := blk_frozen BK106.out 1; have hfz32_2 := blk_frozen BK106.out 2; have hfz32_3 := blk_frozen BK106.out 3; have hfz32_4 := blk_frozen BK106.out 4; have hfz32_5 := blk_frozen BK106.out 5; have hfz32_6 := blk_frozen BK106.out 6))
    refine bodyPost_ret (results_ct rfl _ _ gb106 26 #[.string a0_0, .int .i64 a0_1, .string a0_2, .int .i64 a0_3, .bool a0_4, .bool a0_5, .slice (some ⟨go17, 0, none⟩) t108.length co25] (0, 0) _ rfl (by (with_reducible repeat (first | refine blk_drewN ?_ _ | refine blk_drew ?_ | refine blk_alloc ?_ _)); refine blk_put (cs := #[.string a0_0, .int .i64 a0_1, .string a0_2, .int .i64 a0_3, .bool a0_4, .bool a0_5, .slice none 0 0]) ?_ 6 _ rfl; (with_reducible repeat (first | refine blk_drewN ?_ _ | refine blk_drew ?_ | refine blk_alloc ?_ _)); refine blk_put (cs := #[.string a0_0, .int .i64 a0_1, .string a0_2, .int .i64 a0_3, .bool a0_4, .bool false, .slice none 0 0]) ?_ 5 _ rfl; (with_reducible repeat (first | refine blk_drewN ?_ _ | refine blk_drew ?_ | refine blk_alloc ?_ _)); refine blk_put (cs := #[.string a0_0, .int .i64 a0_1, .string a0_2, .int .i64 a0_3, .bool false, .bool false, .slice none 0 0]) ?_ 4 _ rfl; (with_reducible repeat (first | refine blk_drewN ?_ _ | refine blk_drew ?_ | refine blk_alloc ?_ _)); refine blk_put (cs := #[.string a0_0, .int .i64 a0_1, .string a0_2, .int .i64 0, .bool false, .bool false, .slice none 0 0]) ?_ 3 _ rfl; (with_reducible repeat (first | refine blk_drewN ?_ _ | refine blk_drew ?_ | refine blk_alloc ?_ _)); refine blk_put (cs := #[.string a0_0, .int .i64 a0_1, .string (⟨#[]⟩ : ByteArray), .int .i64 0, .bool false, .bool false, .slice none 0 0]) ?_ 2 _ rfl; (with_reducible repeat (first | refine blk_drewN ?_ _ | refine blk_drew ?_ | refine blk_alloc ?_ _)); refine blk_put (cs := #[.string a0_0, .int .i64 0, .string (⟨#[]⟩ : ByteArray), .int .i64 0, .bool false, .bool false, .slice none 0 0]) ?_ 1 _ rfl; (with_reducible repeat (first | refine blk_drewN ?_ _ | refine blk_drew ?_ | refine blk_alloc ?_ _)); refine blk_put (cs := #[.string (⟨#[]⟩ : ByteArray), .int .i64 0, .string (⟨#[]⟩ : ByteArray), .int .i64 0, .bool false, .bool false, .slice none 0 0]) ?_ 0 _ rfl; (with_reducible repeat (first | refine blk_drewN ?_ _ | refine blk_drew ?_ | refine blk_alloc ?_ _)); exact BK106.out) Tryd.underlying26 rfl (by kernel_rfl)) rfl ?_
    exact ⟨_, by first | rfl | (simp [errW_none, errW_some] <;> rfl) | (simp [*, errW_none, errW_some] <;> rfl), by (with_reducible repeat (first | apply Kd.R_alloc | apply Kd.R_drewN | apply Kd.R_drew)); exact Kd.R_mono (Kd.R_far (p := ⟨gb106, 6, none⟩) (Kd.R_far (p := ⟨gb106, 5, none⟩) (Kd.R_far (p := ⟨gb106, 4, none⟩) (Kd.R_far (p := ⟨gb106, 3, none⟩) (Kd.R_far (p := ⟨gb106, 2, none⟩) (Kd.R_far (p := ⟨gb106, 1, none⟩) (Kd.R_far (p := ⟨gb106, 0, none⟩) (Kd.R_types HO110.out BK106.out (by decide)) (fun _ hk => hk.2) (.string a0_0)) (fun _ hk => hk.2) (.int .i64 a0_1)) (fun _ hk => hk.2) (.string a0_2)) (fun _ hk => hk.2) (.int .i64 a0_3)) (fun _ hk => hk.2) (.bool a0_4)) (fun _ hk => hk.2) (.bool a0_5)) (fun _ hk => hk.2) (.slice (some ⟨go17, 0, none⟩) t108.length co25)) (fun _ hk => trivial), by repeat (first | (with_reducible first | exact HB.out | apply below_alloc | apply pw_below_drewN | apply below_drew1 | refine below_set ?_ GE105.out | refine below_set ?_ GE106.out) | exact HB.out)⟩
   ·rw [if_neg c16] at H
    exact absurd H (by simp)
  ·rw [if_neg c15] at H
   exact absurd H (by simp)

end Go.Proofs.YtpmieapgbdbabaaDoor.QAll
end

section
/- squelchlaw05.awake, walked by hand: the document's example comes out as it says. -/
set_option linter.unusedVariables false
set_option linter.unusedSimpArgs false
namespace Go.Proofs.YtpmieapgbdbabaaDoor.QAll
open Go.RowKit Go.Shelf Go.Proofs.YtpmieapgbdbabaaDoorW.PrintWords Go.Proofs.YtpmieapgbdbabaaDoorW.PrintLast Go.Proofs.YtpmieapgbdbabaaDoorW.PrintMore

def exC : S93 := ⟨⟨⟨#[67]⟩, 0⟩, false⟩
def exD : S93 := ⟨⟨⟨#[68]⟩, 0⟩, false⟩
def exC1 : S93 := ⟨⟨⟨#[67]⟩, 0⟩, true⟩
theorem via_ex : path_Via.f 10 ⟨#[65]⟩ 0 ⟨#[66]⟩ 0 true [⟨⟨#[67]⟩, 0⟩, ⟨⟨#[68]⟩, 0⟩] = some (⟨#[66]⟩, 0, ⟨#[65]⟩, 0, true, false, [exC, exD], 0) := by kernel_rfl
theorem sent_ex : path_Sent.f ⟨#[66]⟩ 0 ⟨#[65]⟩ 0 true false [exC, exD] = some (⟨#[66]⟩, 0, ⟨#[65]⟩, 0, true, false, [exC1, exD], true) := by kernel_rfl
theorem next_ex : path_Next.f ⟨#[66]⟩ 0 ⟨#[65]⟩ 0 true false [exC1, exD] = some (⟨#[68]⟩, 0, true) := by kernel_rfl
theorem text_ex : path_Text.f ⟨#[66]⟩ 0 ⟨#[65]⟩ 0 true false [exC1, exD] = some ⟨#[65, 62, 66, 44, 67, 42, 44, 68]⟩ := by kernel_rfl
theorem command_ex : path_Command.f ⟨#[66]⟩ 0 ⟨#[65]⟩ 0 true false [exC1, exD] = some true := by kernel_rfl
def squelchlaw05_awake.f : Option Bool := some true
set_option maxHeartbeats 1000000 in
set_option maxRecDepth 100000 in
theorem squelchlaw05_awake.calls (r : Bool) (w : World) (h : squelchlaw05_awake.f = some r) :
    Calls Tryd.prog 15 #[] w fun e w' => e = .returned (.bool r) ∧ Below w.heap.size w w' := by
  obtain rfl := Option.some.inj h
  have hu26 := Tryd.underlying26
  have hu23 := Tryd.underlying23
  have HB := Aside0.mk (Below.refl w.heap.size w)
  go_enter Tryd.func15, Tryd.ntmps15
  go_wp2_with (fail)
  generalize hW4 : (((w.alloc (Obj.cells #[Value.string ⟨#[65]⟩, Value.int IntKind.i64 0] 23)).alloc (Obj.cells #[Value.string ⟨#[66]⟩, Value.int IntKind.i64 0] 23)).alloc (Obj.cells #[Value.string ⟨#[67]⟩, Value.int IntKind.i64 0] 23)).alloc (Obj.cells #[Value.string ⟨#[68]⟩, Value.int IntKind.i64 0] 23) = W4
  have hs4 : W4.heap.size = w.heap.size + 1 + 1 + 1 + 1 := by rw [← hW4]; simp
  have HD4 := Aside0.mk (show W4.heap[w.heap.size + 1 + 1 + 1]? = some (.cells #[.string ⟨#[68]⟩, .int .i64 0] 23 (0, 0)) by
    rw [← hW4]
    have := heap_alloc_new (((w.alloc (Obj.cells #[Value.string ⟨#[65]⟩, Value.int IntKind.i64 0] 23)).alloc (Obj.cells #[Value.string ⟨#[66]⟩, Value.int IntKind.i64 0] 23)).alloc (Obj.cells #[Value.string ⟨#[67]⟩, Value.int IntKind.i64 0] 23)) (Obj.cells #[Value.string ⟨#[68]⟩, Value.int IntKind.i64 0] 23)
    simpa using this)
  have HB4 := Aside0.mk (show Below w.heap.size w W4 by
    rw [← hW4]
    exact ((((Below.refl _ _).alloc (Nat.le_refl _) _).alloc (by simp) _).alloc (by simp; omega) _).alloc (by simp; omega) _)
  rw [← hs4]
  clear hW4
  have hR : Kd.R k23 23 (W4.alloc (.cells #[.string ⟨#[67]⟩, .int .i64 0, .string ⟨#[68]⟩, .int .i64 0] 23)) W4.heap.size (fun _ => True) (.slice (some ⟨W4.heap.size, 0, none⟩) 2 2) [⟨⟨#[67]⟩, 0⟩, ⟨⟨#[68]⟩, 0⟩] :=
    ⟨fun _ _ => trivial, OwnRow.lit W4 W4.heap.size (inner := [.string ⟨#[67]⟩, .int .i64 0, .string ⟨#[68]⟩, .int .i64 0]) (Reps.c2 (k23_mkM _ _ _ (⟨⟨#[67]⟩, 0⟩ : S23)) (Reps.c2 (k23_mkM _ _ _ (⟨⟨#[68]⟩, 0⟩ : S23)) (Reps.none _ _))) (Nat.le_refl _) (by decide)⟩
  obtain ⟨A, c, hv, hle, hC⟩ := Kd.R_reads hR
  cases hv
  refine (path_Via.calls 10 ⟨#[65]⟩ 0 ⟨#[66]⟩ 0 true (some ⟨W4.heap.size, 0, none⟩) 2 [⟨⟨#[67]⟩, 0⟩, ⟨⟨#[68]⟩, 0⟩] _ _ _ _ _ _ _ _ _ hC hle via_ex).mono ?_
  rintro e w5 ⟨v6, rfl, ho, hb⟩
  obtain ⟨A1, c1, rfl, hle1, hC1⟩ := Kd.R_reads ho
  have HC1 := Aside0.mk hC1
  have hz4 := hs4
  have HD5 := Aside0.mk ((hb.block (w.heap.size + 1 + 1 + 1) (by simp; omega)).trans ((Below.heap_alloc W4 _ _ (by omega)).trans HD4.out))
  have HB5 := Aside0.mk (below_then (HB4.out.alloc HB4.out.size _) (by simp; omega) hb)
  have hz5 : w.heap.size + 5 ≤ w5.heap.size := by have := hb.size; simp at this; omega
  clear hb ho hC1 hC hR HD4 HB4 hle HB
  go_wp2_with (fail)
  refine (path_Sent.calls ⟨#[66]⟩ 0 ⟨#[65]⟩ 0 true false A1 c1 [exC, exD] _ _ _ _ _ _ _ _ _ (Kd.C_below HC1.out ((Below.refl _ _).alloc (Nat.le_refl _) _)) hle1 sent_ex).mono ?_
  rintro e w6 ⟨v6, rfl, ho, hb⟩
  obtain ⟨A2, c2, rfl, hle2, hC2⟩ := Kd.R_reads ho
  have HC2 := Aside0.mk hC2
  have HD6 := Aside0.mk ((hb.block (w.heap.size + 1 + 1 + 1) (by simp; omega)).trans ((Below.heap_alloc w5 _ _ (by omega)).trans HD5.out))
  have HB6 := Aside0.mk (below_then (HB5.out.alloc HB5.out.size _) (by simp; omega) hb)
  have hz6 : w5.heap.size + 1 ≤ w6.heap.size := by have := hb.size; simpa using this
  clear hb ho hC2 HD5 HB5 HC1
  go_wp2_with (fail)
  refine (path_Next.calls ⟨#[66]⟩ 0 ⟨#[65]⟩ 0 true false A2 c2 [exC1, exD] _ _ _ _ (Kd.C_below HC2.out ((Below.refl _ _).alloc (Nat.le_refl _) _)) hle2 next_ex).mono ?_
  rintro e w7 ⟨rfl, hb⟩
  have HD7 := Aside0.mk ((hb.block (w.heap.size + 1 + 1 + 1) (by simp; omega)).trans ((Below.heap_alloc w6 _ _ (by omega)).trans HD6.out))
  have HQ7 := Aside0.mk ((hb.block w6.heap.size (by simp)).trans (heap_alloc_new w6 _))
  have HB7 := Aside0.mk (below_then (HB6.out.alloc HB6.out.size _) (by simp; omega) hb)
  have HC7 := Aside0.mk (Kd.C_below (Kd.C_below HC2.out ((Below.refl _ _).alloc (Nat.le_refl _) _)) hb)
  have hz7 : w6.heap.size + 1 ≤ w7.heap.size := by have := hb.size; simpa using this
  clear hb HD6 HB6 HC2
  have HQ8 := Aside0.mk ((Below.heap_alloc w7 (Obj.cells #[Value.string ⟨#[68]⟩, Value.int IntKind.i64 0] 23) w6.heap.size (by omega)).trans HQ7.out)
  have HD8 := Aside0.mk ((Below.heap_alloc w7 (Obj.cells #[Value.string ⟨#[68]⟩, Value.int IntKind.i64 0] 23) (w.heap.size + 1 + 1 + 1) (by omega)).trans HD7.out)
  have q0 := blk_cell HQ8.out 0
  have q1 := blk_cell HQ8.out 1
  have q2 := blk_cell HQ8.out 2
  have q3 := blk_cell HQ8.out 3
  have q4 := blk_cell HQ8.out 4
  have q5 := blk_cell HQ8.out 5
  have q6 := blk_cell HQ8.out 6
  replace q0 : (w7.alloc (Obj.cells #[Value.string ⟨#[68]⟩, Value.int IntKind.i64 0] 23)).cell? ⟨w6.heap.size, 0, none⟩ = some (.string ⟨#[66]⟩) := q0
  replace q1 : (w7.alloc (Obj.cells #[Value.string ⟨#[68]⟩, Value.int IntKind.i64 0] 23)).cell? ⟨w6.heap.size, 1, none⟩ = some (.int .i64 0) := q1
  replace q2 : (w7.alloc (Obj.cells #[Value.string ⟨#[68]⟩, Value.int IntKind.i64 0] 23)).cell? ⟨w6.heap.size, 2, none⟩ = some (.string ⟨#[65]⟩) := q2
  replace q3 : (w7.alloc (Obj.cells #[Value.string ⟨#[68]⟩, Value.int IntKind.i64 0] 23)).cell? ⟨w6.heap.size, 3, none⟩ = some (.int .i64 0) := q3
  replace q4 : (w7.alloc (Obj.cells #[Value.string ⟨#[68]⟩, Value.int IntKind.i64 0] 23)).cell? ⟨w6.heap.size, 4, none⟩ = some (.bool true) := q4
  replace q5 : (w7.alloc (Obj.cells #[Value.string ⟨#[68]⟩, Value.int IntKind.i64 0] 23)).cell? ⟨w6.heap.size, 5, none⟩ = some (.bool false) := q5
  replace q6 : (w7.alloc (Obj.cells #[Value.string ⟨#[68]⟩, Value.int IntKind.i64 0] 23)).cell? ⟨w6.heap.size, 6, none⟩ = some (.slice A2 2 c2) := q6
  have d0 : (w7.alloc (Obj.cells #[Value.string ⟨#[68]⟩, Value.int IntKind.i64 0] 23)).cell? ⟨w.heap.size + 1 + 1 + 1, 0, none⟩ = some (.string ⟨#[68]⟩) := blk_cell HD8.out 0
  have d1 : (w7.alloc (Obj.cells #[Value.string ⟨#[68]⟩, Value.int IntKind.i64 0] 23)).cell? ⟨w.heap.size + 1 + 1 + 1, 1, none⟩ = some (.int .i64 0) := blk_cell HD8.out 1
  go_wp2_with (fail)
  refine (path_Text.calls ⟨#[66]⟩ 0 ⟨#[65]⟩ 0 true false A2 c2 [exC1, exD] _ _ (Kd.C_below HC7.out ((Below.refl _ _).alloc (Nat.le_refl _) _)) hle2 text_ex).mono ?_
  rintro e w9 ⟨rfl, hb⟩
  have HQ9 := Aside0.mk ((hb.block w6.heap.size (by simp; omega)).trans HQ8.out)
  have HD9 := Aside0.mk ((hb.block (w.heap.size + 1 + 1 + 1) (by simp; omega)).trans HD8.out)
  have HN9 := Aside0.mk ((hb.block w7.heap.size (by simp)).trans (heap_alloc_new w7 _))
  have HB9 := Aside0.mk (below_then (HB7.out.alloc HB7.out.size _) (by simp; omega) hb)
  have HC9 := Aside0.mk (Kd.C_below (Kd.C_below HC7.out ((Below.refl _ _).alloc (Nat.le_refl _) _)) hb)
  clear hb q0 q1 q2 q3 q4 q5 q6 d0 d1
  have q0 := blk_cell HQ9.out 0
  have q1 := blk_cell HQ9.out 1
  have q2 := blk_cell HQ9.out 2
  have q3 := blk_cell HQ9.out 3
  have q4 := blk_cell HQ9.out 4
  have q5 := blk_cell HQ9.out 5
  have q6 := blk_cell HQ9.out 6
  replace q0 : w9.cell? ⟨w6.heap.size, 0, none⟩ = some (.string ⟨#[66]⟩) := q0
  replace q1 : w9.cell? ⟨w6.heap.size, 1, none⟩ = some (.int .i64 0) := q1
  replace q2 : w9.cell? ⟨w6.heap.size, 2, none⟩ = some (.string ⟨#[65]⟩) := q2
  replace q3 : w9.cell? ⟨w6.heap.size, 3, none⟩ = some (.int .i64 0) := q3
  replace q4 : w9.cell? ⟨w6.heap.size, 4, none⟩ = some (.bool true) := q4
  replace q5 : w9.cell? ⟨w6.heap.size, 5, none⟩ = some (.bool false) := q5
  replace q6 : w9.cell? ⟨w6.heap.size, 6, none⟩ = some (.slice A2 2 c2) := q6
  have d0 : w9.cell? ⟨w.heap.size + 1 + 1 + 1, 0, none⟩ = some (.string ⟨#[68]⟩) := blk_cell HD9.out 0
  have d1 : w9.cell? ⟨w.heap.size + 1 + 1 + 1, 1, none⟩ = some (.int .i64 0) := blk_cell HD9.out 1
  have n0 : w9.cell? ⟨w7.heap.size, 0, none⟩ = some (.string ⟨#[68]⟩) := blk_cell HN9.out 0
  have n1 : w9.cell? ⟨w7.heap.size, 1, none⟩ = some (.int .i64 0) := blk_cell HN9.out 1
  go_wp2_with (fail)
  refine (path_Command.calls ⟨#[66]⟩ 0 ⟨#[65]⟩ 0 true false A2 c2 [exC1, exD] _ _ HC9.out hle2 command_ex).mono ?_
  rintro e w10 ⟨rfl, hb⟩
  go_wp2_with (fail)
  go_ret
  exact ⟨rfl, below_then HB9.out HB9.out.size hb⟩
end Go.Proofs.YtpmieapgbdbabaaDoor.QAll
end

section
/- A path of some digipeaters, of which the first k have sent: what is next, what it is when that one has sent, that it is right, and the way back's way back. Plain lists. -/
set_option linter.unusedVariables false
set_option linter.unusedSimpArgs false
namespace Go.Proofs.YtpmieapgbdbabaaDoor.QAll
open Go.RowKit Go.Shelf Go.Proofs.YtpmieapgbdbabaaDoorW.PrintWords Go.Proofs.YtpmieapgbdbabaaDoorW.PrintLast Go.Proofs.YtpmieapgbdbabaaDoorW.PrintMore

def mkF (c : S23) : S93 := ⟨c, false⟩
def mkT (c : S23) : S93 := ⟨c, true⟩
/-- The digipeaters when the first k have sent. -/
def dK (l : List S23) (k : Nat) : List S93 := (l.take k).map mkT ++ (l.drop k).map mkF
theorem dK_len (l : List S23) (k : Nat) : (dK l k).length = l.length := by simp [dK]; omega
theorem dK_zero (l : List S23) : dK l 0 = l.map mkF := by simp [dK]
theorem getD_rd23 (l : List S23) (k : Nat) (h : k < l.length) : l[k]? = some (rd_T23 l (k : Int)) := by
  unfold rd_T23
  rw [Int.toNat_natCast, List.getD_eq_getElem?_getD, List.getElem?_eq_getElem h]
  rfl
theorem rd23_get (l : List S23) (k : Nat) (h : k < l.length) : rd_T23 l (k : Int) = l[k] := by
  have := getD_rd23 l k h
  rw [List.getElem?_eq_getElem h] at this
  exact (Option.some.inj this).symm
theorem drop23 (l : List S23) (k : Nat) (h : k < l.length) : l.drop k = rd_T23 l (k : Int) :: l.drop (k + 1) := by
  rw [rd23_get l k h]
  exact List.drop_eq_getElem_cons h
theorem take23 (l : List S23) (k : Nat) (h : k < l.length) : l.take (k + 1) = l.take k ++ [rd_T23 l (k : Int)] := by
  rw [rd23_get l k h]
  exact List.take_succ_eq_append_getElem h
theorem rd_dK (l : List S23) (k : Nat) (h : k < l.length) : rd_T93 (dK l k) (k : Int) = mkF (rd_T23 l (k : Int)) := by
  unfold rd_T93
  rw [Int.toNat_natCast, List.getD_eq_getElem?_getD]
  unfold dK
  rw [List.getElem?_append_right (by simp; omega), drop23 l k h]
  have e : k - ((l.take k).map mkT).length = 0 := by simp; omega
  rw [e]
  rfl
theorem nextFrom_T : ∀ (i : Nat) (xs : List S23) (ys : List S93), nextFrom i (xs.map mkT ++ ys) = nextFrom (i + xs.length) ys
  | i, [], ys => rfl
  | i, x :: xs, ys => by
    show (if (mkT x).f1 = true then nextFrom (i + 1) (xs.map mkT ++ ys) else (i : Int)) = _
    rw [if_pos (show (mkT x).f1 = true from rfl), nextFrom_T (i + 1) xs ys]
    congr 1
    simp
    omega
theorem next_dK (l : List S23) (k : Nat) (h : k < l.length) : nextI (dK l k) = (k : Int) := by
  unfold nextI dK
  rw [nextFrom_T, drop23 l k h, List.map_cons]
  unfold nextFrom
  rw [if_neg (show ¬ (mkF _).f1 = true from by simp [mkF])]
  simp; omega
theorem next_all (l : List S23) : nextI (dK l l.length) = -1 := by
  unfold nextI dK
  rw [nextFrom_T, List.drop_length]
  rfl
theorem set_dK (l : List S23) (k : Nat) (h : k < l.length) : (dK l k).set k (mkT (rd_T23 l (k : Int))) = dK l (k + 1) := by
  unfold dK
  have e : ((l.take k).map mkT).length = k := by simp; omega
  rw [List.set_append_right _ _ (by omega), e, Nat.sub_self, drop23 l k h, List.map_cons, take23 l k h]
  simp
theorem ord_F : ∀ (p : Bool) (xs : List S23), ordFrom p (xs.map mkF) = true
  | _, [] => rfl
  | p, x :: xs => by rw [List.map_cons, ordFrom_cons, ord_F]; rfl
theorem ord_dK (xs ys : List S23) : ordFrom true (xs.map mkT ++ ys.map mkF) = true := by
  induction xs with
  | nil => exact ord_F true ys
  | cons x xs ih => rw [List.map_cons, List.cons_append, ordFrom_cons, show (mkT x).f1 = true from rfl, ih]; rfl
theorem all_dK (l : List S23) (k : Nat) : (dK l k).all rightD = l.all (fun c => rightB c.f0 c.f1) := by
  unfold dK
  rw [List.all_append, List.all_map, List.all_map]
  conv => rhs; rw [← List.take_append_drop k l, List.all_append]
  rfl
theorem pathB_dK (a : ByteArray) (n : Int) (b : ByteArray) (m : Int) (l : List S23) (k : Nat) (h : pathB a n b m (l.map mkF) = true) : pathB a n b m (dK l k) = true := by
  rw [← dK_zero] at h
  unfold pathB at h ⊢
  rw [all_dK] at h ⊢
  unfold ordB at h ⊢
  rw [dK_len] at h ⊢
  rw [show ordFrom true (dK l k) = true from ord_dK _ _]
  rw [show ordFrom true (dK l 0) = true from ord_dK _ _] at h
  exact h
theorem via_at (a : ByteArray) (n : Int) (b : ByteArray) (m : Int) (cm : Bool) (l : List S23) (hl : l.length ≤ 30) (hs : sizesOk a b (l.map mkF) = true) : ∀ (t i k : Nat), l.length - i ≤ t → t + 1 ≤ k → i ≤ l.length →
    path_Via.l0 k l (l.length : Int) (i : Int) a n b m cm (!cm) ((l.take i).map mkF) = some (if pathB a n b m (l.map mkF) = true then (a, n, b, m, cm, !cm, l.map mkF, 0) else (⟨#[]⟩, 0, ⟨#[]⟩, 0, false, false, [], 11))
  | t, i, 0, _, hk, _ => absurd hk (by omega)
  | 0, i, k + 1, ht, _, hi => by
    obtain rfl : i = l.length := by omega
    rw [path_Via.l0, if_neg (by omega), List.take_length]
    unfold path_Right.f
    rw [if_pos hs, Option.bind_some]
    cases pathB a n b m (l.map mkF) <;> rfl
  | t + 1, i, k + 1, ht, hk, hi => by
    by_cases h : i < l.length
    · rw [path_Via.l0, if_pos (by omega), if_pos (by omega), if_pos (by omega), if_pos (by simp; omega)]
      have e1 : wrap64 ((i : Int) + 1) = ((i + 1 : Nat) : Int) := by unfold wrap64; omega
      rw [e1]
      have h2 := via_at a n b m cm l hl hs t (i + 1) k (by omega) (by omega) (by omega)
      rw [take23 l i h, List.map_append] at h2
      exact h2
    · obtain rfl : i = l.length := by omega
      rw [path_Via.l0, if_neg (by omega), List.take_length]
      unfold path_Right.f
      rw [if_pos hs, Option.bind_some]
      cases pathB a n b m (l.map mkF) <;> rfl
theorem via_f (a : ByteArray) (n : Int) (b : ByteArray) (m : Int) (l : List S23) (hl : l.length ≤ 30) (hs : sizesOk b a (l.map mkF) = true) :
    path_Via.f 40 a n b m true l = some (if pathB b m a n (l.map mkF) = true then (b, m, a, n, true, false, l.map mkF, 0) else (⟨#[]⟩, 0, ⟨#[]⟩, 0, false, false, [], 11)) := by
  have h := via_at b m a n true l hl hs l.length 0 40 (by omega) (by omega) (by omega)
  rw [List.take_zero] at h
  exact h
theorem nextc (a : ByteArray) (n : Int) (b : ByteArray) (m : Int) (x y : Bool) (l : List S23) (hl : l.length ≤ 30) (k : Nat) (h : k < l.length) :
    path_Next.f a n b m x y (dK l k) = some ((rd_T23 l (k : Int)).f0, (rd_T23 l (k : Int)).f1, true) := by
  unfold path_Next.f path_next.f
  rw [dK_len, if_pos (by omega), Option.bind_some, next_dK l k h, if_neg (by omega), if_pos (by omega), if_pos (by omega), rd_dK l k h]
  rfl
theorem nextc_all (a : ByteArray) (n : Int) (b : ByteArray) (m : Int) (x y : Bool) (l : List S23) (hl : l.length ≤ 30) :
    path_Next.f a n b m x y (dK l l.length) = some (⟨#[]⟩, 0, false) := by
  unfold path_Next.f path_next.f
  rw [dK_len, if_pos (by omega), Option.bind_some, next_all l]
  rfl
theorem sentc (a : ByteArray) (n : Int) (b : ByteArray) (m : Int) (x y : Bool) (l : List S23) (hl : l.length ≤ 30) (k : Nat) (h : k < l.length) :
    path_Sent.f a n b m x y (dK l k) = some (a, n, b, m, x, y, dK l (k + 1), true) := by
  unfold path_Sent.f path_next.f path_Digi_59.f
  rw [dK_len, if_pos (by omega), Option.bind_some, if_pos (by omega), Option.bind_some, next_dK l k h, if_neg (by omega), if_pos (by omega), if_pos (by rw [dK_len]; omega), rd_dK l k h, Int.toNat_natCast]
  have := set_dK l k h
  rw [← this]
  rfl
theorem sentc_all (a : ByteArray) (n : Int) (b : ByteArray) (m : Int) (x y : Bool) (l : List S23) (hl : l.length ≤ 30) :
    path_Sent.f a n b m x y (dK l l.length) = some (a, n, b, m, x, y, dK l l.length, false) := by
  unfold path_Sent.f path_next.f path_Digi_59.f
  rw [dK_len, if_pos (by omega), Option.bind_some, if_pos (by omega), Option.bind_some, next_all l]
  rfl
theorem rightc (a : ByteArray) (n : Int) (b : ByteArray) (m : Int) (x y : Bool) (l : List S23) (k : Nat) (hs : sizesOk a b (l.map mkF) = true) (h : pathB a n b m (l.map mkF) = true) :
    path_Right.f a n b m x y (dK l k) = some true := by
  have hs2 : sizesOk a b (dK l k) = true := by
    unfold sizesOk at hs ⊢
    rw [dK_len]
    rw [List.length_map] at hs
    have e : (dK l k).all (fun d => decide (d.f0.f0.size ≤ 9223372036854775807)) = (l.map mkF).all (fun d => decide (d.f0.f0.size ≤ 9223372036854775807)) := by
      rw [← dK_zero]
      unfold dK
      rw [List.all_append, List.all_map, List.all_map, List.all_append, List.all_map, List.all_map, List.take_zero, List.drop_zero]
      conv => rhs; rw [← List.take_append_drop k l, List.all_append]
      simp
      rfl
    rw [e]
    exact hs
  unfold path_Right.f
  rw [if_pos hs2, pathB_dK a n b m l k h]
/-- The way back's digipeaters. -/
def bkD (L : List S93) : List S93 := bOf (backK L L.length)
theorem bkD_len (L : List S93) : (bkD L).length = L.length := by simp [bkD, bOf, backK]
theorem bkD_eq (L : List S93) : bkD L = L.reverse.map un0 := by
  apply List.ext_getElem
  · simp [bkD_len]
  · intro i h1 h2
    rw [bkD_len] at h1
    simp [bkD, bOf, backK, backF, rd_T93, List.getD_eq_getElem?_getD]
    rw [List.getElem?_eq_getElem (by omega)]
    rfl
theorem bk_bk (l : List S23) : bkD (bkD (dK l l.length)) = l.map mkF := by
  rw [bkD_eq, bkD_eq]
  unfold dK
  rw [List.take_length, List.drop_length]
  simp
  intro a _
  rfl
theorem back_c1 (a : ByteArray) (n : Int) (b : ByteArray) (m : Int) (L : List S93) (hl : L.length ≤ 30) :
    path_Back.f a n b m true false L = some (b, m, a, n, false, true, bkD L) := by
  unfold path_Back.f path_Command.f
  rw [if_pos (by omega), if_pos rfl]
  rfl
theorem back_c2 (a : ByteArray) (n : Int) (b : ByteArray) (m : Int) (L : List S93) (hl : L.length ≤ 30) :
    path_Back.f a n b m false true L = some (b, m, a, n, true, false, bkD L) := by
  unfold path_Back.f path_Command.f
  rw [if_pos (by omega), if_neg (by simp)]
  rfl
end Go.Proofs.YtpmieapgbdbabaaDoor.QAll
end

section
/- squelchlaw05.PathEight, walked by hand: it tells true, whatever calls it is given. -/
set_option linter.unusedVariables false
set_option linter.unusedSimpArgs false
namespace Go.Proofs.YtpmieapgbdbabaaDoor.QAll
open Go.RowKit Go.Shelf Go.Proofs.YtpmieapgbdbabaaDoorW.PrintWords Go.Proofs.YtpmieapgbdbabaaDoorW.PrintLast Go.Proofs.YtpmieapgbdbabaaDoorW.PrintMore

theorem two_cellE {w : World} {g : Nat} {a b : Value} {t : TypeId} (h : w.heap[g]? = some (.cells #[a, b] t (0, 0))) :
    w.cell? ⟨g, 0, none⟩ = some a ∧ w.cell? ⟨g, 1, none⟩ = some b ∧ w.frozen? ⟨g, 0, none⟩ = false ∧ w.frozen? ⟨g, 1, none⟩ = false := by
  simp [World.cell?, World.frozen?, h]
theorem R_set26 {W : World} {base g : Nat} {v : Value} {l : List S93} {cs : Array Value} {f : Nat × Nat} (h : Kd.R k93 93 W base (fun _ => True) v l) (hg : W.heap[g]? = some (.cells cs 26 f)) (x0 x1 x2 x3 x4 x5 x6 : Value) :
    Kd.R k93 93 (((((((W.setCell ⟨g, 0, none⟩ x0).setCell ⟨g, 1, none⟩ x1).setCell ⟨g, 2, none⟩ x2).setCell ⟨g, 3, none⟩ x3).setCell ⟨g, 4, none⟩ x4).setCell ⟨g, 5, none⟩ x5).setCell ⟨g, 6, none⟩ x6) base (fun _ => True) v l :=
  Kd.R_mono (Kd.R_move (Kd.R_bound h) (fun k hk => seven_other W (k := k) (g := g) (fun e => by
    obtain ⟨_, h1, h2, q, hq, cs', hc⟩ := hk
    have hq' : q = 93 := by simpa [k93, k23, Kd.iso, Kd.pair, Kd.E, Kd.string, Kd.int, Kd.bool, Kd.scalar] using hq
    subst hq'
    subst e
    rw [hg] at hc
    cases hc) x0 x1 x2 x3 x4 x5 x6)) (fun _ _ => trivial)
/-- What the last region reads: the way back (block gB), the path as it was at first (block F), from, to. -/
def E8 (w : World) (F gB : Nat) (a0_0 : ByteArray) (a0_1 : Int) (a1_0 : ByteArray) (a1_1 : Int) (l2 : List S23) (Av : Option Addr) (cv : Nat) (Ab : Option Addr) (cb : Nat) (W : World) : Prop :=
  W.heap[gB]? = some (.cells #[.string a0_0, .int .i64 a0_1, .string a1_0, .int .i64 a1_1, .bool false, .bool true, .slice Ab l2.length cb] 26 (0, 0)) ∧
  W.heap[F]? = some (.cells #[.string a1_0, .int .i64 a1_1, .string a0_0, .int .i64 a0_1, .bool true, .bool false, .slice Av l2.length cv] 26 (0, 0)) ∧
  W.heap[w.heap.size]? = some (.cells #[.string a0_0, .int .i64 a0_1] 23 (0, 0)) ∧ W.heap[w.heap.size + 1]? = some (.cells #[.string a1_0, .int .i64 a1_1] 23 (0, 0)) ∧
  Kd.R k93 93 W w.heap.size (fun _ => True) (.slice Ab l2.length cb) (bkD (dK l2 l2.length)) ∧ Kd.R k93 93 W w.heap.size (fun _ => True) (.slice Av l2.length cv) (l2.map mkF) ∧ Below w.heap.size w W
section
variable {w : World} {F gB : Nat} {a0_0 : ByteArray} {a0_1 : Int} {a1_0 : ByteArray} {a1_1 : Int} {l2 : List S23} {Av : Option Addr} {cv : Nat} {Ab : Option Addr} {cb : Nat}
theorem lt_of_blk {W : World} {g : Nat} {o : Obj} (h : W.heap[g]? = some o) : g < W.heap.size := (Array.getElem?_eq_some_iff.1 h).1
theorem E8_below {W W' : World} (h : E8 w F gB a0_0 a0_1 a1_0 a1_1 l2 Av cv Ab cb W) (hb : Below W.heap.size W W') : E8 w F gB a0_0 a0_1 a1_0 a1_1 l2 Av cv Ab cb W' := by
  obtain ⟨h1, h2, h3, h4, h5, h6, h7⟩ := h
  exact ⟨(hb.block _ (lt_of_blk h1)).trans h1, (hb.block _ (lt_of_blk h2)).trans h2, (hb.block _ (lt_of_blk h3)).trans h3, (hb.block _ (lt_of_blk h4)).trans h4, Kd.R_below h5 hb, Kd.R_below h6 hb, below_then h7 h7.size hb⟩
theorem E8_cells {W : World} (h : E8 w F gB a0_0 a0_1 a1_0 a1_1 l2 Av cv Ab cb W) :
    W.cell? ⟨gB, 0, none⟩ = some (.string a0_0) ∧ W.cell? ⟨gB, 1, none⟩ = some (.int .i64 a0_1) ∧ W.cell? ⟨gB, 2, none⟩ = some (.string a1_0) ∧ W.cell? ⟨gB, 3, none⟩ = some (.int .i64 a1_1) ∧ W.cell? ⟨gB, 4, none⟩ = some (.bool false) ∧ W.cell? ⟨gB, 5, none⟩ = some (.bool true) ∧ W.cell? ⟨gB, 6, none⟩ = some (.slice Ab l2.length cb) ∧
    W.cell? ⟨F, 0, none⟩ = some (.string a1_0) ∧ W.cell? ⟨F, 1, none⟩ = some (.int .i64 a1_1) ∧ W.cell? ⟨F, 2, none⟩ = some (.string a0_0) ∧ W.cell? ⟨F, 3, none⟩ = some (.int .i64 a0_1) ∧ W.cell? ⟨F, 4, none⟩ = some (.bool true) ∧ W.cell? ⟨F, 5, none⟩ = some (.bool false) ∧ W.cell? ⟨F, 6, none⟩ = some (.slice Av l2.length cv) ∧
    W.cell? ⟨w.heap.size, 0, none⟩ = some (.string a0_0) ∧ W.cell? ⟨w.heap.size, 1, none⟩ = some (.int .i64 a0_1) ∧ W.cell? ⟨w.heap.size + 1, 0, none⟩ = some (.string a1_0) ∧ W.cell? ⟨w.heap.size + 1, 1, none⟩ = some (.int .i64 a1_1) := by
  obtain ⟨h1, h2, h3, h4, h5, h6, h7⟩ := h
  obtain ⟨⟨b0, b1, b2, b3, b4, b5, b6⟩, _⟩ := seven_cell h1
  obtain ⟨⟨y0, y1, y2, y3, y4, y5, y6⟩, _⟩ := seven_cell h2
  obtain ⟨f0, f1, _, _⟩ := two_cellE h3
  obtain ⟨t0, t1, _, _⟩ := two_cellE h4
  exact ⟨b0, b1, b2, b3, b4, b5, b6, y0, y1, y2, y3, y4, y5, y6, f0, f1, t0, t1⟩
theorem E8_size {W : World} (h : E8 w F gB a0_0 a0_1 a1_0 a1_1 l2 Av cv Ab cb W) : w.heap.size ≤ W.heap.size := h.2.2.2.2.2.2.size
theorem E8_fr {W : World} (hc : l2.length ≤ cv) (h : E8 w F gB a0_0 a0_1 a1_0 a1_1 l2 Av cv Ab cb W) : l2.length ≤ cv ∧ Kd.R k93 93 W w.heap.size (fun _ => True) (.slice Av l2.length cv) (l2.map mkF) := ⟨hc, h.2.2.2.2.2.1⟩
theorem lbk : (bkD (dK l2 l2.length)).length = l2.length := by rw [bkD_len, dK_len]
theorem E8_resp (hc : l2.length ≤ cb) (W : World) (h : E8 w F gB a0_0 a0_1 a1_0 a1_1 l2 Av cv Ab cb W) :
    Calls Tryd.prog 26 #[.agg #[.string a0_0, .int .i64 a0_1, .string a1_0, .int .i64 a1_1, .bool false, .bool true, .slice Ab l2.length cb]] W fun e w' => e = .returned (.bool true) ∧ Below W.heap.size W w' := by
  have hr := Kd.R_reads' h.2.2.2.2.1
  have := path_Response.calls a0_0 a0_1 a1_0 a1_1 false true Ab cb (bkD (dK l2 l2.length)) true W hr.2.2 (by rw [lbk]; exact hc) rfl
  rw [lbk] at this
  exact this
theorem E8_back (hc : l2.length ≤ cb) (hl : l2.length ≤ 30) (W : World) (h : E8 w F gB a0_0 a0_1 a1_0 a1_1 l2 Av cv Ab cb W) :
    Calls Tryd.prog 22 #[.agg #[.string a0_0, .int .i64 a0_1, .string a1_0, .int .i64 a1_1, .bool false, .bool true, .slice Ab l2.length cb]] W fun e w' => ∃ A c, e = .returned (.agg #[.string a1_0, .int .i64 a1_1, .string a0_0, .int .i64 a0_1, .bool true, .bool false, .slice A l2.length c]) ∧
      (l2.length ≤ c ∧ Kd.R k93 93 w' w.heap.size (fun _ => True) (.slice A l2.length c) (l2.map mkF)) ∧ Below W.heap.size W w' := by
  have hr := Kd.R_reads' h.2.2.2.2.1
  have hB := h.2.2.2.2.2.2
  have := path_Back.calls a0_0 a0_1 a1_0 a1_1 false true Ab cb (bkD (dK l2 l2.length)) _ _ _ _ _ _ _ W hr.2.2 (by rw [lbk]; exact hc) (back_c2 a0_0 a0_1 a1_0 a1_1 (bkD (dK l2 l2.length)) (by rw [lbk]; exact hl))
  rw [lbk] at this
  refine this.mono ?_
  rintro e w' ⟨v, rfl, ho, hb⟩
  rw [bk_bk] at ho
  obtain ⟨A, c, rfl, hle⟩ := Kd.R_reads ho
  rw [List.length_map] at ho hle ⊢
  exact ⟨A, c, rfl, ⟨hle.1, Kd.R_lower ho hB.size⟩, hb⟩
def PL8 (a0_0 : ByteArray) (a0_1 : Int) (a1_0 : ByteArray) (a1_1 : Int) (l2 : List S23) : List S37 := ⟨⟨a1_0, a1_1⟩, true⟩ :: ⟨⟨a0_0, a0_1⟩, false⟩ :: (l2.map mkF).map Pure.mk37
theorem PL8_len : (PL8 a0_0 a0_1 a1_0 a1_1 l2).length = l2.length + 2 := by simp [PL8]
theorem E8_plain (hl : l2.length ≤ 30) (A : Option Addr) (c : Nat) (W : World) (hB : w.heap.size ≤ W.heap.size) (hr : l2.length ≤ c ∧ Kd.R k93 93 W w.heap.size (fun _ => True) (.slice A l2.length c) (l2.map mkF)) :
    Calls Tryd.prog 17 #[.agg #[.string a1_0, .int .i64 a1_1, .string a0_0, .int .i64 a0_1, .bool true, .bool false, .slice A l2.length c]] W fun e w' => ∃ A' c', e = .returned (.agg #[.slice A' (l2.length + 2) c']) ∧
      (l2.length + 2 ≤ c' ∧ Kd.R k37 37 w' w.heap.size (fun _ => True) (.slice A' (l2.length + 2) c') (PL8 a0_0 a0_1 a1_0 a1_1 l2)) ∧ Below W.heap.size W w' := by
  have hr' := Kd.R_reads' hr.2
  have := squelchlaw05_Plain.calls 60 a1_0 a1_1 a0_0 a0_1 true false A c (l2.map mkF) _ W hr'.2.2 (by rw [List.length_map]; exact hr.1) (Pure.plain_f a1_0 a1_1 a0_0 a0_1 true false (l2.map mkF) (by rw [List.length_map]; omega) 60 (by rw [List.length_map]; omega))
  rw [List.length_map] at this
  refine this.mono ?_
  rintro e w' ⟨v, rfl, ho, hb⟩
  obtain ⟨A', c', rfl, hle⟩ := Kd.R_reads ho
  have hlen : (({ f0 := { f0 := a1_0, f1 := a1_1 }, f1 := true } : S37) :: ({ f0 := { f0 := a0_0, f1 := a0_1 }, f1 := false } : S37) :: List.map Pure.mk37 (List.map mkF l2)).length = l2.length + 2 := by simp
  rw [hlen] at ho hle ⊢
  exact ⟨A', c', rfl, ⟨hle.1, Kd.R_lower ho hB⟩, hb⟩
theorem E8_same (hl : l2.length ≤ 30) (A : Option Addr) (c : Nat) (A' : Option Addr) (c' : Nat) (W : World) (hr : l2.length + 2 ≤ c ∧ Kd.R k37 37 W w.heap.size (fun _ => True) (.slice A (l2.length + 2) c) (PL8 a0_0 a0_1 a1_0 a1_1 l2)) (hr' : l2.length + 2 ≤ c' ∧ Kd.R k37 37 W w.heap.size (fun _ => True) (.slice A' (l2.length + 2) c') (PL8 a0_0 a0_1 a1_0 a1_1 l2)) :
    Calls Tryd.prog 23 #[.agg #[.slice A (l2.length + 2) c], .agg #[.slice A' (l2.length + 2) c']] W fun e w' => e = .returned (.bool true) ∧ Below W.heap.size W w' := by
  have := squelchref05_Same.calls 60 A c (PL8 a0_0 a0_1 a1_0 a1_1 l2) A' c' (PL8 a0_0 a0_1 a1_0 a1_1 l2) true W (Kd.R_reads' hr.2).2.2 (by rw [PL8_len]; exact hr.1) (Kd.R_reads' hr'.2).2.2 (by rw [PL8_len]; exact hr'.1) (Pure.same_f _ (by rw [PL8_len]; omega) 60 (by rw [PL8_len]; omega))
  rw [PL8_len] at this
  exact this
end
def squelchlaw05_PathEight.f (a0_0 : ByteArray) (a0_1 : Int) (a1_0 : ByteArray) (a1_1 : Int) (l2 : List S23) : Option Bool :=
  if (!(decide (l2.length ≤ 30)) || sizesOk a1_0 a0_0 (l2.map mkF)) = true then some true else none
set_option maxHeartbeats 40000000 in
set_option maxRecDepth 100000 in
theorem squelchlaw05_PathEight.calls (a0_0 : ByteArray) (a0_1 : Int) (a1_0 : ByteArray) (a1_1 : Int) (A2 : Option Addr) (c2 : Nat) (l2 : List (S23)) (r : Bool) (w : World) (hT_ : r = true) (hr2 : Kd.C k23 w A2 l2.length l2) (hc2 : l2.length ≤ c2) (h : squelchlaw05_PathEight.f a0_0 a0_1 a1_0 a1_1 l2 = some r) :
    Calls Tryd.prog 4 #[.agg #[.string a0_0, .int .i64 a0_1], .agg #[.string a1_0, .int .i64 a1_1], .slice A2 l2.length c2] w fun e w' => e = .returned (.bool r) ∧ Below w.heap.size w w' := by
  subst hT_
  unfold squelchlaw05_PathEight.f at h
  split at h
  case isFalse => cases h
  rename_i hs
  have HS := Aside0.mk hs
  have HC := Aside0.mk hr2
  clear hr2 h hs
  have hu26 := Tryd.underlying26
  have hu23 := Tryd.underlying23
  by_cases hl : l2.length ≤ 30
  · have HL := Aside0.mk hl
    have hs := HS.out
    rw [decide_eq_true hl] at hs
    have hs : sizesOk a1_0 a0_0 (l2.map mkF) = true := hs
    have HSZ := Aside0.mk hs
    have HV := Aside0.mk (via_f a0_0 a0_1 a1_0 a1_1 l2 hl hs)
    have hgt : decide ((l2.length : Int) > 30) = false := decide_eq_false (by omega)
    clear hs HS
    go_enter Tryd.func4, Tryd.ntmps4
    go_wp2_with (fail)
    have hF := (Below.heap_alloc (w.alloc (.cells #[.string a0_0, .int .i64 a0_1] 23)) (.cells #[.string a1_0, .int .i64 a1_1] 23) w.heap.size (by simp)).trans (heap_alloc_new w (.cells #[.string a0_0, .int .i64 a0_1] 23))
    have hT := heap_alloc_new (w.alloc (.cells #[.string a0_0, .int .i64 a0_1] 23)) (.cells #[.string a1_0, .int .i64 a1_1] 23)
    rw [World.size_alloc] at hT
    have hB := ((Below.refl w.heap.size w).alloc (Nat.le_refl _) (.cells #[.string a0_0, .int .i64 a0_1] 23)).alloc (by simp) (.cells #[.string a1_0, .int .i64 a1_1] 23)
    have hz : w.heap.size + 2 ≤ ((w.alloc (.cells #[.string a0_0, .int .i64 a0_1] 23)).alloc (.cells #[.string a1_0, .int .i64 a1_1] 23)).heap.size := by simp
    generalize (w.alloc (.cells #[.string a0_0, .int .i64 a0_1] 23)).alloc (.cells #[.string a1_0, .int .i64 a1_1] 23) = w1 at hF hT hB hz ⊢
    refine (squelchlaw05_awake.calls true w1 rfl).mono ?_
    rintro e w2 ⟨rfl, hb⟩
    have HF2 := Aside0.mk ((hb.block _ (by omega)).trans hF)
    have HT2 := Aside0.mk ((hb.block _ (by omega)).trans hT)
    have HB2 := Aside0.mk (below_then hB hB.size hb)
    have hz2 : w.heap.size + 2 ≤ w2.heap.size := by have := hb.size; omega
    obtain ⟨f0, f1, _, _⟩ := two_cellE HF2.out
    obtain ⟨t0, t1, _, _⟩ := two_cellE HT2.out
    clear hF hT hB hz hb
    go_wp2_with (fail)
    cases hp : pathB a1_0 a1_1 a0_0 a0_1 (l2.map mkF) with
    | false =>
      have hv := HV.out
      rw [hp, if_neg (by simp)] at hv
      refine (path_Via.calls 40 a0_0 a0_1 a1_0 a1_1 true A2 c2 l2 _ _ _ _ _ _ _ _ w2 (Kd.C_below HC.out HB2.out) hc2 hv).mono ?_
      rintro e w3 ⟨v6, rfl, ho, hb⟩
      obtain ⟨Av, cv, rfl, hle⟩ := Kd.R_reads ho
      have HB3 := Aside0.mk (below_then HB2.out HB2.out.size hb)
      clear ho hb hle HV hv f0 f1 t0 t1
      go_wp2_with (fail)
      go_ret
      exact ⟨rfl, HB3.out.alloc HB3.out.size _⟩
    | true =>
      have hv := HV.out
      rw [hp, if_pos rfl] at hv
      refine (path_Via.calls 40 a0_0 a0_1 a1_0 a1_1 true A2 c2 l2 _ _ _ _ _ _ _ _ w2 (Kd.C_below HC.out HB2.out) hc2 hv).mono ?_
      rintro e w3 ⟨v6, rfl, ho, hb⟩
      have HP := Aside0.mk hp
      have h8 : l2.length ≤ 8 := by
        have h' := hp
        unfold pathB ordB at h'
        simp only [Bool.and_eq_true, decide_eq_true_eq, List.length_map] at h'
        exact h'.2.2.2.2
      have hgt8 : decide ((l2.length : Int) > 8) = false := decide_eq_false (by omega)
      have HO3 := Aside0.mk (Kd.R_lower ho HB2.out.size)
      obtain ⟨Av, cv, rfl, hle⟩ := Kd.R_reads ho
      have HCV := Aside0.mk hle
      rw [List.length_map]
      have HB3 := Aside0.mk (below_then HB2.out HB2.out.size hb)
      have HF3 := Aside0.mk ((hb.block _ (by omega)).trans HF2.out)
      have HT3 := Aside0.mk ((hb.block _ (by omega)).trans HT2.out)
      have hz3 : w.heap.size + 2 ≤ w3.heap.size := by have := hb.size; omega
      clear ho hb hle HV hv f0 f1 t0 t1 hp HF2 HT2 HB2 hz2
      go_wp2_with (fail)
      have hP := (Below.heap_alloc (w3.alloc (.cells #[.string a1_0, .int .i64 a1_1, .string a0_0, .int .i64 a0_1, .bool true, .bool false, .slice Av l2.length cv] 26)) (.cells #[.string a1_0, .int .i64 a1_1, .string a0_0, .int .i64 a0_1, .bool true, .bool false, .slice Av l2.length cv] 26) w3.heap.size (by simp)).trans (heap_alloc_new w3 (.cells #[.string a1_0, .int .i64 a1_1, .string a0_0, .int .i64 a0_1, .bool true, .bool false, .slice Av l2.length cv] 26))
      have hFr := heap_alloc_new (w3.alloc (.cells #[.string a1_0, .int .i64 a1_1, .string a0_0, .int .i64 a0_1, .bool true, .bool false, .slice Av l2.length cv] 26)) (.cells #[.string a1_0, .int .i64 a1_1, .string a0_0, .int .i64 a0_1, .bool true, .bool false, .slice Av l2.length cv] 26)
      rw [World.size_alloc] at hFr
      have hB5 := (HB3.out.alloc HB3.out.size (.cells #[.string a1_0, .int .i64 a1_1, .string a0_0, .int .i64 a0_1, .bool true, .bool false, .slice Av l2.length cv] 26)).alloc (by simp; omega) (.cells #[.string a1_0, .int .i64 a1_1, .string a0_0, .int .i64 a0_1, .bool true, .bool false, .slice Av l2.length cv] 26)
      have hk5 : Below w3.heap.size w3 ((w3.alloc (.cells #[.string a1_0, .int .i64 a1_1, .string a0_0, .int .i64 a0_1, .bool true, .bool false, .slice Av l2.length cv] 26)).alloc (.cells #[.string a1_0, .int .i64 a1_1, .string a0_0, .int .i64 a0_1, .bool true, .bool false, .slice Av l2.length cv] 26)) := ((Below.refl _ _).alloc (Nat.le_refl _) _).alloc (by simp) _
      have hz5 : ((w3.alloc (.cells #[.string a1_0, .int .i64 a1_1, .string a0_0, .int .i64 a0_1, .bool true, .bool false, .slice Av l2.length cv] 26)).alloc (.cells #[.string a1_0, .int .i64 a1_1, .string a0_0, .int .i64 a0_1, .bool true, .bool false, .slice Av l2.length cv] 26)).heap.size = w3.heap.size + 2 := by simp
      have hle3 : (List.map mkF l2).length ≤ cv := HCV.out.1
      rw [List.length_map] at hle3
      have HO3' := HO3.out
      rw [List.length_map] at HO3'
      have HR5 := Aside0.mk (Kd.R_below HO3' hk5)
      have HF5 := Aside0.mk ((hk5.block _ (by omega)).trans HF3.out)
      have HT5 := Aside0.mk ((hk5.block _ (by omega)).trans HT3.out)
      have HP5 := Aside0.mk hP
      have HFr5 := Aside0.mk hFr
      have HB5 := Aside0.mk hB5
      generalize (w3.alloc (.cells #[.string a1_0, .int .i64 a1_1, .string a0_0, .int .i64 a0_1, .bool true, .bool false, .slice Av l2.length cv] 26)).alloc (.cells #[.string a1_0, .int .i64 a1_1, .string a0_0, .int .i64 a0_1, .bool true, .bool false, .slice Av l2.length cv] 26) = w5 at HR5 HF5 HT5 HP5 HFr5 HB5 hz5 ⊢
      clear hP hFr hB5 hk5 HO3' HO3 HCV HB3 HF3 HT3
      go_loopw [11, 12, 13, 53] (fun v11 v12 v13 v53 wr => ∃ (k : Nat) (A : Option Addr) (c : Nat), k ≤ l2.length ∧ v53 = .int .i64 k ∧ Aside0 (wr.heap[w3.heap.size]? = some (.cells #[.string a1_0, .int .i64 a1_1, .string a0_0, .int .i64 a0_1, .bool true, .bool false, .slice A l2.length c] 26 (0, 0))) ∧ Aside0 (Kd.R k93 93 wr w.heap.size (fun _ => True) (.slice A l2.length c) (dK l2 k)) ∧
          Aside0 (wr.heap[w3.heap.size + 1]? = some (.cells #[.string a1_0, .int .i64 a1_1, .string a0_0, .int .i64 a0_1, .bool true, .bool false, .slice Av l2.length cv] 26 (0, 0))) ∧ Aside0 (Kd.R k93 93 wr w.heap.size (fun _ => True) (.slice Av l2.length cv) (l2.map mkF)) ∧
          Aside0 (wr.heap[w.heap.size]? = some (.cells #[.string a0_0, .int .i64 a0_1] 23 (0, 0))) ∧ Aside0 (wr.heap[w.heap.size + 1]? = some (.cells #[.string a1_0, .int .i64 a1_1] 23 (0, 0))) ∧ Aside0 (Below w.heap.size w wr) ∧ w3.heap.size + 2 ≤ wr.heap.size)
          (fun v11 v12 v13 v53 _ => l2.length - (intOf v53).toNat)
      case atStart =>
        exact ⟨0, Av, cv, Nat.zero_le _, rfl, HP5, ⟨by rw [dK_zero]; exact HR5.out⟩, HFr5, HR5, HF5, HT5, HB5, by omega⟩
      case round =>
        clear HR5 HF5 HT5 HP5 HFr5 HB5 hz5
        obtain ⟨k, A, c, hk, rfl, HPp, HPr, HFp, HFr, HF, HT, HB, hz⟩ := hrel
        by_cases hlt : k < l2.length
        · obtain ⟨ad, rfl, x0, x1⟩ := at_T23 (Kd.C_below HC.out (HB.out)) k (by omega) (by omega)
          simp only [Int.toNat_natCast] at x0 x1
          obtain ⟨⟨q0, q1, q2, q3, q4, q5, q6⟩, _⟩ := seven_cell ((Below.heap_alloc wr (.cells #[.string (rd_T23 l2 (k : Int)).f0, .int .i64 (rd_T23 l2 (k : Int)).f1] 23) w3.heap.size (by omega)).trans HPp.out)
          have hnx := path_Next.calls a1_0 a1_1 a0_0 a0_1 true false A c (dK l2 k) _ _ _ (wr.alloc (.cells #[.string (rd_T23 l2 (k : Int)).f0, .int .i64 (rd_T23 l2 (k : Int)).f1] 23)) (Kd.C_below (Kd.R_reads' HPr.out).2.2 ((Below.refl _ _).alloc (Nat.le_refl _) _)) (by rw [dK_len]; exact (Kd.R_reads' HPr.out).2.1) (nextc a1_0 a1_1 a0_0 a0_1 true false l2 HL.out k hlt)
          rw [dK_len] at hnx
          have HNX := Aside0.mk hnx
          clear hnx
          go_wp2_with (fail)
          refine HNX.out.mono ?_
          rintro e w6 ⟨rfl, hb⟩
          have hd := hb.size
          simp only [World.size_alloc] at hd
          have HD := Aside0.mk ((hb.block wr.heap.size (by simp)).trans (heap_alloc_new wr (.cells #[.string (rd_T23 l2 (k : Int)).f0, .int .i64 (rd_T23 l2 (k : Int)).f1] 23)))
          have hbA : Below wr.heap.size wr w6 := below_then ((Below.refl _ _).alloc (Nat.le_refl _) _) (by simp) hb
          have HPp6 := Aside0.mk ((hbA.block _ (by omega)).trans HPp.out)
          have HPr6 := Aside0.mk (Kd.R_below HPr.out hbA)
          have HFp6 := Aside0.mk ((hbA.block _ (by omega)).trans HFp.out)
          have HFr6 := Aside0.mk (Kd.R_below HFr.out hbA)
          have HF6 := Aside0.mk ((hbA.block _ (by omega)).trans HF.out)
          have HT6 := Aside0.mk ((hbA.block _ (by omega)).trans HT.out)
          have HB6 := Aside0.mk (below_then HB.out HB.out.size hbA)
          clear hb hbA HNX HPp HPr HFp HFr HF HT HB q0 q1 q2 q3 q4 q5 q6 x0 x1
          obtain ⟨⟨q0, q1, q2, q3, q4, q5, q6⟩, _⟩ := seven_cell ((Below.heap_alloc w6 (.cells #[.string (rd_T23 l2 (k : Int)).f0, .int .i64 (rd_T23 l2 (k : Int)).f1] 23) w3.heap.size (by omega)).trans HPp6.out)
          obtain ⟨d0, d1, _, _⟩ := two_cellE ((Below.heap_alloc w6 (.cells #[.string (rd_T23 l2 (k : Int)).f0, .int .i64 (rd_T23 l2 (k : Int)).f1] 23) wr.heap.size (by omega)).trans HD.out)
          have hst := path_Sent.calls a1_0 a1_1 a0_0 a0_1 true false A c (dK l2 k) _ _ _ _ _ _ _ _ (w6.alloc (.cells #[.string (rd_T23 l2 (k : Int)).f0, .int .i64 (rd_T23 l2 (k : Int)).f1] 23)) (Kd.C_below (Kd.R_reads' HPr6.out).2.2 ((Below.refl _ _).alloc (Nat.le_refl _) _)) (by rw [dK_len]; exact (Kd.R_reads' HPr6.out).2.1) (sentc a1_0 a1_1 a0_0 a0_1 true false l2 HL.out k hlt)
          rw [dK_len] at hst
          have HST := Aside0.mk hst
          clear hst
          go_wp2_with (fail)
          refine HST.out.mono ?_
          rintro e w7 ⟨v7, rfl, ho, hb⟩
          have hd7 := hb.size
          simp only [World.size_alloc] at hd7
          have hbA : Below w6.heap.size w6 w7 := below_then ((Below.refl _ _).alloc (Nat.le_refl _) _) (by simp) hb
          obtain ⟨A', c', rfl, hle⟩ := Kd.R_reads ho
          have HLE := Aside0.mk (show l2.length ≤ c' by have := hle.1; rw [dK_len] at this; exact this)
          rw [dK_len] at ho
          have HPr7 := Aside0.mk (Kd.R_lower ho (base' := w.heap.size) (by have := HB6.out.size; simp; omega))
          rw [dK_len]
          have HPp7 := Aside0.mk ((hbA.block _ (by omega)).trans HPp6.out)
          have HFp7 := Aside0.mk ((hbA.block _ (by omega)).trans HFp6.out)
          have HFr7 := Aside0.mk (Kd.R_below HFr6.out hbA)
          have HF7 := Aside0.mk ((hbA.block _ (by omega)).trans HF6.out)
          have HT7 := Aside0.mk ((hbA.block _ (by omega)).trans HT6.out)
          have HB7 := Aside0.mk (below_then HB6.out HB6.out.size hbA)
          clear hb hbA HST HPp6 HPr6 HFp6 HFr6 HF6 HT6 HB6 HD q0 q1 q2 q3 q4 q5 q6 d0 d1 ho hle
          obtain ⟨⟨q0, q1, q2, q3, q4, q5, q6⟩, p0, p1, p2, p3, p4, p5, p6⟩ := seven_cell HPp7.out
          go_wp2_with (fail)
          have hP8 := seven_set HPp7.out (x0 := .string a1_0) (x1 := .int .i64 a1_1) (x2 := .string a0_0) (x3 := .int .i64 a0_1) (x4 := .bool true) (x5 := .bool false) (x6 := .slice A' l2.length c')
          have hFp8 := (seven_other w7 (show w3.heap.size + 1 ≠ w3.heap.size by omega) (.string a1_0) (.int .i64 a1_1) (.string a0_0) (.int .i64 a0_1) (.bool true) (.bool false) (.slice A' l2.length c')).trans HFp7.out
          have hF8 := (seven_other w7 (show w.heap.size ≠ w3.heap.size by omega) (.string a1_0) (.int .i64 a1_1) (.string a0_0) (.int .i64 a0_1) (.bool true) (.bool false) (.slice A' l2.length c')).trans HF7.out
          have hT8 := (seven_other w7 (show w.heap.size + 1 ≠ w3.heap.size by omega) (.string a1_0) (.int .i64 a1_1) (.string a0_0) (.int .i64 a0_1) (.bool true) (.bool false) (.slice A' l2.length c')).trans HT7.out
          have hB8 := seven_below HB7.out (g := w3.heap.size) (by omega) (.string a1_0) (.int .i64 a1_1) (.string a0_0) (.int .i64 a0_1) (.bool true) (.bool false) (.slice A' l2.length c')
          have hPr8 := R_set26 HPr7.out HPp7.out (.string a1_0) (.int .i64 a1_1) (.string a0_0) (.int .i64 a0_1) (.bool true) (.bool false) (.slice A' l2.length c')
          have hFr8 := R_set26 HFr7.out HPp7.out (.string a1_0) (.int .i64 a1_1) (.string a0_0) (.int .i64 a0_1) (.bool true) (.bool false) (.slice A' l2.length c')
          have hz8 : (((((((w7.setCell { block := w3.heap.size, off := 0 } (Value.string a1_0)).setCell { block := w3.heap.size, off := 1 } (Value.int IntKind.i64 a1_1)).setCell { block := w3.heap.size, off := 2 } (Value.string a0_0)).setCell { block := w3.heap.size, off := 3 } (Value.int IntKind.i64 a0_1)).setCell { block := w3.heap.size, off := 4 } (Value.bool true)).setCell { block := w3.heap.size, off := 5 } (Value.bool false)).setCell { block := w3.heap.size, off := 6 } (Value.slice A' l2.length c')).heap.size = w7.heap.size := by simp
          revert hP8 hFp8 hF8 hT8 hB8 hPr8 hFr8 hz8
          generalize ((((((w7.setCell { block := w3.heap.size, off := 0 } (Value.string a1_0)).setCell { block := w3.heap.size, off := 1 } (Value.int IntKind.i64 a1_1)).setCell { block := w3.heap.size, off := 2 } (Value.string a0_0)).setCell { block := w3.heap.size, off := 3 } (Value.int IntKind.i64 a0_1)).setCell { block := w3.heap.size, off := 4 } (Value.bool true)).setCell { block := w3.heap.size, off := 5 } (Value.bool false)).setCell { block := w3.heap.size, off := 6 } (Value.slice A' l2.length c') = w8
          intro hP8 hFp8 hF8 hT8 hB8 hPr8 hFr8 hz8
          have hrt := path_Right.calls a1_0 a1_1 a0_0 a0_1 true false A' c' (dK l2 (k + 1)) true w8 (Kd.R_reads' hPr8).2.2 (by rw [dK_len]; exact HLE.out) (rightc a1_0 a1_1 a0_0 a0_1 true false l2 (k + 1) HSZ.out HP.out)
          rw [dK_len] at hrt
          refine hrt.mono ?_
          rintro e w9 ⟨rfl, hb⟩
          have hd9 := hb.size
          have HE := Aside0.mk (show Aside0 (w9.heap[w3.heap.size]? = some (.cells #[.string a1_0, .int .i64 a1_1, .string a0_0, .int .i64 a0_1, .bool true, .bool false, .slice A' l2.length c'] 26 (0, 0))) ∧ Aside0 (Kd.R k93 93 w9 w.heap.size (fun _ => True) (.slice A' l2.length c') (dK l2 (k + 1))) ∧
            Aside0 (w9.heap[w3.heap.size + 1]? = some (.cells #[.string a1_0, .int .i64 a1_1, .string a0_0, .int .i64 a0_1, .bool true, .bool false, .slice Av l2.length cv] 26 (0, 0))) ∧ Aside0 (Kd.R k93 93 w9 w.heap.size (fun _ => True) (.slice Av l2.length cv) (l2.map mkF)) ∧
            Aside0 (w9.heap[w.heap.size]? = some (.cells #[.string a0_0, .int .i64 a0_1] 23 (0, 0))) ∧ Aside0 (w9.heap[w.heap.size + 1]? = some (.cells #[.string a1_0, .int .i64 a1_1] 23 (0, 0))) ∧ Aside0 (Below w.heap.size w w9) ∧ w3.heap.size + 2 ≤ w9.heap.size from
              ⟨⟨(hb.block _ (by omega)).trans hP8⟩, ⟨Kd.R_below hPr8 hb⟩, ⟨(hb.block _ (by omega)).trans hFp8⟩, ⟨Kd.R_below hFr8 hb⟩, ⟨(hb.block _ (by omega)).trans hF8⟩, ⟨(hb.block _ (by omega)).trans hT8⟩, ⟨below_then hB8 hB8.size hb⟩, by omega⟩)
          clear hrt hb hP8 hFp8 hF8 hT8 hB8 hPr8 hFr8 hz8 HPp7 HPr7 HFp7 HFr7 HF7 HT7 HB7 q0 q1 q2 q3 q4 q5 q6 p0 p1 p2 p3 p4 p5 p6
          have HW := Aside0.mk (show wrap64 ((k : Int) + 1) = ((k + 1 : Nat) : Int) by unfold wrap64; omega)
          go_wp2_with (fail)
          try rw [HW.out]
          exact ⟨⟨k + 1, A', c', by omega, by first | rfl | (congr 1), HE.out⟩, by simp only [intOf]; omega⟩
        · obtain rfl : k = l2.length := by omega
          obtain ⟨⟨q0, q1, q2, q3, q4, q5, q6⟩, _⟩ := seven_cell HPp.out
          have hnx := path_Next.calls a1_0 a1_1 a0_0 a0_1 true false A c (dK l2 l2.length) _ _ _ wr (Kd.R_reads' HPr.out).2.2 (by rw [dK_len]; exact (Kd.R_reads' HPr.out).2.1) (nextc_all a1_0 a1_1 a0_0 a0_1 true false l2 HL.out)
          rw [dK_len] at hnx
          have HNX := Aside0.mk hnx
          clear hnx
          go_wp2_with (fail)
          refine HNX.out.mono ?_
          rintro e w6 ⟨rfl, hb⟩
          have hd := hb.size
          have HPp6 := Aside0.mk ((hb.block _ (by omega)).trans HPp.out)
          have HPr6 := Aside0.mk (Kd.R_below HPr.out hb)
          have HFp6 := Aside0.mk ((hb.block _ (by omega)).trans HFp.out)
          have HFr6 := Aside0.mk (Kd.R_below HFr.out hb)
          have HF6 := Aside0.mk ((hb.block _ (by omega)).trans HF.out)
          have HT6 := Aside0.mk ((hb.block _ (by omega)).trans HT.out)
          have HB6 := Aside0.mk (below_then HB.out HB.out.size hb)
          clear hb HNX HPp HPr HFp HFr HF HT HB q0 q1 q2 q3 q4 q5 q6
          obtain ⟨⟨q0, q1, q2, q3, q4, q5, q6⟩, _⟩ := seven_cell ((Below.heap_alloc w6 (.cells #[.string (⟨#[]⟩ : ByteArray), .int .i64 0] 23) w3.heap.size (by omega)).trans HPp6.out)
          have hst := path_Sent.calls a1_0 a1_1 a0_0 a0_1 true false A c (dK l2 l2.length) _ _ _ _ _ _ _ _ (w6.alloc (.cells #[.string (⟨#[]⟩ : ByteArray), .int .i64 0] 23)) (Kd.C_below (Kd.R_reads' HPr6.out).2.2 ((Below.refl _ _).alloc (Nat.le_refl _) _)) (by rw [dK_len]; exact (Kd.R_reads' HPr6.out).2.1) (sentc_all a1_0 a1_1 a0_0 a0_1 true false l2 HL.out)
          rw [dK_len] at hst
          have HST := Aside0.mk hst
          clear hst
          go_wp2_with (fail)
          refine HST.out.mono ?_
          rintro e w7 ⟨v7, rfl, ho, hb⟩
          have hd7 := hb.size
          simp only [World.size_alloc] at hd7
          have hbA : Below w6.heap.size w6 w7 := below_then ((Below.refl _ _).alloc (Nat.le_refl _) _) (by simp) hb
          obtain ⟨A', c', rfl, hle⟩ := Kd.R_reads ho
          rw [dK_len]
          have HPp7 := Aside0.mk ((hbA.block _ (by omega)).trans HPp6.out)
          have HPr7 := Aside0.mk (Kd.R_below HPr6.out hbA)
          have HFp7 := Aside0.mk ((hbA.block _ (by omega)).trans HFp6.out)
          have HFr7 := Aside0.mk (Kd.R_below HFr6.out hbA)
          have HF7 := Aside0.mk ((hbA.block _ (by omega)).trans HF6.out)
          have HT7 := Aside0.mk ((hbA.block _ (by omega)).trans HT6.out)
          have HB7 := Aside0.mk (below_then HB6.out HB6.out.size hbA)
          clear hb hbA HST HPp6 HPr6 HFp6 HFr6 HF6 HT6 HB6 q0 q1 q2 q3 q4 q5 q6 ho hle
          obtain ⟨⟨q0, q1, q2, q3, q4, q5, q6⟩, _⟩ := seven_cell ((Below.heap_alloc w7 (.cells #[.string a1_0, .int .i64 a1_1, .string a0_0, .int .i64 a0_1, .bool true, .bool false, .slice A' l2.length c'] 26) w3.heap.size (by omega)).trans HPp7.out)
          have hbk := path_Back.calls a1_0 a1_1 a0_0 a0_1 true false A c (dK l2 l2.length) _ _ _ _ _ _ _ (w7.alloc (.cells #[.string a1_0, .int .i64 a1_1, .string a0_0, .int .i64 a0_1, .bool true, .bool false, .slice A' l2.length c'] 26)) (Kd.C_below (Kd.R_reads' HPr7.out).2.2 ((Below.refl _ _).alloc (Nat.le_refl _) _)) (by rw [dK_len]; exact (Kd.R_reads' HPr7.out).2.1) (back_c1 a1_0 a1_1 a0_0 a0_1 (dK l2 l2.length) (by rw [dK_len]; exact HL.out))
          rw [dK_len] at hbk
          have HBK := Aside0.mk hbk
          clear hbk
          go_wp2_with (fail)
          refine HBK.out.mono ?_
          rintro e w8 ⟨v8, rfl, ho, hb⟩
          have hd8 := hb.size
          simp only [World.size_alloc] at hd8
          have hbA : Below w7.heap.size w7 w8 := below_then ((Below.refl _ _).alloc (Nat.le_refl _) _) (by simp) hb
          obtain ⟨Ab, cb, rfl, hle⟩ := Kd.R_reads ho
          have hlb : (bkD (dK l2 l2.length)).length = l2.length := by rw [bkD_len, dK_len]
          have HCb := Aside0.mk (show l2.length ≤ cb by have := hle.1; rw [hlb] at this; exact this)
          rw [hlb] at ho ⊢
          have HR8 := Aside0.mk (Kd.R_lower ho (base' := w.heap.size) (by have := HB7.out.size; simp; omega))
          have HFp8 := Aside0.mk ((hbA.block _ (by omega)).trans HFp7.out)
          have HFr8 := Aside0.mk (Kd.R_below HFr7.out hbA)
          have HF8 := Aside0.mk ((hbA.block _ (by omega)).trans HF7.out)
          have HT8 := Aside0.mk ((hbA.block _ (by omega)).trans HT7.out)
          have HB8 := Aside0.mk (below_then HB7.out HB7.out.size hbA)
          clear hb hbA HBK HPp7 HPr7 HFp7 HFr7 HF7 HT7 HB7 q0 q1 q2 q3 q4 q5 q6 ho hle hlb
          go_wp2_with (fail)
          have hk9 : Below w8.heap.size w8 (w8.alloc (.cells #[.string a0_0, .int .i64 a0_1, .string a1_0, .int .i64 a1_1, .bool false, .bool true, .slice Ab l2.length cb] 26)) := (Below.refl _ _).alloc (Nat.le_refl _) _
          have HE := Aside0.mk (show E8 w (w3.heap.size + 1) w8.heap.size a0_0 a0_1 a1_0 a1_1 l2 Av cv Ab cb (w8.alloc (.cells #[.string a0_0, .int .i64 a0_1, .string a1_0, .int .i64 a1_1, .bool false, .bool true, .slice Ab l2.length cb] 26)) from
            ⟨heap_alloc_new w8 _, (hk9.block _ (by omega)).trans HFp8.out, (hk9.block _ (by omega)).trans HF8.out, (hk9.block _ (by omega)).trans HT8.out, Kd.R_below HR8.out hk9, Kd.R_below HFr8.out hk9, HB8.out.alloc HB8.out.size _⟩)
          have HQ := Aside0.mk (⟨HL.out, HCb.out, hle3⟩ : l2.length ≤ 30 ∧ l2.length ≤ cb ∧ l2.length ≤ cv)
          have hzz : w.heap.size ≤ w8.heap.size := HB8.out.size
          generalize w8.alloc (.cells #[.string a0_0, .int .i64 a0_1, .string a1_0, .int .i64 a1_1, .bool false, .bool true, .slice Ab l2.length cb] 26) = w9 at HE ⊢
          clear hk9 HFp8 HF8 HT8 HR8 HFr8 HB8 hd hd7 hd8 hz hk hlt HP h8 hgt8 hgt hle3 hz3 HCb HC hc2 hs HSZ hl
          have CResp := E8_resp (w := w) (F := w3.heap.size + 1) (gB := w8.heap.size) (a0_0 := a0_0) (a0_1 := a0_1) (a1_0 := a1_0) (a1_1 := a1_1) (l2 := l2) (Av := Av) (cv := cv) (Ab := Ab) (cb := cb) HQ.out.2.1
          have CBack := E8_back (w := w) (F := w3.heap.size + 1) (gB := w8.heap.size) (a0_0 := a0_0) (a0_1 := a0_1) (a1_0 := a1_0) (a1_1 := a1_1) (l2 := l2) (Av := Av) (cv := cv) (Ab := Ab) (cb := cb) HQ.out.2.1 HQ.out.1
          have n0_ := Aside0.mk (E8_below HE.out (below_drew (Below.refl w9.heap.size w9)))
          clear HE
          have HE := n0_
          clear n0_
          obtain ⟨b0, b1, b2, b3, b4, b5, b6, y0, y1, y2, y3, y4, y5, y6, f0, f1, t0, t1⟩ := E8_cells HE.out
          have HCR := Aside0.mk CResp
          have HCB := Aside0.mk CBack
          clear CResp CBack
          go_region_with (first | (go_at_call 26; refine (HCR.out _ HE.out).mono ?_; rintro e w' ⟨rfl, hb⟩; have n0_ := Aside0.mk (E8_below HE.out hb); clear HE; have HE := n0_; clear n0_; clear hb; clear b0 b1 b2 b3 b4 b5 b6 y0 y1 y2 y3 y4 y5 y6 f0 f1 t0 t1; obtain ⟨b0, b1, b2, b3, b4, b5, b6, y0, y1, y2, y3, y4, y5, y6, f0, f1, t0, t1⟩ := E8_cells HE.out) | (go_at_call 22; refine (HCB.out _ HE.out).mono ?_; rintro e w' ⟨Abb, cbb, rfl, hrb, hb⟩; have n0_ := Aside0.mk (E8_below HE.out hb); clear HE; have HE := n0_; clear n0_; (try (have n2_ := Aside0.mk (⟨HP2.out.1, Kd.R_below HP2.out.2 hb⟩ : _ ∧ _); clear HP2; have HP2 := n2_; clear n2_)); have HBB := Aside0.mk hrb; clear hb hrb; clear b0 b1 b2 b3 b4 b5 b6 y0 y1 y2 y3 y4 y5 y6 f0 f1 t0 t1; obtain ⟨b0, b1, b2, b3, b4, b5, b6, y0, y1, y2, y3, y4, y5, y6, f0, f1, t0, t1⟩ := E8_cells HE.out) | (go_at_call 17; (with_reducible refine (E8_plain (w := w) HQ.out.1 Abb cbb _ (E8_size HE.out) HBB.out).mono ?_); rintro e w' ⟨Ap1, cp1, rfl, hrb, hb⟩; have n0_ := Aside0.mk (E8_below HE.out hb); clear HE; have HE := n0_; clear n0_; (try (have n2_ := Aside0.mk (⟨HP2.out.1, Kd.R_below HP2.out.2 hb⟩ : _ ∧ _); clear HP2; have HP2 := n2_; clear n2_)); have HP1 := Aside0.mk hrb; clear hb hrb HBB; clear b0 b1 b2 b3 b4 b5 b6 y0 y1 y2 y3 y4 y5 y6 f0 f1 t0 t1; obtain ⟨b0, b1, b2, b3, b4, b5, b6, y0, y1, y2, y3, y4, y5, y6, f0, f1, t0, t1⟩ := E8_cells HE.out) | (go_at_call 17; (with_reducible refine (E8_plain (w := w) HQ.out.1 Av cv _ (E8_size HE.out) (E8_fr HQ.out.2.2 HE.out)).mono ?_); rintro e w' ⟨Ap2, cp2, rfl, hrb, hb⟩; have n0_ := Aside0.mk (E8_below HE.out hb); clear HE; have HE := n0_; clear n0_; (try (have n1_ := Aside0.mk (⟨HP1.out.1, Kd.R_below HP1.out.2 hb⟩ : _ ∧ _); clear HP1; have HP1 := n1_; clear n1_)); (try (have n3_ := Aside0.mk (⟨HBB.out.1, Kd.R_below HBB.out.2 hb⟩ : _ ∧ _); clear HBB; have HBB := n3_; clear n3_)); have HP2 := Aside0.mk hrb; clear hb hrb; clear b0 b1 b2 b3 b4 b5 b6 y0 y1 y2 y3 y4 y5 y6 f0 f1 t0 t1; obtain ⟨b0, b1, b2, b3, b4, b5, b6, y0, y1, y2, y3, y4, y5, y6, f0, f1, t0, t1⟩ := E8_cells HE.out) | (go_at_call 23; refine (E8_same (w := w) HQ.out.1 Ap1 cp1 Ap2 cp2 _ HP1.out HP2.out).mono ?_; rintro e w' ⟨rfl, hb⟩; have n0_ := Aside0.mk (E8_below HE.out hb); clear HE; have HE := n0_; clear n0_; clear hb; clear b0 b1 b2 b3 b4 b5 b6 y0 y1 y2 y3 y4 y5 y6 f0 f1 t0 t1; obtain ⟨b0, b1, b2, b3, b4, b5, b6, y0, y1, y2, y3, y4, y5, y6, f0, f1, t0, t1⟩ := E8_cells HE.out))
          all_goals
            go_wp2_with (fail)
            go_ret
            exact ⟨rfl, HE.out.2.2.2.2.2.2⟩
  · have hgt : decide ((l2.length : Int) > 30) = true := decide_eq_true (by omega)
    go_enter Tryd.func4, Tryd.ntmps4
    go_wp2_with (fail)
    have hB := ((Below.refl w.heap.size w).alloc (Nat.le_refl _) (.cells #[.string a0_0, .int .i64 a0_1] 23)).alloc (by simp) (.cells #[.string a1_0, .int .i64 a1_1] 23)
    generalize (w.alloc (.cells #[.string a0_0, .int .i64 a0_1] 23)).alloc (.cells #[.string a1_0, .int .i64 a1_1] 23) = w1 at hB ⊢
    refine (squelchlaw05_awake.calls true w1 rfl).mono ?_
    rintro e w2 ⟨rfl, hb⟩
    have HB2 := Aside0.mk (below_then hB hB.size hb)
    clear hB hb
    go_wp2_with (fail)
    go_ret
    exact ⟨rfl, HB2.out⟩
end Go.Proofs.YtpmieapgbdbabaaDoor.QAll
end

section
/- The plain law of PathEight: what its walk asks of the sizes holds of every input. -/
set_option linter.unusedVariables false
set_option linter.unusedSimpArgs false
namespace Go.Proofs.YtpmieapgbdbabaaDoor.Pure
open Go.RowKit Go.Proofs.YtpmieapgbdbabaaDoor.QAll
theorem PathEight : ∀ (a0_0 : ByteArray) (a0_1 : Int) (a1_0 : ByteArray) (a1_1 : Int) (l2 : List S23), a0_0.size ≤ 140737488351232 → (Lit.int .i64 a0_1).wf = true → a1_0.size ≤ 140737488351232 → (Lit.int .i64 a1_1).wf = true →
    (∀ d ∈ l2, d.f0.size ≤ maxLen ∧ (Lit.int .i64 d.f1).wf = true) → squelchlaw05_PathEight.f a0_0 a0_1 a1_0 a1_1 l2 = some true := by
  intro a n b m l h1 _ h2 _ h3
  unfold squelchlaw05_PathEight.f
  rw [if_pos]
  by_cases hl : l.length ≤ 30
  · have : sizesOk b a (l.map mkF) = true := by
      unfold sizesOk
      rw [decide_eq_true (by omega), decide_eq_true (by omega), decide_eq_true (by rw [List.length_map]; omega), Bool.true_and, Bool.true_and, Bool.and_true, List.all_map, List.all_eq_true]
      intro d hd
      have := (h3 d hd).1
      unfold maxLen at this
      exact decide_eq_true this
    rw [this, Bool.or_true]
  · rw [decide_eq_false hl]
    rfl
end Go.Proofs.YtpmieapgbdbabaaDoor.Pure
end

section
/- The statement that the law squelchlaw05.PathEight is true of every input, its arguments left as they were: the row, out of its walk and its plain law. Written by a program of this session (wip/pp/row.py). -/
namespace Go.Proofs.YtpmieapgbdbabaaDoor.pathEightRow
open Go.ChangeShapes Go.WideShapes Go.ChangeAt Go.RowKit
open Go.ChangeMaps (open_string shut_string)
set_option linter.unusedVariables false
set_option linter.unusedSimpArgs false
theorem own : ownKnob Tryd.prog.godebug = none := by kernel_rfl
theorem laidOut : laidOutB Tryd.prog = true := by kernel_rfl
theorem cells3 : Tryd.prog.cellsOf 3 = 1 := by kernel_rfl
theorem cells9 : Tryd.prog.cellsOf 9 = 1 := by kernel_rfl
theorem cells23 : Tryd.prog.cellsOf 23 = 2 := by kernel_rfl
set_option maxRecDepth 100000 in
theorem open23 {H : Type} {enc : TypeId × Value → H} {w : World} {fuel : Nat} {cs : List Value} {x : DataW H × List MemPlace} (h : DataW.trod enc Tryd.prog w 0 (fun _ => true) true fuel 23 cs = some x) :
    ∃ (a_0 : ByteArray) (a_1 : Int), cs = [.string a_0, .int .i64 a_1] ∧ x.1 = (.agg [(.lit (.string a_0.data.toList)), (.lit (.int .i64 a_1))]) ∧ a_0.size ≤ maxLen ∧ (Lit.int .i64 a_1).wf = true := by
  obtain ⟨xs, n, -, rfl, hc, hl, hg⟩ := DataW.trod_struct Tryd.underlying23 h
  rw [cells23] at hc
  obtain ⟨c0, c1, rfl⟩ : ∃ c0 c1, cs = [c0, c1] := by
    match cs, hc with
    | [c0, c1], _ => exact ⟨_, _, rfl⟩
  obtain ⟨y0, y1, rfl⟩ : ∃ y0 y1, xs = [y0, y1] := by
    match xs, hl with
    | [y0, y1], _ => exact ⟨_, _, rfl⟩
  clear h hc hl
  have g0 : DataW.trod enc Tryd.prog w 0 (fun _ => true) true n 9 [c0] = some y0 := by
    have z := hg 0 _ rfl
    simp only [cells9, List.drop_zero, List.drop_succ_cons, List.take_succ_cons, List.take_zero, List.getElem?_cons_zero, List.getElem?_cons_succ] at z
    exact z
  have g1 : DataW.trod enc Tryd.prog w 0 (fun _ => true) true n 3 [c1] = some y1 := by
    have z := hg 1 _ rfl
    simp only [cells3, List.drop_zero, List.drop_succ_cons, List.take_succ_cons, List.take_zero, List.getElem?_cons_zero, List.getElem?_cons_succ] at z
    exact z
  clear hg
  obtain ⟨a_0, e0, rfl, wa_0⟩ := DataW.trod_string Tryd.underlying9 g0
  simp only [List.cons.injEq, and_true] at e0
  subst e0
  obtain ⟨a_1, e1, rfl, wa_1⟩ := DataW.trod_int Tryd.underlying3 g1
  simp only [List.cons.injEq, and_true] at e1
  subst e1
  exact ⟨a_0, a_1, rfl, by simp only [List.map_cons, List.map_nil], wa_0, wa_1⟩
theorem met (os : Os) (args : Array Value) : laidMetH Tryd.prog Rows.pathEightRow.laid ((World.laidAll Tryd.prog os Rows.pathEightRow.laid).forCall (fun _ _ => 0) ⟨#[], args, []⟩).memory :=
  (show laidMet Tryd.prog Rows.pathEightRow.laid _ from laidMet_laidAll _ (by kernel_rfl) (by kernel_rfl))
set_option maxRecDepth 100000 in
theorem lifted (os : Os) (started : os.Started) (H : Type) (enc : TypeId × Value → H) :
    ReturnsInHanded {} Tryd.checked os 4 .any (fun w args => (Rows.pathEightSpec.pre enc Tryd.prog Tryd.f4 Rows.pathEightRow.domain false w args ∧ laidMetH Tryd.prog Rows.pathEightRow.laid w) ∧ sizedMet enc Tryd.prog Tryd.f4 (OpenSpec.ofChange Rows.pathEightSpec) false w args) (Rows.pathEightSpec.post enc Tryd.prog Tryd.f4 false true false false) := by
  refine QAll.returns_laid_shaped (C := Tryd.checked) own started (by kernel_rfl) Tryd.func4
    (ChangeSpec.witness_at (enc := enc) (C := Tryd.checked) (os := os) (X := fun w _ => laidMetH Tryd.prog Rows.pathEightRow.laid w) false (World.laidAll Tryd.prog os Rows.pathEightRow.laid) #[.agg #[.string ByteArray.empty, .int .i64 0], .agg #[.string ByteArray.empty, .int .i64 0], .slice none 0 0] 8 (World.laidAll_os _ _ _) (by kernel_rfl) (by kernel_rfl) (by kernel_rfl) (by kernel_rfl) (by kernel_rfl) (met os _)) ?_
  intro W base args ds gs before hval0 hW hcnd hsz0 hL hsh
  have hsz : (DataW.weightsEach Tryd.prog (Tryd.f4.params.toList ++ Rows.pathEightSpec.plain.varTypes Tryd.prog) (ds ++ gs)).all (· ≤ reachBytes) = true := hsz0
  have hval : ∀ (j : Nat) t v, Tryd.f4.params[j]? = some t → args[j]? = some v → Value.okWide Tryd.prog W .any base t v := hval0
  have hW' := hW
  obtain ⟨p, q, hA0, hV, rfl, hfz, hnd⟩ := hW
  have hA : DataW.TrodAll enc Tryd.prog W 0 (fun _ => true) true Tryd.f4.params.toList args.toList ds p := hA0
  rw [Tryd.params4] at hA hval hsz
  obtain ⟨v0, vs0, d0, ds0, p0, q0, hargs, rfl, rfl, h0, r0⟩ := trodAll_cons hA
  obtain ⟨v1, vs1, d1, ds1, p1, q1, rfl, rfl, rfl, h1, r1⟩ := trodAll_cons r0
  obtain ⟨v2, vs2, d2, ds2, p2, q2, rfl, rfl, rfl, h2, r2⟩ := trodAll_cons r1
  obtain ⟨rfl, rfl, rfl⟩ := trodAll_nil r2
  obtain rfl : args = #[v0, v1, v2] := by cases args; simp_all
  obtain ⟨rfl, rfl⟩ := trodVars_none hV
  have k0 := h0
  have lt0 : ∀ x ∈ p0, x.block < W.heap.size := by obtain ⟨m, hm⟩ := k0; exact DataW.trod_lt m _ _ _ hm
  obtain ⟨cs0, rfl, -⟩ := okWide_struct Tryd.underlying23 (hval 0 23 v0 rfl rfl)
  obtain ⟨fu0, hf0⟩ := h0
  obtain ⟨a0_0, a0_1, e0, hd0, wa0_0, wa0_1⟩ := open23 hf0
  replace e0 : cs0 = #[.string a0_0, .int .i64 a0_1] := by apply Array.ext'; simpa [Value.cells] using e0
  subst e0
  replace hd0 : d0 = (.agg [(.lit (.string a0_0.data.toList)), (.lit (.int .i64 a0_1))]) := hd0
  subst hd0
  have k1 := h1
  have lt1 : ∀ x ∈ p1, x.block < W.heap.size := by obtain ⟨m, hm⟩ := k1; exact DataW.trod_lt m _ _ _ hm
  obtain ⟨cs1, rfl, -⟩ := okWide_struct Tryd.underlying23 (hval 1 23 v1 rfl rfl)
  obtain ⟨fu1, hf1⟩ := h1
  obtain ⟨a1_0, a1_1, e1, hd1, wa1_0, wa1_1⟩ := open23 hf1
  replace e1 : cs1 = #[.string a1_0, .int .i64 a1_1] := by apply Array.ext'; simpa [Value.cells] using e1
  subst e1
  replace hd1 : d1 = (.agg [(.lit (.string a1_0.data.toList)), (.lit (.int .i64 a1_1))]) := hd1
  subst hd1
  have k2 := h2
  have lt2 : ∀ x ∈ p2, x.block < W.heap.size := by obtain ⟨m, hm⟩ := k2; exact DataW.trod_lt m _ _ _ hm
  obtain ⟨av2, al2, ac2, rfl⟩ := okWide_slice Tryd.underlying45 (hval 2 45 v2 rfl rfl)
  obtain ⟨fu2, hf2⟩ := h2
  obtain ⟨Aa2, ca2, a2, e2, wa2⟩ := QAll.rows_of_trod QAll.k23 Tryd.underlying45 cells23 (fun d => d.f0.size ≤ maxLen ∧ (Lit.int .i64 d.f1).wf = true) (fun n cs' z hz => by
    obtain ⟨b_0, b_1, rfl, -, wb_0, wb_1⟩ := open23 hz
    exact ⟨(⟨b_0, b_1⟩ : QAll.S23), QAll.k23_mk W _, rfl, wb_0, wb_1⟩) hf2
  replace e2 : Value.slice Aa2 a2.length ca2 = .slice av2 al2 ac2 := by simpa [Value.cells] using (show Value.slice av2 al2 ac2 = .slice Aa2 a2.length ca2 by simpa [Value.cells] using e2).symm
  simp only [Value.slice.injEq] at e2
  obtain ⟨rfl, rfl, rfl⟩ := e2
  have hz : a0_0.size ≤ 140737488351232 ∧ a1_0.size ≤ 140737488351232 := by
    have z := hsz
    skip
    simp [DataW.weightsEach, DataW.weights, reachBytes, Tryd.underlying3, Tryd.underlying9, Tryd.underlying23, Tryd.underlying45] at z
    first | omega | exact ⟨of_decide_eq_true z.1, of_decide_eq_true z.2⟩ | exact ⟨of_decide_eq_true z.1, of_decide_eq_true z.2.1⟩ | exact ⟨of_decide_eq_true z.1, of_decide_eq_true z.2.1⟩ | exact ⟨of_decide_eq_true z.1, of_decide_eq_true z.2.1⟩
  obtain ⟨za0_0, za1_0⟩ := hz
  clear hA0 hval0 hsz0 hsz
  have hp := Pure.PathEight a0_0 a0_1 a1_0 a1_1 a2 za0_0 wa0_1 za1_0 wa1_1 wa2.2.2
  refine (QAll.squelchlaw05_PathEight.calls a0_0 a0_1 a1_0 a1_1 Aa2 ca2 a2 true W rfl wa2.1 wa2.2.1 hp).mono fun e W' ⟨he, bel⟩ => ?_
  subst he
  exact ⟨_, rfl, _, _, _, [], _, [], hW', trodAll_mk1 (shut_bool Tryd.underlying4 _), (trodAll_cons_mk (Below.trod laidOut (by kernel_rfl) (of_decide_eq_true (by kernel_rfl)) k0 bel lt0) (trodAll_cons_mk (Below.trod laidOut (by kernel_rfl) (of_decide_eq_true (by kernel_rfl)) k1 bel lt1) (trodAll_cons_mk (Below.trod laidOut (by kernel_rfl) (of_decide_eq_true (by kernel_rfl)) k2 bel lt2) trodAll_mk0))), rfl, bel.frame _, fun h => by cases h⟩
theorem over : Rows.pathEightRow.holds Tryd.pinned (OpenSpec.ofChange Rows.pathEightSpec) :=
  OpenClaim.holds_of_wide 4 Tryd.f4 rfl rfl rfl rfl rfl rfl rfl ⟨rfl, rfl, rfl, rfl, rfl⟩ rfl rfl rfl rfl rfl (by kernel_rfl) Tryd.func4 (by kernel_rfl)
    (of_decide_eq_true (by kernel_rfl)) (by unfold Func.isWrapper; first | (rw [if_pos (by decide +kernel)]; kernel_rfl) | (rw [if_neg (by decide +kernel)]; exact ⟨rfl, rfl⟩))
    (fun os started H enc _ => lifted os started H enc)
theorem card : Rows.PathEightCardSaid :=
  Claim7.holds_tied_plain_at .later [] [.data, .data, .data] true (true, "b63f2f92baa42f5091e235388c6ae0d54991875acb84ccae606eb7f7e9e6d94e") true
    over (fun _ h => by cases h) (by kernel_rfl) (fun _ h => by cases h) pathEight_row_tie rfl ⟨rfl, rfl⟩ (by kernel_rfl) rfl
    (fun f fn hf hfn => by
      obtain rfl : f = 4 := Option.some.inj ((show Tryd.prog.funcNamed "squelch/squelchlaw05.PathEight" = some 4 by kernel_rfl).symm.trans hf) |>.symm
      obtain rfl : fn = Tryd.f4 := (Option.some.inj (Tryd.func4.symm.trans hfn)).symm
      exact ⟨by kernel_rfl, fun j t ht => by
        rw [Tryd.params4] at ht
        have hm := Array.mem_of_getElem? ht
        simp at hm
        rcases hm with rfl | rfl
        · exact (show Tryd.prog.wantsStandIn 23 = false by kernel_rfl)
        · exact (show Tryd.prog.wantsStandIn 45 = false by kernel_rfl)
      ⟩)
    (by kernel_rfl)
end Go.Proofs.YtpmieapgbdbabaaDoor.pathEightRow
namespace Go.Proofs.YtpmieapgbdbabaaDoor
theorem pathEight_holds : Rows.PathEightCardSaid := pathEightRow.card
#print axioms pathEight_holds
end Go.Proofs.YtpmieapgbdbabaaDoor
end
